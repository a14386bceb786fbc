import Derived.Test.YtkdjilgddbjcaaaGreatR20
import Derived.Test.YtkdjilgddbjcaaaGreatR44
import Derived.Test.YtkdjilgddbjcaaaGreatR17
namespace Go.Proofs.YtkdjilgddbjcaaaGreat
open Go.RowKit
namespace Vc
attribute [local irreducible] owes
def LT9:List Lay:=LT8 ++ [
 ⟨22,1,false,0,0,[.v (.int .i16 0)],[]⟩,
 ⟨5,1,false,7,0,[.v (.int .u8 0)],[]⟩,
 ⟨24,3,true,0,0,[.v (.int .i16 0),.v (.int .i16 0),.v (.int .u8 0)],[(0,1),(1,1),(2,1)]⟩,
 ⟨26,2,true,0,0,[.v (.int .u8 0),.v (.int .u8 0)],[(0,1),(1,1)]⟩]
theorem LT9_ok:∀ l ∈ LT9,LayOK Tryz.prog l:=by
 have h:LT9.all (layB Tryz.prog)=true:=by kernel_rfl
 intro l hl
 exact layB_ok (List.all_eq_true.1 h l hl)
def cAwake:Ctr:=⟨4,fun | []=>.yes True (.k (.c (.v (.bool true)))) | _=>.no⟩
theorem cAwake_ok:CtrOK Tryz.prog cAwake:=.of (by kernel_rfl) (fun bs w xs vs pre r hr hA hG h hp=>by
 simp only [cAwake] at h
 split at h
 ·cases h
  match vs,hr with
  | [],_ =>
  refine (Zc.awake_any w).mono ?_
  rintro e w' ⟨rfl,hf⟩
  exact ⟨_,rfl,⟨hf.env.1,hf.env.2.1,hf.env.2.2,hf.le,fun b hb=>hf.same b hb fun k _ h=>by omega⟩,rfl,rfl⟩
 ·cases h) (fun xs α pre φ r=>by simp only [cAwake]; split <;> (intro h; cases h))
def UT0:List Ctr:=XT0 ++ [cKcmp,cAwake]
theorem UT0_ok:∀ c ∈ UT0,CtrOK Tryz.prog c:=ok_app XT0_ok (by
 intro c hc
 simp only [List.mem_cons,List.not_mem_nil,or_false] at hc
 rcases hc with rfl | rfl
 ·exact cKcmp_ok
 ·exact cAwake_ok)
def cKfrac:Ctr:=⟨22,fun | [.c (.v (.int .i64 (n))),.c (.v (.int .i64 (d)))]=>.yes ((-9223372036854775808 <= n/\n <= 9223372036854775807)/\(1 <= d/\d <= 9223372036854775807)) (.k (.g [.R ((Rat.divInt n d))])) | _=>.no⟩
theorem cKfrac_owes (n:Int) (d:Int) (hp:(-9223372036854775808 <= n/\n <= 9223372036854775807)/\(1 <= d/\d <= 9223372036854775807)):owes LT9 UT0 [] Tryz.f22 (Tryz.f22.body.getD .skip) [.c (.v (.int .i64 (n))),.c (.v (.int .i64 (d)))] (.k (.g [.R ((Rat.divInt n d))])):=by
 refine Eq.mp (show (((d == (0:Int))=true->((-9223372036854775808 <= (0:Int)/\(0:Int) <= 9223372036854775807)/\((-9223372036854775808 <= (1:Int)/\(1:Int) <= 9223372036854775807)/\(((1:Int) ≠ 0/\szI (0:Int) <= 5000000/\szI (1:Int) <= 5000000)/\(((Rat.divInt (0:Int) (1:Int))=(Rat.divInt n d))/\True)))))/\((d == (0:Int))=false->((-9223372036854775808 <= n/\n <= 9223372036854775807)/\((-9223372036854775808 <= d/\d <= 9223372036854775807)/\((d ≠ 0/\szI n <= 5000000/\szI d <= 5000000)/\(((Rat.divInt n d)=(Rat.divInt n d))/\True))))))=_ by kernel_rfl) ?_
 obtain ⟨⟨h1,h2⟩,h3,h4⟩:=hp
 have hd:(d == (0:Int))=false:=by simp; omega
 have s1:=szI_i64 h1 h2
 have s2:=szI_i64 (n:=d) (by omega) h4
 exact ⟨fun h=>(by rw [hd] at h; cases h),fun _=>⟨⟨h1,h2⟩,⟨by omega,h4⟩,⟨by omega,by omega,by omega⟩,rfl,trivial⟩⟩
theorem cKfrac_ok:CtrOK Tryz.prog cKfrac:=.of (by kernel_rfl) (fun bs w xs vs pre r hr hA hG h hp=>by
 simp only [cKfrac] at h
 split at h
 ·cases h
  exact ctr_calls mixed LT9_ok UT0_ok Tryz.func22 (by kernel_rfl) hr hA hG rfl rfl (cKfrac_owes _ _ hp)
 ·cases h) (fun xs α pre φ r=>by simp only [cKfrac]; split <;> (intro h; cases h))
def cKnum:Ctr:=⟨14,fun | [.c (.v (.int .i64 (n)))]=>.yes ((-9223372036854775808 <= n/\n <= 9223372036854775807)) (.k (.g [.R ((n:Rat))])) | _=>.no⟩
theorem cKnum_owes (n:Int) (hp:(-9223372036854775808 <= n/\n <= 9223372036854775807)):owes LT9 UT0 [] Tryz.f14 (Tryz.f14.body.getD .skip) [.c (.v (.int .i64 (n)))] (.k (.g [.R ((n:Rat))])):=by
 refine Eq.mp (show ((-9223372036854775808 <= n/\n <= 9223372036854775807)/\(((n:Rat)=(n:Rat))/\True))=_ by kernel_rfl) ?_
 exact ⟨hp,rfl,trivial⟩
theorem cKnum_ok:CtrOK Tryz.prog cKnum:=.of (by kernel_rfl) (fun bs w xs vs pre r hr hA hG h hp=>by
 simp only [cKnum] at h
 split at h
 ·cases h
  exact ctr_calls mixed LT9_ok UT0_ok Tryz.func14 (by kernel_rfl) hr hA hG rfl rfl (cKnum_owes _ hp)
 ·cases h) (fun xs α pre φ r=>by simp only [cKnum]; split <;> (intro h; cases h))
def cK12add:Ctr:=⟨37,fun | [.g [.R (p)],.g [.R (q)]]=>.yes (szR p <= 1000000/\szR q <= 1000000) (.k (.g [.R ((p+q))])) | _=>.no⟩
theorem cK12add_owes (p:Rat) (q:Rat) (hp:szR p <= 1000000/\szR q <= 1000000):owes LT9 UT0 [] Tryz.f37 (Tryz.f37.body.getD .skip) [.g [.R (p)],.g [.R (q)]] (.k (.g [.R ((p+q))])):=by
 refine Eq.mp (show ((szR p <= 1000000/\szR q <= 1000000)/\(((p+q)=(p+q))/\True))=_ by kernel_rfl) ?_
 exact ⟨hp,rfl,trivial⟩
theorem cK12add_ok:CtrOK Tryz.prog cK12add:=.of (by kernel_rfl) (fun bs w xs vs pre r hr hA hG h hp=>by
 simp only [cK12add] at h
 split at h
 ·cases h
  exact ctr_calls mixed LT9_ok UT0_ok Tryz.func37 (by kernel_rfl) hr hA hG rfl rfl (cK12add_owes _ _ hp)
 ·cases h) (fun xs α pre φ r=>by simp only [cK12add]; split <;> (intro h; cases h))
def cKvalid:Ctr:=⟨11,fun | [.g [.R (p)]]=>.yes (szR p <= 1000000) (.k (.c (.v (.bool (true))))) | _=>.no⟩
theorem cKvalid_owes (p:Rat) (hp:szR p <= 1000000):owes LT9 UT0 [] Tryz.f11 (Tryz.f11.body.getD .skip) [.g [.R (p)]] (.k (.c (.v (.bool (true))))):=by
 refine Eq.mp (show ((szI p.num <= 10000000)/\((((!true) == false)=true->(szI (p.den:Int) <= 10000000))/\((((bif (!true) then true else (!true)) == false)=true->True)/\(((bif (bif (!true) then true else (!true)) then true else (((p.den:Int).sign) != (1:Int)))=true->(Value.bool false=(.bool true)))/\((bif (bif (!true) then true else (!true)) then true else (((p.den:Int).sign) != (1:Int)))=false->((szI p.num <= 5000000/\szI (p.den:Int) <= 5000000)/\(True/\((szI (Int.gcd p.num (p.den:Int):Int) <= 10000000/\szI (1:Int) <= 10000000)/\(Value.bool (decide ((Int.gcd p.num (p.den:Int):Int)=(1:Int)))=(.bool true))))))))))=_ by kernel_rfl) ?_
 have a1:=szR_num p
 have a2:=szR_den p
 have hd:((p.den:Int)).sign=1:=Int.sign_eq_one_of_pos (by have:=p.den_pos; omega)
 have hg:((Int.gcd p.num (p.den:Int):Nat):Int)=1:=congrArg (fun n:Nat=>(n:Int)) p.reduced
 have s1:=szI_one
 rw [hd,hg]
 exact ⟨by omega,fun _=>by omega,fun _=>trivial,fun h=>absurd h (by decide),fun _=>⟨⟨by omega,by omega⟩,trivial,⟨by omega,by omega⟩,rfl⟩⟩
theorem cKvalid_ok:CtrOK Tryz.prog cKvalid:=.of (by kernel_rfl) (fun bs w xs vs pre r hr hA hG h hp=>by
 simp only [cKvalid] at h
 split at h
 ·cases h
  exact ctr_calls mixed LT9_ok UT0_ok Tryz.func11 (by kernel_rfl) hr hA hG rfl rfl (cKvalid_owes _ hp)
 ·cases h) (fun xs α pre φ r=>by simp only [cKvalid]; split <;> (intro h; cases h))
def UT1:List Ctr:=UT0 ++ [cKfrac,cKnum,cK12add,cKvalid]
theorem UT1_ok:∀ c ∈ UT1,CtrOK Tryz.prog c:=ok_app UT0_ok (by
 intro c hc
 simp only [List.mem_cons,List.not_mem_nil,or_false] at hc
 rcases hc with rfl | rfl | rfl | rfl
 ·exact cKfrac_ok
 ·exact cKnum_ok
 ·exact cK12add_ok
 ·exact cKvalid_ok)
def cKat2:Ctr:=⟨5,fun | [.g [.v (.int .i16 (x)),.v (.int .i16 (y)),.v (.int .u8 (d))]]=>.yes (((-32768 <= x/\x <= 32767)/\-32768 <= y/\y <= 32767)/\0 <= d/\d <= 255) (.k (.g [.R ((Rat.divInt x (d+1))),.R ((Rat.divInt y (d+1)))])) | _=>.no⟩
theorem cKat2_owes (x:Int) (y:Int) (d:Int) (hp:((-32768 <= x/\x <= 32767)/\-32768 <= y/\y <= 32767)/\0 <= d/\d <= 255):owes LT9 UT1 [] Tryz.f5 (Tryz.f5.body.getD .skip) [.g [.v (.int .i16 (x)),.v (.int .i16 (y)),.v (.int .u8 (d))]] (.k (.g [.R ((Rat.divInt x (d+1))),.R ((Rat.divInt y (d+1)))])):=by
 refine Eq.mp (show ((inR .i64 d)/\((inR .i64 (d+(1:Int)))/\((inR .i64 x)/\(((-9223372036854775808 <= x/\x <= 9223372036854775807)/\(1 <= (d+(1:Int))/\(d+(1:Int)) <= 9223372036854775807))/\((inR .i64 y)/\(((-9223372036854775808 <= y/\y <= 9223372036854775807)/\(1 <= (d+(1:Int))/\(d+(1:Int)) <= 9223372036854775807))/\(((Rat.divInt x (d+(1:Int)))=(Rat.divInt x (d+1)))/\(((Rat.divInt y (d+(1:Int)))=(Rat.divInt y (d+1)))/\True))))))))=_ by kernel_rfl) ?_
 obtain ⟨⟨⟨x0,x1⟩,y0,y1⟩,d0,d1⟩:=hp
 exact ⟨by simp only [inR]; omega,by simp only [inR]; omega,by simp only [inR]; omega,⟨⟨by omega,by omega⟩,by omega,by omega⟩,by simp only [inR]; omega,⟨⟨by omega,by omega⟩,by omega,by omega⟩,rfl,rfl,trivial⟩
theorem cKat2_ok:CtrOK Tryz.prog cKat2:=.of (by kernel_rfl) (fun bs w xs vs pre r hr hA hG h hp=>by
 simp only [cKat2] at h
 split at h
 ·cases h
  exact ctr_calls mixed LT9_ok UT1_ok Tryz.func5 (by kernel_rfl) hr hA hG rfl rfl (cKat2_owes _ _ _ hp)
 ·cases h) (fun xs α pre φ r=>by simp only [cKat2]; split <;> (intro h; cases h))
def cKsizes:Ctr:=⟨6,fun | [.g [.v (.int .u8 (r)),.v (.int .u8 (s))]]=>.yes ((0 <= r/\r <= 255)/\0 <= s/\s <= 255) (.t [.g [.R ((Rat.divInt (r % 64) 4))],.g [.R ((Rat.divInt (s % 12+1) 12))]]) | _=>.no⟩
theorem cKsizes_owes (r:Int) (s:Int) (hp:(0 <= r/\r <= 255)/\0 <= s/\s <= 255):owes LT9 UT1 [] Tryz.f6 (Tryz.f6.body.getD .skip) [.g [.v (.int .u8 (r)),.v (.int .u8 (s))]] (.t [.g [.R ((Rat.divInt (r % 64) 4))],.g [.R ((Rat.divInt (s % 12+1) 12))]]):=by
 refine Eq.mp (show ((0 <= r/\0 < (64:Int))/\((inR .i64 (r % (64:Int)))/\(((-9223372036854775808 <= (r % (64:Int))/\(r % (64:Int)) <= 9223372036854775807)/\(1 <= (4:Int)/\(4:Int) <= 9223372036854775807))/\((0 <= s/\0 < (12:Int))/\((inR .i64 (s % (12:Int)))/\((inR .i64 ((s % (12:Int))+(1:Int)))/\(((-9223372036854775808 <= ((s % (12:Int))+(1:Int))/\((s % (12:Int))+(1:Int)) <= 9223372036854775807)/\(1 <= (12:Int)/\(12:Int) <= 9223372036854775807))/\((((Rat.divInt (r % (64:Int)) (4:Int))=(Rat.divInt (r % 64) 4))/\True)/\((((Rat.divInt ((s % (12:Int))+(1:Int)) (12:Int))=(Rat.divInt (s % 12+1) 12))/\True)/\True)))))))))=_ by kernel_rfl) ?_
 obtain ⟨⟨r0,r1⟩,s0,s1⟩:=hp
 exact ⟨⟨r0,by decide⟩,by simp only [inR]; omega,⟨⟨by omega,by omega⟩,by decide,by decide⟩,⟨s0,by decide⟩,by simp only [inR]; omega,by simp only [inR]; omega,⟨⟨by omega,by omega⟩,by decide,by decide⟩,⟨rfl,trivial⟩,⟨rfl,trivial⟩,trivial⟩
theorem cKsizes_ok:CtrOK Tryz.prog cKsizes:=.of (by kernel_rfl) (fun bs w xs vs pre r hr hA hG h hp=>by
 simp only [cKsizes] at h
 split at h
 ·cases h
  exact ctr_calls mixed LT9_ok UT1_ok Tryz.func6 (by kernel_rfl) hr hA hG rfl rfl (cKsizes_owes _ _ hp)
 ·cases h) (fun xs α pre φ r=>by simp only [cKsizes]; split <;> (intro h; cases h))
def cK12dot:Ctr:=⟨9,fun | [.g [.R (a1),.R (a2)],.g [.R (b1),.R (b2)]]=>.yes (szR a1 <= 100000/\szR a2 <= 100000/\szR b1 <= 100000/\szR b2 <= 100000) (.k (.g [.R ((a1*b1+a2*b2))])) | _=>.no⟩
theorem cK12dot_owes (a1:Rat) (a2:Rat) (b1:Rat) (b2:Rat) (hp:szR a1 <= 100000/\szR a2 <= 100000/\szR b1 <= 100000/\szR b2 <= 100000):owes LT9 UT1 [] Tryz.f9 (Tryz.f9.body.getD .skip) [.g [.R (a1),.R (a2)],.g [.R (b1),.R (b2)]] (.k (.g [.R ((a1*b1+a2*b2))])):=by
 refine Eq.mp (show ((szR a1 <= 1000000/\szR b1 <= 1000000)/\((szR a2 <= 1000000/\szR b2 <= 1000000)/\((szR (a1*b1) <= 1000000/\szR (a2*b2) <= 1000000)/\((((a1*b1)+(a2*b2))=(a1*b1+a2*b2))/\True))))=_ by kernel_rfl) ?_
 have m1:=szR_mul2 a1 b1
 have m2:=szR_mul2 a2 b2
 exact ⟨⟨by omega,by omega⟩,⟨by omega,by omega⟩,⟨by omega,by omega⟩,rfl,trivial⟩
theorem cK12dot_ok:CtrOK Tryz.prog cK12dot:=.of (by kernel_rfl) (fun bs w xs vs pre r hr hA hG h hp=>by
 simp only [cK12dot] at h
 split at h
 ·cases h
  exact ctr_calls mixed LT9_ok UT1_ok Tryz.func9 (by kernel_rfl) hr hA hG rfl rfl (cK12dot_owes _ _ _ _ hp)
 ·cases h) (fun xs α pre φ r=>by simp only [cK12dot]; split <;> (intro h; cases h))
def UT2:List Ctr:=UT1 ++ [cKat2,cKsizes,cK12dot]
theorem UT2_ok:∀ c ∈ UT2,CtrOK Tryz.prog c:=ok_app UT1_ok (by
 intro c hc
 simp only [List.mem_cons,List.not_mem_nil,or_false] at hc
 rcases hc with rfl | rfl | rfl
 ·exact cKat2_ok
 ·exact cKsizes_ok
 ·exact cK12dot_ok)
end Vc
end Go.Proofs.YtkdjilgddbjcaaaGreat
namespace Go.Proofs.YtkdjilgddbjcaaaGreat
open Go.RowKit
namespace Vc
attribute [local irreducible] owes awpC awp
theorem fr_mul (n:Int) {d:Int} (hd:d ≠ 0):Rat.divInt n d*(d:Rat)=(n:Rat):=by
 rw [Rat.divInt_eq_div]
 exact Rat.div_mul_cancel (by exact_mod_cast hd)
theorem eps_spec (s:Int):0 < Rat.divInt (s % 12+1) 12/\Rat.divInt 1 8192 <= Rat.divInt (s % 12+1) 12/\szR (Rat.divInt (s % 12+1) 12) <= 10:=by
 have h:=fr_mul (s % 12+1) (d:=12) (by decide)
 have h1:(1:Rat) <= ((s % 12+1:Int):Rat):=by exact_mod_cast (show (1:Int) <= s % 12+1 by omega)
 have h2:=szR_dv (n:=s % 12+1) (d:=12) (by decide)
 have h3:=szI_i64 (n:=s % 12+1) (by omega) (by omega)
 have h4:=szI_i64 (n:=12) (by decide) (by decide)
 have h5:((12:Int):Rat)=12:=rfl
 rw [h5] at h
 rw [d8192]
 refine ⟨by grind,by grind,by omega⟩
theorem co_spec {x d:Int} (hx:-32768 <= x/\x <= 32767) (hd:0 <= d/\d <= 255):szR (Rat.divInt x (d+1)) <= 10/\(Rat.divInt x (d+1)=0->x=0):=by
 have h:=fr_mul x (d:=d+1) (by omega)
 have h2:=szR_dv (n:=x) (d:=d+1) (by omega)
 have h3:=szI_i64 (n:=x) (by omega) (by omega)
 have h4:=szI_i64 (n:=d+1) (by omega) (by omega)
 refine ⟨by omega,fun e=>?_⟩
 rw [e,Rat.zero_mul] at h
 exact_mod_cast h.symm
def VTN:List Ctr:=cUnitN :: (KT7 ++ UT2)
theorem VTN_ok:∀ c ∈ VTN,CtrOK Tryz.prog c:=fun c hc=>by
 rcases List.mem_cons.1 hc with h | h
 ·subst h; exact cUnitN_ok
 ·rcases List.mem_append.1 h with h | h
  ·exact KT7_ok c h
  ·exact UT2_ok c h
set_option maxHeartbeats 4000000 in
theorem lunN (x y d r s:Int) (hp:((-32768 <= x/\x <= 32767)/\-32768 <= y/\y <= 32767)/\(0 <= d/\d <= 255)/\(0 <= r/\r <= 255)/\0 <= s/\s <= 255):awpC LT9 VTN [] (fun _:Unit=>False) (fun _:Unit=>(⟨[.u,.u,.u,.u,.u,.u,.u,.u,.u,.u,.u,.u,.u,.u,.u,.u,.u,.u,.u,.u,.u,.u,.u,.u,.u,.u,.u,.u,.u,.u,.u,.u,.u,.u,.u,.u,.u,.u,.u,.u,.u,.u,.u,.u,.u,.u,.u,.u,.u,.u,.u,.u,.u,.u,.u,.u,.u,.u,.u,.u,.u,.u,.u,.u,.u,.u,.u,.u,.u,.u,.u,.u,.u,.u,.u,.u,.u,.u,.u,.u,.u,.u,.u,.u,.u,.u,.u,.u,.u,.u,.u],[]⟩:St)) (QresE LT9 Tryz.f3 (fun _:Unit=>True) (fun _=>.k (.c (.v (.bool true))))) 5 (Tryz.f3.body.getD .skip) (st0 Tryz.f3 [.g [.v (.int .i16 (x)),.v (.int .i16 (y)),.v (.int .u8 (d))],.g [.v (.int .u8 (r)),.v (.int .u8 (s))],.c (.v (.bool (true)))]):=by
 refine Eq.mp (show (True/\(((!true)=true->(∃ u:Unit,(True/\(Value.bool false=(.bool true)))))/\((!true)=false->((((-32768 <= x/\x <= 32767)/\-32768 <= y/\y <= 32767)/\0 <= d/\d <= 255)/\(((0 <= r/\r <= 255)/\0 <= s/\s <= 255)/\((true=true->((szR (Rat.divInt (s % 12+1) 12) <= 5000000)/\(((-(Rat.divInt (s % 12+1) 12)) <= 0)/\(∃ u:Unit,(True/\(Value.bool ((1:Int) == (1:Int))=(.bool true)))))))/\(true=false->(∃ u1:Unit,(False/\(True/\True))))))))))=_ by kernel_rfl) ?_
 obtain ⟨⟨hx,hy⟩,hd,hr,hs⟩:=hp
 obtain ⟨e0,e1,e2⟩:=eps_spec s
 exact ⟨trivial,(fun h=>absurd h (by decide)),fun _=>⟨⟨⟨hx,hy⟩,hd⟩,⟨hr,hs⟩,(fun _=>⟨by omega,by grind,(),trivial,rfl⟩),(fun h=>by cases h)⟩⟩
theorem lunN_walk (x y d r s:Int) (hp:((-32768 <= x/\x <= 32767)/\-32768 <= y/\y <= 32767)/\(0 <= d/\d <= 255)/\(0 <= r/\r <= 255)/\0 <= s/\s <= 255) {bs:Bs} {w:World} {vs:List Value} (hx:relKs bs w [.g [.v (.int .i16 (x)),.v (.int .i16 (y)),.v (.int .u8 (d))],.g [.v (.int .u8 (r)),.v (.int .u8 (s))],.c (.v (.bool (true)))] vs) (hA:bs.ar=[]) (hG:bs.gh=[]):Calls Tryz.prog 3 vs.toArray w fun e w'=>e=.returned (.bool true)/\Ext w w':=by
 refine (calls_good (P:=Tryz.prog) (body:=(Tryz.f3.body.getD .skip)) LT9_ok Tryz.func3 (by kernel_rfl) hx hA hG rfl (fun _=>rfl) (good_cut mixed LT9_ok VTN_ok (lunN x y d r s hp) fun v hv=>hv.elim)).mono ?_
 rintro e' w' ⟨v,rfl,h2,_,_,h3⟩
 obtain ⟨rfl,_⟩:=h3
 exact ⟨rfl,h2⟩
def VTO:List Ctr:=cUnitO :: (KT7 ++ UT2)
theorem VTO_ok:∀ c ∈ VTO,CtrOK Tryz.prog c:=fun c hc=>by
 rcases List.mem_cons.1 hc with h | h
 ·subst h; exact cUnitO_ok
 ·rcases List.mem_append.1 h with h | h
  ·exact KT7_ok c h
  ·exact UT2_ok c h
set_option maxHeartbeats 4000000 in
theorem lunO (x y d r s:Int) (hp:(((-32768 <= x/\x <= 32767)/\-32768 <= y/\y <= 32767)/\(0 <= d/\d <= 255)/\(0 <= r/\r <= 255)/\0 <= s/\s <= 255)/\x=0/\y=0):awpC LT9 VTO [] (fun _:Unit=>False) (fun _:Unit=>(⟨[.u,.u,.u,.u,.u,.u,.u,.u,.u,.u,.u,.u,.u,.u,.u,.u,.u,.u,.u,.u,.u,.u,.u,.u,.u,.u,.u,.u,.u,.u,.u,.u,.u,.u,.u,.u,.u,.u,.u,.u,.u,.u,.u,.u,.u,.u,.u,.u,.u,.u,.u,.u,.u,.u,.u,.u,.u,.u,.u,.u,.u,.u,.u,.u,.u,.u,.u,.u,.u,.u,.u,.u,.u,.u,.u,.u,.u,.u,.u,.u,.u,.u,.u,.u,.u,.u,.u,.u,.u,.u,.u],[]⟩:St)) (QresE LT9 Tryz.f3 (fun _:Unit=>True) (fun _=>.k (.c (.v (.bool true))))) 8 (Tryz.f3.body.getD .skip) (st0 Tryz.f3 [.g [.v (.int .i16 (x)),.v (.int .i16 (y)),.v (.int .u8 (d))],.g [.v (.int .u8 (r)),.v (.int .u8 (s))],.c (.v (.bool (false)))]):=by
 refine Eq.mp (show (True/\(((!true)=true->(∃ u:Unit,(True/\(Value.bool false=(.bool true)))))/\((!true)=false->((((-32768 <= x/\x <= 32767)/\-32768 <= y/\y <= 32767)/\0 <= d/\d <= 255)/\(((0 <= r/\r <= 255)/\0 <= s/\s <= 255)/\((false=true->((szR (Rat.divInt (s % 12+1) 12) <= 5000000)/\((0 < (-(Rat.divInt (s % 12+1) 12))/\((Rat.divInt x (d+1))=0/\(Rat.divInt y (d+1))=0)/\szR (-(Rat.divInt (s % 12+1) 12)) <= 10)/\(∃ u:Unit,(True/\(Value.bool ((6:Int) == (1:Int))=(.bool true)))))))/\(false=false->((0 < (Rat.divInt (s % 12+1) 12)/\((Rat.divInt x (d+1))=0/\(Rat.divInt y (d+1))=0)/\szR (Rat.divInt (s % 12+1) 12) <= 10)/\((szR (Rat.divInt x (d+1)) <= 100000/\szR (Rat.divInt y (d+1)) <= 100000/\szR (Rat.divInt x (d+1)) <= 100000/\szR (Rat.divInt y (d+1)) <= 100000)/\(True/\((((Rt.sg ((Rat.divInt x (d+1))*(Rat.divInt x (d+1))+(Rat.divInt y (d+1))*(Rat.divInt y (d+1)))) == (0:Int))=true->(∃ u:Unit,(True/\(Value.bool ((6:Int) == (6:Int))=(.bool true)))))/\(((Rt.sg ((Rat.divInt x (d+1))*(Rat.divInt x (d+1))+(Rat.divInt y (d+1))*(Rat.divInt y (d+1)))) == (0:Int))=false->(∃ u1:Unit,(False/\(True/\True)))))))))))))))=_ by kernel_rfl) ?_
 obtain ⟨⟨⟨hx,hy⟩,hd,hr,hs⟩,rfl,rfl⟩:=hp
 obtain ⟨e0,e1,e2⟩:=eps_spec s
 have z:Rat.divInt 0 (d+1)=0:=Rat.zero_divInt _
 have s0:szR 0 <= 2:=by have:=szR_int 0; have:szI 0 <= 1:=szI_le (by decide); exact Nat.le_trans (szR_int 0) (by omega)
 simp only [z]
 exact ⟨trivial,(fun h=>absurd h (by decide)),fun _=>⟨⟨⟨hx,hy⟩,hd⟩,⟨hr,hs⟩,(fun h=>by cases h),fun _=>⟨⟨e0,⟨trivial,trivial⟩,e2⟩,⟨by omega,by omega,by omega,by omega⟩,trivial,(fun _=>⟨(),trivial,rfl⟩),fun h=>absurd h (by decide +kernel)⟩⟩⟩
theorem lunO_walk (x y d r s:Int) (hp:(((-32768 <= x/\x <= 32767)/\-32768 <= y/\y <= 32767)/\(0 <= d/\d <= 255)/\(0 <= r/\r <= 255)/\0 <= s/\s <= 255)/\x=0/\y=0) {bs:Bs} {w:World} {vs:List Value} (hx:relKs bs w [.g [.v (.int .i16 (x)),.v (.int .i16 (y)),.v (.int .u8 (d))],.g [.v (.int .u8 (r)),.v (.int .u8 (s))],.c (.v (.bool (false)))] vs) (hA:bs.ar=[]) (hG:bs.gh=[]):Calls Tryz.prog 3 vs.toArray w fun e w'=>e=.returned (.bool true)/\Ext w w':=by
 refine (calls_good (P:=Tryz.prog) (body:=(Tryz.f3.body.getD .skip)) LT9_ok Tryz.func3 (by kernel_rfl) hx hA hG rfl (fun _=>rfl) (good_cut mixed LT9_ok VTO_ok (lunO x y d r s hp) fun v hv=>hv.elim)).mono ?_
 rintro e' w' ⟨v,rfl,h2,_,_,h3⟩
 obtain ⟨rfl,_⟩:=h3
 exact ⟨rfl,h2⟩
def VTX:List Ctr:=cUnitX :: (KT7 ++ UT2)
theorem VTX_ok:∀ c ∈ VTX,CtrOK Tryz.prog c:=fun c hc=>by
 rcases List.mem_cons.1 hc with h | h
 ·subst h; exact cUnitX_ok
 ·rcases List.mem_append.1 h with h | h
  ·exact KT7_ok c h
  ·exact UT2_ok c h
def klunX0 (x:Int) (y:Int) (d:Int):=((((Rat.divInt (x) ((d)+1)))*((Rat.divInt (x) ((d)+1)))+((Rat.divInt (y) ((d)+1)))*((Rat.divInt (y) ((d)+1)))))
set_option maxHeartbeats 4000000 in
theorem lunX (x y d r s:Int) (hp:(((-32768 <= x/\x <= 32767)/\-32768 <= y/\y <= 32767)/\(0 <= d/\d <= 255)/\(0 <= r/\r <= 255)/\0 <= s/\s <= 255)/\(x ≠ 0 \/ y ≠ 0)):awp LT9 VTX [] (Tryz.f3.body.getD .skip) (st0 Tryz.f3 [.g [.v (.int .i16 (x)),.v (.int .i16 (y)),.v (.int .u8 (d))],.g [.v (.int .u8 (r)),.v (.int .u8 (s))],.c (.v (.bool (false)))]) (QresE LT9 Tryz.f3 (fun _:Unit=>True) (fun _=>.k (.c (.v (.bool true))))):=by
 refine Eq.mp (show (True/\(((!true)=true->(∃ u:Unit,(True/\(Value.bool false=(.bool true)))))/\((!true)=false->((((-32768 <= x/\x <= 32767)/\-32768 <= y/\y <= 32767)/\0 <= d/\d <= 255)/\(((0 <= r/\r <= 255)/\0 <= s/\s <= 255)/\((false=true->((szR (Rat.divInt (s % 12+1) 12) <= 5000000)/\False))/\(false=false->((0 < (Rat.divInt (s % 12+1) 12)/\((Rat.divInt x (d+1)) ≠ 0 \/ (Rat.divInt y (d+1)) ≠ 0)/\szR (Rat.divInt x (d+1)) <= 10/\szR (Rat.divInt y (d+1)) <= 10/\szR (Rat.divInt (s % 12+1) 12) <= 10/\Rat.divInt 1 8192 <= (Rat.divInt (s % 12+1) 12))/\(∀ e1:Rat × Rat,((phiU (Rat.divInt x (d+1)) (Rat.divInt y (d+1)) (Rat.divInt (s % 12+1) 12) e1)->((szR (Rat.divInt x (d+1)) <= 100000/\szR (Rat.divInt y (d+1)) <= 100000/\szR (Rat.divInt x (d+1)) <= 100000/\szR (Rat.divInt y (d+1)) <= 100000)/\(True/\((((Rt.sg (klunX0 x y d)) == (0:Int))=true->(∃ u:Unit,(True/\(Value.bool ((0:Int) == (6:Int))=(.bool true)))))/\(((Rt.sg (klunX0 x y d)) == (0:Int))=false->(((((0:Int) != (0:Int)) == false)=true->(szR e1.1 <= 1000000))/\((((bif ((0:Int) != (0:Int)) then true else (!true)) == false)=true->(szR e1.2 <= 1000000))/\(((bif (bif ((0:Int) != (0:Int)) then true else (!true)) then true else (!true))=true->(∃ u:Unit,(True/\(Value.bool false=(.bool true)))))/\((bif (bif ((0:Int) != (0:Int)) then true else (!true)) then true else (!true))=false->(((szR e1.1 <= 100000/\szR e1.2 <= 100000)/\szR (Rat.divInt x (d+1)) <= 100000/\szR (Rat.divInt y (d+1)) <= 100000)/\((szR e1.1 <= 100000/\szR e1.2 <= 100000/\szR e1.1 <= 100000/\szR e1.2 <= 100000)/\((-9223372036854775808 <= (1:Int)/\(1:Int) <= 9223372036854775807)/\((szR (e1.1*e1.1+e1.2*e1.2) <= 1000000/\szR ((1:Int):Rat) <= 1000000)/\(((((Rt.sg ((e1.1*e1.1+e1.2*e1.2) - ((1:Int):Rat))) == (0:Int)) == true)=true->(szR e1.1 <= 100000/\szR e1.2 <= 100000/\szR (Rat.divInt x (d+1)) <= 100000/\szR (Rat.divInt y (d+1)) <= 100000))/\(((((Rt.sg ((e1.1*e1.1+e1.2*e1.2) - ((1:Int):Rat))) == (0:Int)) == true)=true->True)/\((((bif ((Rt.sg ((e1.1*e1.1+e1.2*e1.2) - ((1:Int):Rat))) == (0:Int)) then (decide ((Rt.sg (e1.1*(Rat.divInt x (d+1))+e1.2*(Rat.divInt y (d+1)))) > (0:Int))) else false) == true)=true->(szR (e1.1*(Rat.divInt y (d+1)) - e1.2*(Rat.divInt x (d+1))) <= 1000000/\szR (e1.1*(Rat.divInt y (d+1)) - e1.2*(Rat.divInt x (d+1))) <= 1000000))/\((((bif ((Rt.sg ((e1.1*e1.1+e1.2*e1.2) - ((1:Int):Rat))) == (0:Int)) then (decide ((Rt.sg (e1.1*(Rat.divInt x (d+1))+e1.2*(Rat.divInt y (d+1)))) > (0:Int))) else false) == true)=true->(szR (Rat.divInt (s % 12+1) 12) <= 1000000/\szR (Rat.divInt (s % 12+1) 12) <= 1000000))/\((((bif ((Rt.sg ((e1.1*e1.1+e1.2*e1.2) - ((1:Int):Rat))) == (0:Int)) then (decide ((Rt.sg (e1.1*(Rat.divInt x (d+1))+e1.2*(Rat.divInt y (d+1)))) > (0:Int))) else false) == true)=true->(szR ((Rat.divInt (s % 12+1) 12)*(Rat.divInt (s % 12+1) 12)) <= 1000000/\szR (klunX0 x y d) <= 1000000))/\((((bif ((Rt.sg ((e1.1*e1.1+e1.2*e1.2) - ((1:Int):Rat))) == (0:Int)) then (decide ((Rt.sg (e1.1*(Rat.divInt x (d+1))+e1.2*(Rat.divInt y (d+1)))) > (0:Int))) else false) == true)=true->(szR ((e1.1*(Rat.divInt y (d+1)) - e1.2*(Rat.divInt x (d+1)))*(e1.1*(Rat.divInt y (d+1)) - e1.2*(Rat.divInt x (d+1)))) <= 1000000/\szR (((Rat.divInt (s % 12+1) 12)*(Rat.divInt (s % 12+1) 12))*(klunX0 x y d)) <= 1000000))/\(∃ u:Unit,(True/\(Value.bool (bif (bif ((Rt.sg ((e1.1*e1.1+e1.2*e1.2) - ((1:Int):Rat))) == (0:Int)) then (decide ((Rt.sg (e1.1*(Rat.divInt x (d+1))+e1.2*(Rat.divInt y (d+1)))) > (0:Int))) else false) then (decide ((Rt.sg (((e1.1*(Rat.divInt y (d+1)) - e1.2*(Rat.divInt x (d+1)))*(e1.1*(Rat.divInt y (d+1)) - e1.2*(Rat.divInt x (d+1)))) - (((Rat.divInt (s % 12+1) 12)*(Rat.divInt (s % 12+1) 12))*(klunX0 x y d)))) <= (0:Int))) else false)=(.bool true))))))))))))))))))))))))))))))))=_ by kernel_rfl) ?_
 delta klunX0
 obtain ⟨⟨⟨hx,hy⟩,hd,hr,hs⟩,hn⟩:=hp
 obtain ⟨e0,e1,e2⟩:=eps_spec s
 obtain ⟨a1,a2⟩:=co_spec hx hd
 obtain ⟨b1,b2⟩:=co_spec hy hd
 have hXY:Rat.divInt x (d+1) ≠ 0 \/ Rat.divInt y (d+1) ≠ 0:=hn.imp (mt a2) (mt b2)
 clear a2 b2
 generalize Rat.divInt x (d+1)=X at *
 generalize Rat.divInt y (d+1)=Y at *
 generalize Rat.divInt (s % 12+1) 12=E at *
 refine ⟨trivial,(fun h=>absurd h (by decide)),fun _=>⟨⟨⟨hx,hy⟩,hd⟩,⟨hr,hs⟩,(fun h=>by cases h),fun _=>⟨⟨e0,hXY,a1,b1,e2,e1⟩,fun u hu=>?_⟩⟩⟩
 obtain ⟨a,b⟩:=u
 obtain ⟨u1,u2,u3,u4,u5⟩:=hu
 simp only at u1 u2 u3 u4 u5 ⊢
 refine ⟨⟨by omega,by omega,by omega,by omega⟩,trivial,(fun h=>?_),fun _=>?_⟩
 ·exfalso
  have h0:=Rt.sg_zero.1 (eq_of_beq h)
  have hX:=Rt.sq_nonneg X
  have hY:=Rt.sq_nonneg Y
  have x0:X*X=0:=by grind
  have y0:Y*Y=0:=by grind
  rcases hXY with h1 | h1
  ·exact (Rat.mul_eq_zero.1 x0).elim h1 h1
  ·exact (Rat.mul_eq_zero.1 y0).elim h1 h1
 have m1:=szR_mul2 a a
 have m2:=szR_mul2 b b
 have m3:=szR_add2 (a*a) (b*b)
 have m4:=szR_mul2 a Y
 have m5:=szR_mul2 b X
 have m6:=szR_sub2 (a*Y) (b*X)
 have m7:=szR_mul2 (a*Y - b*X) (a*Y - b*X)
 have m8:=szR_mul2 E E
 have m9:=szR_mul2 X X
 have m10:=szR_mul2 Y Y
 have m11:=szR_add2 (X*X) (Y*Y)
 have m12:=szR_mul2 (E*E) (X*X+Y*Y)
 have s1:szR ((1:Int):Rat) <= 2:=sz1
 have t1:(Rt.sg (a*a+b*b - ((1:Int):Rat)) == (0:Int))=true:=by rw [u1]; decide +kernel
 have t2:decide (Rt.sg (a*X+b*Y) > (0:Int))=true:=decide_eq_true (Rt.sg_pos.2 u2)
 have t3:decide (Rt.sg ((a*Y - b*X)*(a*Y - b*X) - E*E*(X*X+Y*Y)) <= (0:Int))=true:=decide_eq_true (Rt.sub_sg_le.2 u3)
 rw [t1,t2,t3]
 exact ⟨(fun _=>by omega),(fun _=>by omega),(fun h=>absurd h (by decide)),fun _=>⟨⟨⟨by omega,by omega⟩,by omega,by omega⟩,⟨by omega,by omega,by omega,by omega⟩,⟨by decide,by decide⟩,⟨by omega,by omega⟩,(fun _=>⟨by omega,by omega,by omega,by omega⟩),(fun _=>trivial),(fun _=>⟨by omega,by omega⟩),(fun _=>⟨by omega,by omega⟩),(fun _=>⟨by omega,by omega⟩),(fun _=>⟨by omega,by omega⟩),(),trivial,rfl⟩⟩
theorem lunX_walk (x y d r s:Int) (hp:(((-32768 <= x/\x <= 32767)/\-32768 <= y/\y <= 32767)/\(0 <= d/\d <= 255)/\(0 <= r/\r <= 255)/\0 <= s/\s <= 255)/\(x ≠ 0 \/ y ≠ 0)) {bs:Bs} {w:World} {vs:List Value} (hx:relKs bs w [.g [.v (.int .i16 (x)),.v (.int .i16 (y)),.v (.int .u8 (d))],.g [.v (.int .u8 (r)),.v (.int .u8 (s))],.c (.v (.bool (false)))] vs) (hA:bs.ar=[]) (hG:bs.gh=[]):Calls Tryz.prog 3 vs.toArray w fun e w'=>e=.returned (.bool true)/\Ext w w':=by
 refine (calls_good (P:=Tryz.prog) (body:=(Tryz.f3.body.getD .skip)) LT9_ok Tryz.func3 (by kernel_rfl) hx hA hG rfl (fun _=>rfl) (good_awp mixed LT9_ok VTX_ok (lunX x y d r s hp) w)).mono ?_
 rintro e' w' ⟨v,rfl,h2,_,_,h3⟩
 obtain ⟨rfl,_⟩:=h3
 exact ⟨rfl,h2⟩
end Vc
end Go.Proofs.YtkdjilgddbjcaaaGreat
