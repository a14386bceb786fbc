import Derived.Test.YtkdjilgddbjcaaaGreatR18
import Derived.Test.YtkdjilgddbjcaaaGreatR15
import Derived.Test.YtkdjilgddbjcaaaGreatR13
namespace Go.Proofs.YtkdjilgddbjcaaaGreat
open Go.RowKit
namespace Vc
attribute [local irreducible] owes
def LT8:List Lay:=LT ++ [
 ⟨87,12,true,0,0,[.v (.bool false),.sl [],.v (.bool false),.sl [],.v (.bool false),.sl [],.v (.bool false),.sl [],.v (.bool false),.sl [],.v (.bool false),.sl []],[(0,4),(4,4),(8,4)]⟩,
 ⟨93,8,true,0,0,[.v (.bool false),.sl [],.v (.bool false),.sl [],.v (.bool false),.sl [],.v (.bool false),.sl []],[(0,4),(4,4)]⟩]
theorem LT8_ok:∀ l ∈ LT8,LayOK Tryz.prog l:=by
 have h:LT8.all (layB Tryz.prog)=true:=by kernel_rfl
 intro l hl
 exact layB_ok (List.all_eq_true.1 h l hl)
theorem sq_cop {q:Rat} (h:sqB q=true):0 < sqD q/\Int.gcd (sqN q) (sqD q)=1:=by
 have h':=h
 unfold sqB at h'
 simp only [Bool.and_eq_true,decide_eq_true_eq] at h'
 obtain ⟨h1,h2⟩:=h'
 have hN:sqN q=((isq q.num.toNat:Nat):Int):=by unfold sqN; rw [if_pos h]
 have hD:sqD q=((isq q.den:Nat):Int):=by unfold sqD; rw [if_pos h]
 rw [hN,hD]
 generalize isq q.num.toNat=r at *
 generalize isq q.den=s at *
 have hd:=q.den_pos
 constructor
 ·rcases Nat.eq_zero_or_pos s with e | e
  ·subst e; simp at h2; omega
  ·omega
 ·show Nat.gcd r s=1
  have hc:=q.reduced
  have g1:Nat.gcd r s ∣ q.num.natAbs:=by
   have:q.num.natAbs=r*r:=by
    have:((r*r:Nat):Int)=q.num:=by rw [Int.natCast_mul]; exact h1
    omega
   rw [this]
   exact Nat.dvd_trans (Nat.gcd_dvd_left r s) (Nat.dvd_mul_right ..)
  have g2:Nat.gcd r s ∣ q.den:=by
   have:q.den=s*s:=by
    have:((s*s:Nat):Int)=(q.den:Int):=by rw [Int.natCast_mul]; exact h2
    omega
   rw [this]
   exact Nat.dvd_trans (Nat.gcd_dvd_right r s) (Nat.dvd_mul_right ..)
  have:=Nat.dvd_gcd g1 g2
  rw [hc] at this
  exact Nat.dvd_one.1 this
theorem szI_sqN {q:Rat} (h:0 <= q):szI (sqN q) <= szR q/\szI (sqD q) <= szR q:=by
 have a1:=szR_num q; have a2:=szR_den q
 have s1:=szI_isq (Rat.num_nonneg.2 h)
 have s2:=szI_isq (show (0:Int) <= (q.den:Int) by omega)
 rw [Int.toNat_natCast] at s2
 have z:szI 0 <= 0:=szI_le (by decide)
 unfold sqN sqD
 split <;> constructor <;> omega
def cRmulS:Ctr:=⟨30,fun | [.g [.R p],.g [.R q]]=>.yes (szR p <= 1000000/\szR q <= 1000000) (.k (.g [.R (p*q)])) | [.g [.R p],.g [.I n,.I d]]=>.yes ((0 < d/\Int.gcd n d=1)/\szR p <= 1000000/\szI n <= 1000000/\szI d <= 1000000) (.k (.g [.R (p*Rat.divInt n d)])) | _=>.no⟩
theorem cRmulS_ok:CtrOK Tryz.prog cRmulS:=.of (by kernel_rfl) (fun bs w xs vs pre r hr hA hG h hp=>by
 simp only [cRmulS] at h
 split at h
 ·cases h
  exact cRmul_ok.yes bs w _ vs _ _ hr hA hG rfl hp
 ·cases h
  rename_i p n d
  obtain ⟨⟨h1,h2⟩,h3,h4,h5⟩:=hp
  have hg:(Int.gcd n d:Int)=1:=by rw [h2]; rfl
  obtain ⟨e1,e2⟩:=Rt.red_one h1 hg
  match vs,hr with
  | [u,v],hr =>
    refine cRmul_ok.yes bs w [.g [.R p],.g [.R (Rat.divInt n d)]] _ _ _ ⟨hr.1,eqK_rel (x:=.g [.I n,.I d]) ⟨e1.symm,e2.symm,trivial⟩ hr.2.1,trivial⟩ hA hG rfl ⟨h3,?_⟩
    unfold szR
    rw [e1,e2]
    omega
 ·cases h) (fun xs α pre φ r=>by simp only [cRmulS]; split <;> (intro h; cases h))
def KT0:List Ctr:=cRmulS :: IT5
theorem KT0_ok:∀ c ∈ KT0,CtrOK Tryz.prog c:=by
 intro c hc
 rcases List.mem_cons.1 hc with rfl | h
 ·exact cRmulS_ok
 ·exact IT5_ok c h
def cOzero:Ctr:=⟨166,fun | []=>.yes (True) (.k (.g [.R ((0:Rat))])) | _=>.no⟩
theorem cOzero_owes :owes LT8 KT0 [] Tryz.f166 (Tryz.f166.body.getD .skip) [] (.k (.g [.R ((0:Rat))])):=by
 refine Eq.mp (show ((-9223372036854775808 <= (0:Int)/\(0:Int) <= 9223372036854775807)/\((((0:Int):Rat)=(0:Rat))/\True))=_ by kernel_rfl) ?_
 exact ⟨⟨by decide,by decide⟩,rfl,trivial⟩
theorem cOzero_ok:CtrOK Tryz.prog cOzero:=.of (by kernel_rfl) (fun bs w xs vs pre r hr hA hG h hp=>by
 simp only [cOzero] at h
 split at h
 ·cases h
  exact ctr_calls mixed LT8_ok KT0_ok Tryz.func166 (by kernel_rfl) hr hA hG rfl rfl (cOzero_owes )
 ·cases h) (fun xs α pre φ r=>by simp only [cOzero]; split <;> (intro h; cases h))
def KT1:List Ctr:=KT0 ++ [cOzero]
theorem KT1_ok:∀ c ∈ KT1,CtrOK Tryz.prog c:=ok_app KT0_ok (by
 intro c hc
 simp only [List.mem_cons,List.not_mem_nil,or_false] at hc
 rcases hc with rfl
 ·exact cOzero_ok)
def cOfrom:Ctr:=⟨113,fun | [.g [.R (p)]]=>.yes (True) (.k (.g [.R (p),.R ((0:Rat)),.R ((0:Rat))])) | _=>.no⟩
theorem cOfrom_owes (p:Rat):owes LT8 KT1 [] Tryz.f113 (Tryz.f113.body.getD .skip) [.g [.R (p)]] (.k (.g [.R (p),.R ((0:Rat)),.R ((0:Rat))])):=by
 refine Eq.mp (show (True/\(True/\((p=p)/\(((0:Rat)=(0:Rat))/\(((0:Rat)=(0:Rat))/\True)))))=_ by kernel_rfl) ?_
 exact ⟨trivial,trivial,rfl,rfl,rfl,trivial⟩
theorem cOfrom_ok:CtrOK Tryz.prog cOfrom:=.of (by kernel_rfl) (fun bs w xs vs pre r hr hA hG h hp=>by
 simp only [cOfrom] at h
 split at h
 ·cases h
  exact ctr_calls mixed LT8_ok KT1_ok Tryz.func113 (by kernel_rfl) hr hA hG rfl rfl (cOfrom_owes _)
 ·cases h) (fun xs α pre φ r=>by simp only [cOfrom]; split <;> (intro h; cases h))
def cOred:Ctr:=⟨114,fun | [.g [.R (a)],.g [.R (b)],.g [.R (c)]]=>.yes (True) (.k (.g [.R (a),.R (b),.R ((if b=0 then 0 else c))])) | _=>.no⟩
theorem cOred_owes (a:Rat) (b:Rat) (c:Rat):owes LT8 KT1 [] Tryz.f114 (Tryz.f114.body.getD .skip) [.g [.R (a)],.g [.R (b)],.g [.R (c)]] (.k (.g [.R (a),.R (b),.R ((if b=0 then 0 else c))])):=by
 refine Eq.mp (show (True/\((((Rt.sg b) == (0:Int))=true->(True/\((a=a)/\((b=b)/\(((0:Rat)=(if b=0 then 0 else c))/\True)))))/\(((Rt.sg b) == (0:Int))=false->((a=a)/\((b=b)/\((c=(if b=0 then 0 else c))/\True))))))=_ by kernel_rfl) ?_
 refine ⟨trivial,fun h=>?_,fun h=>?_⟩
 ·have hb:b=0:=Rt.sg_zero.1 (beq_iff_eq.1 h)
  exact ⟨trivial,rfl,rfl,by rw [if_pos hb],trivial⟩
 ·have hb:¬ b=0:=fun e=>by rw [Rt.sg_zero.2 e] at h; cases h
  exact ⟨rfl,rfl,by rw [if_neg hb],trivial⟩
theorem cOred_ok:CtrOK Tryz.prog cOred:=.of (by kernel_rfl) (fun bs w xs vs pre r hr hA hG h hp=>by
 simp only [cOred] at h
 split at h
 ·cases h
  exact ctr_calls mixed LT8_ok KT1_ok Tryz.func114 (by kernel_rfl) hr hA hG rfl rfl (cOred_owes _ _ _)
 ·cases h) (fun xs α pre φ r=>by simp only [cOred]; split <;> (intro h; cases h))
def KT2:List Ctr:=KT1 ++ [cOfrom,cOred]
theorem KT2_ok:∀ c ∈ KT2,CtrOK Tryz.prog c:=ok_app KT1_ok (by
 intro c hc
 simp only [List.mem_cons,List.not_mem_nil,or_false] at hc
 rcases hc with rfl | rfl
 ·exact cOfrom_ok
 ·exact cOred_ok)
def mkA (a b c:Rat):Rat:=if sqB c=true then a+b*Rat.divInt (sqN c) (sqD c) else a
def mkB (b c:Rat):Rat:=if sqB c=true then 0 else b
def mkC (b c:Rat):Rat:=if sqB c=true then 0 else if b=0 then 0 else c
def cOmake:Ctr:=⟨66,fun | [.g [.R (a)],.g [.R (b)],.g [.R (c)]]=>.yes (0 <= c/\szR a <= 1000/\szR b <= 1000/\szR c <= 1000) (.t [.g [.R ((mkA a b c)),.R ((mkB b c)),.R ((mkC b c))],.c (.v (.int .i64 ((0:Int))))]) | _=>.no⟩
theorem cOmake_owes (a:Rat) (b:Rat) (c:Rat) (hp:0 <= c/\szR a <= 1000/\szR b <= 1000/\szR c <= 1000):owes LT8 KT2 [] Tryz.f66 (Tryz.f66.body.getD .skip) [.g [.R (a)],.g [.R (b)],.g [.R (c)]] (.t [.g [.R ((mkA a b c)),.R ((mkB b c)),.R ((mkC b c))],.c (.v (.int .i64 ((0:Int))))]):=by
 refine Eq.mp (show (True/\(((decide ((Rt.sg c) < (0:Int)))=true->(False/\((Value.int .i64 (7:Int)=(.int .i64 (0:Int)))/\True)))/\((decide ((Rt.sg c) < (0:Int)))=false->((0 <= c/\szR c <= 1000000)/\(((sqB c)=true->(((0 < (sqD c)/\Int.gcd (sqN c) (sqD c)=1)/\szR b <= 1000000/\szI (sqN c) <= 1000000/\szI (sqD c) <= 1000000)/\((szR a <= 1000000/\szR (b*Rat.divInt (sqN c) (sqD c)) <= 1000000)/\(True/\((((a+(b*Rat.divInt (sqN c) (sqD c)))=(mkA a b c))/\(((0:Rat)=(mkB b c))/\(((0:Rat)=(mkC b c))/\True)))/\((Value.int .i64 (0:Int)=(.int .i64 (0:Int)))/\True))))))/\((sqB c)=false->(True/\(((a=(mkA a b c))/\((b=(mkB b c))/\(((if b=0 then 0 else c)=(mkC b c))/\True)))/\((Value.int .i64 (0:Int)=(.int .i64 (0:Int)))/\True)))))))))=_ by kernel_rfl) ?_
 obtain ⟨h0,h1,h2,h3⟩:=hp
 have e0:decide (Rt.sg c < (0:Int))=false:=decide_eq_false (fun h=>by have:=Rt.sg_neg.1 h; grind)
 rw [e0]
 refine ⟨trivial,fun h=>(by cases h),fun _=>⟨⟨h0,by omega⟩,fun h=>?_,fun h=>?_⟩⟩
 ·obtain ⟨k1,k2⟩:=sq_cop h
  obtain ⟨k3,k4⟩:=szI_sqN h0
  have d1:=szR_pos (n:=sqN c) k1
  have m1:=szR_mul b (Rat.divInt (sqN c) (sqD c))
  exact ⟨⟨⟨k1,k2⟩,by omega,by omega,by omega⟩,⟨by omega,by omega⟩,trivial,⟨by unfold mkA; rw [if_pos h],by unfold mkB; rw [if_pos h],by unfold mkC; rw [if_pos h],trivial⟩,rfl,trivial⟩
 ·have h':¬ sqB c=true:=by rw [h]; decide
  exact ⟨trivial,⟨by unfold mkA; rw [if_neg h'],by unfold mkB; rw [if_neg h'],by unfold mkC; rw [if_neg h'],trivial⟩,rfl,trivial⟩
theorem cOmake_ok:CtrOK Tryz.prog cOmake:=.of (by kernel_rfl) (fun bs w xs vs pre r hr hA hG h hp=>by
 simp only [cOmake] at h
 split at h
 ·cases h
  exact ctr_calls mixed LT8_ok KT2_ok Tryz.func66 (by kernel_rfl) hr hA hG rfl rfl (cOmake_owes _ _ _ hp)
 ·cases h) (fun xs α pre φ r=>by simp only [cOmake]; split <;> (intro h; cases h))
def cOrat1:Ctr:=⟨67,fun | [.g [.R (a),.R (b),.R (_c)]]=>.yes (b=0) (.t [.g [.R (a)],.c (.v (.bool (true)))]) | _=>.no⟩
theorem cOrat1_owes (a:Rat) (b:Rat) (c:Rat) (hp:b=0):owes LT8 KT2 [] Tryz.f67 (Tryz.f67.body.getD .skip) [.g [.R (a),.R (b),.R (c)]] (.t [.g [.R (a)],.c (.v (.bool (true)))]):=by
 refine Eq.mp (show (True/\((((Rt.sg b) != (0:Int))=true->(False/\((Value.bool false=(.bool true))/\True)))/\(((Rt.sg b) != (0:Int))=false->(((a=a)/\True)/\((Value.bool true=(.bool true))/\True)))))=_ by kernel_rfl) ?_
 subst hp
 exact ⟨trivial,fun h=>(by cases h),fun _=>⟨⟨rfl,trivial⟩,rfl,trivial⟩⟩
theorem cOrat1_ok:CtrOK Tryz.prog cOrat1:=.of (by kernel_rfl) (fun bs w xs vs pre r hr hA hG h hp=>by
 simp only [cOrat1] at h
 split at h
 ·cases h
  exact ctr_calls mixed LT8_ok KT2_ok Tryz.func67 (by kernel_rfl) hr hA hG rfl rfl (cOrat1_owes _ _ _ hp)
 ·cases h) (fun xs α pre φ r=>by simp only [cOrat1]; split <;> (intro h; cases h))
def cOrat2:Ctr:=⟨67,fun | [.g [.R (_a),.R (b),.R (_c)]]=>.yes (b ≠ 0) (.t [.g [.I ((0:Int)),.I ((0:Int))],.c (.v (.bool (false)))]) | _=>.no⟩
theorem cOrat2_owes (a:Rat) (b:Rat) (c:Rat) (hp:b ≠ 0):owes LT8 KT2 [] Tryz.f67 (Tryz.f67.body.getD .skip) [.g [.R (a),.R (b),.R (c)]] (.t [.g [.I ((0:Int)),.I ((0:Int))],.c (.v (.bool (false)))]):=by
 refine Eq.mp (show (True/\((((Rt.sg b) != (0:Int))=true->(((Value.bool false=.bool (decide ((0:Int) < 0)))/\((([]:List Nat)=Lb.limbs (0:Int).natAbs)/\((Value.bool false=.bool (decide ((0:Int) < 0)))/\((([]:List Nat)=Lb.limbs (0:Int).natAbs)/\True))))/\((Value.bool false=(.bool false))/\True)))/\(((Rt.sg b) != (0:Int))=false->(False/\((Value.bool true=(.bool false))/\True)))))=_ by kernel_rfl) ?_
 have e0:((Rt.sg b) != (0:Int))=true:=by
  rw [bne_iff_ne]
  exact fun h=>hp (Rt.sg_zero.1 h)
 rw [e0]
 exact ⟨trivial,fun _=>⟨⟨rfl,by simp [Lb.limbs_zero],rfl,by simp [Lb.limbs_zero],trivial⟩,rfl,trivial⟩,fun h=>(by cases h)⟩
theorem cOrat2_ok:CtrOK Tryz.prog cOrat2:=.of (by kernel_rfl) (fun bs w xs vs pre r hr hA hG h hp=>by
 simp only [cOrat2] at h
 split at h
 ·cases h
  exact ctr_calls mixed LT8_ok KT2_ok Tryz.func67 (by kernel_rfl) hr hA hG rfl rfl (cOrat2_owes _ _ _ hp)
 ·cases h) (fun xs α pre φ r=>by simp only [cOrat2]; split <;> (intro h; cases h))
def cOscale:Ctr:=⟨117,fun | [.g [.R (a),.R (b),.R (c)],.g [.R (p)]]=>.yes (szR a <= 1000000/\szR b <= 1000000/\szR p <= 1000000) (.k (.g [.R ((a*p)),.R ((b*p)),.R ((if b*p=0 then 0 else c))])) | _=>.no⟩
theorem cOscale_owes (a:Rat) (b:Rat) (c:Rat) (p:Rat) (hp:szR a <= 1000000/\szR b <= 1000000/\szR p <= 1000000):owes LT8 KT2 [] Tryz.f117 (Tryz.f117.body.getD .skip) [.g [.R (a),.R (b),.R (c)],.g [.R (p)]] (.k (.g [.R ((a*p)),.R ((b*p)),.R ((if b*p=0 then 0 else c))])):=by
 refine Eq.mp (show ((szR a <= 1000000/\szR p <= 1000000)/\((szR b <= 1000000/\szR p <= 1000000)/\(True/\(((a*p)=(a*p))/\(((b*p)=(b*p))/\(((if (b*p)=0 then 0 else c)=(if b*p=0 then 0 else c))/\True))))))=_ by kernel_rfl) ?_
 obtain ⟨h1,h2,h3⟩:=hp
 exact ⟨⟨h1,h3⟩,⟨h2,h3⟩,trivial,rfl,rfl,rfl,trivial⟩
theorem cOscale_ok:CtrOK Tryz.prog cOscale:=.of (by kernel_rfl) (fun bs w xs vs pre r hr hA hG h hp=>by
 simp only [cOscale] at h
 split at h
 ·cases h
  exact ctr_calls mixed LT8_ok KT2_ok Tryz.func117 (by kernel_rfl) hr hA hG rfl rfl (cOscale_owes _ _ _ _ hp)
 ·cases h) (fun xs α pre φ r=>by simp only [cOscale]; split <;> (intro h; cases h))
def twoP (n:Nat):Int:=2 ^ n
theorem twoP_succ (n:Nat):twoP (n+1)=twoP n+twoP n:=by unfold twoP; rw [Int.pow_succ]; omega
def rfl8 (a b c:Rat):Int:=(a.num*(((b*b)*c).den:Int)+((isq (((a.den:Int)*(a.den:Int))*(((b*b)*c).num*(((b*b)*c).den:Int))).toNat:Nat):Int)) / ((a.den:Int)*(((b*b)*c).den:Int))
theorem szI_rfl8 {a b c:Rat} (h0:0 <= a) (h2:0 <= c) (h3:szR a <= 1000) (h4:szR b <= 1000) (h5:szR c <= 1000):0 <= rfl8 a b c/\szI (rfl8 a b c) <= 100000:=by
 have m1:=szR_mul b b
 have m2:=szR_mul (b*b) c
 have hS:0 <= b*b*c:=Rat.mul_nonneg (Rt.sq_nonneg b) h2
 unfold rfl8
 generalize hs:b*b*c=S at *
 have hn:=Rat.num_nonneg.2 hS
 have hd:=S.den_pos
 have had:=a.den_pos
 have han:=Rat.num_nonneg.2 h0
 have a1:=szR_num a; have a2:=szR_den a; have a3:=szR_num S; have a4:=szR_den S
 have p1:=szI_mul' (a.den:Int) (a.den:Int)
 have p2:=szI_mul' S.num (S.den:Int)
 have p3:=szI_mul' ((a.den:Int)*(a.den:Int)) (S.num*(S.den:Int))
 have p4:=szI_mul' a.num (S.den:Int)
 have n1:0 <= (a.den:Int)*(a.den:Int)*(S.num*(S.den:Int)):=Int.mul_nonneg (Int.mul_nonneg (by omega) (by omega)) (Int.mul_nonneg hn (by omega))
 have n2:0 < (a.den:Int)*(S.den:Int):=Int.mul_pos (by omega) (by omega)
 have n3:0 <= a.num*(S.den:Int):=Int.mul_nonneg han (by omega)
 have s1:=szI_isq n1
 have s2:=szI_add' (a.num*(S.den:Int)) ((isq ((a.den:Int)*(a.den:Int)*(S.num*(S.den:Int))).toNat:Nat):Int)
 generalize (isq ((a.den:Int)*(a.den:Int)*(S.num*(S.den:Int))).toNat)=r at *
 have q1:0 <= a.num*(S.den:Int)+(r:Int):=by omega
 have q2:=Int.ediv_le_self ((a.den:Int)*(S.den:Int)) q1
 have q3:0 <= (a.num*(S.den:Int)+(r:Int)) / ((a.den:Int)*(S.den:Int)):=Int.ediv_nonneg q1 (by omega)
 refine ⟨q3,Nat.le_trans (szI_mono ?_) (show szI (a.num*(S.den:Int)+(r:Int)) <= 100000 by omega)⟩
 generalize (a.num*(S.den:Int)+(r:Int)) / ((a.den:Int)*(S.den:Int))=z at *
 omega
def cOfloor:Ctr:=⟨116,fun | [.g [.R (a),.R (b),.R (c)]]=>.yes ((0 <= a/\0 < b/\0 <= c)/\szR a <= 1000/\szR b <= 1000/\szR c <= 1000) (.k (.g [.I ((rfl8 a b c))])) | _=>.no⟩
def kcOfloor_owes0 (a:Rat) (b:Rat) (c:Rat):=((isq (((((a).den:Int)*((a).den:Int))*((((((b)*(b)))*(c))).num*((((((b)*(b)))*(c))).den:Int)))).toNat:Nat):Int)
theorem cOfloor_owes (a:Rat) (b:Rat) (c:Rat) (hp:(0 <= a/\0 < b/\0 <= c)/\szR a <= 1000/\szR b <= 1000/\szR c <= 1000):owes LT8 KT2 [] Tryz.f116 (Tryz.f116.body.getD .skip) [.g [.R (a),.R (b),.R (c)]] (.k (.g [.I ((rfl8 a b c))])):=by
 refine Eq.mp (show (True/\((((Rt.sg b) == (0:Int))=true->((0 <= a/\szR a <= 1000000)/\(((Rt.flr a)=(rfl8 a b c))/\True)))/\(((Rt.sg b) == (0:Int))=false->((szR b <= 1000000/\szR b <= 1000000)/\((szR (b*b) <= 1000000/\szR c <= 1000000)/\((szI (a.den:Int) <= 10000000/\szI (a.den:Int) <= 10000000)/\((szI (((b*b)*c).num) <= 10000000/\szI (((b*b)*c).den:Int) <= 10000000)/\((szI ((a.den:Int)*(a.den:Int)) <= 10000000/\szI (((b*b)*c).num*(((b*b)*c).den:Int)) <= 10000000)/\((0 <= (((a.den:Int)*(a.den:Int))*(((b*b)*c).num*(((b*b)*c).den:Int)))/\szI (((a.den:Int)*(a.den:Int))*(((b*b)*c).num*(((b*b)*c).den:Int))) <= 2000000)/\(True/\(((decide ((Rt.sg b) < (0:Int)))=true->((-9223372036854775808 <= (1:Int)/\(1:Int) <= 9223372036854775807)/\((szI (kcOfloor_owes0 a b c) <= 10000000/\szI (1:Int) <= 10000000)/\((szI ((kcOfloor_owes0 a b c)+(1:Int)) <= 10000000)/\((szI a.num <= 10000000/\szI (((b*b)*c).den:Int) <= 10000000)/\((szI (a.num*(((b*b)*c).den:Int)) <= 10000000/\szI (-((kcOfloor_owes0 a b c)+(1:Int))) <= 10000000)/\((szI (a.den:Int) <= 10000000/\szI (((b*b)*c).den:Int) <= 10000000)/\(((0 <= ((a.num*(((b*b)*c).den:Int))+(-((kcOfloor_owes0 a b c)+(1:Int))))/\0 < ((a.den:Int)*(((b*b)*c).den:Int)))/\(szI ((a.num*(((b*b)*c).den:Int))+(-((kcOfloor_owes0 a b c)+(1:Int)))) <= 5000000/\szI ((a.den:Int)*(((b*b)*c).den:Int)) <= 5000000))/\(((((a.num*(((b*b)*c).den:Int))+(-((kcOfloor_owes0 a b c)+(1:Int)))) / ((a.den:Int)*(((b*b)*c).den:Int)))=(rfl8 a b c))/\True)))))))))/\((decide ((Rt.sg b) < (0:Int)))=false->((szI a.num <= 10000000/\szI (((b*b)*c).den:Int) <= 10000000)/\((szI (a.num*(((b*b)*c).den:Int)) <= 10000000/\szI (kcOfloor_owes0 a b c) <= 10000000)/\((szI (a.den:Int) <= 10000000/\szI (((b*b)*c).den:Int) <= 10000000)/\(((0 <= ((a.num*(((b*b)*c).den:Int))+(kcOfloor_owes0 a b c))/\0 < ((a.den:Int)*(((b*b)*c).den:Int)))/\(szI ((a.num*(((b*b)*c).den:Int))+(kcOfloor_owes0 a b c)) <= 5000000/\szI ((a.den:Int)*(((b*b)*c).den:Int)) <= 5000000))/\(((((a.num*(((b*b)*c).den:Int))+(kcOfloor_owes0 a b c)) / ((a.den:Int)*(((b*b)*c).den:Int)))=(rfl8 a b c))/\True)))))))))))))))))=_ by kernel_rfl) ?_
 delta kcOfloor_owes0
 obtain ⟨⟨h0,h1,h2⟩,h3,h4,h5⟩:=hp
 have e0:((Rt.sg b) == (0:Int))=false:=by
  rw [beq_eq_false_iff_ne]
  exact fun h=>by have:=Rt.sg_zero.1 h; grind
 have e1:decide (Rt.sg b < (0:Int))=false:=decide_eq_false (fun h=>by have:=Rt.sg_neg.1 h; grind)
 rw [e0,e1]
 have m1:=szR_mul b b
 have m2:=szR_mul (b*b) c
 have hS:0 <= b*b*c:=Rat.mul_nonneg (Rt.sq_nonneg b) h2
 unfold rfl8
 generalize hs:b*b*c=S at *
 have hn:=Rat.num_nonneg.2 hS
 have hd:=S.den_pos
 have had:=a.den_pos
 have han:=Rat.num_nonneg.2 h0
 have a1:=szR_num a; have a2:=szR_den a; have a3:=szR_num S; have a4:=szR_den S
 have p1:=szI_mul' (a.den:Int) (a.den:Int)
 have p2:=szI_mul' S.num (S.den:Int)
 have p3:=szI_mul' ((a.den:Int)*(a.den:Int)) (S.num*(S.den:Int))
 have p4:=szI_mul' a.num (S.den:Int)
 have p5:=szI_mul' (a.den:Int) (S.den:Int)
 have n1:0 <= (a.den:Int)*(a.den:Int)*(S.num*(S.den:Int)):=Int.mul_nonneg (Int.mul_nonneg (by omega) (by omega)) (Int.mul_nonneg hn (by omega))
 have n2:0 < (a.den:Int)*(S.den:Int):=Int.mul_pos (by omega) (by omega)
 have n3:0 <= a.num*(S.den:Int):=Int.mul_nonneg han (by omega)
 have s1:=szI_isq n1
 have s2:=szI_add' (a.num*(S.den:Int)) ((isq ((a.den:Int)*(a.den:Int)*(S.num*(S.den:Int))).toNat:Nat):Int)
 generalize (isq ((a.den:Int)*(a.den:Int)*(S.num*(S.den:Int))).toNat)=r at *
 refine ⟨trivial,fun h=>(by cases h),fun _=>⟨⟨by omega,by omega⟩,⟨by omega,by omega⟩,⟨by omega,by omega⟩,⟨by omega,by omega⟩,⟨by omega,by omega⟩,⟨n1,by omega⟩,trivial,fun h=>(by cases h),fun _=>?_⟩⟩
 (repeat' first | apply And.intro | intro _) <;> first | trivial | rfl | omega
theorem cOfloor_ok:CtrOK Tryz.prog cOfloor:=.of (by kernel_rfl) (fun bs w xs vs pre r hr hA hG h hp=>by
 simp only [cOfloor] at h
 split at h
 ·cases h
  exact ctr_calls mixed LT8_ok KT2_ok Tryz.func116 (by kernel_rfl) hr hA hG rfl rfl (cOfloor_owes _ _ _ hp)
 ·cases h) (fun xs α pre φ r=>by simp only [cOfloor]; split <;> (intro h; cases h))
def KT3:List Ctr:=KT2 ++ [cOmake,cOscale,cOfloor]
theorem KT3_ok:∀ c ∈ KT3,CtrOK Tryz.prog c:=ok_app KT2_ok (by
 intro c hc
 simp only [List.mem_cons,List.not_mem_nil,or_false] at hc
 rcases hc with rfl | rfl | rfl
 ·exact cOmake_ok
 ·exact cOscale_ok
 ·exact cOfloor_ok)
def cOencl:Ctr:=⟨68,fun | [.g [.R (a),.R (b),.R (c)],.c (.v (.int .i64 (n)))]=>.yes (((0 <= a/\0 < b/\0 <= c)/\szR a <= 100/\szR b <= 100/\szR c <= 1000)/\0 <= n/\n <= 256) (.t [.g [.R ((Rat.divInt (rfl8 (a*(((twoP n.toNat):Int):Rat)) (b*(((twoP n.toNat):Int):Rat)) c) (twoP n.toNat))),.R ((Rat.divInt ((rfl8 (a*(((twoP n.toNat):Int):Rat)) (b*(((twoP n.toNat):Int):Rat)) c)+1) (twoP n.toNat)))],.c (.v (.int .i64 ((0:Int))))]) | _=>.no⟩
theorem cOencl_owes (a:Rat) (b:Rat) (c:Rat) (n:Int) (hp:((0 <= a/\0 < b/\0 <= c)/\szR a <= 100/\szR b <= 100/\szR c <= 1000)/\0 <= n/\n <= 256):owes LT8 KT3 [.inv 5 (Nat) (fun ξ=>⟨[.u,.u,.k (.c (.bx 0 0)),.u,.k (.c (.bx 1 0)),.k (.c (.v (.int .i64 ((0:Int))))),.k (.c (.bx 2 0)),.u,.u,.u,.u,.u,.u,.u,.u,.u,.u,.u,.u,.u,.u,.u,.k (.c (.v (.int .i64 (n)))),.k (.c (.v (.int .i64 ((ξ:Int))))),.u,.u,.u,.u,.u,.u,.u,.u,.u,.u,.u,.u,.u,.u,.u,.u,.u,.u,.u,.u,.u,.u,.u,.u,.u,.u,.u,.u,.u,.u,.u,.u],[⟨87,[.R (a),.R (b),.R (c)]⟩,⟨93,[.v (.bool (false)),.sl (([]:List Nat)),.v (.bool (false)),.sl (([]:List Nat)),.v (.bool (false)),.sl (([]:List Nat)),.v (.bool (false)),.sl (([]:List Nat))]⟩,⟨30,[.I ((twoP ξ))]⟩]⟩) (fun _ ξ=>(ξ <= n.toNat)) (fun ξ=>n.toNat - ξ)] Tryz.f68 (Tryz.f68.body.getD .skip) [.g [.R (a),.R (b),.R (c)],.c (.v (.int .i64 (n)))] (.t [.g [.R ((Rat.divInt (rfl8 (a*(((twoP n.toNat):Int):Rat)) (b*(((twoP n.toNat):Int):Rat)) c) (twoP n.toNat))),.R ((Rat.divInt ((rfl8 (a*(((twoP n.toNat):Int):Rat)) (b*(((twoP n.toNat):Int):Rat)) c)+1) (twoP n.toNat)))],.c (.v (.int .i64 ((0:Int))))]):=by
 refine Eq.mp (show (((bif (decide (n < (0:Int))) then true else (decide (n > (256:Int))))=true->(False/\((Value.int .i64 (1:Int)=(.int .i64 (0:Int)))/\True)))/\((bif (decide (n < (0:Int))) then true else (decide (n > (256:Int))))=false->((-9223372036854775808 <= (1:Int)/\(1:Int) <= 9223372036854775807)/\((∃ x1:Nat,((x1 <= n.toNat)/\((True/\(True/\((Value.int .i64 (0:Int)=(.int .i64 (0:Int)))/\(True/\((Value.int .i64 n=(.int .i64 n))/\((Value.int .i64 (0:Int)=(.int .i64 (x1:Int)))/\True))))))/\(((a=a)/\((b=b)/\((c=c)/\True)))/\(((Value.bool false=(.bool false))/\((([]:List Nat)=([]:List Nat))/\((Value.bool false=(.bool false))/\((([]:List Nat)=([]:List Nat))/\((Value.bool false=(.bool false))/\((([]:List Nat)=([]:List Nat))/\((Value.bool false=(.bool false))/\((([]:List Nat)=([]:List Nat))/\True))))))))/\((((1:Int)=(twoP x1))/\True)/\True))))))/\(∀ x1:Nat,((x1 <= n.toNat)->(((decide ((x1:Int) < n))=true->((szI (twoP x1) <= 10000000/\szI (twoP x1) <= 10000000)/\((inR .i64 ((x1:Int)+(1:Int)))/\(∃ y1:Nat,((y1 <= n.toNat)/\((n.toNat - y1 < n.toNat - x1)/\((True/\(True/\((Value.int .i64 (0:Int)=(.int .i64 (0:Int)))/\(True/\((Value.int .i64 n=(.int .i64 n))/\((Value.int .i64 ((x1:Int)+(1:Int))=(.int .i64 (y1:Int)))/\True))))))/\(((a=a)/\((b=b)/\((c=c)/\True)))/\(((Value.bool false=(.bool false))/\((([]:List Nat)=([]:List Nat))/\((Value.bool false=(.bool false))/\((([]:List Nat)=([]:List Nat))/\((Value.bool false=(.bool false))/\((([]:List Nat)=([]:List Nat))/\((Value.bool false=(.bool false))/\((([]:List Nat)=([]:List Nat))/\True))))))))/\(((((twoP x1)+(twoP x1))=(twoP y1))/\True)/\True))))))))))/\((decide ((x1:Int) < n))=false->((-9223372036854775808 <= (1:Int)/\(1:Int) <= 9223372036854775807)/\(((1:Int) ≠ 0/\szI (twoP x1) <= 5000000/\szI (1:Int) <= 5000000)/\((szR a <= 1000000/\szR b <= 1000000/\szR (Rat.divInt (twoP x1) (1:Int)) <= 1000000)/\(((0 <= (a*(Rat.divInt (twoP x1) (1:Int)))/\0 < (b*(Rat.divInt (twoP x1) (1:Int)))/\0 <= (if b*(Rat.divInt (twoP x1) (1:Int))=0 then 0 else c))/\szR (a*(Rat.divInt (twoP x1) (1:Int))) <= 1000/\szR (b*(Rat.divInt (twoP x1) (1:Int))) <= 1000/\szR (if b*(Rat.divInt (twoP x1) (1:Int))=0 then 0 else c) <= 1000)/\(((twoP x1) ≠ 0/\szI (rfl8 (a*(Rat.divInt (twoP x1) (1:Int))) (b*(Rat.divInt (twoP x1) (1:Int))) (if b*(Rat.divInt (twoP x1) (1:Int))=0 then 0 else c)) <= 5000000/\szI (twoP x1) <= 5000000)/\((-9223372036854775808 <= (1:Int)/\(1:Int) <= 9223372036854775807)/\((szI (rfl8 (a*(Rat.divInt (twoP x1) (1:Int))) (b*(Rat.divInt (twoP x1) (1:Int))) (if b*(Rat.divInt (twoP x1) (1:Int))=0 then 0 else c)) <= 10000000/\szI (1:Int) <= 10000000)/\(((twoP x1) ≠ 0/\szI ((rfl8 (a*(Rat.divInt (twoP x1) (1:Int))) (b*(Rat.divInt (twoP x1) (1:Int))) (if b*(Rat.divInt (twoP x1) (1:Int))=0 then 0 else c))+(1:Int)) <= 5000000/\szI (twoP x1) <= 5000000)/\((((Rat.divInt (rfl8 (a*(Rat.divInt (twoP x1) (1:Int))) (b*(Rat.divInt (twoP x1) (1:Int))) (if b*(Rat.divInt (twoP x1) (1:Int))=0 then 0 else c)) (twoP x1))=(Rat.divInt (rfl8 (a*(((twoP n.toNat):Int):Rat)) (b*(((twoP n.toNat):Int):Rat)) c) (twoP n.toNat)))/\(((Rat.divInt ((rfl8 (a*(Rat.divInt (twoP x1) (1:Int))) (b*(Rat.divInt (twoP x1) (1:Int))) (if b*(Rat.divInt (twoP x1) (1:Int))=0 then 0 else c))+(1:Int)) (twoP x1))=(Rat.divInt ((rfl8 (a*(((twoP n.toNat):Int):Rat)) (b*(((twoP n.toNat):Int):Rat)) c)+1) (twoP n.toNat)))/\True))/\((Value.int .i64 (0:Int)=(.int .i64 (0:Int)))/\True))))))))))))))))))=_ by kernel_rfl) ?_
 obtain ⟨⟨⟨ha,hb,hc⟩,h1,h2,h3⟩,h4,h5⟩:=hp
 have e0:(bif (decide (n < (0:Int))) then (true) else (decide (n > (256:Int))))=false:=by
  rw [decide_eq_false (show ¬ n < 0 by omega),decide_eq_false (show ¬ n > 256 by omega)]
  rfl
 rw [e0]
 have two:∀ k:Nat,k <= 256->0 < twoP k/\szI (twoP k) <= 9:=fun k hk=>by
  unfold twoP
  have p:0 < (2:Int) ^ k:=Int.pow_pos (by decide)
  refine ⟨p,szI_le ?_⟩
  have e:((2:Int) ^ k).natAbs=2 ^ k:=by rw [Int.natAbs_pow]; rfl
  rw [e]
  exact Nat.lt_of_le_of_lt (Nat.pow_le_pow_right (by decide) hk) (by decide)
 have s1:=szI_one
 have s0:szI 1 <= 10000000:=by omega
 refine ⟨fun h=>(by cases h),fun _=>⟨⟨by decide,by decide⟩,⟨0,⟨Nat.zero_le _,⟨trivial,trivial,rfl,trivial,rfl,rfl,trivial⟩,⟨rfl,rfl,rfl,trivial⟩,⟨rfl,rfl,rfl,rfl,rfl,rfl,rfl,rfl,trivial⟩,⟨rfl,trivial⟩,trivial⟩⟩,fun k hk=>⟨fun hlt=>?_,fun hge=>?_⟩⟩⟩
 ·have hlt':=of_decide_eq_true hlt
  obtain ⟨t1,t2⟩:=two k (by omega)
  exact ⟨⟨by omega,by omega⟩,by simp only [inR]; omega,k+1,by omega,by omega,⟨trivial,trivial,rfl,trivial,rfl,rfl,trivial⟩,⟨rfl,rfl,rfl,trivial⟩,⟨rfl,rfl,rfl,rfl,rfl,rfl,rfl,rfl,trivial⟩,⟨(twoP_succ k).symm,trivial⟩,trivial⟩
 ·have hge':=of_decide_eq_false hge
  have hkn:k=n.toNat:=by omega
  subst hkn
  obtain ⟨t1,t2⟩:=two n.toNat (by omega)
  have dv:Rat.divInt (twoP n.toNat) 1=((twoP n.toNat:Int):Rat):=by
   rw [Rat.divInt_eq_div,show ((1:Int):Rat)=1 from rfl]
   grind
  rw [dv]
  generalize hU:twoP n.toNat=U at *
  have sU:=szR_int U
  have mA:=szR_mul a (U:Rat)
  have mB:=szR_mul b (U:Rat)
  have pU:(0:Rat) < (U:Rat):=by exact_mod_cast t1
  have pa:=Rat.mul_nonneg ha (Rat.le_of_lt pU)
  have pb:=Rat.mul_pos hb pU
  have nb:¬ b*(U:Rat)=0:=by grind
  rw [if_neg nb]
  obtain ⟨f0,f1⟩:=szI_rfl8 (a:=a*(U:Rat)) (b:=b*(U:Rat)) (c:=c) pa hc (by omega) (by omega) (by omega)
  have f2:=szI_add' (rfl8 (a*(U:Rat)) (b*(U:Rat)) c) 1
  exact ⟨⟨by decide,by decide⟩,⟨by decide,by omega,by omega⟩,⟨by omega,by omega,by omega⟩,⟨⟨pa,pb,hc⟩,by omega,by omega,by omega⟩,⟨by omega,by omega,by omega⟩,⟨by decide,by decide⟩,⟨by omega,by omega⟩,⟨by omega,by omega,by omega⟩,⟨rfl,rfl,trivial⟩,rfl,trivial⟩
theorem cOencl_ok:CtrOK Tryz.prog cOencl:=.of (by kernel_rfl) (fun bs w xs vs pre r hr hA hG h hp=>by
 simp only [cOencl] at h
 split at h
 ·cases h
  exact ctr_calls mixed LT8_ok KT3_ok Tryz.func68 (by kernel_rfl) hr hA hG rfl rfl (cOencl_owes _ _ _ _ hp)
 ·cases h) (fun xs α pre φ r=>by simp only [cOencl]; split <;> (intro h; cases h))
def KT4:List Ctr:=KT3 ++ [cOencl]
theorem KT4_ok:∀ c ∈ KT4,CtrOK Tryz.prog c:=ok_app KT3_ok (by
 intro c hc
 simp only [List.mem_cons,List.not_mem_nil,or_false] at hc
 rcases hc with rfl
 ·exact cOencl_ok)
end Vc
end Go.Proofs.YtkdjilgddbjcaaaGreat
namespace Go.Proofs.YtkdjilgddbjcaaaGreat
open Go.RowKit
namespace Vc
attribute [local irreducible] owes
def cFover:Ctr:=⟨31,fun | [.g [.R (p)],.c (.v (.int .i64 (n)))]=>.yes ((n ≠ 0/\-9223372036854775808 <= n/\n <= 9223372036854775807)/\szR p <= 100000) (.k (.g [.R ((p*Rat.divInt 1 n))])) | _=>.no⟩
theorem cFover_owes (p:Rat) (n:Int) (hp:(n ≠ 0/\-9223372036854775808 <= n/\n <= 9223372036854775807)/\szR p <= 100000):owes LT8 KT4 [] Tryz.f31 (Tryz.f31.body.getD .skip) [.g [.R (p)],.c (.v (.int .i64 (n)))] (.k (.g [.R ((p*Rat.divInt 1 n))])):=by
 refine Eq.mp (show (((n ≠ 0/\-9223372036854775808 <= (1:Int)/\(1:Int) <= 9223372036854775807)/\-9223372036854775808 <= n/\n <= 9223372036854775807)/\((szR p <= 1000000/\szR (Rat.divInt (1:Int) n) <= 1000000)/\(((p*(Rat.divInt (1:Int) n))=(p*Rat.divInt 1 n))/\True)))=_ by kernel_rfl) ?_
 obtain ⟨⟨h0,h1,h2⟩,h3⟩:=hp
 have s1:=szR_divInt (n:=1) h0
 have s2:=szI_i64 h1 h2
 have s3:=szI_one
 exact ⟨⟨⟨h0,by decide,by decide⟩,h1,h2⟩,⟨by omega,by omega⟩,rfl,trivial⟩
theorem cFover_ok:CtrOK Tryz.prog cFover:=.of (by kernel_rfl) (fun bs w xs vs pre r hr hA hG h hp=>by
 simp only [cFover] at h
 split at h
 ·cases h
  exact ctr_calls mixed LT8_ok KT4_ok Tryz.func31 (by kernel_rfl) hr hA hG rfl rfl (cFover_owes _ _ hp)
 ·cases h) (fun xs α pre φ r=>by simp only [cFover]; split <;> (intro h; cases h))
def cFsize:Ctr:=⟨25,fun | [.g [.R (p)]]=>.yes (szR p <= 100000) (.k (.g [.R ((if p < 0 then -p else p))])) | _=>.no⟩
theorem cFsize_owes (p:Rat) (hp:szR p <= 100000):owes LT8 KT4 [] Tryz.f25 (Tryz.f25.body.getD .skip) [.g [.R (p)]] (.k (.g [.R ((if p < 0 then -p else p))])):=by
 refine Eq.mp (show (True/\(((decide ((Rt.sg p) < (0:Int)))=true->((szR p <= 5000000)/\(((-p)=(if p < 0 then -p else p))/\True)))/\((decide ((Rt.sg p) < (0:Int)))=false->((p=(if p < 0 then -p else p))/\True))))=_ by kernel_rfl) ?_
 have e0:decide (Rt.sg p < (0:Int))=decide (p < 0):=decide_eq_decide.2 Rt.sg_neg
 rw [e0]
 refine ⟨trivial,fun h=>⟨by omega,?_,trivial⟩,fun h=>⟨?_,trivial⟩⟩
 ·rw [if_pos (of_decide_eq_true h)]
 ·rw [if_neg (of_decide_eq_false h)]
theorem cFsize_ok:CtrOK Tryz.prog cFsize:=.of (by kernel_rfl) (fun bs w xs vs pre r hr hA hG h hp=>by
 simp only [cFsize] at h
 split at h
 ·cases h
  exact ctr_calls mixed LT8_ok KT4_ok Tryz.func25 (by kernel_rfl) hr hA hG rfl rfl (cFsize_owes _ hp)
 ·cases h) (fun xs α pre φ r=>by simp only [cFsize]; split <;> (intro h; cases h))
def KT5:List Ctr:=KT4 ++ [cFover,cFsize]
theorem KT5_ok:∀ c ∈ KT5,CtrOK Tryz.prog c:=ok_app KT4_ok (by
 intro c hc
 simp only [List.mem_cons,List.not_mem_nil,or_false] at hc
 rcases hc with rfl | rfl
 ·exact cFover_ok
 ·exact cFsize_ok)
def cFhalf:Ctr:=⟨34,fun | [.g [.R (p)]]=>.yes (szR p <= 100000) (.k (.g [.R ((p*Rat.divInt 1 2))])) | _=>.no⟩
theorem cFhalf_owes (p:Rat) (hp:szR p <= 100000):owes LT8 KT5 [] Tryz.f34 (Tryz.f34.body.getD .skip) [.g [.R (p)]] (.k (.g [.R ((p*Rat.divInt 1 2))])):=by
 refine Eq.mp (show ((((2:Int) ≠ 0/\-9223372036854775808 <= (2:Int)/\(2:Int) <= 9223372036854775807)/\szR p <= 100000)/\(((p*Rat.divInt 1 (2:Int))=(p*Rat.divInt 1 2))/\True))=_ by kernel_rfl) ?_
 exact ⟨⟨⟨by decide,by decide,by decide⟩,hp⟩,rfl,trivial⟩
theorem cFhalf_ok:CtrOK Tryz.prog cFhalf:=.of (by kernel_rfl) (fun bs w xs vs pre r hr hA hG h hp=>by
 simp only [cFhalf] at h
 split at h
 ·cases h
  exact ctr_calls mixed LT8_ok KT5_ok Tryz.func34 (by kernel_rfl) hr hA hG rfl rfl (cFhalf_owes _ hp)
 ·cases h) (fun xs α pre φ r=>by simp only [cFhalf]; split <;> (intro h; cases h))
def KT6:List Ctr:=KT5 ++ [cFhalf]
theorem KT6_ok:∀ c ∈ KT6,CtrOK Tryz.prog c:=ok_app KT5_ok (by
 intro c hc
 simp only [List.mem_cons,List.not_mem_nil,or_false] at hc
 rcases hc with rfl
 ·exact cFhalf_ok)
def KA0:List Ctr:=cOrat1 :: KT6
theorem KA0_ok:∀ c ∈ KA0,CtrOK Tryz.prog c:=by
 intro c hc
 rcases List.mem_cons.1 hc with rfl | h
 ·exact cOrat1_ok
 ·exact KT6_ok c h
def KB0:List Ctr:=cOrat2 :: KT6
theorem KB0_ok:∀ c ∈ KB0,CtrOK Tryz.prog c:=by
 intro c hc
 rcases List.mem_cons.1 hc with rfl | h
 ·exact cOrat2_ok
 ·exact KT6_ok c h
def eLo (k:Nat) (q:Rat):Rat:=Rat.divInt (rfl8 (0*((twoP k:Int):Rat)) (1*((twoP k:Int):Rat)) q) (twoP k)
def eHi (k:Nat) (q:Rat):Rat:=Rat.divInt (rfl8 (0*((twoP k:Int):Rat)) (1*((twoP k:Int):Rat)) q+1) (twoP k)
def encLo (q w:Rat):Rat:=if sqB q=true then mkA 0 1 q else if eHi 4 q - eLo 4 q <= w then eLo 4 q else eLo 16 q
def encHi (q w:Rat):Rat:=if sqB q=true then mkA 0 1 q else if eHi 4 q - eLo 4 q <= w then eHi 4 q else eHi 16 q
theorem e_diff (k:Nat) (q:Rat):(eHi k q - eLo k q)*((twoP k:Int):Rat)=1:=by
 have h:((twoP k:Int):Rat) ≠ 0:=by
  have:0 < twoP k:=Int.pow_pos (by decide)
  exact_mod_cast (show twoP k ≠ 0 by omega)
 unfold eHi eLo
 rw [Rat.divInt_eq_div,Rat.divInt_eq_div,Rat.intCast_add]
 generalize ((rfl8 (0*((twoP k:Int):Rat)) (1*((twoP k:Int):Rat)) q:Int):Rat)=f at *
 generalize ((twoP k:Int):Rat)=u at *
 have h1:(f+((1:Int):Rat)) / u*u=f+((1:Int):Rat):=Rat.div_mul_cancel h
 have h2:f / u*u=f:=Rat.div_mul_cancel h
 have h3:((1:Int):Rat)=1:=rfl
 rw [h3] at h1 ⊢
 grind
def kcFencA_owes2:=(twoP ((if (256:Int) < ((4:Int))+((12:Int)) then (256:Int) else ((4:Int))+((12:Int)))).toNat)
def kcFencA_owes3:=(twoP ((if (256:Int) < (4:Int) then (256:Int) else (4:Int))).toNat)
def kcFencA_owes6 (q:Rat):=((mkA (((((0:Int)):Rat))) (((((1:Int)):Rat))) (q)))
def kcFencA_owes0 (q:Rat):=(rfl8 ((kcFencA_owes6 q)*((kcFencA_owes2:Int):Rat)) (((mkB (((((1:Int)):Rat))) (q)))*((kcFencA_owes2:Int):Rat)) ((mkC (((((1:Int)):Rat))) (q))))
def kcFencA_owes1 (q:Rat):=(rfl8 ((kcFencA_owes6 q)*((kcFencA_owes3:Int):Rat)) (((mkB (((((1:Int)):Rat))) (q)))*((kcFencA_owes3:Int):Rat)) ((mkC (((((1:Int)):Rat))) (q))))
def kcFencA_owes4 (q:Rat):=(Rat.divInt ((kcFencA_owes1 q)+1) kcFencA_owes3)
def kcFencA_owes5 (q:Rat):=(Rat.divInt ((kcFencA_owes0 q)+1) kcFencA_owes2)
def kcFencA_owes7 (q:Rat):=(Rat.divInt (kcFencA_owes1 q) kcFencA_owes3)
def kcFencA_owes8 (q:Rat):=(Rat.divInt (kcFencA_owes0 q) kcFencA_owes2)
set_option maxHeartbeats 4000000 in
theorem cFencA_owes (q w:Rat) (hp:(0 < q/\szR q <= 900)/\(szR w <= 900/\Rat.divInt 1 65536 <= w)/\sqB q=true):owes LT8 KA0 [.unroll 7 2] Tryz.f28 (Tryz.f28.body.getD .skip) [.g [.R (q)],.g [.R (w)]] (.t [.g [.R ((encLo q w))],.g [.R ((encHi q w))]]):=by
 refine Eq.mp (show ((-9223372036854775808 <= (0:Int)/\(0:Int) <= 9223372036854775807)/\((-9223372036854775808 <= (1:Int)/\(1:Int) <= 9223372036854775807)/\((0 <= q/\szR ((0:Int):Rat) <= 1000/\szR ((1:Int):Rat) <= 1000/\szR q <= 1000)/\(((mkB ((1:Int):Rat) q)=0)/\((true=true->((((((((kcFencA_owes6 q)=(encLo q w))/\True)/\((((kcFencA_owes6 q)=(encHi q w))/\True)/\True))/\True)/\True)/\(((((((kcFencA_owes6 q)=(encLo q w))/\True)/\((((kcFencA_owes6 q)=(encHi q w))/\True)/\True))/\True)/\True)/\True))/\((((((((kcFencA_owes6 q)=(encLo q w))/\True)/\((((kcFencA_owes6 q)=(encHi q w))/\True)/\True))/\True)/\True)/\True)/\True)))/\(true=false->((((0 <= (kcFencA_owes6 q)/\0 < (mkB ((1:Int):Rat) q)/\0 <= (mkC ((1:Int):Rat) q))/\szR (kcFencA_owes6 q) <= 100/\szR (mkB ((1:Int):Rat) q) <= 100/\szR (mkC ((1:Int):Rat) q) <= 1000)/\0 <= (if (256:Int) < (4:Int) then (256:Int) else (4:Int))/\(if (256:Int) < (4:Int) then (256:Int) else (4:Int)) <= 256)/\((szR (kcFencA_owes4 q) <= 1000000/\szR (kcFencA_owes7 q) <= 1000000)/\((szR ((kcFencA_owes4 q) - (kcFencA_owes7 q)) <= 1000000/\szR w <= 1000000)/\(((bif (bif (decide ((Rt.sg (((kcFencA_owes4 q) - (kcFencA_owes7 q)) - w)) <= (0:Int))) then true else ((0:Int) != (0:Int))) then true else (decide ((4:Int) > (256:Int))))=true->((((((((((kcFencA_owes7 q)=(encLo q w))/\True)/\((((kcFencA_owes4 q)=(encHi q w))/\True)/\True))/\True)/\True)/\(((((((kcFencA_owes7 q)=(encLo q w))/\True)/\((((kcFencA_owes4 q)=(encHi q w))/\True)/\True))/\True)/\True)/\True))/\((((((((kcFencA_owes7 q)=(encLo q w))/\True)/\((((kcFencA_owes4 q)=(encHi q w))/\True)/\True))/\True)/\True)/\True)/\True))/\(((((((((kcFencA_owes7 q)=(encLo q w))/\True)/\((((kcFencA_owes4 q)=(encHi q w))/\True)/\True))/\True)/\True)/\(((((((kcFencA_owes7 q)=(encLo q w))/\True)/\((((kcFencA_owes4 q)=(encHi q w))/\True)/\True))/\True)/\True)/\True))/\((((((((kcFencA_owes7 q)=(encLo q w))/\True)/\((((kcFencA_owes4 q)=(encHi q w))/\True)/\True))/\True)/\True)/\True)/\True))/\True))/\((((((((((kcFencA_owes7 q)=(encLo q w))/\True)/\((((kcFencA_owes4 q)=(encHi q w))/\True)/\True))/\True)/\True)/\(((((((kcFencA_owes7 q)=(encLo q w))/\True)/\((((kcFencA_owes4 q)=(encHi q w))/\True)/\True))/\True)/\True)/\True))/\((((((((kcFencA_owes7 q)=(encLo q w))/\True)/\((((kcFencA_owes4 q)=(encHi q w))/\True)/\True))/\True)/\True)/\True)/\True))/\(((((((((kcFencA_owes7 q)=(encLo q w))/\True)/\((((kcFencA_owes4 q)=(encHi q w))/\True)/\True))/\True)/\True)/\True)/\True)/\True))/\True)))/\((bif (bif (decide ((Rt.sg (((kcFencA_owes4 q) - (kcFencA_owes7 q)) - w)) <= (0:Int))) then true else ((0:Int) != (0:Int))) then true else (decide ((4:Int) > (256:Int))))=false->((inR .i64 ((4:Int)+(12:Int)))/\((((0 <= (kcFencA_owes6 q)/\0 < (mkB ((1:Int):Rat) q)/\0 <= (mkC ((1:Int):Rat) q))/\szR (kcFencA_owes6 q) <= 100/\szR (mkB ((1:Int):Rat) q) <= 100/\szR (mkC ((1:Int):Rat) q) <= 1000)/\0 <= (if (256:Int) < (4:Int)+(12:Int) then (256:Int) else (4:Int)+(12:Int))/\(if (256:Int) < (4:Int)+(12:Int) then (256:Int) else (4:Int)+(12:Int)) <= 256)/\((szR (kcFencA_owes5 q) <= 1000000/\szR (kcFencA_owes8 q) <= 1000000)/\((szR ((kcFencA_owes5 q) - (kcFencA_owes8 q)) <= 1000000/\szR w <= 1000000)/\(((bif (bif (decide ((Rt.sg (((kcFencA_owes5 q) - (kcFencA_owes8 q)) - w)) <= (0:Int))) then true else ((0:Int) != (0:Int))) then true else (decide (((4:Int)+(12:Int)) > (256:Int))))=true->((((((((((kcFencA_owes8 q)=(encLo q w))/\True)/\((((kcFencA_owes5 q)=(encHi q w))/\True)/\True))/\True)/\True)/\(((((((kcFencA_owes8 q)=(encLo q w))/\True)/\((((kcFencA_owes5 q)=(encHi q w))/\True)/\True))/\True)/\True)/\True))/\((((((((kcFencA_owes8 q)=(encLo q w))/\True)/\((((kcFencA_owes5 q)=(encHi q w))/\True)/\True))/\True)/\True)/\True)/\True))/\(((((((((kcFencA_owes8 q)=(encLo q w))/\True)/\((((kcFencA_owes5 q)=(encHi q w))/\True)/\True))/\True)/\True)/\(((((((kcFencA_owes8 q)=(encLo q w))/\True)/\((((kcFencA_owes5 q)=(encHi q w))/\True)/\True))/\True)/\True)/\True))/\((((((((kcFencA_owes8 q)=(encLo q w))/\True)/\((((kcFencA_owes5 q)=(encHi q w))/\True)/\True))/\True)/\True)/\True)/\True))/\True))/\((((((((((kcFencA_owes8 q)=(encLo q w))/\True)/\((((kcFencA_owes5 q)=(encHi q w))/\True)/\True))/\True)/\True)/\(((((((kcFencA_owes8 q)=(encLo q w))/\True)/\((((kcFencA_owes5 q)=(encHi q w))/\True)/\True))/\True)/\True)/\True))/\((((((((kcFencA_owes8 q)=(encLo q w))/\True)/\((((kcFencA_owes5 q)=(encHi q w))/\True)/\True))/\True)/\True)/\True)/\True))/\(((((((((kcFencA_owes8 q)=(encLo q w))/\True)/\((((kcFencA_owes5 q)=(encHi q w))/\True)/\True))/\True)/\True)/\True)/\True)/\True))/\True)))/\((bif (bif (decide ((Rt.sg (((kcFencA_owes5 q) - (kcFencA_owes8 q)) - w)) <= (0:Int))) then true else ((0:Int) != (0:Int))) then true else (decide (((4:Int)+(12:Int)) > (256:Int))))=false->((inR .i64 (((4:Int)+(12:Int))+(12:Int)))/\False))))))))))))))))))=_ by kernel_rfl) ?_
 delta kcFencA_owes8
 delta kcFencA_owes7
 delta kcFencA_owes5
 delta kcFencA_owes4
 delta kcFencA_owes1
 delta kcFencA_owes0
 delta kcFencA_owes6
 delta kcFencA_owes3
 delta kcFencA_owes2
 obtain ⟨⟨h0,h1⟩,⟨h2,h3⟩,h4⟩:=hp
 have zero:((0:Int):Rat)=0:=rfl
 have one:((1:Int):Rat)=1:=rfl
 have eL:encLo q w=mkA 0 1 q:=by unfold encLo; rw [if_pos h4]
 have eH:encHi q w=mkA 0 1 q:=by unfold encHi; rw [if_pos h4]
 have hB:mkB 1 q=0:=by unfold mkB; rw [if_pos h4]
 have s0:szR (0:Rat) <= szI 0+1:=szR_int 0
 have s1:szR (1:Rat) <= szI 1+1:=szR_int 1
 have s2:szI 0 <= 1:=szI_le (by decide)
 have s3:=szI_one
 rw [zero,one,eL,eH]
 refine ⟨⟨by decide,by decide⟩,⟨by decide,by decide⟩,⟨Rat.le_of_lt h0,by omega,by omega,by omega⟩,hB,fun _=>?_,fun h=>(by cases h)⟩
 (repeat' first | apply And.intro | intro _) <;> first | trivial | rfl
def kcFencB_owes2:=(twoP ((if (256:Int) < ((4:Int))+((12:Int)) then (256:Int) else ((4:Int))+((12:Int)))).toNat)
def kcFencB_owes0 (q:Rat):=(rfl8 (((mkA (((((0:Int)):Rat))) (((((1:Int)):Rat))) (q)))*((kcFencB_owes2:Int):Rat)) (((mkB (((((1:Int)):Rat))) (q)))*((kcFencB_owes2:Int):Rat)) ((mkC (((((1:Int)):Rat))) (q))))
def kcFencB_owes3:=(twoP ((if (256:Int) < (4:Int) then (256:Int) else (4:Int))).toNat)
def kcFencB_owes1 (q:Rat):=(rfl8 (((mkA (((((0:Int)):Rat))) (((((1:Int)):Rat))) (q)))*((kcFencB_owes3:Int):Rat)) (((mkB (((((1:Int)):Rat))) (q)))*((kcFencB_owes3:Int):Rat)) ((mkC (((((1:Int)):Rat))) (q))))
def kcFencB_owes4 (q:Rat):=(Rat.divInt ((kcFencB_owes1 q)+1) kcFencB_owes3)
def kcFencB_owes5 (q:Rat):=(Rat.divInt ((kcFencB_owes0 q)+1) kcFencB_owes2)
def kcFencB_owes6 (q:Rat):=(Rat.divInt (kcFencB_owes1 q) kcFencB_owes3)
def kcFencB_owes7 (q:Rat):=(Rat.divInt (kcFencB_owes0 q) kcFencB_owes2)
set_option maxHeartbeats 4000000 in
theorem cFencB_owes (q w:Rat) (hp:(0 < q/\szR q <= 900)/\(szR w <= 900/\Rat.divInt 1 65536 <= w)/\sqB q=false):owes LT8 KB0 [.unroll 7 2] Tryz.f28 (Tryz.f28.body.getD .skip) [.g [.R (q)],.g [.R (w)]] (.t [.g [.R ((encLo q w))],.g [.R ((encHi q w))]]):=by
 refine Eq.mp (show ((-9223372036854775808 <= (0:Int)/\(0:Int) <= 9223372036854775807)/\((-9223372036854775808 <= (1:Int)/\(1:Int) <= 9223372036854775807)/\((0 <= q/\szR ((0:Int):Rat) <= 1000/\szR ((1:Int):Rat) <= 1000/\szR q <= 1000)/\(((mkB ((1:Int):Rat) q) ≠ 0)/\((false=true->((((((((0:Int)=(encLo q w).num)/\(((0:Int)=((encLo q w).den:Int))/\True))/\((((0:Int)=(encHi q w).num)/\(((0:Int)=((encHi q w).den:Int))/\True))/\True))/\True)/\True)/\(((((((0:Int)=(encLo q w).num)/\(((0:Int)=((encLo q w).den:Int))/\True))/\((((0:Int)=(encHi q w).num)/\(((0:Int)=((encHi q w).den:Int))/\True))/\True))/\True)/\True)/\True))/\((((((((0:Int)=(encLo q w).num)/\(((0:Int)=((encLo q w).den:Int))/\True))/\((((0:Int)=(encHi q w).num)/\(((0:Int)=((encHi q w).den:Int))/\True))/\True))/\True)/\True)/\True)/\True)))/\(false=false->((((0 <= (mkA ((0:Int):Rat) ((1:Int):Rat) q)/\0 < (mkB ((1:Int):Rat) q)/\0 <= (mkC ((1:Int):Rat) q))/\szR (mkA ((0:Int):Rat) ((1:Int):Rat) q) <= 100/\szR (mkB ((1:Int):Rat) q) <= 100/\szR (mkC ((1:Int):Rat) q) <= 1000)/\0 <= (if (256:Int) < (4:Int) then (256:Int) else (4:Int))/\(if (256:Int) < (4:Int) then (256:Int) else (4:Int)) <= 256)/\((szR (kcFencB_owes4 q) <= 1000000/\szR (kcFencB_owes6 q) <= 1000000)/\((szR ((kcFencB_owes4 q) - (kcFencB_owes6 q)) <= 1000000/\szR w <= 1000000)/\(((bif (bif (decide ((Rt.sg (((kcFencB_owes4 q) - (kcFencB_owes6 q)) - w)) <= (0:Int))) then true else ((0:Int) != (0:Int))) then true else (decide ((4:Int) > (256:Int))))=true->((((((((((kcFencB_owes6 q)=(encLo q w))/\True)/\((((kcFencB_owes4 q)=(encHi q w))/\True)/\True))/\True)/\True)/\(((((((kcFencB_owes6 q)=(encLo q w))/\True)/\((((kcFencB_owes4 q)=(encHi q w))/\True)/\True))/\True)/\True)/\True))/\((((((((kcFencB_owes6 q)=(encLo q w))/\True)/\((((kcFencB_owes4 q)=(encHi q w))/\True)/\True))/\True)/\True)/\True)/\True))/\(((((((((kcFencB_owes6 q)=(encLo q w))/\True)/\((((kcFencB_owes4 q)=(encHi q w))/\True)/\True))/\True)/\True)/\(((((((kcFencB_owes6 q)=(encLo q w))/\True)/\((((kcFencB_owes4 q)=(encHi q w))/\True)/\True))/\True)/\True)/\True))/\((((((((kcFencB_owes6 q)=(encLo q w))/\True)/\((((kcFencB_owes4 q)=(encHi q w))/\True)/\True))/\True)/\True)/\True)/\True))/\True))/\((((((((((kcFencB_owes6 q)=(encLo q w))/\True)/\((((kcFencB_owes4 q)=(encHi q w))/\True)/\True))/\True)/\True)/\(((((((kcFencB_owes6 q)=(encLo q w))/\True)/\((((kcFencB_owes4 q)=(encHi q w))/\True)/\True))/\True)/\True)/\True))/\((((((((kcFencB_owes6 q)=(encLo q w))/\True)/\((((kcFencB_owes4 q)=(encHi q w))/\True)/\True))/\True)/\True)/\True)/\True))/\(((((((((kcFencB_owes6 q)=(encLo q w))/\True)/\((((kcFencB_owes4 q)=(encHi q w))/\True)/\True))/\True)/\True)/\True)/\True)/\True))/\True)))/\((bif (bif (decide ((Rt.sg (((kcFencB_owes4 q) - (kcFencB_owes6 q)) - w)) <= (0:Int))) then true else ((0:Int) != (0:Int))) then true else (decide ((4:Int) > (256:Int))))=false->((inR .i64 ((4:Int)+(12:Int)))/\((((0 <= (mkA ((0:Int):Rat) ((1:Int):Rat) q)/\0 < (mkB ((1:Int):Rat) q)/\0 <= (mkC ((1:Int):Rat) q))/\szR (mkA ((0:Int):Rat) ((1:Int):Rat) q) <= 100/\szR (mkB ((1:Int):Rat) q) <= 100/\szR (mkC ((1:Int):Rat) q) <= 1000)/\0 <= (if (256:Int) < (4:Int)+(12:Int) then (256:Int) else (4:Int)+(12:Int))/\(if (256:Int) < (4:Int)+(12:Int) then (256:Int) else (4:Int)+(12:Int)) <= 256)/\((szR (kcFencB_owes5 q) <= 1000000/\szR (kcFencB_owes7 q) <= 1000000)/\((szR ((kcFencB_owes5 q) - (kcFencB_owes7 q)) <= 1000000/\szR w <= 1000000)/\(((bif (bif (decide ((Rt.sg (((kcFencB_owes5 q) - (kcFencB_owes7 q)) - w)) <= (0:Int))) then true else ((0:Int) != (0:Int))) then true else (decide (((4:Int)+(12:Int)) > (256:Int))))=true->((((((((((kcFencB_owes7 q)=(encLo q w))/\True)/\((((kcFencB_owes5 q)=(encHi q w))/\True)/\True))/\True)/\True)/\(((((((kcFencB_owes7 q)=(encLo q w))/\True)/\((((kcFencB_owes5 q)=(encHi q w))/\True)/\True))/\True)/\True)/\True))/\((((((((kcFencB_owes7 q)=(encLo q w))/\True)/\((((kcFencB_owes5 q)=(encHi q w))/\True)/\True))/\True)/\True)/\True)/\True))/\(((((((((kcFencB_owes7 q)=(encLo q w))/\True)/\((((kcFencB_owes5 q)=(encHi q w))/\True)/\True))/\True)/\True)/\(((((((kcFencB_owes7 q)=(encLo q w))/\True)/\((((kcFencB_owes5 q)=(encHi q w))/\True)/\True))/\True)/\True)/\True))/\((((((((kcFencB_owes7 q)=(encLo q w))/\True)/\((((kcFencB_owes5 q)=(encHi q w))/\True)/\True))/\True)/\True)/\True)/\True))/\True))/\((((((((((kcFencB_owes7 q)=(encLo q w))/\True)/\((((kcFencB_owes5 q)=(encHi q w))/\True)/\True))/\True)/\True)/\(((((((kcFencB_owes7 q)=(encLo q w))/\True)/\((((kcFencB_owes5 q)=(encHi q w))/\True)/\True))/\True)/\True)/\True))/\((((((((kcFencB_owes7 q)=(encLo q w))/\True)/\((((kcFencB_owes5 q)=(encHi q w))/\True)/\True))/\True)/\True)/\True)/\True))/\(((((((((kcFencB_owes7 q)=(encLo q w))/\True)/\((((kcFencB_owes5 q)=(encHi q w))/\True)/\True))/\True)/\True)/\True)/\True)/\True))/\True)))/\((bif (bif (decide ((Rt.sg (((kcFencB_owes5 q) - (kcFencB_owes7 q)) - w)) <= (0:Int))) then true else ((0:Int) != (0:Int))) then true else (decide (((4:Int)+(12:Int)) > (256:Int))))=false->((inR .i64 (((4:Int)+(12:Int))+(12:Int)))/\False))))))))))))))))))=_ by kernel_rfl) ?_
 delta kcFencB_owes7
 delta kcFencB_owes6
 delta kcFencB_owes5
 delta kcFencB_owes4
 delta kcFencB_owes1
 delta kcFencB_owes3
 delta kcFencB_owes0
 delta kcFencB_owes2
 obtain ⟨⟨h0,h1⟩,⟨h2,h3⟩,h4⟩:=hp
 have zero:((0:Int):Rat)=0:=rfl
 have one:((1:Int):Rat)=1:=rfl
 have hb:¬ sqB q=true:=by rw [h4]; decide
 have eA:mkA 0 1 q=0:=by unfold mkA; rw [if_neg hb]
 have eB:mkB 1 q=1:=by unfold mkB; rw [if_neg hb]
 have eC:mkC 1 q=q:=by unfold mkC; rw [if_neg hb,if_neg (by decide)]
 have s0:szR (0:Rat) <= szI 0+1:=szR_int 0
 have s1:szR (1:Rat) <= szI 1+1:=szR_int 1
 have s2:szI 0 <= 1:=szI_le (by decide)
 have s3:=szI_one
 have m4:(if (256:Int) < (4:Int) then (256:Int) else (4:Int))=4:=rfl
 have m16:(if (256:Int) < (4:Int)+(12:Int) then (256:Int) else (4:Int)+(12:Int))=16:=rfl
 have t4:(4:Int).toNat=4:=rfl
 have t16:(16:Int).toNat=16:=rfl
 rw [zero,one,eA,eB,eC,m4,m16,t4,t16]
 have f4:Rat.divInt (rfl8 (0*((twoP 4:Int):Rat)) (1*((twoP 4:Int):Rat)) q) (twoP 4)=eLo 4 q:=rfl
 have g4:Rat.divInt (rfl8 (0*((twoP 4:Int):Rat)) (1*((twoP 4:Int):Rat)) q+1) (twoP 4)=eHi 4 q:=rfl
 have f16:Rat.divInt (rfl8 (0*((twoP 16:Int):Rat)) (1*((twoP 16:Int):Rat)) q) (twoP 16)=eLo 16 q:=rfl
 have g16:Rat.divInt (rfl8 (0*((twoP 16:Int):Rat)) (1*((twoP 16:Int):Rat)) q+1) (twoP 16)=eHi 16 q:=rfl
 rw [f4,g4,f16,g16]
 have sz:∀ k:Nat,k <= 16->szR (eLo k q) <= 100100/\szR (eHi k q) <= 100100:=fun k hk=>by
  have p:0 < twoP k:=Int.pow_pos (by decide)
  have e:(twoP k).natAbs=2 ^ k:=by unfold twoP; rw [Int.natAbs_pow]; rfl
  have s4:szI (twoP k) <= 1:=szI_le (by rw [e]; exact Nat.lt_of_le_of_lt (Nat.pow_le_pow_right (by decide) hk) (by decide))
  have s5:=szR_int (twoP k)
  have s6:=szR_mul 0 ((twoP k:Int):Rat)
  have s7:=szR_mul 1 ((twoP k:Int):Rat)
  obtain ⟨r1,r2⟩:=szI_rfl8 (a:=0*((twoP k:Int):Rat)) (b:=1*((twoP k:Int):Rat)) (c:=q) (by rw [Rat.zero_mul]; exact Rat.le_refl) (Rat.le_of_lt h0) (by omega) (by omega) (by omega)
  have r3:=szI_add' (rfl8 (0*((twoP k:Int):Rat)) (1*((twoP k:Int):Rat)) q) 1
  have d1:=szR_pos (n:=rfl8 (0*((twoP k:Int):Rat)) (1*((twoP k:Int):Rat)) q) p
  have d2:=szR_pos (n:=rfl8 (0*((twoP k:Int):Rat)) (1*((twoP k:Int):Rat)) q+1) p
  unfold eLo eHi
  omega
 obtain ⟨z1,z2⟩:=sz 4 (by decide)
 obtain ⟨z3,z4⟩:=sz 16 (by decide)
 have z5:=szR_sub (eHi 4 q) (eLo 4 q)
 have z6:=szR_sub (eHi 16 q) (eLo 16 q)
 have nn:(0:Rat) <= 0:=Rat.le_refl
 have pp:(0:Rat) < 1:=by decide
 have qq:0 <= q:=Rat.le_of_lt h0
 have n10:(1:Rat) ≠ 0:=by decide
 have w16:eHi 16 q - eLo 16 q <= w:=by
  have d:=e_diff 16 q
  rw [show twoP 16=65536 from rfl] at d
  have e1:=Rt.num_eq (Rat.divInt 1 65536)
  have d2:Rat.divInt 1 65536*((65536:Int):Rat)=1:=by
   rw [Rat.divInt_eq_div,Rat.div_mul_cancel (by decide)]
   rfl
  have:((65536:Int):Rat)=65536:=rfl
  rw [this] at d d2
  grind
 have c16:decide (Rt.sg (eHi 16 q - eLo 16 q - w) <= (0:Int))=true:=decide_eq_true (Rt.sub_sg_le.2 w16)
 by_cases hle:eHi 4 q - eLo 4 q <= w
 ·have c4:decide (Rt.sg (eHi 4 q - eLo 4 q - w) <= (0:Int))=true:=decide_eq_true (Rt.sub_sg_le.2 hle)
  have eL:encLo q w=eLo 4 q:=by unfold encLo; rw [if_neg hb,if_pos hle]
  have eH:encHi q w=eHi 4 q:=by unfold encHi; rw [if_neg hb,if_pos hle]
  rw [eL,eH,c4]
  simp only [cond_true,Bool.true_eq_false,false_implies,and_true,true_and,forall_const,Bool.false_eq_true,inR]
  (repeat' first | apply And.intro | intro _) <;> first | trivial | rfl | assumption | omega
 ·have c4:decide (Rt.sg (eHi 4 q - eLo 4 q - w) <= (0:Int))=false:=decide_eq_false (fun h=>hle (Rt.sub_sg_le.1 h))
  have eL:encLo q w=eLo 16 q:=by unfold encLo; rw [if_neg hb,if_neg hle]
  have eH:encHi q w=eHi 16 q:=by unfold encHi; rw [if_neg hb,if_neg hle]
  rw [eL,eH,c4,c16]
  simp only [cond_true,Bool.true_eq_false,false_implies,and_true,true_and,forall_const,Bool.false_eq_true,inR]
  (repeat' first | apply And.intro | intro _) <;> first | trivial | rfl | assumption | omega
end Vc
end Go.Proofs.YtkdjilgddbjcaaaGreat
namespace Go.Proofs.YtkdjilgddbjcaaaGreat
open Go.RowKit
namespace Vc
attribute [local irreducible] owes
theorem szI_add2 (x y:Int):szI (x+y) <= max (szI x) (szI y)+1:=by
 have h1:x.natAbs < Lb.B ^ szI x:=Lb.lt_pow_limbs x.natAbs
 have h2:y.natAbs < Lb.B ^ szI y:=Lb.lt_pow_limbs y.natAbs
 refine szI_le ?_
 have k1:Lb.B ^ szI x <= Lb.B ^ max (szI x) (szI y):=Nat.pow_le_pow_right Lb.B_pos (Nat.le_max_left ..)
 have k2:Lb.B ^ szI y <= Lb.B ^ max (szI x) (szI y):=Nat.pow_le_pow_right Lb.B_pos (Nat.le_max_right ..)
 rw [Nat.pow_succ]
 generalize Lb.B ^ max (szI x) (szI y)=m at *
 have:m*2 <= m*Lb.B:=Nat.mul_le_mul_left _ (by decide)
 generalize m*Lb.B=z at *
 generalize Lb.B ^ szI x=u at *
 generalize Lb.B ^ szI y=v at *
 omega
theorem szR_dv {n d:Int} (hd:d ≠ 0):szR (Rat.divInt n d) <= max (szI n) (szI d):=by
 rcases Int.lt_or_gt_of_ne hd with h | h
 ·rw [<- Rt.red_neg]
  have h1:=szI_mono (Rt.red_num_le (n:=-n) (d:=-d) (by omega))
  have h2:=szI_mono (a:=((Rat.divInt (-n) (-d)).den:Int)) (b:=-d) (by have:=Rt.red_den_le (n:=-n) (d:=-d) (by omega); omega)
  have:=szI_neg' n
  have:=szI_neg' d
  unfold szR
  omega
 ·have h1:=szI_mono (Rt.red_num_le (n:=n) h)
  have h2:=szI_mono (a:=((Rat.divInt n d).den:Int)) (b:=d) (by have:=Rt.red_den_le (n:=n) h; omega)
  unfold szR
  omega
theorem szR_mul2 (p q:Rat):szR (p*q) <= szR p+szR q:=by
 rw [<- Rt.mul_eq]
 have:=szR_dv (n:=p.num*q.num) (d:=p.den*q.den) (Int.mul_ne_zero (den_ne p) (den_ne q))
 have:=szI_mul' p.num q.num
 have:=szI_mul' p.den q.den
 have:=szR_num p; have:=szR_num q; have:=szR_den p; have:=szR_den q
 omega
theorem szR_add2 (p q:Rat):szR (p+q) <= szR p+szR q+1:=by
 rw [<- Rt.add_eq]
 have:=szR_dv (n:=p.num*q.den+q.num*p.den) (d:=p.den*q.den) (Int.mul_ne_zero (den_ne p) (den_ne q))
 have:=szI_add2 (p.num*q.den) (q.num*p.den)
 have:=szI_mul' p.num q.den
 have:=szI_mul' q.num p.den
 have:=szI_mul' p.den q.den
 have:=szR_num p; have:=szR_num q; have:=szR_den p; have:=szR_den q
 omega
theorem szR_sub2 (p q:Rat):szR (p - q) <= szR p+szR q+1:=by
 have:=szR_add2 p (-q)
 have:=szR_neg q
 rw [Rat.sub_eq_add_neg]
 omega
theorem szR_div2 (p q:Rat) (hq:q ≠ 0):szR (p / q) <= szR p+szR q:=by
 rw [<- Rt.div_eq]
 have:=szR_dv (n:=p.num*q.den) (d:=p.den*q.num) (Int.mul_ne_zero (den_ne p) (num_ne hq))
 have:=szI_mul' p.num q.den
 have:=szI_mul' p.den q.num
 have:=szR_num p; have:=szR_num q; have:=szR_den p; have:=szR_den q
 omega
theorem szI_rfl2 {a b c:Rat} (h0:0 <= a) (h2:0 <= c):0 <= rfl8 a b c/\szI (rfl8 a b c) <= 2*szR a+4*szR b+2*szR c+1:=by
 have m1:=szR_mul2 b b
 have m2:=szR_mul2 (b*b) c
 have hS:0 <= b*b*c:=Rat.mul_nonneg (Rt.sq_nonneg b) h2
 unfold rfl8
 generalize hs:b*b*c=S at *
 have hn:=Rat.num_nonneg.2 hS
 have hd:=S.den_pos
 have had:=a.den_pos
 have han:=Rat.num_nonneg.2 h0
 have a1:=szR_num a; have a2:=szR_den a; have a3:=szR_num S; have a4:=szR_den S
 have p1:=szI_mul' (a.den:Int) (a.den:Int)
 have p2:=szI_mul' S.num (S.den:Int)
 have p3:=szI_mul' ((a.den:Int)*(a.den:Int)) (S.num*(S.den:Int))
 have p4:=szI_mul' a.num (S.den:Int)
 have n1:0 <= (a.den:Int)*(a.den:Int)*(S.num*(S.den:Int)):=Int.mul_nonneg (Int.mul_nonneg (by omega) (by omega)) (Int.mul_nonneg hn (by omega))
 have n2:0 < (a.den:Int)*(S.den:Int):=Int.mul_pos (by omega) (by omega)
 have n3:0 <= a.num*(S.den:Int):=Int.mul_nonneg han (by omega)
 have s1:=szI_isq n1
 have s2:=szI_add2 (a.num*(S.den:Int)) ((isq ((a.den:Int)*(a.den:Int)*(S.num*(S.den:Int))).toNat:Nat):Int)
 generalize (isq ((a.den:Int)*(a.den:Int)*(S.num*(S.den:Int))).toNat)=r at *
 have q1:0 <= a.num*(S.den:Int)+(r:Int):=by omega
 have q2:=Int.ediv_le_self ((a.den:Int)*(S.den:Int)) q1
 have q3:0 <= (a.num*(S.den:Int)+(r:Int)) / ((a.den:Int)*(S.den:Int)):=Int.ediv_nonneg q1 (by omega)
 refine ⟨q3,Nat.le_trans (szI_mono ?_) (show szI (a.num*(S.den:Int)+(r:Int)) <= 2*szR a+4*szR b+2*szR c+1 by omega)⟩
 generalize (a.num*(S.den:Int)+(r:Int)) / ((a.den:Int)*(S.den:Int))=z at *
 omega
theorem rfl8_spec {u q:Rat} (hq:0 <= q):0 <= rfl8 (0*u) (1*u) q/\((rfl8 (0*u) (1*u) q:Int):Rat)*((rfl8 (0*u) (1*u) q:Int):Rat) <= u*u*q/\u*u*q < (((rfl8 (0*u) (1*u) q:Int):Rat)+1)*(((rfl8 (0*u) (1*u) q:Int):Rat)+1):=by
 have hS:0 <= u*u*q:=Rat.mul_nonneg (Rt.sq_nonneg u) hq
 have e0:(0:Rat)*u=0:=Rat.zero_mul u
 have e1:(1:Rat)*u=u:=Rat.one_mul u
 rw [e0,e1]
 unfold rfl8
 rw [show (0:Rat).num=0 from rfl,show (((0:Rat).den:Nat):Int)=1 from rfl]
 generalize u*u*q=S at *
 have hn:=Rat.num_nonneg.2 hS
 have hd:=S.den_pos
 have hnum:=Rt.num_eq S
 have hdr:=Rt.den_pos' S
 rw [Int.zero_mul,Int.zero_add,Int.one_mul,Int.one_mul,Int.one_mul]
 obtain ⟨r1,r2⟩:=isq_spec (S.num*(S.den:Int)).toNat
 have hp:0 <= S.num*(S.den:Int):=Int.mul_nonneg hn (by omega)
 generalize isq (S.num*(S.den:Int)).toNat=r at *
 have r1':(r:Int)*r <= S.num*(S.den:Int):=by
  have:((r*r:Nat):Int)=(r:Int)*r:=Int.natCast_mul _ _
  omega
 have r2':S.num*(S.den:Int) < ((r:Int)+1)*((r:Int)+1):=by
  have:(((r+1)*(r+1):Nat):Int)=((r:Int)+1)*((r:Int)+1):=by rw [Int.natCast_mul]; rfl
  omega
 have f1:=Int.mul_ediv_add_emod (r:Int) (S.den:Int)
 have f2:=Int.emod_nonneg (r:Int) (show (S.den:Int) ≠ 0 by omega)
 have f3:=Int.emod_lt_of_pos (r:Int) (show (0:Int) < (S.den:Int) by omega)
 have f4:0 <= (r:Int) / (S.den:Int):=Int.ediv_nonneg (by omega) (by omega)
 generalize (r:Int) / (S.den:Int)=f at *
 generalize (r:Int) % (S.den:Int)=m at *
 generalize hD:(S.den:Int)=D at *
 have hD0:0 < D:=by omega
 have g1:(D*f)*(D*f) <= S.num*D:=by
  have:(D*f)*(D*f) <= (r:Int)*r:=Int.mul_le_mul (by omega) (by omega) (Int.mul_nonneg (by omega) f4) (by omega)
  omega
 have g2:S.num*D < (D*(f+1))*(D*(f+1)):=by
  have h1:(r:Int)+1 <= D*(f+1):=by rw [Int.mul_add,Int.mul_one]; omega
  have:((r:Int)+1)*((r:Int)+1) <= (D*(f+1))*(D*(f+1)):=Int.mul_le_mul h1 h1 (by omega) (by omega)
  omega
 have g3:f*f*D <= S.num:=by
  have:f*f*D*D <= S.num*D:=by
   have e:(D*f)*(D*f)=f*f*D*D:=by grind
   omega
  exact Int.le_of_mul_le_mul_right this hD0
 have g4:S.num < (f+1)*(f+1)*D:=by
  have:S.num*D < (f+1)*(f+1)*D*D:=by
   have e:(D*(f+1))*(D*(f+1))=(f+1)*(f+1)*D*D:=by grind
   omega
  exact Int.lt_of_mul_lt_mul_right this (by omega)
 refine ⟨f4,?_,?_⟩
 ·have h1:((f*f*D:Int):Rat) <= (S.num:Rat):=by exact_mod_cast g3
  rw [hnum,Rat.intCast_mul,Rat.intCast_mul] at h1
  exact Rat.le_of_mul_le_mul_right h1 hdr
 ·have h1:(S.num:Rat) < (((f+1)*(f+1)*D:Int):Rat):=by exact_mod_cast g4
  rw [hnum,Rat.intCast_mul,Rat.intCast_mul,Rat.intCast_add] at h1
  exact Rat.lt_of_mul_lt_mul_right h1 (Rat.le_of_lt hdr)
theorem twoP_pos (k:Nat):0 < twoP k:=Int.pow_pos (by decide)
theorem e_spec {q:Rat} (h:1 <= q) (k:Nat):1 <= eLo k q/\eLo k q*eLo k q <= q/\1 <= eHi k q/\q <= eHi k q*eHi k q:=by
 have hU:(0:Rat) < ((twoP k:Int):Rat):=by exact_mod_cast twoP_pos k
 obtain ⟨f0,f1,f2⟩:=rfl8_spec (u:=((twoP k:Int):Rat)) (show 0 <= q by grind)
 unfold eLo eHi
 rw [Rat.divInt_eq_div,Rat.divInt_eq_div,Rat.intCast_add]
 have hi:∀ f:Int,0 <= f->((twoP k:Int):Rat)*((twoP k:Int):Rat)*q < ((f:Rat)+1)*((f:Rat)+1)->((twoP k:Int):Rat) <= (f:Rat):=fun f hf h2=>by
  have h3:((twoP k:Int):Rat)*((twoP k:Int):Rat)*1 <= ((twoP k:Int):Rat)*((twoP k:Int):Rat)*q:=Rat.mul_le_mul_of_nonneg_left h (Rt.sq_nonneg _)
  have h4:((twoP k*twoP k:Int):Rat) < (((f+1)*(f+1):Int):Rat):=by
   rw [Rat.intCast_mul,Rat.intCast_mul,Rat.intCast_add,show ((1:Int):Rat)=1 from rfl]
   grind
  have h5:twoP k*twoP k < (f+1)*(f+1):=by exact_mod_cast h4
  have h6:twoP k <= f:=by
   rcases Int.lt_or_le f (twoP k) with g | g
   ·exfalso
    have:(f+1)*(f+1) <= twoP k*twoP k:=Int.mul_le_mul (by omega) (by omega) (by omega) (by omega)
    omega
   ·exact g
  exact_mod_cast h6
 have hf:=hi _ f0 f2
 generalize ((rfl8 (0*((twoP k:Int):Rat)) (1*((twoP k:Int):Rat)) q:Int):Rat)=f at *
 generalize ((twoP k:Int):Rat)=u at *
 rw [show ((1:Int):Rat)=1 from rfl]
 have d1:f / u*u=f:=Rat.div_mul_cancel (by grind)
 have d2:(f+1) / u*u=f+1:=Rat.div_mul_cancel (by grind)
 have huu:0 < u*u:=Rat.mul_pos hU hU
 generalize f / u=x at *
 generalize (f+1) / u=y at *
 refine ⟨?_,?_,?_,?_⟩
 ·exact Rat.le_of_mul_le_mul_right (show 1*u <= x*u by grind) hU
 ·exact Rat.le_of_mul_le_mul_right (show x*x*(u*u) <= q*(u*u) by
   have:x*x*(u*u)=x*u*(x*u):=by grind
   rw [this,d1]
   grind) huu
 ·exact Rat.le_of_mul_le_mul_right (show 1*u <= y*u by grind) hU
 ·exact Rat.le_of_mul_le_mul_right (show q*(u*u) <= y*y*(u*u) by
   have:y*y*(u*u)=y*u*(y*u):=by grind
   rw [this,d2]
   grind) huu
theorem sq_spec {q:Rat} (h:1 <= q) (hs:sqB q=true):1 <= mkA 0 1 q/\mkA 0 1 q*mkA 0 1 q=q:=by
 have hs':=hs
 unfold sqB at hs'
 simp only [Bool.and_eq_true,decide_eq_true_eq] at hs'
 obtain ⟨h1,h2⟩:=hs'
 unfold mkA
 rw [if_pos hs]
 have hN:sqN q=((isq q.num.toNat:Nat):Int):=by unfold sqN; rw [if_pos hs]
 have hD:sqD q=((isq q.den:Nat):Int):=by unfold sqD; rw [if_pos hs]
 have hc:=(sq_cop hs).1
 rw [hN,hD]
 rw [hD] at hc
 have hr0:0 <= ((isq q.num.toNat:Nat):Int):=by omega
 generalize ((isq q.num.toNat:Nat):Int)=r at *
 generalize ((isq q.den:Nat):Int)=s at *
 have hs0:(0:Rat) < (s:Rat):=by exact_mod_cast hc
 have hrr:(0:Rat) <= (r:Rat):=by exact_mod_cast hr0
 have n1:(r:Rat)*(r:Rat)=(q.num:Rat):=by rw [<- h1,Rat.intCast_mul]
 have n2:(s:Rat)*(s:Rat)=((q.den:Int):Rat):=by rw [<- h2,Rat.intCast_mul]
 have n3:=Rt.num_eq q
 rw [<- n1,<- n2] at n3
 have e:Rat.divInt r s*(s:Rat)=(r:Rat):=by rw [Rat.divInt_eq_div]; exact Rat.div_mul_cancel (by grind)
 rw [Rat.zero_add,Rat.one_mul]
 generalize Rat.divInt r s=m at *
 have hss:0 < (s:Rat)*(s:Rat):=Rat.mul_pos hs0 hs0
 have k1:m*m=q:=by
  have:(m*m - q)*((s:Rat)*(s:Rat))=0:=by grind
  rcases Rat.mul_eq_zero.1 this with h | h <;> grind
 refine ⟨?_,k1⟩
 have m0:0 <= m:=by
  rcases Rat.le_total (a:=0) (b:=m) with h | h
  ·exact h
  ·have:=Rat.mul_le_mul_of_nonneg_right h (Rat.le_of_lt hs0)
   have hr:(r:Rat)=0:=by grind
   rw [hr] at e
   rcases Rat.mul_eq_zero.1 e with h | h <;> grind
 rcases Rat.le_total (a:=1) (b:=m) with h' | h'
 ·exact h'
 ·have:=Rat.mul_le_mul_of_nonneg_left h' m0
  grind
def cFenc:Ctr:=⟨28,fun | [.g [.R q],.g [.R w]]=>.yes ((0 < q/\szR q <= 900)/\(szR w <= 900/\Rat.divInt 1 65536 <= w)) (.t [.g [.R (encLo q w)],.g [.R (encHi q w)]]) | _=>.no⟩
theorem cFenc_ok:CtrOK Tryz.prog cFenc:=.of (by kernel_rfl) (fun bs w xs vs pre r hr hA hG h hp=>by
 simp only [cFenc] at h
 split at h
 ·cases h
  rename_i q w'
  cases hs:sqB q with
  | true=>exact ctr_calls mixed LT8_ok KA0_ok Tryz.func28 (by kernel_rfl) hr hA hG rfl rfl (cFencA_owes _ _ ⟨hp.1,hp.2,hs⟩)
  | false=>exact ctr_calls mixed LT8_ok KB0_ok Tryz.func28 (by kernel_rfl) hr hA hG rfl rfl (cFencB_owes _ _ ⟨hp.1,hp.2,hs⟩)
 ·cases h) (fun xs α pre φ r=>by simp only [cFenc]; split <;> (intro h; cases h))
theorem enc_spec {q w:Rat} (h:1 <= q):(1 <= encLo q w/\encLo q w*encLo q w <= q)/\(1 <= encHi q w/\q <= encHi q w*encHi q w)/\encHi q w - encLo q w <= 1 / 16:=by
 have d4:=e_diff 4 q
 have d16:=e_diff 16 q
 rw [show ((twoP 4:Int):Rat)=16 from rfl] at d4
 rw [show ((twoP 16:Int):Rat)=65536 from rfl] at d16
 unfold encLo encHi
 split
 ·rename_i hs
  obtain ⟨h1,h2⟩:=sq_spec h hs
  rw [h2]
  exact ⟨⟨h1,Rat.le_refl⟩,⟨h1,Rat.le_refl⟩,by grind⟩
 ·split
  ·obtain ⟨h1,h2,h3,h4⟩:=e_spec h 4
   exact ⟨⟨h1,h2⟩,⟨h3,h4⟩,by grind⟩
  ·obtain ⟨h1,h2,h3,h4⟩:=e_spec h 16
   exact ⟨⟨h1,h2⟩,⟨h3,h4⟩,by grind⟩
theorem szR_enc {q w:Rat} (h:0 < q):szR (encLo q w) <= 2*szR q+30/\szR (encHi q w) <= 2*szR q+30:=by
 have sz:∀ k:Nat,k <= 16->szR (eLo k q) <= 2*szR q+30/\szR (eHi k q) <= 2*szR q+30:=fun k hk=>by
  have e:(twoP k).natAbs=2 ^ k:=by unfold twoP; rw [Int.natAbs_pow]; rfl
  have s4:szI (twoP k) <= 1:=szI_le (by rw [e]; exact Nat.lt_of_le_of_lt (Nat.pow_le_pow_right (by decide) hk) (by decide))
  have s5:=szR_int (twoP k)
  have s8:szR (0:Rat) <= szI 0+1:=szR_int 0
  have s9:szR (1:Rat) <= szI 1+1:=szR_int 1
  have s2:szI 0 <= 1:=szI_le (by decide)
  have s3:=szI_one
  have s6:=szR_mul2 0 ((twoP k:Int):Rat)
  have s7:=szR_mul2 1 ((twoP k:Int):Rat)
  rw [Rat.zero_mul] at s6
  obtain ⟨r1,r2⟩:=szI_rfl2 (a:=0*((twoP k:Int):Rat)) (b:=1*((twoP k:Int):Rat)) (c:=q) (by rw [Rat.zero_mul]; exact Rat.le_refl) (Rat.le_of_lt h)
  rw [Rat.zero_mul] at r2
  have r3:=szI_add2 (rfl8 (0*((twoP k:Int):Rat)) (1*((twoP k:Int):Rat)) q) 1
  have hp:=twoP_pos k
  have d1:=szR_dv (n:=rfl8 (0*((twoP k:Int):Rat)) (1*((twoP k:Int):Rat)) q) (d:=twoP k) (by omega)
  have d2:=szR_dv (n:=rfl8 (0*((twoP k:Int):Rat)) (1*((twoP k:Int):Rat)) q+1) (d:=twoP k) (by omega)
  rw [Rat.zero_mul] at d1 d2 r3
  unfold eLo eHi
  rw [Rat.zero_mul]
  omega
 unfold encLo encHi
 split
 ·rename_i hs
  obtain ⟨k1,k2⟩:=sq_cop hs
  obtain ⟨k3,k4⟩:=szI_sqN (Rat.le_of_lt h)
  have d1:=szR_dv (n:=sqN q) (d:=sqD q) (by omega)
  have e:mkA 0 1 q=Rat.divInt (sqN q) (sqD q):=by unfold mkA; rw [if_pos hs,Rat.zero_add,Rat.one_mul]
  rw [e]
  omega
 ·split
  ·exact sz 4 (by decide)
  ·exact sz 16 (by decide)
def KT7:List Ctr:=KT6 ++ [cFenc]
theorem KT7_ok:∀ c ∈ KT7,CtrOK Tryz.prog c:=ok_app KT6_ok (by
 intro c hc
 simp only [List.mem_cons,List.not_mem_nil,or_false] at hc
 rcases hc with rfl
 ·exact cFenc_ok)
end Vc
end Go.Proofs.YtkdjilgddbjcaaaGreat
namespace Go.Proofs.YtkdjilgddbjcaaaGreat
namespace Rt
def dev (s t:Rat):Rat:=s - s*(t*t) - 2*t
theorem dev_sub (s t m:Rat):dev s t - dev s m=(m - t)*(s*(m+t)+2):=by unfold dev; grind
theorem half_eq (x:Rat):x / 2*2=x:=Rat.div_mul_cancel (by decide)
theorem dev_bound {s t:Rat} (h0:0 <= s) (h1:s <= 1):(2+s*(s / 2+t))*(2+s*(s / 2+t)) <= 4*((1+s*s)*((1+t*t)*(1+t*t))):=by
 have a1:=sq_nonneg (s / 2 - t)
 have a2:=sq_nonneg (s*(s / 2 - t))
 have a3:=sq_nonneg (s*t)
 have a4:=sq_nonneg (t*t)
 have a5:=sq_nonneg (s*(t*t))
 have a6:=sq_nonneg t
 have a7:=sq_nonneg s
 have a8:0 <= (s*s)*(1 - s*s):=by
  have:0 <= 1 - s*s:=by
   have:=Rat.mul_le_mul_of_nonneg_left h1 h0
   grind
  exact Rat.mul_nonneg a7 this
 generalize hh:s / 2=u at *
 have hs:s=u*2:=by rw [<- hh,half_eq]
 subst hs
 grind
theorem abs_sq {x y:Rat} (h0:0 <= x) (h1:x <= y):x*x <= y*y:=by
 have h2:=Rat.mul_le_mul_of_nonneg_left h1 h0
 have h3:=Rat.mul_le_mul_of_nonneg_right h1 (Rat.le_trans h0 h1)
 grind
structure Half (s e low high t:Rat):Prop where
 s0:0 <= s
 s1:s <= 1
 e0:0 < e
 e1:e <= 1
 l0:1 <= low
 l1:low*low <= 1+s*s
 h0:1 <= high
 h1:1+s*s <= high*high
 t0:s / (1+low) - e / 2 < t
 t1:t < s / (1+high)+e / 2
theorem quot_eq {s l:Rat} (hl:1 <= l):s / (1+l)*(1+l)=s:=Rat.div_mul_cancel (by grind)
theorem quot_nonneg {s l:Rat} (hs:0 <= s) (hl:1 <= l):0 <= s / (1+l):=by
 have h1:=quot_eq (s:=s) hl
 rcases Rat.le_total (a:=0) (b:=(s / (1+l))) with h | h
 ·exact h
 ·have h2:=Rat.mul_nonneg (show 0 <= -(s / (1+l)) by grind) (show 0 <= 1+l by grind)
  have h3:s / (1+l)*(1+l)=0:=by grind
  rcases Rat.mul_eq_zero.1 h3 with h | h <;> grind
theorem quot_le {s l:Rat} (hs:0 <= s) (hl:1 <= l):s / (1+l) <= s / 2:=by
 have h1:=quot_eq (s:=s) hl
 have h2:=quot_nonneg hs hl
 have h3:=half_eq s
 have h4:0 <= s / (1+l)*(l - 1):=Rat.mul_nonneg h2 (by grind)
 generalize s / (1+l)=m at *
 generalize s / 2=u at *
 grind
theorem dev_low {s l:Rat} (hs:0 <= s) (hl:1 <= l) (h:l*l <= 1+s*s):dev s (s / (1+l)) <= 0:=by
 have h1:=quot_eq (s:=s) hl
 have h2:=quot_nonneg hs hl
 generalize s / (1+l)=m at *
 subst h1
 unfold dev
 have h4:0 <= m*(1+m*(1+l)*(m*(1+l)) - l*l):=Rat.mul_nonneg h2 (by grind)
 have h5:(m*(1+l) - m*(1+l)*(m*m) - 2*m)*(1+l)=- (m*(1+m*(1+l)*(m*(1+l)) - l*l)):=by grind
 have h6:(0:Rat) < 1+l:=by grind
 rcases Rat.le_total (a:=(m*(1+l) - m*(1+l)*(m*m) - 2*m)) (b:=0) with h7 | h7
 ·exact h7
 ·have h8:=Rat.mul_nonneg h7 (Rat.le_of_lt h6)
  have h9:(m*(1+l) - m*(1+l)*(m*m) - 2*m)*(1+l)=0:=by grind
  rcases Rat.mul_eq_zero.1 h9 with h | h <;> grind
theorem dev_high {s l:Rat} (hs:0 <= s) (hl:1 <= l) (h:1+s*s <= l*l):0 <= dev s (s / (1+l)):=by
 have h1:=quot_eq (s:=s) hl
 have h2:=quot_nonneg hs hl
 generalize s / (1+l)=m at *
 subst h1
 unfold dev
 have h4:0 <= m*(l*l - (1+m*(1+l)*(m*(1+l)))):=Rat.mul_nonneg h2 (by grind)
 have h5:(m*(1+l) - m*(1+l)*(m*m) - 2*m)*(1+l)=m*(l*l - (1+m*(1+l)*(m*(1+l)))):=by grind
 have h6:(0:Rat) < 1+l:=by grind
 rcases Rat.le_total (a:=0) (b:=(m*(1+l) - m*(1+l)*(m*m) - 2*m)) with h7 | h7
 ·exact h7
 ·have h8:=Rat.mul_nonneg (show 0 <= -(m*(1+l) - m*(1+l)*(m*m) - 2*m) by grind) (Rat.le_of_lt h6)
  have h9:(m*(1+l) - m*(1+l)*(m*m) - 2*m)*(1+l)=0:=by grind
  rcases Rat.mul_eq_zero.1 h9 with h | h <;> grind
theorem sq_le_of_abs {x y:Rat} (h1:x <= y) (h2:-x <= y):x*x <= y*y:=by
 rcases Rat.le_total (a:=0) (b:=x) with h | h
 ·exact abs_sq h h1
 ·have:=abs_sq (x:=-x) (by grind) h2
  grind
theorem Half.ends {s e low high t:Rat} (h:Half s e low high t):- (1 / 2:Rat) < t/\t < 1:=by
 obtain ⟨s0,s1,e0,e1,l0,l1,h0,h1,t0,t1⟩:=h
 have q1:=quot_nonneg s0 l0
 have q2:=quot_le s0 h0
 have q3:=half_eq s
 have q4:=half_eq e
 generalize s / (1+low)=m at *
 generalize s / (1+high)=n at *
 generalize s / 2=u at *
 generalize e / 2=d at *
 grind
theorem Half.dev {s e low high t:Rat} (h:Half s e low high t):dev s t*dev s t <= e*e*((1+s*s)*((1+t*t)*(1+t*t))):=by
 have hb:=h.ends
 obtain ⟨s0,s1,e0,e1,l0,l1,h0,h1,t0,t1⟩:=h
 have b1:=dev_bound (t:=t) s0 s1
 have c1:=dev_low s0 l0 l1
 have c2:=dev_high s0 h0 h1
 have q1:=quot_nonneg s0 l0
 have q2:=quot_nonneg s0 h0
 have q3:=quot_le s0 l0
 have q4:=quot_le s0 h0
 have d1:=dev_sub s t (s / (1+low))
 have d2:=dev_sub s t (s / (1+high))
 have q5:=half_eq s
 have q6:=half_eq e
 generalize Rt.dev s (s / (1+low))=D1 at *
 generalize Rt.dev s (s / (1+high))=D2 at *
 generalize Rt.dev s t=D at *
 generalize s / (1+low)=m at *
 generalize s / (1+high)=n at *
 generalize s / 2=u at *
 have e2:e=e / 2*2:=q6.symm
 generalize e / 2=d at *
 have hd:0 < d:=by grind
 have hst:-(1 / 2:Rat) <= s*t:=by
  have k1:0 <= s*(t+1 / 2):=Rat.mul_nonneg s0 (by grind)
  grind
 have hP:0 <= 2+s*(u+t):=by
  have k1:0 <= s*u:=Rat.mul_nonneg s0 (by grind)
  grind
 have key:∀ {k:Rat},0 <= k->k <= u->0 <= s*(k+t)+2/\s*(k+t)+2 <= 2+s*(u+t):=by
  intro k k0 k1
  have k2:=Rat.mul_nonneg s0 k0
  have k3:=Rat.mul_le_mul_of_nonneg_left k1 s0
  constructor <;> grind
 obtain ⟨m1,m2⟩:=key q1 q3
 obtain ⟨n1,n2⟩:=key q2 q4
 have up:D <= d*(2+s*(u+t)):=by
  have hdP:0 <= d*(2+s*(u+t)):=Rat.mul_nonneg (Rat.le_of_lt hd) hP
  have e3:D <= (m - t)*(s*(m+t)+2):=by grind
  rcases Rat.le_total (a:=(m - t)) (b:=0) with h | h
  ·have:=Rat.mul_le_mul_of_nonneg_right h m1
   grind
  ·have k1:=Rat.mul_le_mul_of_nonneg_left m2 h
   have k2:=Rat.mul_le_mul_of_nonneg_right (show m - t <= d by grind) hP
   grind
 have dn:-D <= d*(2+s*(u+t)):=by
  have hdP:0 <= d*(2+s*(u+t)):=Rat.mul_nonneg (Rat.le_of_lt hd) hP
  have e3:-D <= (t - n)*(s*(n+t)+2):=by grind
  rcases Rat.le_total (a:=(t - n)) (b:=0) with h | h
  ·have:=Rat.mul_le_mul_of_nonneg_right h n1
   grind
  ·have k1:=Rat.mul_le_mul_of_nonneg_left n2 h
   have k2:=Rat.mul_le_mul_of_nonneg_right (show t - n <= d by grind) hP
   grind
 have f1:=sq_le_of_abs up dn
 have f2:=Rat.mul_le_mul_of_nonneg_left b1 (sq_nonneg d)
 rw [e2]
 have e4:d*(2+s*(u+t))*(d*(2+s*(u+t)))=d*d*((2+s*(u+t))*(2+s*(u+t))):=by grind
 have e5:d*2*(d*2)*((1+s*s)*((1+t*t)*(1+t*t)))=d*d*(4*((1+s*s)*((1+t*t)*(1+t*t)))):=by grind
 rw [e5]
 rw [e4] at f1
 exact Rat.le_trans f1 f2
theorem Half.dot {s e low high t:Rat} (h:Half s e low high t):0 < 1 - t*t+2*t*s:=by
 have hb:=h.ends
 obtain ⟨s0,s1,e0,e1,l0,l1,h0,h1,t0,t1⟩:=h
 have q1:=quot_eq (s:=s) l0
 have q2:=quot_nonneg s0 l0
 have q6:=half_eq e
 have hl:low <= 3 / 2:=by
  rcases Rat.le_total (a:=low) (b:=(3 / 2)) with h | h
  ·exact h
  ·have k1:=abs_sq (show (0:Rat) <= 3 / 2 by grind) h
   have k2:=abs_sq s0 s1
   grind
 have hm:2*s <= 5*(s / (1+low)):=by
  have:=Rat.mul_le_mul_of_nonneg_left hl q2
  grind
 generalize s / (1+low)=m at *
 generalize e / 2=d at *
 rcases Rat.le_total (a:=0) (b:=t) with h | h
 ·have k1:=Rat.mul_nonneg h s0
  have k2:t*t < 1:=by
   rcases Rat.le_iff_lt_or_eq.1 h with h' | h'
   ·have:=Rat.mul_lt_mul_of_pos_left hb.2 h'
    grind
   ·rw [<- h']; grind
  grind
 ·-- -t < 1/2 - m,m >= 2/5 s
  have k0:0 <= -t:=by grind
  have k1:-t <= 1 / 2 - 2 / 5*s:=by grind
  have k2:=Rat.mul_le_mul_of_nonneg_right k1 s0
  have k3:=abs_sq k0 (show -t <= 1 / 2 by grind)
  have k4:=sq_nonneg (s - 5 / 8)
  grind
theorem unit_plain {s e low high t x y:Rat} (hx:0 < x) (hs:s=y / x) (h:Half s e low high t) {a b:Rat} (ha:a=(1 - t*t) / (1+t*t)) (hb:b=(t+t) / (1+t*t)) :
    a*a+b*b=1/\0 < a*x+b*y/\(a*y - b*x)*(a*y - b*x) <= e*e*(x*x+y*y):=by
 have hdv:=h.dev
 have hdt:=h.dot
 have hy:y=s*x:=by rw [hs,Rat.div_mul_cancel (by grind)]
 have hk:(0:Rat) < 1+t*t:=by have:=sq_nonneg t; grind
 have a1:a*(1+t*t)=1 - t*t:=by rw [ha,Rat.div_mul_cancel (by grind)]
 have b1:b*(1+t*t)=t+t:=by rw [hb,Rat.div_mul_cancel (by grind)]
 clear ha hb hs
 subst hy
 have hK:(0:Rat) < (1+t*t)*(1+t*t):=Rat.mul_pos hk hk
 refine ⟨?_,?_,?_⟩
 ·have e1:(a*a+b*b - 1)*((1+t*t)*(1+t*t))=0:=by
   have:(a*a+b*b - 1)*((1+t*t)*(1+t*t))=(a*(1+t*t))*(a*(1+t*t))+(b*(1+t*t))*(b*(1+t*t)) - (1+t*t)*(1+t*t):=by grind
   rw [this,a1,b1]
   grind
  rcases Rat.mul_eq_zero.1 e1 with h | h <;> grind
 ·have e1:(a*x+b*(s*x))*(1+t*t)=x*(1 - t*t+2*t*s):=by
   have:(a*x+b*(s*x))*(1+t*t)=(a*(1+t*t))*x+(b*(1+t*t))*(s*x):=by grind
   rw [this,a1,b1]
   grind
  have e2:=Rat.mul_pos hx hdt
  rw [<- e1] at e2
  exact (Rat.mul_pos_iff_of_pos_right hk).1 e2
 ·have e1:(a*(s*x) - b*x)*(1+t*t)=x*dev s t:=by
   have:(a*(s*x) - b*x)*(1+t*t)=(a*(1+t*t))*(s*x) - (b*(1+t*t))*x:=by grind
   rw [this,a1,b1]
   unfold Rt.dev
   grind
  generalize a*(s*x) - b*x=c at *
  have e2:c*c*((1+t*t)*(1+t*t))=x*x*(dev s t*dev s t):=by
   have:c*c*((1+t*t)*(1+t*t))=c*(1+t*t)*(c*(1+t*t)):=by grind
   rw [this,e1]
   grind
  have e3:=Rat.mul_le_mul_of_nonneg_left hdv (sq_nonneg x)
  rw [<- e2] at e3
  have e4:x*x*(e*e*((1+s*s)*((1+t*t)*(1+t*t))))=e*e*(x*x+s*x*(s*x))*((1+t*t)*(1+t*t)):=by grind
  rw [e4] at e3
  exact Rat.le_of_mul_le_mul_right e3 hK
end Rt
end Go.Proofs.YtkdjilgddbjcaaaGreat
namespace Go.Proofs.YtkdjilgddbjcaaaGreat
open Go.RowKit
namespace Vc
theorem half_d:Rat.divInt 1 2=1 / 2:=by decide +kernel
theorem eighth_d:Rat.divInt 1 ((8:Int))=1 / 8:=by decide +kernel
theorem d8192:Rat.divInt 1 8192=1 / 8192:=by decide +kernel
theorem d65536:Rat.divInt 1 65536=1 / 65536:=by decide +kernel
theorem enc_w {q w:Rat} (hw:Rat.divInt 1 65536 <= w):encHi q w - encLo q w <= w:=by
 rw [d65536] at hw
 have d16:=e_diff 16 q
 rw [show ((twoP 16:Int):Rat)=65536 from rfl] at d16
 unfold encLo encHi
 split
 ·grind
 ·split
  ·assumption
  ·grind
theorem gap {s lo hi e:Rat} (s0:0 <= s) (s1:s <= 1) (l1:1 <= lo) (h1:1 <= hi) (hw:hi - lo <= e*Rat.divInt 1 ((8:Int))) (he:0 < e):s / (1+lo) - e*Rat.divInt 1 2 < s / (1+hi)+e*Rat.divInt 1 2:=by
 rw [half_d]; rw [eighth_d] at hw
 have q1:=Rt.quot_eq (s:=s) l1
 have q2:=Rt.quot_eq (s:=s) h1
 have q3:=Rt.quot_le s0 h1
 have q4:=Rt.quot_nonneg s0 h1
 have q5:=Rt.half_eq s
 generalize s / (1+lo)=m at *
 generalize s / (1+hi)=l at *
 generalize s / 2=s2 at *
 apply Rat.not_le.1
 intro hc
 have hc2:e <= m - l:=by grind
 have p1:e*(1+lo) <= (m - l)*(1+lo):=Rat.mul_le_mul_of_nonneg_right hc2 (by grind)
 have p0:e*2 <= e*(1+lo):=Rat.mul_le_mul_of_nonneg_left (by grind) (by grind)
 have p2:l*(hi - lo) <= l*(e*(1 / 8)):=Rat.mul_le_mul_of_nonneg_left hw q4
 have p3:l*(e*(1 / 8)) <= (1 / 2)*(e*(1 / 8)):=Rat.mul_le_mul_of_nonneg_right (by grind) (by grind)
 grind
theorem abs_cases (x:Rat):0 <= (if x < 0 then -x else x)/\((if x < 0 then -x else x)=0 ↔ x=0)/\szR (if x < 0 then -x else x) <= szR x:=by
 split
 ·refine ⟨by grind,by grind,szR_neg x⟩
 ·refine ⟨by grind,Iff.rfl,Nat.le_refl _⟩
theorem sz1:szR 1 <= 2:=by have:=szR_int 1; have:=szI_one; exact Nat.le_trans (szR_int 1) (by omega)
theorem szd (n:Int) (h:n ≠ 0) (hn:szI n <= 1):szR (Rat.divInt 1 n) <= 1:=by
 have h1:=szR_dv (n:=1) h
 have h2:=szI_one
 omega
theorem sz_half:szR (Rat.divInt 1 2) <= 1:=szd 2 (by decide) (szI_le (by decide))
theorem sz_eighth:szR (Rat.divInt 1 ((8:Int))) <= 1:=szd 8 (by decide) (szI_le (by decide))
theorem sq_le {e f:Rat} (h0:0 < e) (h:e <= f):e*e <= f*f:=Rt.abs_sq (Rat.le_of_lt h0) h
theorem rle {a b:Rat} (h:a=b):a <= b:=h ▸ Rat.le_refl
end Vc
end Go.Proofs.YtkdjilgddbjcaaaGreat
namespace Go.Proofs.YtkdjilgddbjcaaaGreat
open Go.RowKit
namespace Vc
section
variable {P:Program} {L:List Lay} {C:List Ctr} {bs:Bs} {w:World}
theorem rl_init {n:Nat} {xs:List AK} {vs:List Value} (hx:relKs bs w xs vs) (hnx:argKs xs=true):Rl w ⟨w.heap.size,[],[],[]⟩ ⟨xs.map .k ++ List.replicate (n - xs.length) .u,[]⟩ { tmps:=vs.toArray ++ Array.replicate (n - vs.toArray.size) undef,defers:=[] } w:=by
 have hxl:=hx.len
 refine ⟨Ext.refl w,rfl,rfl,rfl,List.nodup_nil,rfl,fun i b x h _=>(by simp at h),fun b hb=>(by cases hb),fun t x ht=>?_,by simp [hxl],rfl⟩
 simp only at ht
 rcases Nat.lt_or_ge t xs.length with hlt | hge
 ·rw [List.getElem?_append_left (by simpa using hlt)] at ht
  simp only [List.getElem?_map,Option.map_eq_some_iff] at ht
  obtain ⟨y,hy,rfl⟩:=ht
  obtain ⟨u,h1,h2⟩:=(argKs_rel hnx hx).get hy
  have hlt':t < vs.length:=by omega
  have e:(vs.toArray ++ Array.replicate (n - vs.toArray.size) undef).getD t undef=u:=by
   have hu:vs[t]=u:=by simpa [hlt'] using h1
   simp [Array.getD_eq_getD_getElem?,Array.getElem?_append,hlt',hu]
  rw [e]
  exact h2
 ·rw [List.getElem?_append_right (by simpa using hge)] at ht
  rw [List.getElem?_replicate] at ht
  split at ht
  ·simp only [Option.some.injEq] at ht
   subst ht
   trivial
  ·cases ht
theorem CtrOK.ofEx {c:Ctr} (h1:entersB P c.f=true) (h2:∀ (bs:Bs) (w:World) (xs:List AK) (vs:List Value) (α:Type) (pre:Prop) (φ:α->Prop) (r:α->AV),relKs bs w xs vs->bs.ar=[]->bs.gh=[]->c.sp xs=.ex α pre φ r->pre->Calls P c.f vs.toArray w fun e w'=>∃ v,e=.returned v/\Ext w w'/\∃ x,φ x/\relV bs w' (r x) v) (h3:∀ (xs:List AK) (pre:Prop) (r:AV),c.sp xs ≠ .yes pre r):CtrOK P c :=
 ⟨h1,fun _ _ _ _ _ _ _ _ _ h=>absurd h (h3 _ _ _),h2⟩
end
end Vc
end Go.Proofs.YtkdjilgddbjcaaaGreat
namespace Go.Proofs.YtkdjilgddbjcaaaGreat
open Go.RowKit
namespace Vc
section
variable {P:Program} {L:List Lay} {C:List Ctr} {I:List LI}
def Good (P:Program) (W0:World) (Qa:AEx->St->Prop) (c:Code) (s:St):Prop:=∀ (Q:Exit->Act->World->Prop),(∀ e s' bs' a' w',Qa e s'->Rl W0 bs' s' a' w'->Q e.ex a' w')->∀ bs a w,Rl W0 bs s a w->c.wp P Q a w
theorem good_awp (hm:P.follows .mixedOrders=true) (hL:∀ l ∈ L,LayOK P l) (hC:∀ c ∈ C,CtrOK P c) {c:Code} {s:St} {Qa:AEx->St->Prop} (h:awp L C I c s Qa) (W0:World):Good P W0 Qa c s:=fun Q hk bs a w hR=>awp_sound hm hL hC c s bs a w Qa Q h hR hk
def awpC (L:List Lay) (C:List Ctr) (I:List LI) {α:Type} (φ:α->Prop) (st:α->St) (Qa:AEx->St->Prop):Nat->Code->St->Prop
 | 0,_,s=>∃ x,φ x/\leS s (st x)
 | n+1,.seq a b,s=>awp L C I a s fun e s'=>match e with | .normal=>awpC L C I φ st Qa n b s' | e=>Qa e s'
 | _+1,_,_=>False
def restC:Nat->Code->Code
 | 0,c=>c
 | n+1,.seq _ b=>restC n b
 | _+1,c=>c
theorem good_cut (hm:P.follows .mixedOrders=true) (hL:∀ l ∈ L,LayOK P l) (hC:∀ c ∈ C,CtrOK P c) {W0:World} {α:Type} {φ:α->Prop} {st:α->St} {Qa:AEx->St->Prop}:∀ {n:Nat} {c:Code} {s:St},awpC L C I φ st Qa n c s->(∀ x,φ x->Good P W0 Qa (restC n c) (st x))->Good P W0 Qa c s
 | 0,c,s,h,h2=>fun Q hk bs a w hR=>by
   obtain ⟨x,hφ,hle⟩:=h
   exact h2 x hφ Q hk _ a w (hR.weak hle)
 | n+1,c,s,h,h2=>fun Q hk bs a w hR=>by
   cases c with
   | seq x y =>
     refine wp_seq (awp_sound hm hL hC x s bs a w _ _ h hR fun e s' bs' a' w' hq hR'=>?_)
     cases e with
     | normal=>exact good_cut hm hL hC (c:=y) hq h2 Q hk bs' a' w' hR'
     | ret=>exact hk .ret s' bs' a' w' hq hR'
     | exit id=>exact hk (.exit id) s' bs' a' w' hq hR'
   | _=>exact h.elim
def QresE (L:List Lay) (fn:Func) {α:Type} (φ:α->Prop) (r:α->AV):AEx->St->Prop:=fun e s =>
 match e with
 | .exit _=>False
 | _ =>
   match ares L s fn.results.toList with
   | some x=>∃ a,φ a/\eqV x (r a)
   | none=>False
def st0 (fn:Func) (xs:List AK):St:=⟨xs.map .k ++ List.replicate (fn.ntmps - xs.length) .u,[]⟩
theorem calls_good (hL:∀ l ∈ L,LayOK P l) {f:Nat} {fn:Func} {body:Code} (hf:P.funcs[f]?=some fn) (hb:fn.body=some body) {xs:List AK} {vs:List Value} {α:Type} {φ:α->Prop} {r:α->AV} {bs:Bs} {w:World}
    (hx:relKs bs w xs vs) (hA:bs.ar=[]) (hG:bs.gh=[]) (hnx:argKs xs=true) (hnr:∀ a,nobxV (r a)=true) (h:Good P w (QresE L fn φ r) body (st0 fn xs)):Calls P f vs.toArray w fun e w'=>∃ v,e=.returned v/\Ext w w'/\∃ a,φ a/\relV bs w' (r a) v:=by
 refine calls_of_wp hf hb ?_
 refine h _ (fun e s' bs' a' w' hq hR'=>?_) _ _ _ (rl_init hx hnx)
 cases e with
 | exit id=>exact hq.elim
 | normal =>
   simp only [QresE] at hq
   split at hq
   ·rename_i x hx'
    obtain ⟨v,h1,h2⟩:=ares_run hL hR' hx'
    obtain ⟨a,ha,he⟩:=hq
    exact ⟨hR'.dfr,v,h1,v,rfl,hR'.ext,a,ha,nobxV_rel hA hG (hnr a) (eqV_rel he h2)⟩
   ·exact hq.elim
 | ret =>
   simp only [QresE] at hq
   split at hq
   ·rename_i x hx'
    obtain ⟨v,h1,h2⟩:=ares_run hL hR' hx'
    obtain ⟨a,ha,he⟩:=hq
    exact ⟨hR'.dfr,v,h1,v,rfl,hR'.ext,a,ha,nobxV_rel hA hG (hnr a) (eqV_rel he h2)⟩
   ·exact hq.elim
end
end Vc
end Go.Proofs.YtkdjilgddbjcaaaGreat
