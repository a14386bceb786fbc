import Derived.Test.YtbohkigffejhoaaGreatR17
import Derived.Test.YtbohkigffejhoaaGreatR16
open Int (le_of_lt lt_or_le mul_ne_zero mul_nonneg)
open Nat (gcd_comm le_trans lt_or_ge mod_lt pow_le_pow_right sub_le)
open Go.Proofs.Tryz (f121 f122 f128 f131 f132 f198 f212 f213 f217 f312 f316 f321 f329 f330 f331 f332 f333 f334 f335 f393 f394 f395 f396 f398 f401 f404 f410 f412 f415 f470 f475 f476 f477 func61 prog)
namespace Go.Proofs.YtbohkigffejhoaaGreat
open Go.RowKit
set_option maxRecDepth 8000
theorem aMl (v1 v2:Value) (a b:List Nat) (w:World) (h1:SlU w v1 a) (h2:SlU w v2 b) (k1:Lb.Lt a) (k2:Lb.a6v b) (n1:a.length <= 90000000) (n2:b.length <= 90000000) (hv:Lb.val b ≠ 0) :
    Calls prog 129 #[v1,v2] w (aZ6 w (Lb.limbs (Lb.val a / Lb.val b)) (Lb.limbs (Lb.val a % Lb.val b))):=by
 have hb0:b ≠ []:=by rintro rfl; exact hv rfl
 by_cases hb:a.length <= 2/\b.length <= 2
 ·exact aES v1 v2 a b w h1 h2 k1 k2.1 hb.1 hb.2 hv
 ·exact aOH v1 v2 a b w h1 h2 k1 k2 n1 n2 hb0 hb
end Go.Proofs.YtbohkigffejhoaaGreat
namespace Go.Proofs.YtbohkigffejhoaaGreat
open Go.RowKit
namespace Vc
def aDA:Ctr:=⟨63,fun | [.c (.v (.int .u64 u))]=>.yes (0 <= u/\u < 18446744073709551616) (.k (.c (.sl (Lb.limbs u.toNat)))) | _=>.no⟩
theorem aM8:CtrOK prog aDA:=.of (by kernel_rfl) (fun bs w xs vs pre r hr hA hG h hp=>by
 simp only [aDA] at h;split at h
 ·cases h;rename_i u;obtain ⟨v,rfl,h1,_⟩:=a9L hr;subst h1;have hu:((u.toNat:Nat):Int)=u:=Int.toNat_of_nonneg hp.1;have:=a5z u.toNat w (by omega);rw [hu] at this;refine this.mono fun e w' h=>?_;obtain ⟨a,n,c,rfl,hs,hx⟩:=h;exact ⟨_,rfl,hx,hs,trivial⟩
 ·cases h) (fun xs α pre φ r=>by simp only [aDA]; split <;> (intro h; cases h))
def aLy:Ctr:=⟨25,fun | [.c (.v (.int .i64 n))]=>.yes (-9223372036854775808 <= n/\n <= 9223372036854775807) (.k (.g [.I n])) | _=>.no⟩
theorem aRk:CtrOK prog aLy:=.of (by kernel_rfl) (fun bs w xs vs pre r hr hA hG h hp=>by
 simp only [aLy] at h;split at h
 ·cases h;obtain ⟨u,rfl,h1,_⟩:=a9L hr;subst h1;exact (aET _ w hp.1 hp.2).mono fun e w' h=>b4y hA hG h
 ·cases h) (fun xs α pre φ r=>by simp only [aLy]; split <;> (intro h; cases h))
def aLx:Ctr:=⟨224,fun | [.c (.sl a),.c (.sl b)]=>.yes ((Lb.Lt a/\Lb.Lt b)/\a.length <= 100000000/\b.length <= 100000000) (.k (.c (.sl (Lb.limbs (Lb.val a+Lb.val b))))) | _=>.no⟩
theorem aRj:CtrOK prog aLx:=.of (by kernel_rfl) (fun bs w xs vs pre r hr hA hG h hp=>by
 simp only [aLx] at h;split at h
 ·cases h;obtain ⟨u,v,rfl,h1,h2⟩:=a6X hr;refine (aOG u v _ _ w h1.1 h2.1 hp.1.1 hp.1.2 hp.2.1 hp.2.2).mono fun e w' h=>?_;obtain ⟨a,n,c,rfl,hs,hx,_⟩:=h;exact ⟨_,rfl,hx,hs,trivial⟩
 ·cases h) (fun xs α pre φ r=>by simp only [aLx]; split <;> (intro h; cases h))
def aDz:Ctr:=⟨223,fun | [.c (.sl a),.c (.sl b)]=>.yes ((Lb.Lt a/\Lb.Lt b)/\(a.length <= 100000000/\b.length <= a.length)/\Lb.val b <= Lb.val a) (.k (.c (.sl (Lb.limbs (Lb.val a - Lb.val b))))) | _=>.no⟩
theorem aM7:CtrOK prog aDz:=.of (by kernel_rfl) (fun bs w xs vs pre r hr hA hG h hp=>by
 simp only [aDz] at h;split at h
 ·cases h;obtain ⟨u,v,rfl,h1,h2⟩:=a6X hr;refine (a7S u v _ _ w h1.1 h2.1 hp.1.1 hp.1.2 hp.2.1.1 hp.2.1.2 hp.2.2).mono fun e w' h=>?_;obtain ⟨a,n,c,rfl,hs,hx,_⟩:=h;exact ⟨_,rfl,hx,hs,trivial⟩
 ·cases h) (fun xs α pre φ r=>by simp only [aDz]; split <;> (intro h; cases h))
def aDv:Ctr:=⟨328,fun | [.c (.sl a),.c (.sl b)]=>.yes ((Lb.Lt a/\Lb.Lt b)/\a.length <= 100000000/\b.length <= 100000000) (.k (.c (.sl (Lb.limbs (Lb.val a*Lb.val b))))) | _=>.no⟩
theorem aM2:CtrOK prog aDv:=.of (by kernel_rfl) (fun bs w xs vs pre r hr hA hG h hp=>by
 simp only [aDv] at h;split at h
 ·cases h;obtain ⟨u,v,rfl,h1,h2⟩:=a6X hr;refine (aBP u v _ _ w h1.1 h2.1 hp.1.1 hp.1.2 hp.2.1 hp.2.2).mono fun e w' h=>?_;obtain ⟨a,n,c,rfl,hs,hx,_⟩:=h;exact ⟨_,rfl,hx,hs,trivial⟩
 ·cases h) (fun xs α pre φ r=>by simp only [aDv]; split <;> (intro h; cases h))
def aDy:Ctr:=⟨129,fun | [.c (.sl a),.c (.sl b)]=>.yes ((Lb.Lt a/\Lb.a6v b)/\(a.length <= 90000000/\b.length <= 90000000)/\Lb.val b ≠ 0) (.t [.c (.sl (Lb.limbs (Lb.val a / Lb.val b))),.c (.sl (Lb.limbs (Lb.val a % Lb.val b)))]) | _=>.no⟩
theorem aM4:CtrOK prog aDy:=.of (by kernel_rfl) (fun bs w xs vs pre r hr hA hG h hp=>by
 simp only [aDy] at h;split at h
 ·cases h;obtain ⟨u,v,rfl,h1,h2⟩:=a6X hr;refine (aMl u v _ _ w h1.1 h2.1 hp.1.1 hp.1.2 hp.2.1.1 hp.2.1.2 hp.2.2).mono fun e w' h=>?_;obtain ⟨s,t,rfl,k1,k2,hx⟩:=h;exact ⟨_,rfl,hx,_,rfl,⟨k1,trivial⟩,⟨k2,trivial⟩,trivial⟩
 ·cases h) (fun xs α pre φ r=>by simp only [aDy]; split <;> (intro h; cases h))
def RT5:List Ctr:=RT4 ++ [aDA,aLy,aLx,aDz,aDv,aDy]
theorem aSs:∀ c ∈ RT5,CtrOK prog c:=a0M b3j (a0Y aM8 (a0Y aRk (a0Y aRj (a0Y aM7 (a0Y aM2 (a0Y aM4 (a3e)))))))
theorem aC1 (x y:Nat):(Lb.limbs (x*y)).length <= (Lb.limbs x).length+(Lb.limbs y).length:=by
 refine Lb.a08 ?_;rw [Nat.pow_add];exact Nat.mul_lt_mul_of_lt_of_le (Lb.a07 x) (Nat.le_of_lt (Lb.a07 y)) (Nat.pow_pos Lb.a3w)
theorem aC2 (x y:Nat):(Lb.limbs (x+y)).length <= (Lb.limbs x).length+(Lb.limbs y).length+1:=by
 refine Lb.a08 ?_;have h1:=Lb.a07 x;have h2:=Lb.a07 y;have h3:Lb.B ^ (Lb.limbs x).length <= Lb.B ^ ((Lb.limbs x).length+(Lb.limbs y).length):=pow_le_pow_right Lb.a3w (by omega);have h4:Lb.B ^ (Lb.limbs y).length <= Lb.B ^ ((Lb.limbs x).length+(Lb.limbs y).length):=pow_le_pow_right Lb.a3w (by omega)
 rw [Nat.pow_succ,Lb.a9f] at *
 omega
theorem aXk (x y:Int):sgn (decide (x < 0) != decide (y < 0)) (x.natAbs*y.natAbs)=x*y:=by
 unfold sgn;rw [<- Int.natAbs_mul]
 rcases lt_or_le x 0 with h | h <;> rcases lt_or_le y 0 with h' | h'
 ·have:=Int.mul_pos_of_neg_of_neg h h';simp [h,h']; omega
 ·have:=Int.mul_nonpos_of_nonpos_of_nonneg (le_of_lt h) h'
  have e:¬ y < 0:=by omega
  simp [h,e]; omega
 ·have:=Int.mul_nonpos_of_nonneg_of_nonpos h (le_of_lt h')
  have e:¬ x < 0:=by omega
  simp [h',e]; omega
 ·have:=mul_nonneg h h'
  have e:¬ x < 0:=by omega
  have e':¬ y < 0:=by omega
  simp [e,e']; omega
def b2A:Ctr:=⟨213,spY (gI.c (gI.c r0)) (fun (x,y,_)=>szI x <= 10000000/\szI y <= 10000000) (fun (x,y,_)=>.k (.g [.I ((x*y))]))⟩
theorem aM6 (x y:Int) (hp:szI x <= 10000000/\szI y <= 10000000):owes LT RT5 [] f213 (bd f213) [.g [.I (x)],.g [.I (y)]] (.k (.g [.I ((x*y))])):=by
 refine Eq.mp (show (((Lb.Lt (Lb.limbs x.natAbs)/\Lb.Lt (Lb.limbs y.natAbs))/\(Lb.limbs x.natAbs).length <= 100000000/\(Lb.limbs y.natAbs).length <= 100000000)/\((Lb.Lt (Lb.limbs (Lb.val (Lb.limbs x.natAbs)*Lb.val (Lb.limbs y.natAbs)))/\(Lb.limbs (Lb.val (Lb.limbs x.natAbs)*Lb.val (Lb.limbs y.natAbs))).length <= 1000000000)/\(((sgn ((decide (x < 0)) != (decide (y < 0))) (Lb.val (Lb.limbs (Lb.val (Lb.limbs x.natAbs)*Lb.val (Lb.limbs y.natAbs)))))=(x*y))/\True)))=_ by kernel_rfl) ?_;unfold szI at hp;have hL:=aC1 x.natAbs y.natAbs;refine ⟨⟨⟨(Lb.a0q _).1,(Lb.a0q _).1⟩,by omega,by omega⟩,⟨(Lb.a0q _).1,?_⟩,?_,trivial⟩
 ·rw [Lb.a0F,Lb.a0F]; omega
 ·rw [Lb.a0F,Lb.a0F,Lb.a0F];exact aXk x y
theorem aUn:CtrOK prog b2A:=yOK a3c aSs Tryz.func213 fun _ hp=>aM6 _ _ hp
def b2C:Ctr:=⟨132,spY (gI.c (gI.c r0)) (fun (x,y,_)=>szI x <= 10000000/\szI y <= 10000000) (fun (x,y,_)=>.k (.g [.I ((x+y))]))⟩
def aTT (x:Int) (y:Int):=(Lb.limbs (Lb.val (Lb.limbs x.natAbs)+Lb.val (Lb.limbs y.natAbs)))
def aTS (x:Int) (y:Int):=(Lb.limbs (Lb.val (Lb.limbs x.natAbs) - Lb.val (Lb.limbs y.natAbs)))
def aTR (y:Int) (x:Int):=(Lb.limbs (Lb.val (Lb.limbs y.natAbs) - Lb.val (Lb.limbs x.natAbs)))
theorem aNc (x y:Int) (hp:szI x <= 10000000/\szI y <= 10000000):owes LT RT5 [] f132 (bd f132) [.g [.I (x)],.g [.I (y)]] (.k (.g [.I ((x+y))])):=by
 refine Eq.mp (show ((((decide (x < 0)) == (decide (y < 0)))=true->(((Lb.Lt (Lb.limbs x.natAbs)/\Lb.Lt (Lb.limbs y.natAbs))/\(Lb.limbs x.natAbs).length <= 100000000/\(Lb.limbs y.natAbs).length <= 100000000)/\((Lb.Lt (aTT x y)/\(aTT x y).length <= 1000000000)/\(((sgn (decide (x < 0)) (Lb.val (aTT x y)))=(x+y))/\True))))/\(((decide (x < 0)) == (decide (y < 0)))=false->(((Lb.a6v (Lb.limbs x.natAbs)/\Lb.a6v (Lb.limbs y.natAbs))/\(Lb.limbs x.natAbs).length <= 1000000000/\(Lb.limbs y.natAbs).length <= 1000000000)/\(((decide ((aBi (Lb.val (Lb.limbs x.natAbs)) (Lb.val (Lb.limbs y.natAbs))) >= (0:Int)))=true->(((Lb.Lt (Lb.limbs x.natAbs)/\Lb.Lt (Lb.limbs y.natAbs))/\((Lb.limbs x.natAbs).length <= 100000000/\(Lb.limbs y.natAbs).length <= (Lb.limbs x.natAbs).length)/\Lb.val (Lb.limbs y.natAbs) <= Lb.val (Lb.limbs x.natAbs))/\((Lb.Lt (aTS x y)/\(aTS x y).length <= 1000000000)/\(((sgn (decide (x < 0)) (Lb.val (aTS x y)))=(x+y))/\True))))/\((decide ((aBi (Lb.val (Lb.limbs x.natAbs)) (Lb.val (Lb.limbs y.natAbs))) >= (0:Int)))=false->(((Lb.Lt (Lb.limbs y.natAbs)/\Lb.Lt (Lb.limbs x.natAbs))/\((Lb.limbs y.natAbs).length <= 100000000/\(Lb.limbs x.natAbs).length <= (Lb.limbs y.natAbs).length)/\Lb.val (Lb.limbs x.natAbs) <= Lb.val (Lb.limbs y.natAbs))/\((Lb.Lt (aTR y x)/\(aTR y x).length <= 1000000000)/\(((sgn (decide (y < 0)) (Lb.val (aTR y x)))=(x+y))/\True))))))))=_ by kernel_rfl) ?_;delta aTR aTS aTT;unfold szI at hp;have hA:=aC2 x.natAbs y.natAbs;have hs1:=Lb.a2n (sub_le x.natAbs y.natAbs);have hs2:=Lb.a2n (sub_le y.natAbs x.natAbs);have hN:=fun n=>Lb.a0q n;simp only [Lb.a0F];refine ⟨fun h=>⟨⟨⟨(hN _).1,(hN _).1⟩,by omega,by omega⟩,⟨(hN _).1,by omega⟩,?_,trivial⟩,fun h=>⟨⟨⟨hN _,hN _⟩,by omega,by omega⟩,fun h1=>?_,fun h1=>?_⟩⟩
 ·unfold sgn;by_cases h2:x < 0 <;> by_cases h3:y < 0 <;> simp [h2,h3] at h ⊢ <;> omega
 ·have hle:y.natAbs <= x.natAbs:=by
   rcases lt_or_ge x.natAbs y.natAbs with h' | h'
   ·rw [a8l h'] at h1; cases h1
   ·exact h'
  refine ⟨⟨⟨(hN _).1,(hN _).1⟩,⟨by omega,Lb.a2n hle⟩,hle⟩,⟨(hN _).1,by omega⟩,?_,trivial⟩;unfold sgn;by_cases h2:x < 0 <;> by_cases h3:y < 0 <;> simp [h2,h3] at h ⊢ <;> omega
 ·have hle:x.natAbs <= y.natAbs:=by
   rcases Nat.lt_trichotomy x.natAbs y.natAbs with h' | h' | h'
   ·omega
   ·rw [aAu h'] at h1; cases h1
   ·rw [a8m h'] at h1; cases h1
  refine ⟨⟨⟨(hN _).1,(hN _).1⟩,⟨by omega,Lb.a2n hle⟩,hle⟩,⟨(hN _).1,by omega⟩,?_,trivial⟩;unfold sgn;by_cases h2:x < 0 <;> by_cases h3:y < 0 <;> simp [h2,h3] at h ⊢ <;> omega
theorem aUq:CtrOK prog b2C:=yOK a3c aSs Tryz.func132 fun _ hp=>aNc _ _ hp
def RT6:List Ctr:=RT5 ++ [b2A,b2C]
theorem aWw:∀ c ∈ RT6,CtrOK prog c:=a0M aSs (a0Y aUn (a0Y aUq (a3e)))
def b2y:Ctr:=⟨131,spY (gI.c (gI.c r0)) (fun (x,y,_)=>szI x <= 10000000/\szI y <= 10000000) (fun (x,y,_)=>.k (.g [.I ((x - y))]))⟩
theorem aM3 (x y:Int) (hp:szI x <= 10000000/\szI y <= 10000000):owes LT RT6 [] f131 (bd f131) [.g [.I (x)],.g [.I (y)]] (.k (.g [.I ((x - y))])):=by
 refine Eq.mp (show ((szI y <= 10000000)/\((szI x <= 10000000/\szI (-y) <= 10000000)/\(((x+(-y))=(x - y))/\True)))=_ by kernel_rfl) ?_;obtain ⟨h1,h2⟩:=hp;refine ⟨h2,⟨h1,?_⟩,?_,trivial⟩
 ·unfold szI at *; rw [Int.natAbs_neg]; exact h2
 ·omega
theorem aUl:CtrOK prog b2y:=yOK a3c aWw Tryz.func131 fun _ hp=>aM3 _ _ hp
def RT7:List Ctr:=RT6 ++ [b2y]
theorem aSr:∀ c ∈ RT7,CtrOK prog c:=a0M aWw (a0Y aUl (a3e))
def b6v:Ctr:=⟨61,spY (gI.c (gI.c r0)) (fun (x,y,_)=>(0 < y/\x % y=0)/\(szI x <= 5000000/\szI y <= 5000000)) (fun (x,y,_)=>.t [.g [.I ((x / y))],.g [.I ((0:Int))],.c (.v (.int .i64 ((0:Int))))])⟩
def a8d (x:Int) (y:Int):=(Lb.limbs (Lb.val (Lb.limbs x.natAbs) % Lb.val (Lb.limbs y.natAbs)))
def aIn (x:Int) (y:Int):=(Lb.limbs (Lb.val (Lb.limbs x.natAbs) / Lb.val (Lb.limbs y.natAbs)))
def aFJ (x:Int) (y:Int):=(sgn ((decide (x < 0)) != (decide (y < 0))) (Lb.val (aIn x y)))
def aTQ (x:Int) (y:Int):=((((((((aFJ x y) - (1:Int))=(x / y))/\True)/\(((((sgn (decide (x < 0)) (Lb.val (a8d x y)))+y)=(0:Int))/\True)/\((Value.int .i64 (0:Int)=(.int .i64 (0:Int)))/\True)))/\True)/\True)/\True)
def aTP (x:Int) (y:Int):=(((((((aFJ x y)=(x / y))/\True)/\((((sgn (decide (x < 0)) (Lb.val (a8d x y)))=(0:Int))/\True)/\((Value.int .i64 (0:Int)=(.int .i64 (0:Int)))/\True)))/\True)/\True)/\True)
def aMw (x:Int) (y:Int):=(bif (decide (((a8d x y).length:Int) > (0:Int))) then ((decide (x < 0)) != (decide (y < 0))) else false)
theorem aRm (x y:Int) (hp:(0 < y/\x % y=0)/\(szI x <= 5000000/\szI y <= 5000000)):owes LT RT7 [] Tryz.f61 (bd Tryz.f61) [.g [.I (x)],.g [.I (y)]] (.t [.g [.I ((x / y))],.g [.I ((0:Int))],.c (.v (.int .i64 ((0:Int))))]):=by
 refine Eq.mp (show (((((Lb.limbs y.natAbs).length:Int) == (0:Int))=true->(((Value.bool false=.bool (decide ((x / y) < 0)))/\((([]:List Nat)=Lb.limbs (x / y).natAbs)/\True))/\(((Value.bool false=.bool (decide ((0:Int) < 0)))/\((([]:List Nat)=Lb.limbs (0:Int).natAbs)/\True))/\((Value.int .i64 (6:Int)=(.int .i64 (0:Int)))/\True))))/\((((Lb.limbs y.natAbs).length:Int) == (0:Int))=false->(((Lb.Lt (Lb.limbs x.natAbs)/\Lb.a6v (Lb.limbs y.natAbs))/\((Lb.limbs x.natAbs).length <= 90000000/\(Lb.limbs y.natAbs).length <= 90000000)/\Lb.val (Lb.limbs y.natAbs) ≠ 0)/\((Lb.Lt (aIn x y)/\(aIn x y).length <= 1000000000)/\((Lb.Lt (a8d x y)/\(a8d x y).length <= 1000000000)/\(((aMw x y)=true->((-9223372036854775808 <= (1:Int)/\(1:Int) <= 9223372036854775807)/\((szI (aFJ x y) <= 10000000/\szI (1:Int) <= 10000000)/\((szI (sgn (decide (x < 0)) (Lb.val (a8d x y))) <= 10000000/\szI y <= 10000000)/\(((aTQ x y)/\((aTQ x y)/\True))/\(((aTQ x y)/\True)/\True))))))/\((aMw x y)=false->(((aTP x y)/\((aTP x y)/\True))/\(((aTP x y)/\True)/\True)))))))))=_ by kernel_rfl) ?_;delta aMw aTP aTQ aFJ aIn a8d;obtain ⟨⟨hy,hxy⟩,hx5,hy5⟩:=hp;unfold szI at hx5 hy5
 have hny:y.natAbs ≠ 0:=by omega
 have hly:(Lb.limbs y.natAbs).length ≠ 0:=by rw [Lb.a2i hny]; simp
 have hN:=fun n=>Lb.a0q n;have hd:=Lb.a2n (Nat.div_le_self x.natAbs y.natAbs);have hr:x.natAbs % y.natAbs=0:=Nat.mod_eq_zero_of_dvd (Int.natAbs_dvd_natAbs.2 (Int.dvd_of_emod_eq_zero hxy));simp only [Lb.a0F,hr,Lb.a1h];refine ⟨fun h=>absurd h (by simpa using hly),fun _=>⟨⟨⟨(hN _).1,hN _⟩,⟨by omega,by omega⟩,hny⟩,⟨(hN _).1,by omega⟩,⟨Lb.a4k,by simp⟩,fun h=>?_,fun _=>?_⟩⟩
 ·exfalso;simp at h
 ·rw [aXl x y hy hxy];simp [sgn,Lb.val]
theorem aZf:CtrOK prog b6v:=yOK a3c aSr func61 fun _ hp=>aRm _ _ hp
def RT8:List Ctr:=RT7 ++ [b6v]
theorem aWv:∀ c ∈ RT8,CtrOK prog c:=a0M aSr (a0Y aZf (a3e))
def b2B:Ctr:=⟨60,spY (gI.c (gI.c r0)) (fun (x,y,_)=>szI x <= 5000000/\szI y <= 5000000) (fun (x,y,_)=>.k (.g [.I ((Int.gcd x y:Int))]))⟩
def aQh (x:Int) (y:Int):=(((x=x)/\True)/\(((y=y)/\True)/\(((Value.bool false=(.bool false))/\((([]:List Nat)=([]:List Nat))/\True))/\True)))
def aYG (x1:Nat × Nat):=(bif (decide (((Lb.limbs x1.2).length:Int) > (0:Int))) then (bif (decide (((Lb.limbs x1.1).length:Int) > (2:Int))) then true else (decide (((Lb.limbs x1.2).length:Int) > (2:Int)))) else false)
theorem aM9 (x y:Int) (hp:szI x <= 5000000/\szI y <= 5000000):owes LT RT8 [.inv 2 (Nat × Nat) (fun ξ=>⟨[.u,.u,.k (.c (.bx 0 0)),.k (.c (.bx 1 0)),.k (.c (.bx 2 0)),.k (.c (.sl ((Lb.limbs (ξ.1))))),.k (.c (.sl ((Lb.limbs (ξ.2))))),.u,.u,.u,.u,.u,.u,.u,.u,.u,.u,.u,.u,.u,.u,.u,.u,.u,.u,.u,.u,.u,.u,.u,.u,.u,.u,.u,.u,.u,.u,.u,.u,.u,.u,.u,.u,.u,.u,.u,.u,.u,.u,.u,.u,.u,.u,.u],[⟨33,[.I (x)]⟩,⟨33,[.I (y)]⟩,⟨33,[.v (.bool (false)),.sl (([]:List Nat))]⟩]⟩) (fun _ ξ=>(Nat.gcd ξ.1 ξ.2=Int.gcd x y/\(Lb.limbs ξ.1).length <= 5000000/\(Lb.limbs ξ.2).length <= 5000000)) (fun ξ=>ξ.2),.inv 8 (Nat × Nat) (fun ξ=>⟨[.u,.u,.u,.u,.k (.c (.bx 2 0)),.u,.u,.u,.u,.k (.c (.v (.int .u64 ((ξ.1:Int))))),.k (.c (.v (.int .u64 ((ξ.2:Int))))),.u,.u,.u,.u,.u,.u,.u,.u,.u,.u,.u,.u,.u,.u,.u,.u,.u,.u,.u,.u,.u,.u,.u,.u,.u,.u,.u,.u,.u,.u,.u,.u,.u,.u,.u,.u,.u,.u,.u,.u,.u,.u,.u],[⟨33,[.I (x)]⟩,⟨33,[.I (y)]⟩,⟨33,[.v (.bool (false)),.sl (([]:List Nat))]⟩]⟩) (fun _ ξ=>(Nat.gcd ξ.1 ξ.2=Int.gcd x y/\ξ.1 < 18446744073709551616/\ξ.2 < 18446744073709551616)) (fun ξ=>ξ.2)] Tryz.f60 (bd Tryz.f60) [.g [.I (x)],.g [.I (y)]] (.k (.g [.I ((Int.gcd x y:Int))])):=by
 refine Eq.mp (show ((∃ x1:Nat × Nat,((Nat.gcd x1.1 x1.2=Int.gcd x y/\(Lb.limbs x1.1).length <= 5000000/\(Lb.limbs x1.2).length <= 5000000)/\((True/\(True/\(True/\((Lb.limbs x.natAbs=(Lb.limbs x1.1))/\((Lb.limbs y.natAbs=(Lb.limbs x1.2))/\True)))))/\(aQh x y))))/\(∀ x1:Nat × Nat,((Nat.gcd x1.1 x1.2=Int.gcd x y/\(Lb.limbs x1.1).length <= 5000000/\(Lb.limbs x1.2).length <= 5000000)->(((aYG x1)=true->(((Lb.Lt (Lb.limbs x1.1)/\Lb.a6v (Lb.limbs x1.2))/\((Lb.limbs x1.1).length <= 90000000/\(Lb.limbs x1.2).length <= 90000000)/\Lb.val (Lb.limbs x1.2) ≠ 0)/\(∃ y1:Nat × Nat,((Nat.gcd y1.1 y1.2=Int.gcd x y/\(Lb.limbs y1.1).length <= 5000000/\(Lb.limbs y1.2).length <= 5000000)/\((y1.2 < x1.2)/\((True/\(True/\(True/\(((Lb.limbs x1.2)=(Lb.limbs y1.1))/\(((Lb.limbs (Lb.val (Lb.limbs x1.1) % Lb.val (Lb.limbs x1.2)))=(Lb.limbs y1.2))/\True)))))/\(aQh x y)))))))/\((aYG x1)=false->(((((Lb.limbs x1.2).length:Int) == (0:Int))=true->((Lb.Lt (Lb.limbs x1.1)/\(Lb.limbs x1.1).length <= 1000000000)/\(((sgn false (Lb.val (Lb.limbs x1.1)))=(Int.gcd x y:Int))/\True)))/\((((Lb.limbs x1.2).length:Int) == (0:Int))=false->((Lb.Lt (Lb.limbs x1.1)/\(Lb.limbs x1.1).length <= 2)/\((Lb.Lt (Lb.limbs x1.2)/\(Lb.limbs x1.2).length <= 2)/\((∃ x2:Nat × Nat,((Nat.gcd x2.1 x2.2=Int.gcd x y/\x2.1 < 18446744073709551616/\x2.2 < 18446744073709551616)/\((True/\((Value.int .u64 (Lb.val (Lb.limbs x1.1):Int)=(.int .u64 (x2.1:Int)))/\((Value.int .u64 (Lb.val (Lb.limbs x1.2):Int)=(.int .u64 (x2.2:Int)))/\True)))/\(aQh x y))))/\(∀ x2:Nat × Nat,((Nat.gcd x2.1 x2.2=Int.gcd x y/\x2.1 < 18446744073709551616/\x2.2 < 18446744073709551616)->(((decide ((x2.2:Int) > (0:Int)))=true->((0 <= (x2.1:Int)/\0 < (x2.2:Int))/\(∃ y2:Nat × Nat,((Nat.gcd y2.1 y2.2=Int.gcd x y/\y2.1 < 18446744073709551616/\y2.2 < 18446744073709551616)/\((y2.2 < x2.2)/\((True/\((Value.int .u64 (x2.2:Int)=(.int .u64 (y2.1:Int)))/\((Value.int .u64 ((x2.1:Int) % (x2.2:Int))=(.int .u64 (y2.2:Int)))/\True)))/\(aQh x y)))))))/\((decide ((x2.2:Int) > (0:Int)))=false->((0 <= (x2.1:Int)/\(x2.1:Int) < 18446744073709551616)/\((Lb.Lt (Lb.limbs (x2.1:Int).toNat)/\(Lb.limbs (x2.1:Int).toNat).length <= 1000000000)/\(((sgn false (Lb.val (Lb.limbs (x2.1:Int).toNat)))=(Int.gcd x y:Int))/\True)))))))))))))))))=_ by kernel_rfl) ?_;delta aYG aQh;obtain ⟨hx5,hy5⟩:=hp;have hgcd:Int.gcd x y=Nat.gcd x.natAbs y.natAbs:=rfl
 generalize hg:Int.gcd x y=g at *
 have sgn0:∀ n:Nat,sgn false n=(n:Int):=fun n=>by simp [sgn]
 have hN:=fun n=>Lb.a0q n;unfold szI at hx5 hy5;simp only [Lb.a0F,sgn0]
 have hpos:∀ n:Nat,n ≠ 0->0 < (Lb.limbs n).length:=fun n hn=>by rw [Lb.a2i hn]; simp
 refine ⟨⟨(x.natAbs,y.natAbs),⟨hgcd.symm,hx5,hy5⟩,by simp,by simp⟩,?_⟩;rintro ⟨a,b⟩ ⟨hab,ha,hb⟩
 simp only at *
 refine ⟨fun h0=>?_,fun h0=>⟨fun h1=>?_,fun h1=>?_⟩⟩
 ·have hb0:b ≠ 0:=by rintro rfl; simp [Lb.a1h] at h0
  have hlt:=mod_lt a (show 0 < b by omega);refine ⟨⟨⟨(hN _).1,hN _⟩,⟨by omega,by omega⟩,hb0⟩,(b,a % b),⟨?_,hb,?_⟩,hlt,by simp,by simp⟩
  ·rw [<- hab,gcd_comm a b,Nat.gcd_rec b a,gcd_comm]
  ·exact le_trans (Lb.a2n (by omega)) hb
 ·have hb0:b=0:=by
   rcases Nat.eq_zero_or_pos b with h | h
   ·exact h
   ·have:=hpos b (by omega)
    have h2:((Lb.limbs b).length:Int)=0:=by simpa using h1
    omega
  subst hb0;rw [Nat.gcd_zero_right] at hab;exact ⟨⟨(hN _).1,by omega⟩,by rw [hab],trivial⟩
 ·have hb0:b ≠ 0:=by rintro rfl; simp [Lb.a1h] at h1
  have hb1:=hpos b hb0
  have hd:decide (((Lb.limbs b).length:Int) > 0)=true:=by simp; omega
  rw [hd] at h0
  have ha2:(Lb.limbs a).length <= 2:=by
   rcases lt_or_ge 2 (Lb.limbs a).length with h | h
   ·have h3:decide (((Lb.limbs a).length:Int) > 2)=true:=by simp; omega
    rw [h3] at h0; cases h0
   ·exact h
  have hb2:(Lb.limbs b).length <= 2:=by
   rcases lt_or_ge 2 (Lb.limbs b).length with h | h
   ·have h3:decide (((Lb.limbs b).length:Int) > 2)=true:=by simp; omega
    rw [h3] at h0;cases h4:decide (((Lb.limbs a).length:Int) > 2) <;> rw [h4] at h0 <;> cases h0
   ·exact h
  have k2:∀ n,(Lb.limbs n).length <= 2->n < 18446744073709551616:=fun n hn=>by
   have h1:=Lb.a07 n;have h2:Lb.B ^ (Lb.limbs n).length <= Lb.B ^ 2:=pow_le_pow_right Lb.a3w hn;have h3:Lb.B ^ 2=1000000000000000000:=rfl;omega
  refine ⟨⟨(hN _).1,ha2⟩,⟨(hN _).1,hb2⟩,⟨(a,b),⟨hab,k2 _ ha2,k2 _ hb2⟩,by simp,by simp⟩,?_⟩;rintro ⟨u,v⟩ ⟨huv,hu,hv⟩
  simp only at *
  refine ⟨fun h2=>?_,fun h2=>?_⟩
  ·have hv0:0 < v:=by have:=of_decide_eq_true h2; omega
   have hlt:=mod_lt u hv0;refine ⟨⟨by omega,by omega⟩,(v,u % v),⟨?_,hv,by simp only; omega⟩,hlt,by simp,by simp⟩;rw [<- huv,gcd_comm u v,Nat.gcd_rec v u,gcd_comm]
  ·have hv0:v=0:=by have:=of_decide_eq_false h2; omega
   subst hv0;rw [Nat.gcd_zero_right] at huv;subst huv;rw [Int.toNat_natCast]
   have hl:=Lb.a08 (n:=u) (k:=3) (by
    have:Lb.B ^ 3=1000000000000000000000000000:=rfl
    omega)
   exact ⟨⟨by omega,by omega⟩,⟨(hN _).1,by omega⟩,rfl,trivial⟩
theorem aUo:CtrOK prog b2B:=yOK a3c aWv Tryz.func60 fun _ hp=>aM9 _ _ hp
def RT9:List Ctr:=RT8 ++ [b2B]
theorem aL2:∀ c ∈ RT9,CtrOK prog c:=a0M aWv (a0Y aUo (a3e))
theorem aPf (n d:Int) (hd:0 < d) (h1:szI n <= 5000000) (h2:szI d <= 5000000) :
    ((0 < ((Int.gcd n d:Nat):Int)/\n % ((Int.gcd n d:Nat):Int)=0)/\szI n <= 5000000/\szI ((Int.gcd n d:Nat):Int) <= 5000000) /\
    ((0 < ((Int.gcd n d:Nat):Int)/\d % ((Int.gcd n d:Nat):Int)=0)/\szI d <= 5000000/\szI ((Int.gcd n d:Nat):Int) <= 5000000) /\
    n / ((Int.gcd n d:Nat):Int)=(Rat.divInt n d).num/\d / ((Int.gcd n d:Nat):Int)=((Rat.divInt n d).den:Int):=by
 have hg:0 < Int.gcd n d:=Int.gcd_pos_of_ne_zero_right _ (by omega);have hgd:szI ((Int.gcd n d:Nat):Int) <= szI d:=a2W (by rw [Int.natAbs_natCast]; exact Nat.le_of_dvd (by omega) (Nat.gcd_dvd_right n.natAbs d.natAbs));have d1:n % ((Int.gcd n d:Nat):Int)=0:=Int.emod_eq_zero_of_dvd (Int.gcd_dvd_left ..);have d2:d % ((Int.gcd n d:Nat):Int)=0:=Int.emod_eq_zero_of_dvd (Int.gcd_dvd_right ..);exact ⟨⟨⟨by omega,d1⟩,h1,by omega⟩,⟨⟨by omega,d2⟩,h2,by omega⟩,(Rt.aHU hd).symm,(Rt.aHV hd).symm⟩
def aVN:Ctr:=⟨122,spY r0 (fun _=>True) (fun _=>.k (.g [.I ((1:Int))]))⟩
theorem aIF :owes LT RT9 [] f122 (bd f122) [] (.k (.g [.I ((1:Int))])):=by
 refine Eq.mp (show ((-9223372036854775808 <= (1:Int)/\(1:Int) <= 9223372036854775807)/\(((1:Int)=(1:Int))/\True))=_ by kernel_rfl) ?_;simp
theorem aQ6:CtrOK prog aVN:=yOK a3c aL2 Tryz.func122 fun _ _=>aIF
def b6t:Ctr:=⟨24,spY (gI.c (gI.c r0)) (fun (n,d,_)=>d ≠ 0/\szI n <= 5000000/\szI d <= 5000000) (fun (n,d,_)=>.k (.g [.R ((Rat.divInt n d))]))⟩
def aDa (n:Int) (d:Int):=((Int.gcd (-n) (-d):Nat):Int)
def aC9 (n:Int) (d:Int):=((Int.gcd n d:Nat):Int)
theorem aRb (n d:Int) (hp:d ≠ 0/\szI n <= 5000000/\szI d <= 5000000):owes LT RT9 [] Tryz.f24 (bd Tryz.f24) [.g [.I (n)],.g [.I (d)]] (.k (.g [.R ((Rat.divInt n d))])):=by
 refine Eq.mp (show (True/\(((decide (d.sign < (0:Int)))=true->((szI n <= 10000000)/\((szI d <= 10000000)/\((szI (-n) <= 5000000/\szI (-d) <= 5000000)/\(((0 < (aDa n d)/\(-n) % (aDa n d)=0)/\(szI (-n) <= 5000000/\szI (aDa n d) <= 5000000))/\(((0 < (aDa n d)/\(-d) % (aDa n d)=0)/\(szI (-d) <= 5000000/\szI (aDa n d) <= 5000000))/\((((-n) / (aDa n d))=(Rat.divInt n d).num)/\((((-d) / (aDa n d))=((Rat.divInt n d).den:Int))/\True))))))))/\((decide (d.sign < (0:Int)))=false->((szI n <= 5000000/\szI d <= 5000000)/\(((0 < (aC9 n d)/\n % (aC9 n d)=0)/\(szI n <= 5000000/\szI (aC9 n d) <= 5000000))/\(((0 < (aC9 n d)/\d % (aC9 n d)=0)/\(szI d <= 5000000/\szI (aC9 n d) <= 5000000))/\(((n / (aC9 n d))=(Rat.divInt n d).num)/\(((d / (aC9 n d))=((Rat.divInt n d).den:Int))/\True))))))))=_ by kernel_rfl) ?_;delta aC9 aDa;obtain ⟨h0,h1,h2⟩:=hp
 have sg1:d.sign < 0 ↔ d < 0:=by rw [Int.sign_neg_iff]
 refine ⟨trivial,fun h=>?_,fun h=>?_⟩
 ·have hd:d < 0:=sg1.1 (of_decide_eq_true h);obtain ⟨k1,k2,k3,k4⟩:=aPf (-n) (-d) (by omega) (le_trans (a4T n) h1) (le_trans (a4T d) h2);rw [Rt.aOO] at k3 k4;exact ⟨by omega,by omega,⟨le_trans (a4T n) h1,le_trans (a4T d) h2⟩,k1,k2,k3,k4,trivial⟩
 ·have hd:¬ d < 0:=fun c=>(of_decide_eq_false h) (sg1.2 c)
  obtain ⟨k1,k2,k3,k4⟩:=aPf n d (by omega) h1 h2;exact ⟨⟨h1,h2⟩,k1,k2,k3,k4,trivial⟩
theorem aY9:CtrOK prog b6t:=yOK a3c aL2 Tryz.func24 fun _ hp=>aRb _ _ hp
def aQ9:Ctr:=⟨26,spY (gR.c r0) (fun _=>True) (fun (p,_)=>.k (.c (.v (.int .i64 ((Rt.sg p))))))⟩
theorem aIG (p:Rat):owes LT RT9 [] Tryz.f26 (bd Tryz.f26) [.g [.R (p)]] (.k (.c (.v (.int .i64 ((Rt.sg p)))))):=by
 refine Eq.mp (show (True/\(Value.int .i64 p.num.sign=(.int .i64 (Rt.sg p))))=_ by kernel_rfl) ?_;simp [Rt.sg]
theorem aF9:CtrOK prog aQ9:=yOK a3c aL2 Tryz.func26 fun _ _=>aIG _
def ST0:List Ctr:=RT9 ++ [aVN,b6t,aQ9]
theorem aHm:∀ c ∈ ST0,CtrOK prog c:=a0M aL2 (a0Y aQ6 (a0Y aY9 (a0Y aF9 (a3e))))
def aZa:Ctr:=⟨334,spY (gR.c r0) (fun (p,_)=>szR p <= 5000000) (fun (p,_)=>.k (.g [.R ((-p))]))⟩
theorem aMW (p:Rat) (hp:szR p <= 5000000):owes LT ST0 [] f334 (bd f334) [.g [.R (p)]] (.k (.g [.R ((-p))])):=by
 refine Eq.mp (show ((szI p.num <= 10000000)/\(((-p.num)=(-p).num)/\(((p.den:Int)=((-p).den:Int))/\True)))=_ by kernel_rfl) ?_;have a1:=a2b p;refine ⟨by omega,?_⟩;simp
theorem aLr:CtrOK prog aZa:=yOK a3c aHm Tryz.func334 fun _ hp=>aMW _ hp
def aVQ:Ctr:=⟨54,spY (rI.c r0) (fun (n,_)=>-9223372036854775808 <= n/\n <= 9223372036854775807) (fun (n,_)=>.k (.g [.R ((n:Rat))]))⟩
theorem aIJ (n:Int) (hp:-9223372036854775808 <= n/\n <= 9223372036854775807):owes LT ST0 [] Tryz.f54 (bd Tryz.f54) [.c (.v (.int .i64 (n)))] (.k (.g [.R ((n:Rat))])):=by
 refine Eq.mp (show ((-9223372036854775808 <= n/\n <= 9223372036854775807)/\(True/\((n=(n:Rat).num)/\(((1:Int)=((n:Rat).den:Int))/\True))))=_ by kernel_rfl) ?_;refine ⟨hp,?_⟩;simp
theorem aRd:CtrOK prog aVQ:=yOK a3c aHm Tryz.func54 fun _ hp=>aIJ _ hp
def aZd:Ctr:=⟨332,spY (gR.c (gR.c r0)) (fun (p,q,_)=>szR p <= 1000000/\szR q <= 1000000) (fun (p,q,_)=>.k (.g [.R ((p+q))]))⟩
theorem aM0 (p q:Rat) (hp:szR p <= 1000000/\szR q <= 1000000):owes LT ST0 [] f332 (bd f332) [.g [.R (p)],.g [.R (q)]] (.k (.g [.R ((p+q))])):=by
 refine Eq.mp (show ((szI p.num <= 10000000/\szI (q.den:Int) <= 10000000)/\((szI q.num <= 10000000/\szI (p.den:Int) <= 10000000)/\((szI (p.num*(q.den:Int)) <= 10000000/\szI (q.num*(p.den:Int)) <= 10000000)/\((szI (p.den:Int) <= 10000000/\szI (q.den:Int) <= 10000000)/\((((p.den:Int)*(q.den:Int)) ≠ 0/\szI ((p.num*(q.den:Int))+(q.num*(p.den:Int))) <= 5000000/\szI ((p.den:Int)*(q.den:Int)) <= 5000000)/\(((Rat.divInt ((p.num*(q.den:Int))+(q.num*(p.den:Int))) ((p.den:Int)*(q.den:Int)))=(p+q))/\True))))))=_ by kernel_rfl) ?_;obtain ⟨hp,hq⟩:=hp;have a1:=a2b p; have a2:=a2o p; have a3:=a2b q; have a4:=a2o q;have m1:=a1P p.num q.den; have m2:=a1P q.num p.den; have m3:=a1P p.den q.den;have m5:=aJ8 (p.num*q.den) (q.num*p.den);exact ⟨⟨by omega,by omega⟩,⟨by omega,by omega⟩,⟨by omega,by omega⟩,⟨by omega,by omega⟩,⟨mul_ne_zero (a7t p) (a7t q),by omega,by omega⟩,Rt.aWd p q,trivial⟩
theorem aLv:CtrOK prog aZd:=yOK a3c aHm Tryz.func332 fun _ hp=>aM0 _ _ hp
def aZb:Ctr:=⟨331,spY (gR.c (gR.c r0)) (fun (p,q,_)=>szR p <= 1000000/\szR q <= 1000000) (fun (p,q,_)=>.k (.g [.R ((p*q))]))⟩
theorem aMX (p q:Rat) (hp:szR p <= 1000000/\szR q <= 1000000):owes LT ST0 [] f331 (bd f331) [.g [.R (p)],.g [.R (q)]] (.k (.g [.R ((p*q))])):=by
 refine Eq.mp (show ((szI p.num <= 10000000/\szI q.num <= 10000000)/\((szI (p.den:Int) <= 10000000/\szI (q.den:Int) <= 10000000)/\((((p.den:Int)*(q.den:Int)) ≠ 0/\szI (p.num*q.num) <= 5000000/\szI ((p.den:Int)*(q.den:Int)) <= 5000000)/\(((Rat.divInt (p.num*q.num) ((p.den:Int)*(q.den:Int)))=(p*q))/\True))))=_ by kernel_rfl) ?_;obtain ⟨hp,hq⟩:=hp;have a1:=a2b p; have a2:=a2o p; have a3:=a2b q; have a4:=a2o q;have m1:=a1P p.num q.num; have m3:=a1P p.den q.den;exact ⟨⟨by omega,by omega⟩,⟨by omega,by omega⟩,⟨mul_ne_zero (a7t p) (a7t q),by omega,by omega⟩,Rt.aPm p q,trivial⟩
theorem aLs:CtrOK prog aZb:=yOK a3c aHm Tryz.func331 fun _ hp=>aMX _ _ hp
def ST1:List Ctr:=ST0 ++ [aZa,aVQ,aZd,aZb]
theorem aSq:∀ c ∈ ST1,CtrOK prog c:=a0M aHm (a0Y aLr (a0Y aRd (a0Y aLv (a0Y aLs (a3e)))))
def aY8:Ctr:=⟨333,spY (gR.c (gR.c r0)) (fun (p,q,_)=>szR p <= 1000000/\szR q <= 1000000) (fun (p,q,_)=>.k (.g [.R ((p - q))]))⟩
theorem aMT (p q:Rat) (hp:szR p <= 1000000/\szR q <= 1000000):owes LT ST1 [] f333 (bd f333) [.g [.R (p)],.g [.R (q)]] (.k (.g [.R ((p - q))])):=by
 refine Eq.mp (show ((szR q <= 5000000)/\((szR p <= 1000000/\szR (-q) <= 1000000)/\(((p+(-q))=(p - q))/\True)))=_ by kernel_rfl) ?_;obtain ⟨hp,hq⟩:=hp;exact ⟨by omega,⟨hp,le_trans (a1Y q) hq⟩,(Rat.sub_eq_add_neg p q).symm,trivial⟩
theorem aLq:CtrOK prog aY8:=yOK a3c aSq Tryz.func333 fun _ hp=>aMT _ _ hp
def aQ4:Ctr:=⟨36,spY (rI.c (rI.c r0)) (fun (m,n,_)=>(-9223372036854775808 <= m/\m <= 9223372036854775807)/\-9223372036854775808 <= n/\n <= 9223372036854775807) (fun (m,n,_)=>.k (.g [.R ((m:Rat)),.R ((n:Rat))]))⟩
theorem aF5 (m n:Int) (hp:(-9223372036854775808 <= m/\m <= 9223372036854775807)/\-9223372036854775808 <= n/\n <= 9223372036854775807):owes LT ST1 [] Tryz.f36 (bd Tryz.f36) [.c (.v (.int .i64 (m))),.c (.v (.int .i64 (n)))] (.k (.g [.R ((m:Rat)),.R ((n:Rat))])):=by
 refine Eq.mp (show ((-9223372036854775808 <= m/\m <= 9223372036854775807)/\((-9223372036854775808 <= n/\n <= 9223372036854775807)/\(((m:Rat)=(m:Rat))/\(((n:Rat)=(n:Rat))/\True))))=_ by kernel_rfl) ?_;exact ⟨hp.1,hp.2,rfl,rfl,trivial⟩
theorem aMR:CtrOK prog aQ4:=yOK a3c aSq Tryz.func36 fun _ hp=>aF5 _ _ hp
def ST2:List Ctr:=ST1 ++ [aY8,aQ4]
theorem b3h:∀ c ∈ ST2,CtrOK prog c:=a0M aSq (a0Y aLq (a0Y aMR (a3e)))
def ST3:List Ctr:=ST2
theorem b3g:∀ c ∈ ST3,CtrOK prog c:=b3h
def ST4:List Ctr:=ST3
theorem aWu:∀ c ∈ ST4,CtrOK prog c:=b3g
theorem aF1 (a b:Nat):aBi a b=((a:Int) - b).sign:=by
 rcases Nat.lt_trichotomy a b with h | h | h
 ·rw [a8l h,Int.sign_eq_neg_one_of_neg (by omega)]
 ·rw [aAu h,h,Int.sub_self]; rfl
 ·rw [a8m h,Int.sign_eq_one_of_pos (by omega)]
def aRn:Ctr:=⟨212,spY (gI.c (gI.c r0)) (fun (x,y,_)=>szI x <= 10000000/\szI y <= 10000000) (fun (x,y,_)=>.k (.c (.v (.int .i64 ((x - y).sign)))))⟩
theorem aGc (x y:Int) (hp:szI x <= 10000000/\szI y <= 10000000):owes LT ST4 [] f212 (bd f212) [.g [.I (x)],.g [.I (y)]] (.k (.c (.v (.int .i64 ((x - y).sign))))):=by
 refine Eq.mp (show ((((decide (x < 0)) != (decide (y < 0)))=true->(((decide (x < 0))=true->(Value.int .i64 (-1:Int)=(.int .i64 ((x - y).sign))))/\((decide (x < 0))=false->(Value.int .i64 (1:Int)=(.int .i64 ((x - y).sign))))))/\(((decide (x < 0)) != (decide (y < 0)))=false->(((decide (x < 0))=true->(((Lb.a6v (Lb.limbs y.natAbs)/\Lb.a6v (Lb.limbs x.natAbs))/\(Lb.limbs y.natAbs).length <= 1000000000/\(Lb.limbs x.natAbs).length <= 1000000000)/\(Value.int .i64 (aBi (Lb.val (Lb.limbs y.natAbs)) (Lb.val (Lb.limbs x.natAbs)))=(.int .i64 ((x - y).sign)))))/\((decide (x < 0))=false->(((Lb.a6v (Lb.limbs x.natAbs)/\Lb.a6v (Lb.limbs y.natAbs))/\(Lb.limbs x.natAbs).length <= 1000000000/\(Lb.limbs y.natAbs).length <= 1000000000)/\(Value.int .i64 (aBi (Lb.val (Lb.limbs x.natAbs)) (Lb.val (Lb.limbs y.natAbs)))=(.int .i64 ((x - y).sign))))))))=_ by kernel_rfl) ?_;unfold szI at hp;obtain ⟨h1,h2⟩:=hp;have hN:=fun n=>Lb.a0q n;simp only [Lb.a0F];refine ⟨fun h=>⟨fun h3=>?_,fun h3=>?_⟩,fun h=>⟨fun h3=>⟨⟨⟨hN _,hN _⟩,by omega,by omega⟩,?_⟩,fun h3=>⟨⟨⟨hN _,hN _⟩,by omega,by omega⟩,?_⟩⟩⟩
 ·have h4:x < 0:=of_decide_eq_true h3
  have h5:¬ y < 0:=by intro c; simp [h4,c] at h
  rw [Int.sign_eq_neg_one_of_neg (by omega)]
 ·have h4:¬ x < 0:=of_decide_eq_false h3
  have h5:y < 0:=by
   rcases lt_or_le y 0 with c | c
   ·exact c
   ·have c':¬ y < 0:=by omega
    simp [h4,c'] at h
  rw [Int.sign_eq_one_of_pos (by omega)]
 ·have h4:x < 0:=of_decide_eq_true h3
  have h5:y < 0:=by
   rcases lt_or_le y 0 with c | c
   ·exact c
   ·have c':¬ y < 0:=by omega
    simp [h4,c'] at h
  rw [aF1];congr 2;omega
 ·have h4:¬ x < 0:=of_decide_eq_false h3
  have h5:¬ y < 0:=by intro c; simp [h4,c] at h
  rw [aF1];congr 2;omega
theorem aNb:CtrOK prog aRn:=yOK a3c aWu Tryz.func212 fun _ hp=>aGc _ _ hp
def XT0:List Ctr:=ST4 ++ [aRn]
theorem aWi:∀ c ∈ XT0,CtrOK prog c:=a0M aWu (a0Y aNb (a3e))
def aUk:Ctr:=⟨121,spY (gR.c (gR.c r0)) (fun (p,q,_)=>szR p <= 1000000/\szR q <= 1000000) (fun (p,q,_)=>.k (.c (.v (.int .i64 ((Rt.sg (p - q)))))))⟩
theorem aMZ (p q:Rat) (hp:szR p <= 1000000/\szR q <= 1000000):owes LT XT0 [] f121 (bd f121) [.g [.R (p)],.g [.R (q)]] (.k (.c (.v (.int .i64 ((Rt.sg (p - q))))))):=by
 refine Eq.mp (show ((szI p.num <= 10000000/\szI (q.den:Int) <= 10000000)/\((szI q.num <= 10000000/\szI (p.den:Int) <= 10000000)/\((szI (p.num*(q.den:Int)) <= 10000000/\szI (q.num*(p.den:Int)) <= 10000000)/\(Value.int .i64 (((p.num*(q.den:Int)) - (q.num*(p.den:Int))).sign)=(.int .i64 (Rt.sg (p - q)))))))=_ by kernel_rfl) ?_;obtain ⟨hp,hq⟩:=hp;have a1:=a2b p; have a2:=a2o p; have a3:=a2b q; have a4:=a2o q;have m1:=a1P p.num q.den; have m3:=a1P q.num p.den;exact ⟨⟨by omega,by omega⟩,⟨by omega,by omega⟩,⟨by omega,by omega⟩,by rw [Rt.aTg]⟩
theorem aLu:CtrOK prog aUk:=yOK a3c aWi Tryz.func121 fun _ hp=>aMZ _ _ hp
def b6u:Ctr:=⟨61,spY (gI.c (gI.c r0)) (fun (x,y,_)=>(0 <= x/\0 < y)/\(szI x <= 5000000/\szI y <= 5000000)) (fun (x,y,_)=>.t [.g [.I ((x / y))],.g [.I ((x % y))],.c (.v (.int .i64 ((0:Int))))])⟩
def aTO (x:Int) (y:Int):=((((((((aFJ x y) - (1:Int))=(x / y))/\True)/\(((((sgn (decide (x < 0)) (Lb.val (a8d x y)))+y)=(x % y))/\True)/\((Value.int .i64 (0:Int)=(.int .i64 (0:Int)))/\True)))/\True)/\True)/\True)
def aTN (x:Int) (y:Int):=(((((((aFJ x y)=(x / y))/\True)/\((((sgn (decide (x < 0)) (Lb.val (a8d x y)))=(x % y))/\True)/\((Value.int .i64 (0:Int)=(.int .i64 (0:Int)))/\True)))/\True)/\True)/\True)
theorem aRl (x y:Int) (hp:(0 <= x/\0 < y)/\(szI x <= 5000000/\szI y <= 5000000)):owes LT RT7 [] Tryz.f61 (bd Tryz.f61) [.g [.I (x)],.g [.I (y)]] (.t [.g [.I ((x / y))],.g [.I ((x % y))],.c (.v (.int .i64 ((0:Int))))]):=by
 refine Eq.mp (show (((((Lb.limbs y.natAbs).length:Int) == (0:Int))=true->(((Value.bool false=.bool (decide ((x / y) < 0)))/\((([]:List Nat)=Lb.limbs (x / y).natAbs)/\True))/\(((Value.bool false=.bool (decide ((x % y) < 0)))/\((([]:List Nat)=Lb.limbs (x % y).natAbs)/\True))/\((Value.int .i64 (6:Int)=(.int .i64 (0:Int)))/\True))))/\((((Lb.limbs y.natAbs).length:Int) == (0:Int))=false->(((Lb.Lt (Lb.limbs x.natAbs)/\Lb.a6v (Lb.limbs y.natAbs))/\((Lb.limbs x.natAbs).length <= 90000000/\(Lb.limbs y.natAbs).length <= 90000000)/\Lb.val (Lb.limbs y.natAbs) ≠ 0)/\((Lb.Lt (aIn x y)/\(aIn x y).length <= 1000000000)/\((Lb.Lt (a8d x y)/\(a8d x y).length <= 1000000000)/\(((aMw x y)=true->((-9223372036854775808 <= (1:Int)/\(1:Int) <= 9223372036854775807)/\((szI (aFJ x y) <= 10000000/\szI (1:Int) <= 10000000)/\((szI (sgn (decide (x < 0)) (Lb.val (a8d x y))) <= 10000000/\szI y <= 10000000)/\(((aTO x y)/\((aTO x y)/\True))/\(((aTO x y)/\True)/\True))))))/\((aMw x y)=false->(((aTN x y)/\((aTN x y)/\True))/\(((aTN x y)/\True)/\True)))))))))=_ by kernel_rfl) ?_;delta aMw aTN aTO aFJ aIn a8d;obtain ⟨⟨hx,hy⟩,hx5,hy5⟩:=hp;obtain ⟨a,rfl⟩:=Int.eq_ofNat_of_zero_le hx;obtain ⟨b,rfl⟩:=Int.eq_ofNat_of_zero_le (le_of_lt hy);unfold szI at hx5 hy5
 simp only [Int.natAbs_natCast] at *
 have dx:decide (((a:Nat):Int) < 0)=false:=decide_eq_false (by omega);have dy:decide (((b:Nat):Int) < 0)=false:=decide_eq_false (by omega)
 have hny:b ≠ 0:=by omega
 have hly:(Lb.limbs b).length ≠ 0:=by rw [Lb.a2i hny]; simp
 have s0:∀ n:Nat,sgn false n=(n:Int):=fun n=>by simp [sgn]
 have hd:=Lb.a2n (Nat.div_le_self a b);have hm:=Lb.a2n (Nat.mod_le a b);simp only [Lb.a0F];rw [dx,dy];refine ⟨fun h=>absurd h (by simpa using hly),fun _=>⟨⟨⟨(Lb.a0q _).1,Lb.a0q _⟩,⟨by omega,by omega⟩,hny⟩,⟨(Lb.a0q _).1,by omega⟩,⟨(Lb.a0q _).1,by omega⟩,fun h=>?_,fun _=>?_⟩⟩
 ·exfalso;revert h;cases decide ((((Lb.limbs (a % b)).length:Int)) > ((0:Int))) <;> simp
 ·have e0:(false != false)=false:=rfl;rw [e0];simp only [s0];rw [Int.natCast_ediv,Int.natCast_emod];simp only [and_self]
theorem aZe:CtrOK prog b6u:=yOK a3c aSr func61 fun _ hp=>aRl _ _ hp
end Vc
end Go.Proofs.YtbohkigffejhoaaGreat
namespace Go.Proofs.YtbohkigffejhoaaGreat
open Go.RowKit
def isq:Nat->Nat
 | 0=>0
 | n+1=>if (isq n+1)*(isq n+1) <= n+1 then isq n+1 else isq n
theorem a7o:∀ n,isq n*isq n <= n/\n < (isq n+1)*(isq n+1)
 | 0=>by decide
 | n+1=>by
   obtain ⟨h1,h2⟩:=a7o n;rw [isq];split
   ·rename_i h;refine ⟨h,?_⟩
    have:(isq n+1+1)*(isq n+1+1)=(isq n+1)*(isq n+1)+2*(isq n+1)+1:=by grind
    omega
   ·exact ⟨by omega,by omega⟩
theorem aCb {n r:Nat} (h1:r*r <= n) (h2:n < (r+1)*(r+1)):isq n=r:=by
 obtain ⟨h3,h4⟩:=a7o n;rcases Nat.lt_trichotomy (isq n) r with h | h | h
 ·have:(isq n+1)*(isq n+1) <= r*r:=Nat.mul_le_mul h h;omega
 ·exact h
 ·have:(r+1)*(r+1) <= isq n*isq n:=Nat.mul_le_mul h h;omega
theorem b1u {z x:Int} (hx:1 <= x) (hz:0 <= z):z < ((x+z / x) / 2+1)*((x+z / x) / 2+1):=by
 have h1:=Int.mul_ediv_add_emod z x;have h2:=Int.emod_lt_of_pos z (show 0 < x by omega);have h3:=Int.emod_nonneg z (show x ≠ 0 by omega);have h4:0 <= z / x:=Int.ediv_nonneg hz (by omega)
 generalize z / x=q at *
 generalize z % x=r at *
 have h5:x+q <= 2*((x+q) / 2)+1:=by omega
 generalize (x+q) / 2=n at *
 have h6:z < x*(q+1):=by rw [Int.mul_add]; omega
 have h7:x+(q+1) <= 2*(n+1):=by omega
 have hs:1 <= q+1:=by omega
 generalize q+1=s at *
 generalize n+1=m at *
 have h8:4*(x*s) <= (x+s)*(x+s):=by
  have:0 <= (x - s)*(x - s):=by
   rcases Int.le_total 0 (x - s) with h | h
   ·exact mul_nonneg h h
   ·have:=mul_nonneg (show 0 <= -(x - s) by omega) (show 0 <= -(x - s) by omega);rwa [Int.neg_mul_neg] at this
  grind
 have h9:(x+s)*(x+s) <= 2*m*(2*m):=Int.mul_le_mul h7 h7 (by omega) (by omega)
 have h10:2*m*(2*m)=4*(m*m):=by grind
 omega
theorem aH4 {z x:Int} (hx:1 <= x) (h:x <= (x+z / x) / 2):x*x <= z:=by
 have h1:=Int.mul_ediv_add_emod z x;have h3:=Int.emod_nonneg z (show x ≠ 0 by omega)
 generalize z / x=q at *
 have h4:x <= q:=by omega
 have:=Int.mul_le_mul_of_nonneg_left h4 (show 0 <= x by omega);omega
theorem aW0 (k:Nat):Lb.val (List.replicate k 0 ++ [1])=Lb.B ^ k:=by
 rw [Lb.val_append]
 have:∀ n,Lb.val (List.replicate n 0)=0:=fun n=>by
  induction n with
  | zero=>rfl
  | succ n ih=>rw [List.replicate_succ]; simp [Lb.val,ih]
 rw [this,List.length_replicate];simp [Lb.val]
theorem b0Y (k:Nat):Lb.Lt (List.replicate k 0 ++ [1]):=by
 intro x hx;rcases List.mem_append.1 hx with h | h
 ·have:=(List.mem_replicate.1 h).2;subst this;decide
 ·have:x=1:=by simpa using h
  subst this;decide
namespace Vc
theorem b1q {p:Rat} (h:p ≠ 0):p.num ≠ 0:=by rwa [ne_eq,Rat.num_eq_zero]
theorem aXe (n:Int):szR (n:Rat) <= szI n+1:=by
 have h:szI 1 <= 1:=aOs;unfold szR;rw [show (n:Rat).num=n from rfl,show (((n:Rat).den:Nat):Int)=1 from rfl];omega
theorem aTd (x y:Int):szI (x+y) <= max (szI x) (szI y)+1:=by
 have h1:x.natAbs < Lb.B ^ szI x:=Lb.a07 x.natAbs;have h2:y.natAbs < Lb.B ^ szI y:=Lb.a07 y.natAbs;refine a5i ?_;have k1:Lb.B ^ szI x <= Lb.B ^ max (szI x) (szI y):=pow_le_pow_right Lb.a3w (Nat.le_max_left ..);have k2:Lb.B ^ szI y <= Lb.B ^ max (szI x) (szI y):=pow_le_pow_right Lb.a3w (Nat.le_max_right ..);rw [Nat.pow_succ]
 generalize Lb.B ^ max (szI x) (szI y)=m at *
 have:m*2 <= m*Lb.B:=Nat.mul_le_mul_left _ (by decide)
 generalize m*Lb.B=z at *
 generalize Lb.B ^ szI x=u at *
 generalize Lb.B ^ szI y=v at *
 omega
theorem aJ7 {n d:Int} (hd:d ≠ 0):szR (Rat.divInt n d) <= max (szI n) (szI d):=by
 rcases Int.lt_or_gt_of_ne hd with h | h
 ·rw [<- Rt.aOO];have h1:=a2W (Rt.aBS (n:=-n) (d:=-d) (by omega));have h2:=a2W (a:=((Rat.divInt (-n) (-d)).den:Int)) (b:=-d) (by have:=Rt.aBT (n:=-n) (d:=-d) (by omega); omega);have:=a4T n;have:=a4T d;unfold szR;omega
 ·have h1:=a2W (Rt.aBS (n:=n) h);have h2:=a2W (a:=((Rat.divInt n d).den:Int)) (b:=d) (by have:=Rt.aBT (n:=n) h; omega);unfold szR;omega
theorem a0C (p q:Rat):szR (p*q) <= szR p+szR q:=by
 rw [<- Rt.aPm];have:=aJ7 (n:=p.num*q.num) (d:=p.den*q.den) (mul_ne_zero (a7t p) (a7t q));have:=a1P p.num q.num;have:=a1P p.den q.den;have:=a2b p; have:=a2b q; have:=a2o p; have:=a2o q;omega
theorem a1C (p q:Rat):szR (p+q) <= szR p+szR q+1:=by
 rw [<- Rt.aWd];have:=aJ7 (n:=p.num*q.den+q.num*p.den) (d:=p.den*q.den) (mul_ne_zero (a7t p) (a7t q));have:=aTd (p.num*q.den) (q.num*p.den);have:=a1P p.num q.den;have:=a1P q.num p.den;have:=a1P p.den q.den;have:=a2b p; have:=a2b q; have:=a2o p; have:=a2o q;omega
theorem a2z (p q:Rat):szR (p - q) <= szR p+szR q+1:=by
 have:=a1C p (-q);have:=a1Y q;rw [Rat.sub_eq_add_neg];omega
theorem a9h (p q:Rat) (hq:q ≠ 0):szR (p / q) <= szR p+szR q:=by
 rw [<- Rt.aVH];have:=aJ7 (n:=p.num*q.den) (d:=p.den*q.num) (mul_ne_zero (a7t p) (b1q hq));have:=a1P p.num q.den;have:=a1P p.den q.num;have:=a2b p; have:=a2b q; have:=a2o p; have:=a2o q;omega
end Vc
end Go.Proofs.YtbohkigffejhoaaGreat
namespace Go.Proofs.YtbohkigffejhoaaGreat
open Go.RowKit
namespace Vc
section
variable {P:Program} {L:List Lay} {C:List Ctr} {I:List LI}
def Good (P:Program) (W0:World) (Qa:AEx->St->Prop) (c:Code) (s:St):Prop:=∀ F,none ∉ F->∀ (Q:Exit->Act->World->Prop),(∀ e s' bs' a' w',Qa e s'->Rl W0 F bs' s' a' w'->Q e.ex a' w')->∀ bs a w,Rl W0 F bs s a w->c.wp P Q a w
def aJu (L:List Lay) (C:List Ctr) (I:List LI) {α:Type} (φ:α->Prop) (st:α->St) (Qa:AEx->St->Prop):Nat->Code->St->Prop
 | 0,_,s=>∃ x,φ x/\leS s (st x)
 | n+1,.seq a b,s=>awp L C I a s fun e s'=>match e with | .normal=>aJu L C I φ st Qa n b s' | e=>Qa e s'
 | _+1,_,_=>False
def aTu:Nat->Code->Code
 | 0,c=>c
 | n+1,.seq _ b=>aTu n b
 | _+1,c=>c
theorem a5b (hm:P.follows .mixedOrders=true) (hL:∀ l ∈ L,a1I P l) (hC:∀ c ∈ C,CtrOK P c) {W0:World} {α:Type} {φ:α->Prop} {st:α->St} {Qa:AEx->St->Prop}:∀ {n:Nat} {c:Code} {s:St},aJu L C I φ st Qa n c s->(∀ x,φ x->Good P W0 Qa (aTu n c) (st x))->Good P W0 Qa c s
 | 0,c,s,h,h2=>fun F hz Q hk bs a w hR=>by
   obtain ⟨x,hφ,hle⟩:=h
   exact h2 x hφ F hz Q hk _ a w (hR.weak hz hle)
 | n+1,c,s,h,h2=>fun F hz Q hk bs a w hR=>by
   cases c with
   | seq x y =>
     refine wp_seq (a2k hz hm hL hC x s bs a w _ _ h hR fun e s' bs' a' w' hq hR'=>?_)
     cases e with
     | normal=>exact a5b hm hL hC (c:=y) hq h2 F hz Q hk bs' a' w' hR'
     | ret=>exact hk .ret s' bs' a' w' hq hR'
     | exit id=>exact hk (.exit id) s' bs' a' w' hq hR'
   | _=>exact h.elim
def a5P (L:List Lay) (fn:Func) {α:Type} (φ:α->Prop) (r:α->AV):AEx->St->Prop:=fun e s =>
 match e with
 | .exit _=>False
 | _ =>
   match aZl L s fn.results.toList with
   | some x=>∃ a,φ a/\eqV (b1o x) (r a)
   | none=>False
def st0 (fn:Func) (xs:List AK):St:=⟨xs.map .k ++ List.replicate (fn.ntmps - xs.length) .u,[]⟩
theorem a3M (hL:∀ l ∈ L,a1I P l) {f:Nat} {fn:Func} {body:Code} (hf:P.funcs[f]?=some fn) (hb:fn.body=some body) {xs:List AK} {vs:List Value} {α:Type} {φ:α->Prop} {r:α->AV} {bs:Bs} {w:World}
    (hx:relKs bs w xs vs) (hA:okB bs w=true) (hG:okF bs w=true) (hnx:a9e xs=true) (hnr:∀ a,aT5 (r a)=true) (h:Good P w (a5P L fn φ r) body (st0 fn xs)):Calls P f vs.toArray w fun e w'=>∃ v,e=.returned v/\Ext w w'/\∃ a,φ a/\relV bs w' (r a) v:=by
 refine calls_of_wp hf hb ?_;refine h _ (a5Y hG) _ (fun e s' bs' a' w' hq hR'=>?_) _ _ _ (aCH hx hA hG hnx)
 cases e with
 | exit id=>exact hq.elim
 | normal =>
   simp only [a5P] at hq;split at hq
   ·rename_i x hx';obtain ⟨v,h1,h2⟩:=a5e hL hR' hx';obtain ⟨a,ha,he⟩:=hq;exact ⟨hR'.dfr,v,h1,v,rfl,hR'.ext,a,ha,a7X hG hR' h2 he (hnr a)⟩
   ·exact hq.elim
 | ret =>
   simp only [a5P] at hq;split at hq
   ·rename_i x hx';obtain ⟨v,h1,h2⟩:=a5e hL hR' hx';obtain ⟨a,ha,he⟩:=hq;exact ⟨hR'.dfr,v,h1,v,rfl,hR'.ext,a,ha,a7X hG hR' h2 he (hnr a)⟩
   ·exact hq.elim
end
end Vc
end Go.Proofs.YtbohkigffejhoaaGreat
namespace Go.Proofs.YtbohkigffejhoaaGreat
open Go.RowKit
namespace Vc
attribute [local irreducible] owes
theorem aTM:∀ c ∈ XT0 ++ [aUk],CtrOK prog c:=a0M aWi (fun c hc=>by
 simp only [List.mem_cons,List.not_mem_nil,or_false] at hc;subst hc
 exact aLu)
def BT0:List Ctr:=XT0 ++ [aUk]
theorem aSD:∀ c ∈ BT0,CtrOK prog c:=aTM
def aVP:Ctr:=⟨476,spY (gI.c (gI.c r0)) (fun (n,d,_)=>d ≠ 0/\szI n <= 5000000/\szI d <= 5000000) (fun (n,d,_)=>.t [.g [.R ((Rat.divInt n d))],.c (.v (.int .i64 ((0:Int))))])⟩
theorem aII (n:Int) (d:Int) (hp:d ≠ 0/\szI n <= 5000000/\szI d <= 5000000):owes LT BT0 [] f476 (bd f476) [.g [.I (n)],.g [.I (d)]] (.t [.g [.R ((Rat.divInt n d))],.c (.v (.int .i64 ((0:Int))))]):=by
 refine Eq.mp (show (True/\(((d.sign == (0:Int))=true->(False/\((Value.int .i64 (6:Int)=(.int .i64 (0:Int)))/\True)))/\((d.sign == (0:Int))=false->((d ≠ 0/\szI n <= 5000000/\szI d <= 5000000)/\((((Rat.divInt n d)=(Rat.divInt n d))/\True)/\((Value.int .i64 (0:Int)=(.int .i64 (0:Int)))/\True))))))=_ by kernel_rfl) ?_;obtain ⟨h0,h1,h2⟩:=hp;refine ⟨trivial,fun h=>?_,fun _=>⟨⟨h0,h1,h2⟩,⟨rfl,trivial⟩,rfl,trivial⟩⟩;exact absurd (Int.sign_eq_zero_iff_zero.1 (beq_iff_eq.1 h)) h0
theorem aRc:CtrOK prog aVP:=yOK a3c aSD Tryz.func476 fun _ hp=>aII _ _ hp
def BT1:List Ctr:=BT0 ++ [aVP]
theorem aWH:∀ c ∈ BT1,CtrOK prog c:=a0M aSD (a0Y aRc (a3e))
def aZc:Ctr:=⟨401,spY (gR.c (gR.c r0)) (fun (p,q,_)=>q ≠ 0/\szR p <= 1000000/\szR q <= 1000000) (fun (p,q,_)=>.t [.g [.R ((p / q))],.c (.v (.int .i64 ((0:Int))))])⟩
theorem aMY (p:Rat) (q:Rat) (hp:q ≠ 0/\szR p <= 1000000/\szR q <= 1000000):owes LT BT1 [] f401 (bd f401) [.g [.R (p)],.g [.R (q)]] (.t [.g [.R ((p / q))],.c (.v (.int .i64 ((0:Int))))]):=by
 refine Eq.mp (show ((szI p.num <= 10000000/\szI (q.den:Int) <= 10000000)/\((szI (p.den:Int) <= 10000000/\szI q.num <= 10000000)/\((((p.den:Int)*q.num) ≠ 0/\szI (p.num*(q.den:Int)) <= 5000000/\szI ((p.den:Int)*q.num) <= 5000000)/\((((Rat.divInt (p.num*(q.den:Int)) ((p.den:Int)*q.num))=(p / q))/\True)/\((Value.int .i64 (0:Int)=(.int .i64 (0:Int)))/\True)))))=_ by kernel_rfl) ?_;obtain ⟨h0,hp,hq⟩:=hp;have a1:=a2b p; have a2:=a2o p; have a3:=a2b q; have a4:=a2o q;have m1:=a1P p.num q.den; have m2:=a1P (p.den:Int) q.num;have hd:=p.den_pos;refine ⟨⟨by omega,by omega⟩,⟨by omega,by omega⟩,⟨?_,by omega,by omega⟩,⟨Rt.aVH _ _,trivial⟩,rfl,trivial⟩;exact mul_ne_zero (by omega) (by rw [ne_eq,Rat.num_eq_zero]; exact h0)
theorem aLt:CtrOK prog aZc:=yOK a3c aWH Tryz.func401 fun _ hp=>aMY _ _ hp
def BT2:List Ctr:=BT1 ++ [aZc]
theorem b3B:∀ c ∈ BT2,CtrOK prog c:=a0M aWH (a0Y aLt (a3e))
def aQ5:Ctr:=⟨198,spY (gR.c r0) (fun (p,_)=>szR p <= 1000000) (fun _=>.k (.c (.v (.bool (true)))))⟩
theorem aF6 (p:Rat) (hp:szR p <= 1000000):owes LT BT0 [] f198 (bd f198) [.g [.R (p)]] (.k (.c (.v (.bool (true))))):=by
 refine Eq.mp (show ((szI p.num <= 10000000)/\((((!true) == false)=true->(szI (p.den:Int) <= 10000000))/\((((bif (!true) then true else (!true)) == false)=true->True)/\(((bif (bif (!true) then true else (!true)) then true else (((p.den:Int).sign) != (1:Int)))=true->(Value.bool false=(.bool true)))/\((bif (bif (!true) then true else (!true)) then true else (((p.den:Int).sign) != (1:Int)))=false->((szI p.num <= 5000000/\szI (p.den:Int) <= 5000000)/\(True/\((szI (Int.gcd p.num (p.den:Int):Int) <= 10000000/\szI (1:Int) <= 10000000)/\(Value.bool (decide ((Int.gcd p.num (p.den:Int):Int)=(1:Int)))=(.bool true))))))))))=_ by kernel_rfl) ?_;have a1:=a2b p;have a2:=a2o p;have hd:((p.den:Int)).sign=1:=Int.sign_eq_one_of_pos (by have:=p.den_pos; omega);have hg:((Int.gcd p.num (p.den:Int):Nat):Int)=1:=congrArg (fun n:Nat=>(n:Int)) p.reduced;have s1:=aOs;rw [hd,hg];exact ⟨by omega,fun _=>by omega,fun _=>trivial,fun h=>absurd h (by decide),fun _=>⟨⟨by omega,by omega⟩,trivial,⟨by omega,by omega⟩,rfl⟩⟩
theorem aMS:CtrOK prog aQ5:=yOK a3c aSD Tryz.func198 fun _ hp=>aF6 _ hp
set_option maxHeartbeats 4000000
theorem a0m {L:List Lay} {C:List Ctr} {I:List LI} {fn:Func} {body:Code} {xs:List AK} {r:AV} {p:Prop} (h:p=owes L C I fn body xs r) (hp:p):owes L C I fn body xs r:=h ▸ hp
theorem b1T {α:Sort _} {c:Bool} (h:c=true) (a b:α):(if c=true then a else b)=a:=if_pos h
theorem aT1 {α:Sort _} {c:Bool} (h:c=false) (a b:α):(if c=true then a else b)=b:=if_neg (by rw [h]; decide)
def un (z:Int):Prop:=z=-1 \/ z=0 \/ z=1
theorem a2Q (q:Rat):un (Rt.sg q):=Rt.a6V q
theorem a1O {z:Int} (h:un z):un (0 - z):=by rcases h with h | h | h <;> subst h <;> unfold un <;> decide
theorem a1M {y z:Int} (h:un y) (k:un z):un (y*z):=by rcases h with h | h | h <;> rcases k with k | k | k <;> subst h <;> subst k <;> unfold un <;> decide
theorem a3E {z:Int} (h:un z):inR .i64 z:=by rcases h with h | h | h <;> subst h <;> unfold inR <;> decide
theorem a2V {n:Int} (h:n.natAbs < Lb.B):szR (n:Rat) <= 2:=by
 have h1:=aXe n;have h2:szI n <= 1:=a5i (by rw [Nat.pow_one]; exact h);omega
theorem a6S:un 0:=.inr (.inl rfl)
theorem a6R:un 1:=.inr (.inr rfl)
theorem a6Q:un (-1):=.inl rfl
def Vx.sz (p:Vx):Nat:=szR p.vx+szR p.vy
theorem aTc (p:Vx):p.sz=szR p.vx+szR p.vy:=rfl
theorem aHJ (vx:Rat) (vy:Rat):(Vx.mk vx vy).sz=szR vx+szR vy:=rfl
def Rx.sz (p:Rx):Nat:=szR p.ra+szR p.rb+szR p.rc
theorem a2D (p:Rx):p.sz=szR p.ra+szR p.rb+szR p.rc:=rfl
theorem a9F (ra:Rat) (rb:Rat) (rc:Rat):(Rx.mk ra rb rc).sz=szR ra+szR rb+szR rc:=rfl
def Px.sz (p:Px):Nat:=szR p.a+szR p.b+szR p.c+szR p.d+szR p.e
theorem a5h (p:Px):p.sz=szR p.a+szR p.b+szR p.c+szR p.d+szR p.e:=rfl
theorem aHK (a:Rat) (b:Rat) (c:Rat) (d:Rat) (e:Rat):(Px.mk a b c d e).sz=szR a+szR b+szR c+szR d+szR e:=rfl
def Dx.sz (p:Dx):Nat:=szR p.da+szR p.db+szR p.dc+szR p.dd+szR p.dm+szR p.dn
theorem b5J (p:Dx):p.sz=szR p.da+szR p.db+szR p.dc+szR p.dd+szR p.dm+szR p.dn:=rfl
theorem aXd (da:Rat) (db:Rat) (dc:Rat) (dd:Rat) (dm:Rat) (dn:Rat):(Dx.mk da db dc dd dm dn).sz=szR da+szR db+szR dc+szR dd+szR dm+szR dn:=rfl
def Lx.sz (p:Lx):Nat:=szR p.la+szR p.lb+szR p.lc
theorem aHL (p:Lx):p.sz=szR p.la+szR p.lb+szR p.lc:=rfl
def Kx.sz (p:Kx):Nat:=szR p.kx+szR p.ky+szR p.kq
theorem aBN (p:Kx):p.sz=szR p.kx+szR p.ky+szR p.kq:=rfl
theorem aXc (kx:Rat) (ky:Rat) (kq:Rat):(Kx.mk kx ky kq).sz=szR kx+szR ky+szR kq:=rfl
def Ux.sz (p:Ux):Nat:=p.l.sz+p.k.sz+p.f.sz+p.t.sz
theorem aCF (p:Ux):p.sz=p.l.sz+p.k.sz+p.f.sz+p.t.sz:=rfl
theorem aXb (arc:Bool) (l:Lx) (k:Kx) (cw:Bool) (f:Px) (t:Px):(Ux.mk arc l k cw f t).sz=l.sz+k.sz+f.sz+t.sz:=rfl
def Wx.sz (p:Wx):Nat:=p.wv.sz
def LTD:List Lay:=LT ++ [
 ⟨180,12,true,0,0,[.v (.bool false),.sl [],.v (.bool false),.sl [],.v (.bool false),.sl [],.v (.bool false),.sl [],.v (.bool false),.sl [],.v (.bool false),.sl []],[(0,4),(4,4),(8,4)]⟩,
 ⟨50,20,true,0,0,[.v (.bool false),.sl [],.v (.bool false),.sl [],.v (.bool false),.sl [],.v (.bool false),.sl [],.v (.bool false),.sl [],.v (.bool false),.sl [],.v (.bool false),.sl [],.v (.bool false),.sl [],.v (.bool false),.sl [],.v (.bool false),.sl []],[(0,4),(4,4),(8,4),(12,4),(16,4)]⟩,
 ⟨254,24,true,0,0,[.v (.bool false),.sl [],.v (.bool false),.sl [],.v (.bool false),.sl [],.v (.bool false),.sl [],.v (.bool false),.sl [],.v (.bool false),.sl [],.v (.bool false),.sl [],.v (.bool false),.sl [],.v (.bool false),.sl [],.v (.bool false),.sl [],.v (.bool false),.sl [],.v (.bool false),.sl []],[(0,4),(4,4),(8,4),(12,4),(16,4),(20,4)]⟩,
 ⟨46,12,true,0,0,[.v (.bool false),.sl [],.v (.bool false),.sl [],.v (.bool false),.sl [],.v (.bool false),.sl [],.v (.bool false),.sl [],.v (.bool false),.sl []],[(0,4),(4,4),(8,4)]⟩,
 ⟨48,12,true,0,0,[.v (.bool false),.sl [],.v (.bool false),.sl [],.v (.bool false),.sl [],.v (.bool false),.sl [],.v (.bool false),.sl [],.v (.bool false),.sl []],[(0,4),(4,4),(8,4)]⟩,
 ⟨52,66,true,0,0,[.v (.bool false),.v (.bool false),.sl [],.v (.bool false),.sl [],.v (.bool false),.sl [],.v (.bool false),.sl [],.v (.bool false),.sl [],.v (.bool false),.sl [],.v (.bool false),.sl [],.v (.bool false),.sl [],.v (.bool false),.sl [],.v (.bool false),.sl [],.v (.bool false),.sl [],.v (.bool false),.sl [],.v (.bool false),.v (.bool false),.sl [],.v (.bool false),.sl [],.v (.bool false),.sl [],.v (.bool false),.sl [],.v (.bool false),.sl [],.v (.bool false),.sl [],.v (.bool false),.sl [],.v (.bool false),.sl [],.v (.bool false),.sl [],.v (.bool false),.sl [],.v (.bool false),.sl [],.v (.bool false),.sl [],.v (.bool false),.sl [],.v (.bool false),.sl [],.v (.bool false),.sl [],.v (.bool false),.sl [],.v (.bool false),.sl [],.v (.bool false),.sl [],.v (.bool false),.sl [],.v (.bool false),.sl []],[(0,1),(1,12),(13,12),(25,1),(26,20),(46,20)]⟩,
 ⟨327,13,true,0,0,[.v (.int .i64 0),.v (.bool false),.sl [],.v (.bool false),.sl [],.v (.bool false),.sl [],.v (.bool false),.sl [],.v (.bool false),.sl [],.v (.bool false),.sl []],[(0,1),(1,12)]⟩]
theorem a0w:∀ l ∈ LTD,a1I prog l:=by
 have h:LTD.all (aYE prog)=true:=by kernel_rfl
 intro l hl;exact a90 (List.all_eq_true.1 h l hl)
def zq1 (c:Ctr):Ctr:=⟨c.f,fun | [.g [x]]=>(match rq x with | some (p,a)=>(match c.sp [.g [.R a]] with | .yes pre r=>.yes (p/\pre) r | _=>.no) | none=>.no) | _=>.no⟩
def zq2 (c:Ctr):Ctr:=⟨c.f,fun | [.g [x],.g [y]]=>(match rq x,rq y with | some (p,a),some (q,b)=>(match c.sp [.g [.R a],.g [.R b]] with | .yes pre r=>.yes (p/\q/\pre) r | _=>.no) | _,_=>.no) | _=>.no⟩
theorem aUU {P:Program} {c:Ctr} (hc:CtrOK P c):CtrOK P (zq1 c):=.of hc.ent (fun bs w xs vs pre r hr hA hG h hp=>by
 simp only [zq1] at h;split at h
 ·split at h
  ·rename_i e1;split at h
   ·rename_i e2;cases h;exact hc.yes bs w _ vs _ _ (a1k (a2O e1 hp.1) a3k vs hr) hA hG e2 hp.2
   ·cases h
  ·cases h
 ·cases h) (fun xs α pre φ r=>by simp only [zq1]; split <;> (try split) <;> (try split) <;> (intro h; cases h))
theorem aEu {P:Program} {c:Ctr} (hc:CtrOK P c):CtrOK P (zq2 c):=.of hc.ent (fun bs w xs vs pre r hr hA hG h hp=>by
 simp only [zq2] at h;split at h
 ·split at h
  ·rename_i e1 e3;split at h
   ·rename_i e2;cases h;exact hc.yes bs w _ vs _ _ (a1k (a2O e1 hp.1) (a1k (a2O e3 hp.2.1) a3k) vs hr) hA hG e2 hp.2.2
   ·cases h
  ·cases h
 ·cases h) (fun xs α pre φ r=>by simp only [zq2]; split <;> (try split) <;> (try split) <;> (intro h; cases h))
def DT0:List Ctr:=[zq1 aZa,zq1 aQ9,zq2 aZd,zq2 aY8,zq2 aZb,zq2 aUk,zq2 aZc] ++ (BT2 ++ [aQ5])
theorem a4q:∀ c ∈ DT0,CtrOK prog c:=by
 intro c hc;rcases List.mem_append.1 hc with hc | hc
 ·simp only [List.mem_cons,List.not_mem_nil,or_false] at hc;rcases hc with rfl | rfl | rfl | rfl | rfl | rfl | rfl
  ·exact aUU aLr
  ·exact aUU aF9
  ·exact aEu aLv
  ·exact aEu aLq
  ·exact aEu aLs
  ·exact aEu aLu
  ·exact aEu aLt
 ·rcases List.mem_append.1 hc with hc | hc
  ·exact b3B c hc
  ·simp only [List.mem_cons,List.not_mem_nil,or_false] at hc;subst hc;exact aMS
def a1p:Rat:=(((0:Int)):Rat)
theorem tU0 {p:Prop} (h:p:=by first | rfl | omega | assumption | (with_reducible apply a3E; (repeat' first | exact a6S | exact a6R | exact a6Q | exact a2Q _ | apply a1M | apply a1O); done)):p:=h
theorem tR_ {p:Prop} (h:p:=by (repeat' first | rfl | rw [b1T (by assumption)] | rw [aT1 (by assumption)]); done):p:=h
theorem aGM :owes LTD DT0 [] f415 (bd f415) [] (.k (.g [.R ((a1p))])):=by
 refine a0m (show ((-9223372036854775808 <= (0:Int)/\(0:Int) <= 9223372036854775807)/\((((0:Int):Rat)=a1p)/\True))=_ by kernel_rfl) ?_
 repeat' first | trivial | with_reducible apply And.intro | (intro _)
 all_goals first | exact tU0 | (unfold a1p; exact tR_) | (simp_all; done)
def aRT:Ctr:=⟨415,spY r0 (fun _=>True) (fun _=>.k (.g [.R ((a1p))]))⟩
theorem aNw:CtrOK prog aRT:=yOK a0w a4q Tryz.func415 fun _ _=>aGM
theorem aHz :szR (a1p) <= 2:=by
 have g1:=(a2V (n:=0) (by decide))
 unfold a1p
 repeat' split
 all_goals first | omega | (dsimp only; omega)
def a2B:Rat:=(((1:Int)):Rat)
theorem aJn :owes LTD DT0 [] f477 (bd f477) [] (.k (.g [.R ((a2B))])):=by
 refine a0m (show ((-9223372036854775808 <= (1:Int)/\(1:Int) <= 9223372036854775807)/\((((1:Int):Rat)=a2B)/\True))=_ by kernel_rfl) ?_
 repeat' first | trivial | with_reducible apply And.intro | (intro _)
 all_goals first | exact tU0 | (unfold a2B; exact tR_) | (simp_all; done)
def aV5:Ctr:=⟨477,spY r0 (fun _=>True) (fun _=>.k (.g [.R ((a2B))]))⟩
theorem aRU:CtrOK prog aV5:=yOK a0w a4q Tryz.func477 fun _ _=>aJn
theorem aUZ :szR (a2B) <= 2:=by
 have g1:=(a2V (n:=1) (by decide))
 unfold a2B
 repeat' split
 all_goals first | omega | (dsimp only; omega)
def a06 (a:Rat):Rat:=(a)*(a)
theorem aBA (a:Rat) (hp:szR a <= 500000):owes LTD DT0 [] f470 (bd f470) [.g [.R (a)]] (.k (.g [.R ((a06 a))])):=by
 refine a0m (show ((True/\True/\(szR a <= 1000000/\szR a <= 1000000))/\(((a*a)=(a06 a))/\True))=_ by kernel_rfl) ?_
 repeat' first | trivial | with_reducible apply And.intro | (intro _)
 all_goals first | exact tU0 | (unfold a06; exact tR_) | (simp_all; done)
def aGO:Ctr:=⟨470,spY (rQ.c r0) (fun (a,_)=>szR a <= 500000) (fun (a,_)=>.k (.g [.R ((a06 a))]))⟩
theorem aGN:CtrOK prog aGO:=yOK a0w a4q Tryz.func470 fun x hp=>aBA x.1 hp
theorem a6N (a:Rat):szR (a06 a) <= 2*(szR a):=by
 have g1:=a0C a a;unfold a06
 repeat' split
 all_goals first | omega | (dsimp only; omega)
def a1K:Rat:=(((0:Int)):Rat)
theorem aGF :owes LTD DT0 [] f128 (bd f128) [] (.k (.g [.R ((a1K))])):=by
 refine a0m (show ((-9223372036854775808 <= (0:Int)/\(0:Int) <= 9223372036854775807)/\((((0:Int):Rat)=a1K)/\True))=_ by kernel_rfl) ?_
 repeat' first | trivial | with_reducible apply And.intro | (intro _)
 all_goals first | exact tU0 | (unfold a1K; exact tR_) | (simp_all; done)
def aRL:Ctr:=⟨128,spY r0 (fun _=>True) (fun _=>.k (.g [.R ((a1K))]))⟩
theorem aNs:CtrOK prog aRL:=yOK a0w a4q Tryz.func128 fun _ _=>aGF
theorem aOc :szR (a1K) <= 2:=by
 have g1:=(a2V (n:=0) (by decide))
 unfold a1K
 repeat' split
 all_goals first | omega | (dsimp only; omega)
def a2h (a:Rat) (b:Rat):Rat:=(a)+(b)
theorem aJd (a:Rat) (b:Rat) (hp:szR a+szR b <= 500000):owes LTD DT0 [] f394 (bd f394) [.g [.R (a)],.g [.R (b)]] (.k (.g [.R ((a2h a b))])):=by
 refine a0m (show ((True/\True/\(szR a <= 1000000/\szR b <= 1000000))/\(((a+b)=(a2h a b))/\True))=_ by kernel_rfl) ?_
 repeat' first | trivial | with_reducible apply And.intro | (intro _)
 all_goals first | exact tU0 | (unfold a2h; exact tR_) | (simp_all; done)
def aV1:Ctr:=⟨394,spY (rQ.c (rQ.c r0)) (fun (a,b,_)=>szR a+szR b <= 500000) (fun (a,b,_)=>.k (.g [.R ((a2h a b))]))⟩
theorem aRJ:CtrOK prog aV1:=yOK a0w a4q Tryz.func394 fun x hp=>aJd x.1 x.2.1 hp
theorem aJ1 (a:Rat) (b:Rat):szR (a2h a b) <= (szR a+szR b)+1:=by
 have g1:=a1C a b;unfold a2h
 repeat' split
 all_goals first | omega | (dsimp only; omega)
def a1n (a:Rat) (b:Rat):Rat:=(a) - (b)
theorem aJb (a:Rat) (b:Rat) (hp:szR a+szR b <= 500000):owes LTD DT0 [] f393 (bd f393) [.g [.R (a)],.g [.R (b)]] (.k (.g [.R ((a1n a b))])):=by
 refine a0m (show ((True/\True/\(szR a <= 1000000/\szR b <= 1000000))/\(((a - b)=(a1n a b))/\True))=_ by kernel_rfl) ?_
 repeat' first | trivial | with_reducible apply And.intro | (intro _)
 all_goals first | exact tU0 | (unfold a1n; exact tR_) | (simp_all; done)
def aVZ:Ctr:=⟨393,spY (rQ.c (rQ.c r0)) (fun (a,b,_)=>szR a+szR b <= 500000) (fun (a,b,_)=>.k (.g [.R ((a1n a b))]))⟩
theorem aRH:CtrOK prog aVZ:=yOK a0w a4q Tryz.func393 fun x hp=>aJb x.1 x.2.1 hp
theorem aUY (a:Rat) (b:Rat):szR (a1n a b) <= (szR a+szR b)+1:=by
 have g1:=a2z a b;unfold a1n
 repeat' split
 all_goals first | omega | (dsimp only; omega)
def a0z (a:Rat) (b:Rat):Rat:=(a)*(b)
theorem aJc (a:Rat) (b:Rat) (hp:szR a+szR b <= 500000):owes LTD DT0 [] f321 (bd f321) [.g [.R (a)],.g [.R (b)]] (.k (.g [.R ((a0z a b))])):=by
 refine a0m (show ((True/\True/\(szR a <= 1000000/\szR b <= 1000000))/\(((a*b)=(a0z a b))/\True))=_ by kernel_rfl) ?_
 repeat' first | trivial | with_reducible apply And.intro | (intro _)
 all_goals first | exact tU0 | (unfold a0z; exact tR_) | (simp_all; done)
def aV0:Ctr:=⟨321,spY (rQ.c (rQ.c r0)) (fun (a,b,_)=>szR a+szR b <= 500000) (fun (a,b,_)=>.k (.g [.R ((a0z a b))]))⟩
theorem aRI:CtrOK prog aV0:=yOK a0w a4q Tryz.func321 fun x hp=>aJc x.1 x.2.1 hp
theorem a4b (a:Rat) (b:Rat):szR (a0z a b) <= (szR a+szR b)+1:=by
 have g1:=a0C a b;unfold a0z
 repeat' split
 all_goals first | omega | (dsimp only; omega)
def a1x (a:Rat) (b:Rat):Rat:=(a)+(b)
theorem aI7 (a:Rat) (b:Rat) (hp:szR a+szR b <= 500000):owes LTD DT0 [] f395 (bd f395) [.g [.R (a)],.g [.R (b)]] (.k (.g [.R ((a1x a b))])):=by
 refine a0m (show ((True/\True/\(szR a <= 1000000/\szR b <= 1000000))/\(((a+b)=(a1x a b))/\True))=_ by kernel_rfl) ?_
 repeat' first | trivial | with_reducible apply And.intro | (intro _)
 all_goals first | exact tU0 | (unfold a1x; exact tR_) | (simp_all; done)
def aVY:Ctr:=⟨395,spY (rQ.c (rQ.c r0)) (fun (a,b,_)=>szR a+szR b <= 500000) (fun (a,b,_)=>.k (.g [.R ((a1x a b))]))⟩
theorem aRE:CtrOK prog aVY:=yOK a0w a4q Tryz.func395 fun x hp=>aI7 x.1 x.2.1 hp
theorem aEB (a:Rat) (b:Rat):szR (a1x a b) <= (szR a+szR b)+1:=by
 have g1:=a1C a b;unfold a1x
 repeat' split
 all_goals first | omega | (dsimp only; omega)
def a00 (a:Rat) (b:Rat):Rat:=(a) - (b)
theorem aI4 (a:Rat) (b:Rat) (hp:szR a+szR b <= 500000):owes LTD DT0 [] f412 (bd f412) [.g [.R (a)],.g [.R (b)]] (.k (.g [.R ((a00 a b))])):=by
 refine a0m (show ((True/\True/\(szR a <= 1000000/\szR b <= 1000000))/\(((a - b)=(a00 a b))/\True))=_ by kernel_rfl) ?_
 repeat' first | trivial | with_reducible apply And.intro | (intro _)
 all_goals first | exact tU0 | (unfold a00; exact tR_) | (simp_all; done)
def aVV:Ctr:=⟨412,spY (rQ.c (rQ.c r0)) (fun (a,b,_)=>szR a+szR b <= 500000) (fun (a,b,_)=>.k (.g [.R ((a00 a b))]))⟩
theorem aRA:CtrOK prog aVV:=yOK a0w a4q Tryz.func412 fun x hp=>aI4 x.1 x.2.1 hp
theorem aEA (a:Rat) (b:Rat):szR (a00 a b) <= (szR a+szR b)+1:=by
 have g1:=a2z a b;unfold a00
 repeat' split
 all_goals first | omega | (dsimp only; omega)
def a0h (a:Rat) (b:Rat):Rat:=(a)*(b)
theorem aI6 (a:Rat) (b:Rat) (hp:szR a+szR b <= 500000):owes LTD DT0 [] f396 (bd f396) [.g [.R (a)],.g [.R (b)]] (.k (.g [.R ((a0h a b))])):=by
 refine a0m (show ((True/\True/\(szR a <= 1000000/\szR b <= 1000000))/\(((a*b)=(a0h a b))/\True))=_ by kernel_rfl) ?_
 repeat' first | trivial | with_reducible apply And.intro | (intro _)
 all_goals first | exact tU0 | (unfold a0h; exact tR_) | (simp_all; done)
def aVX:Ctr:=⟨396,spY (rQ.c (rQ.c r0)) (fun (a,b,_)=>szR a+szR b <= 500000) (fun (a,b,_)=>.k (.g [.R ((a0h a b))]))⟩
theorem aRD:CtrOK prog aVX:=yOK a0w a4q Tryz.func396 fun x hp=>aI6 x.1 x.2.1 hp
theorem a3f (a:Rat) (b:Rat):szR (a0h a b) <= (szR a+szR b)+1:=by
 have g1:=a0C a b;unfold a0h
 repeat' split
 all_goals first | omega | (dsimp only; omega)
def a1Z (a:Rat):Rat:=-(a)
theorem aI5 (a:Rat) (hp:szR a <= 500000):owes LTD DT0 [] f312 (bd f312) [.g [.R (a)]] (.k (.g [.R ((a1Z a))])):=by
 refine a0m (show ((True/\(szR a <= 5000000))/\(((-a)=(a1Z a))/\True))=_ by kernel_rfl) ?_
 repeat' first | trivial | with_reducible apply And.intro | (intro _)
 all_goals first | exact tU0 | (unfold a1Z; exact tR_) | (simp_all; done)
def aVW:Ctr:=⟨312,spY (rQ.c r0) (fun (a,_)=>szR a <= 500000) (fun (a,_)=>.k (.g [.R ((a1Z a))]))⟩
theorem aRC:CtrOK prog aVW:=yOK a0w a4q Tryz.func312 fun x hp=>aI5 x.1 hp
theorem b0C (a:Rat):szR (a1Z a) <= (szR a):=by
 have g1:=a1Y a;unfold a1Z
 repeat' split
 all_goals first | omega | (dsimp only; omega)
def a1D (a:Rat) (b:Rat):Rat:=(a) / (b)
theorem aGz (a:Rat) (b:Rat) (hp:b ≠ 0/\szR a+szR b <= 500000):owes LTD DT0 [] f410 (bd f410) [.g [.R (a)],.g [.R (b)]] (.k (.g [.R ((a1D a b))])):=by
 refine a0m (show ((True/\True/\(b ≠ 0/\szR a <= 1000000/\szR b <= 1000000))/\(((a / b)=(a1D a b))/\True))=_ by kernel_rfl) ?_;obtain ⟨hp0,hp1⟩:=hp
 repeat' first | trivial | with_reducible apply And.intro | (intro _)
 all_goals first | exact tU0 | (exfalso; rename_i hx; simp [hp0] at hx; done) | (unfold a1D; exact tR_) | (simp_all; done)
def aRB:Ctr:=⟨410,spY (rQ.c (rQ.c r0)) (fun (a,b,_)=>b ≠ 0/\szR a+szR b <= 500000) (fun (a,b,_)=>.k (.g [.R ((a1D a b))]))⟩
theorem aNm:CtrOK prog aRB:=yOK a0w a4q Tryz.func410 fun x hp=>aGz x.1 x.2.1 hp
def a1y (a:Rat) (b:Rat) (m:Rat):Int:=(if (bif (bif ((((Rt.sg (a)))) == ((0:Int))) then (true) else (((((Rt.sg (b))))*(((Rt.sg (m))))) == ((0:Int)))) then (true) else ((((Rt.sg (a)))) == ((((Rt.sg (b))))*(((Rt.sg (m)))))))=true then (if ((((Rt.sg (a)))) == ((0:Int)))=true then (((Rt.sg (b))))*(((Rt.sg (m)))) else Rt.sg (a)) else (((Rt.sg (a))))*(((Rt.sg (((a)*(a)) - (((b)*(b))*(m)))))))
def aYR (a:Rat) (b:Rat) (m:Rat):=(bif (bif ((Rt.sg a) == (0:Int)) then true else (((Rt.sg b)*(Rt.sg m)) == (0:Int))) then true else ((Rt.sg a) == ((Rt.sg b)*(Rt.sg m))))
theorem aJj (a:Rat) (b:Rat) (m:Rat) (hp:szR a+szR b+szR m <= 300000):owes LTD DT0 [] f330 (bd f330) [.g [.R (a)],.g [.R (b)],.g [.R (m)]] (.k (.c (.v (.int .i64 ((a1y a b m)))))):=by
 refine a0m (show ((True/\True)/\((True/\True)/\((True/\True)/\((inR .i64 ((Rt.sg b)*(Rt.sg m)))/\(((aYR a b m)=true->((((Rt.sg a) == (0:Int))=true->(Value.int .i64 ((Rt.sg b)*(Rt.sg m))=(.int .i64 (a1y a b m))))/\(((Rt.sg a) == (0:Int))=false->(Value.int .i64 (Rt.sg a)=(.int .i64 (a1y a b m))))))/\((aYR a b m)=false->((True/\True/\(szR a <= 1000000/\szR a <= 1000000))/\((True/\True/\(szR b <= 1000000/\szR b <= 1000000))/\((True/\True/\(szR (b*b) <= 1000000/\szR m <= 1000000))/\((True/\True/\(szR (a*a) <= 1000000/\szR ((b*b)*m) <= 1000000))/\((inR .i64 ((Rt.sg a)*(Rt.sg ((a*a) - ((b*b)*m)))))/\(Value.int .i64 ((Rt.sg a)*(Rt.sg ((a*a) - ((b*b)*m))))=(.int .i64 (a1y a b m))))))))))))))=_ by kernel_rfl) ?_;delta aYR;have g1:=a0C b b;have g2:=a0C a a;have g3:=a0C ((b)*(b)) m
 repeat' first | trivial | with_reducible apply And.intro | (intro _)
 all_goals first | exact tU0 | (unfold a1y; exact tR_) | (simp_all; done)
def aV2:Ctr:=⟨330,spY (rQ.c (rQ.c (rQ.c r0))) (fun (a,b,m,_)=>szR a+szR b+szR m <= 300000) (fun (a,b,m,_)=>.k (.c (.v (.int .i64 ((a1y a b m))))))⟩
theorem aRP:CtrOK prog aV2:=yOK a0w a4q Tryz.func330 fun x hp=>aJj x.1 x.2.1 x.2.2.1 hp
theorem a1X (a:Rat) (b:Rat) (m:Rat):un (a1y a b m):=by
 unfold a1y
 repeat' split
 all_goals (repeat' first | exact a6S | exact a6R | exact a6Q | exact a2Q _ | apply a1M | apply a1O)
def DT1:List Ctr:=DT0 ++ [aRT,aV5,aGO,aRL,aV1,aVZ,aV0,aVY,aVV,aVX,aVW,aRB,aV2]
theorem aSx:∀ c ∈ DT1,CtrOK prog c:=a0M a4q (a0Y aNw (a0Y aRU (a0Y aGN (a0Y aNs (a0Y aRJ (a0Y aRH (a0Y aRI (a0Y aRE (a0Y aRA (a0Y aRD (a0Y aRC (a0Y aNm (a0Y aRP (a3e))))))))))))))
def a0v (a:Rat):Rx:=Rx.mk a a1p a1p
theorem tU1 {p:Prop} (h:p:=by first | rfl | omega | assumption | (with_reducible apply a3E; (repeat' first | exact a6S | exact a6R | exact a6Q | exact a2Q _ | exact a1X .. | apply a1M | apply a1O); done)):p:=h
theorem aAN (a:Rat):owes LTD DT1 [] f329 (bd f329) [.g [.R (a)]] (.k (.g (eR (a0v a)))):=by
 refine a0m (show (True/\(True/\((a=(a0v a).ra)/\((a1p=(a0v a).rb)/\((a1p=(a0v a).rc)/\True)))))=_ by kernel_rfl) ?_
 repeat' first | trivial | with_reducible apply And.intro | (intro _)
 all_goals first | exact tU1 | (unfold a0v; exact tR_) | (simp_all; done)
def aCo:Ctr:=⟨329,spY (rQ.c r0) (fun _=>True) (fun (a,_)=>.k (.g (eR (a0v a))))⟩
theorem aD9:CtrOK prog aCo:=yOK a0w aSx Tryz.func329 fun x _=>aAN x.1
theorem a5R (a:Rat):(a0v a).sz <= (szR a)+4:=by
 have g1:=a9F a a1p a1p;have g2:=@aHz ;unfold a0v
 repeat' split
 all_goals first | omega | (dsimp only; omega)
def a0V (r:Rx):Rat:=(a06 r.ra) - ((a06 r.rb)*(r.rc))
theorem aGP (r:Rx) (hp:r.sz <= 150000):owes LTD DT1 [] f398 (bd f398) [.g (eR r)] (.k (.g [.R ((a0V r))])):=by
 refine a0m (show ((True/\szR r.ra <= 500000)/\((True/\szR r.rb <= 500000)/\((True/\True/\(szR (a06 r.rb) <= 1000000/\szR r.rc <= 1000000))/\((True/\True/\(szR (a06 r.ra) <= 1000000/\szR ((a06 r.rb)*r.rc) <= 1000000))/\((((a06 r.ra) - ((a06 r.rb)*r.rc))=(a0V r))/\True)))))=_ by kernel_rfl) ?_;have g1:=a2D r;have g2:=@a6N r.rb;have g3:=@a6N r.ra;have g4:=a0C (a06 r.rb) r.rc
 repeat' first | trivial | with_reducible apply And.intro | (intro _)
 all_goals first | exact tU1 | (unfold a0V; exact tR_) | (simp_all; done)
def aRV:Ctr:=⟨398,spY (rR.c r0) (fun (r,_)=>r.sz <= 150000) (fun (r,_)=>.k (.g [.R ((a0V r))]))⟩
theorem aNx:CtrOK prog aRV:=yOK a0w aSx Tryz.func398 fun x hp=>aGP x.1 hp
theorem aWV (r:Rx):szR (a0V r) <= 3*(r.sz)+4:=by
 have g1:=a2z (a06 r.ra) ((a06 r.rb)*(r.rc));have g2:=@a6N r.ra;have g3:=a2D r;have g4:=a0C (a06 r.rb) r.rc;have g5:=@a6N r.rb;unfold a0V
 repeat' split
 all_goals first | omega | (dsimp only; omega)
def DT2:List Ctr:=DT1 ++ [aCo,aRV]
theorem aA4:∀ c ∈ DT2,CtrOK prog c:=a0M aSx (a0Y aD9 (a0Y aNx (a3e)))
def a0t (a:Rat) (b:Rat) (c:Rat):Rx:=(if (bif ((((Rt.sg (b)))) == ((0:Int))) then (true) else ((((Rt.sg (c)))) == ((0:Int))))=true then a0v a else Rx.mk a b c)
theorem aAM (a:Rat) (b:Rat) (c:Rat):owes LTD DT2 [] f475 (bd f475) [.g [.R (a)],.g [.R (b)],.g [.R (c)]] (.k (.g (eR (a0t a b c)))):=by
 refine a0m (show ((True/\True)/\(((((Rt.sg b) == (0:Int)) == false)=true->(True/\True))/\(((bif ((Rt.sg b) == (0:Int)) then true else ((Rt.sg c) == (0:Int)))=true->((True/\True)/\(((a0v a).ra=(a0t a b c).ra)/\(((a0v a).rb=(a0t a b c).rb)/\(((a0v a).rc=(a0t a b c).rc)/\True)))))/\((bif ((Rt.sg b) == (0:Int)) then true else ((Rt.sg c) == (0:Int)))=false->((a=(a0t a b c).ra)/\((b=(a0t a b c).rb)/\((c=(a0t a b c).rc)/\True)))))))=_ by kernel_rfl) ?_
 repeat' first | trivial | with_reducible apply And.intro | (intro _)
 all_goals first | exact tU1 | (unfold a0t; exact tR_) | (simp_all; done)
def aCn:Ctr:=⟨475,spY (rQ.c (rQ.c (rQ.c r0))) (fun _=>True) (fun (a,b,c,_)=>.k (.g (eR (a0t a b c))))⟩
theorem aD5:CtrOK prog aCn:=yOK a0w aA4 Tryz.func475 fun x _=>aAM x.1 x.2.1 x.2.2.1
theorem a7M (a:Rat) (b:Rat) (c:Rat):(a0t a b c).sz <= (szR a+szR b+szR c)+4:=by
 have g1:=@a5R a;have g2:=a2D (a0v a);have g3:=a9F a b c;unfold a0t
 repeat' split
 all_goals first | omega | (dsimp only; omega)
def a04 (r:Rx):Int:=(if (bif ((((Rt.sg (r.ra)))) == (((Rt.sg (r.rb))))) then (true) else ((((Rt.sg (r.rb)))) == ((0:Int))))=true then Rt.sg (r.ra) else (if ((((Rt.sg (r.ra)))) == ((0:Int)))=true then Rt.sg (r.rb) else (if (decide ((((Rt.sg (a0V r)))) > ((0:Int))))=true then Rt.sg (r.ra) else Rt.sg (r.rb))))
def aYQ (r:Rx):=(bif ((Rt.sg r.ra) == (Rt.sg r.rb)) then true else ((Rt.sg r.rb) == (0:Int)))
theorem aGU (r:Rx) (hp:r.sz <= 150000):owes LTD DT2 [] f316 (bd f316) [.g (eR r)] (.k (.c (.v (.int .i64 ((a04 r)))))):=by
 refine a0m (show ((True/\True)/\((True/\True)/\(((aYQ r)=true->(Value.int .i64 (Rt.sg r.ra)=(.int .i64 (a04 r))))/\((aYQ r)=false->((((Rt.sg r.ra) == (0:Int))=true->(Value.int .i64 (Rt.sg r.rb)=(.int .i64 (a04 r))))/\(((Rt.sg r.ra) == (0:Int))=false->(((True/\(True/\True))/\r.sz <= 150000)/\((True/\True)/\(((decide ((Rt.sg (a0V r)) > (0:Int)))=true->(Value.int .i64 (Rt.sg r.ra)=(.int .i64 (a04 r))))/\((decide ((Rt.sg (a0V r)) > (0:Int)))=false->(Value.int .i64 (Rt.sg r.rb)=(.int .i64 (a04 r)))))))))))))=_ by kernel_rfl) ?_;delta aYQ;have g1:=a2D r
 repeat' first | trivial | with_reducible apply And.intro | (intro _)
 all_goals first | exact tU1 | (unfold a04; exact tR_) | (simp_all; done)
def aRW:Ctr:=⟨316,spY (rR.c r0) (fun (r,_)=>r.sz <= 150000) (fun (r,_)=>.k (.c (.v (.int .i64 ((a04 r))))))⟩
theorem aNy:CtrOK prog aRW:=yOK a0w aA4 Tryz.func316 fun x hp=>aGU x.1 hp
theorem a1z (r:Rx):un (a04 r):=by
 unfold a04
 repeat' split
 all_goals (repeat' first | exact a6S | exact a6R | exact a6Q | exact a2Q _ | exact a1X .. | apply a1M | apply a1O)
def a3P (r:Rx):Rx:=Rx.mk (-(r.ra)) (-(r.rb)) r.rc
theorem tU2 {p:Prop} (h:p:=by first | rfl | omega | assumption | (with_reducible apply a3E; (repeat' first | exact a6S | exact a6R | exact a6Q | exact a2Q _ | exact a1X .. | exact a1z .. | apply a1M | apply a1O); done)):p:=h
theorem aJo (r:Rx) (hp:r.sz <= 200000):owes LTD DT2 [] f404 (bd f404) [.g (eR r)] (.k (.g (eR (a3P r)))):=by
 refine a0m (show ((True/\(szR r.ra <= 5000000))/\((True/\(szR r.rb <= 5000000))/\(((-r.ra)=(a3P r).ra)/\(((-r.rb)=(a3P r).rb)/\((r.rc=(a3P r).rc)/\True)))))=_ by kernel_rfl) ?_;have g1:=a2D r
 repeat' first | trivial | with_reducible apply And.intro | (intro _)
 all_goals first | exact tU2 | (unfold a3P; exact tR_) | (simp_all; done)
def aV6:Ctr:=⟨404,spY (rR.c r0) (fun (r,_)=>r.sz <= 200000) (fun (r,_)=>.k (.g (eR (a3P r))))⟩
theorem aRX:CtrOK prog aV6:=yOK a0w aA4 Tryz.func404 fun x hp=>aJo x.1 hp
def a0n (r:Rx) (a:Rat):Rx:=Rx.mk ((r.ra)+(a)) r.rb r.rc
theorem aBE (r:Rx) (a:Rat) (hp:r.sz+szR a <= 200000):owes LTD DT2 [] f335 (bd f335) [.g (eR r),.g [.R (a)]] (.k (.g (eR (a0n r a)))):=by
 refine a0m (show ((True/\True/\(szR r.ra <= 1000000/\szR a <= 1000000))/\(((r.ra+a)=(a0n r a).ra)/\((r.rb=(a0n r a).rb)/\((r.rc=(a0n r a).rc)/\True))))=_ by kernel_rfl) ?_;have g1:=a2D r
 repeat' first | trivial | with_reducible apply And.intro | (intro _)
 all_goals first | exact tU2 | (unfold a0n; exact tR_) | (simp_all; done)
def aGY:Ctr:=⟨335,spY (rR.c (rQ.c r0)) (fun (r,a,_)=>r.sz+szR a <= 200000) (fun (r,a,_)=>.k (.g (eR (a0n r a))))⟩
theorem aGX:CtrOK prog aGY:=yOK a0w aA4 Tryz.func335 fun x hp=>aBE x.1 x.2.1 hp
theorem aED (r:Rx) (a:Rat):(a0n r a).sz <= (r.sz+szR a)+4:=by
 have g1:=a9F ((r.ra)+(a)) r.rb r.rc;have g2:=a1C r.ra a;have g3:=a2D r;unfold a0n
 repeat' split
 all_goals first | omega | (dsimp only; omega)
def a3g (r:Rx) (s:Rx):Dx:=Dx.mk ((r.ra) - (s.ra)) r.rb (-(s.rb)) ((((0:Int)):Rat)) r.rc s.rc
theorem aJk (r:Rx) (s:Rx) (hp:r.sz+s.sz <= 200000):owes LTD DT2 [] f217 (bd f217) [.g (eR r),.g (eR s)] (.k (.g (eD (a3g r s)))):=by
 refine a0m (show ((True/\True/\(szR r.ra <= 1000000/\szR s.ra <= 1000000))/\((True/\(szR s.rb <= 5000000))/\((-9223372036854775808 <= (0:Int)/\(0:Int) <= 9223372036854775807)/\(((r.ra - s.ra)=(a3g r s).da)/\((r.rb=(a3g r s).db)/\(((-s.rb)=(a3g r s).dc)/\((((0:Int):Rat)=(a3g r s).dd)/\((r.rc=(a3g r s).dm)/\((s.rc=(a3g r s).dn)/\True)))))))))=_ by kernel_rfl) ?_;have g1:=a2D r;have g2:=a2D s
 repeat' first | trivial | with_reducible apply And.intro | (intro _)
 all_goals first | exact tU2 | (unfold a3g; exact tR_) | (simp_all; done)
def aV3:Ctr:=⟨217,spY (rR.c (rR.c r0)) (fun (r,s,_)=>r.sz+s.sz <= 200000) (fun (r,s,_)=>.k (.g (eD (a3g r s))))⟩
theorem aRQ:CtrOK prog aV3:=yOK a0w aA4 Tryz.func217 fun x hp=>aJk x.1 x.2.1 hp
theorem b0D (r:Rx) (s:Rx):(a3g r s).sz <= (r.sz+s.sz)+4:=by
 have g1:=aXd ((r.ra) - (s.ra)) r.rb (-(s.rb)) ((((0:Int)):Rat)) r.rc s.rc;have g2:=a2z r.ra s.ra;have g3:=a2D r;have g4:=a2D s;have g5:=a1Y s.rb
 have g6:=(a2V (n:=0) (by decide))
 unfold a3g
 repeat' split
 all_goals first | omega | (dsimp only; omega)
def a1Q (v:Vx):Px:=Px.mk v.vx a1K v.vy a1K a1K
theorem aNu (v:Vx):owes LTD DT2 [] Tryz.f57 (bd Tryz.f57) [.g (eV v)] (.k (.g (eP (a1Q v)))):=by
 refine a0m (show (True/\(True/\(True/\((v.vx=(a1Q v).a)/\((a1K=(a1Q v).b)/\((v.vy=(a1Q v).c)/\((a1K=(a1Q v).d)/\((a1K=(a1Q v).e)/\True))))))))=_ by kernel_rfl) ?_
 repeat' first | trivial | with_reducible apply And.intro | (intro _)
 all_goals first | exact tU2 | (unfold a1Q; exact tR_) | (simp_all; done)
def b2E:Ctr:=⟨57,spY (rV.c r0) (fun _=>True) (fun (v,_)=>.k (.g (eP (a1Q v))))⟩
theorem aUu:CtrOK prog b2E:=yOK a0w aA4 Tryz.func57 fun x _=>aNu x.1
theorem b4q (v:Vx):(a1Q v).sz <= (v.sz)+6:=by
 have g1:=aHK v.vx a1K v.vy a1K a1K;have g2:=aTc v;have g3:=@aOc ;unfold a1Q
 repeat' split
 all_goals first | omega | (dsimp only; omega)
def DT3:List Ctr:=DT2 ++ [aCn,aRW,aV6,aGY,aV3,b2E]
theorem aWE:∀ c ∈ DT3,CtrOK prog c:=a0M aA4 (a0Y aD5 (a0Y aNy (a0Y aRX (a0Y aGX (a0Y aRQ (a0Y aUu (a3e)))))))
