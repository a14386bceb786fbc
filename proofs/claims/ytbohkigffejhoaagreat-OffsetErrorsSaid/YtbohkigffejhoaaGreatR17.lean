import Derived.Test.YtbohkigffejhoaaGreatR16
open Int (ediv_nonneg emod_eq_of_lt natCast_add)
open Go.IntKind (wrap_u64)
open List (append_nil drop_zero getD_eq_getElem?_getD map_cons map_nil take_length)
open Nat (add_mul eq_zero_or_pos le_refl le_trans lt_of_lt_of_le lt_or_ge mod_lt mul_add mul_comm mul_le_mul_left pow_pos pow_succ sub_self zero_le)
open Go.Proofs.Tryz (f130 f133 f222 f313 f314 func129 func133 func224 func25 ntmps129 ntmps133 ntmps224 ntmps25 prog)
namespace Go.Proofs.YtbohkigffejhoaaGreat
open Go.RowKit
namespace Vc
theorem aFM (l:List Nat) (k:Nat) (hk:k <= l.length) (h0:0 < k):∃ x,(l.take k).getD (k - 1) 0=x/\l.take k=l.take (k - 1) ++ [x]:=by
 obtain ⟨m,rfl⟩:∃ m,k=m+1:=⟨k - 1,by omega⟩
 refine ⟨l[m],?_,?_⟩
 ·simp [getD_eq_getElem?_getD,show m < l.length by omega]
 ·rw [List.take_succ_eq_append_getElem (by omega)];simp
def aLw:Ctr:=⟨133,fun | [.c (.sl (l))]=>.yes (l.length <= 1000000000) (.k (.c (.sl ((Lb.trim l))))) | _=>.no⟩
def aQk (l:List Nat) (x1:Nat):=(((l.take x1).length:Int) - (1:Int))
def aYI (l:List Nat) (x1:Nat):=(bif (decide (((l.take x1).length:Int) > (0:Int))) then ((((l.take x1).getD (aQk l x1).toNat 0:Nat):Int) == (0:Int)) else false)
theorem aIK (l:List Nat) (hp:l.length <= 1000000000):owes LT CT0 [.inv 1 (Nat) (fun ξ=>⟨[.k (.c (.sl ((l.take ξ)))),.u,.u,.u,.u,.u,.u,.u,.u,.u,.u,.u,.u,.u,.u,.u,.u,.u,.u,.u,.u],[]⟩) (fun _ ξ=>(ξ <= l.length/\Lb.trim (l.take ξ)=Lb.trim l)) (fun ξ=>ξ)] f133 (bd f133) [.c (.sl (l))] (.k (.c (.sl ((Lb.trim l))))):=by
 refine Eq.mp (show ((∃ x1:Nat,((x1 <= l.length/\Lb.trim (l.take x1)=Lb.trim l)/\(((l=(l.take x1))/\True)/\True)))/\(∀ x1:Nat,((x1 <= l.length/\Lb.trim (l.take x1)=Lb.trim l)->((((decide (((l.take x1).length:Int) > (0:Int))) == true)=true->(inR .i64 (aQk l x1)))/\((((decide (((l.take x1).length:Int) > (0:Int))) == true)=true->(0 <= ((l.take x1).length:Int) - (1:Int)/\((l.take x1).length:Int) - (1:Int) < ((l.take x1).length:Int)))/\(((aYI l x1)=true->((inR .i64 (aQk l x1))/\((0 <= ((l.take x1).length:Int) - (1:Int)/\((l.take x1).length:Int) - (1:Int) <= ((l.take x1).length:Int))/\(∃ y1:Nat,((y1 <= l.length/\Lb.trim (l.take y1)=Lb.trim l)/\((y1 < x1)/\((((l.take x1).take (aQk l x1).toNat=(l.take y1))/\True)/\True)))))))/\((aYI l x1)=false->((l.take x1)=(Lb.trim l)))))))))=_ by kernel_rfl) ?_;delta aYI aQk;refine ⟨⟨l.length,⟨le_refl _,by rw [take_length]⟩,⟨by rw [take_length],by simp⟩,by simp⟩,?_⟩;rintro k ⟨hk,ht⟩
 have hlen:(l.take k).length=k:=by simp; omega
 have ek:((k:Int) - 1).toNat=k - 1:=by omega
 simp only [hlen,ek];refine ⟨fun h=>by simp only [inR]; omega,fun h=>?_,fun h=>?_,fun h=>?_⟩
 ·have:0 < k:=by simpa using h
  omega
 ·have h0:0 < k:=by
   rcases eq_zero_or_pos k with e | e
   ·subst e; simp at h
   ·exact e
  obtain ⟨x,hx1,hx2⟩:=aFM l k hk h0;rw [hx1] at h
  have hx0:x=0:=by
   have hd:decide ((k:Int) > 0)=true:=by simp; omega
   rw [hd] at h;simpa using h
  subst hx0;refine ⟨by simp only [inR]; omega,⟨by omega,by omega⟩,k - 1,⟨by omega,?_⟩,by omega,⟨?_,trivial⟩,trivial⟩
  ·rw [<- ht,hx2,Lb.a4s]
  ·rw [List.take_take,Nat.min_eq_left (by omega)]
 ·rw [<- ht];rcases eq_zero_or_pos k with e | e
  ·subst e;rfl
  ·obtain ⟨x,hx1,hx2⟩:=aFM l k hk e;rw [hx1] at h
   have hd:decide ((k:Int) > 0)=true:=by simp; omega
   rw [hd] at h
   have hx0:x ≠ 0:=by simpa using h
   refine (Lb.a6T fun hne=>?_).symm
   have hg:(l.take k).getLast hne=x:=by
    have:∀ (m:List Nat) (hm:m ≠ []),m=l.take (k - 1) ++ [x]->m.getLast hm=x:=by
     intro m hm e;subst e;simp
    exact this _ _ hx2
   rw [hg];exact hx0
theorem aRf:CtrOK prog aLw:=.of (by kernel_rfl) (fun bs w xs vs pre r hr hA hG h hp=>by
 simp only [aLw] at h;split at h
 ·cases h;exact a2j mixed a3c aSC func133 (by kernel_rfl) hr hA hG rfl rfl (aIK _ hp)
 ·cases h) (fun xs α pre φ r=>by simp only [aLw]; split <;> (intro h; cases h))
def RT0:List Ctr:=CT0 ++ [aLw]
theorem aSt:∀ c ∈ RT0,CtrOK prog c:=a0M aSC (a0Y aRf (a3e))
def a9r:Ctr:=⟨62,fun | [.c (.v (.bool (b))),.c (.sl (l))]=>.yes (Lb.Lt l/\l.length <= 1000000000) (.k (.g [.I ((sgn b (Lb.val l)))])) | _=>.no⟩
theorem aDw (b:Bool) (l:List Nat) (hp:Lb.Lt l/\l.length <= 1000000000):owes LT RT0 [] Tryz.f62 (bd Tryz.f62) [.c (.v (.bool (b))),.c (.sl (l))] (.k (.g [.I ((sgn b (Lb.val l)))])):=by
 refine Eq.mp (show ((l.length <= 1000000000)/\((Value.bool (bif b then (decide (((Lb.trim l).length:Int) > (0:Int))) else false)=.bool (decide ((sgn b (Lb.val l)) < 0)))/\(((Lb.trim l)=Lb.limbs (sgn b (Lb.val l)).natAbs)/\True)))=_ by kernel_rfl) ?_;obtain ⟨hl,hn⟩:=hp;have ht:Lb.trim l=Lb.limbs (Lb.val l):=Lb.a4t hl;refine ⟨hn,?_,?_,trivial⟩
 ·have hc:decide (((Lb.limbs (Lb.val l)).length:Int) > 0)=decide (0 < Lb.val l):=by
   rw [decide_eq_decide];rcases eq_zero_or_pos (Lb.val l) with e | e
   ·rw [e,Lb.a1h]; simp
   ·rw [Lb.a2i (by omega)]; simp only [List.length_cons]; omega
  rw [aXj,ht,hc];cases b <;> rfl
 ·rw [aMh,ht]
theorem aAv:CtrOK prog a9r:=.of (by kernel_rfl) (fun bs w xs vs pre r hr hA hG h hp=>by
 simp only [a9r] at h;split at h
 ·cases h;exact a2j mixed a3c aSt Tryz.func62 (by kernel_rfl) hr hA hG rfl rfl (aDw _ _ hp)
 ·cases h) (fun xs α pre φ r=>by simp only [a9r]; split <;> (intro h; cases h))
def aUp:Ctr:=⟨222,fun | [.c (.sl (a)),.c (.sl (b))]=>.yes ((Lb.a6v a/\Lb.a6v b)/\a.length <= 1000000000/\b.length <= 1000000000) (.k (.c (.v (.int .i64 ((aBi (Lb.val a) (Lb.val b))))))) | _=>.no⟩
def aQj (a:List Nat) (x1:Nat):=((a.getD ((x1:Int) - (1:Int)).toNat 0:Nat):Int)
def aQi (b:List Nat) (x1:Nat):=((b.getD ((x1:Int) - (1:Int)).toNat 0:Nat):Int)
def aMy (a:List Nat) (b:List Nat):Value:=(.int .i64 (aBi (Lb.val a) (Lb.val b)))
theorem aNa (a b:List Nat) (hp:(Lb.a6v a/\Lb.a6v b)/\a.length <= 1000000000/\b.length <= 1000000000):owes LT RT0 [.inv 6 (Nat) (fun ξ=>⟨[.k (.c (.sl (a))),.k (.c (.sl (b))),.u,.u,.u,.k (.c (.v (.int .i64 (((ξ:Int) - (1:Int)))))),.u,.u,.u,.u,.u,.u,.u,.u,.u,.u,.u,.u,.u,.u,.u,.u,.u,.u,.u,.u,.u,.u,.u,.u,.u,.u,.u,.u,.u,.u,.u,.u,.u,.u,.u],[]⟩) (fun _ ξ=>(ξ <= a.length/\a.length=b.length/\a.drop ξ=b.drop ξ)) (fun ξ=>ξ)] f222 (bd f222) [.c (.sl (a)),.c (.sl (b))] (.k (.c (.v (.int .i64 ((aBi (Lb.val a) (Lb.val b))))))):=by
 refine Eq.mp (show ((((a.length:Int) != (b.length:Int))=true->(((decide ((a.length:Int) < (b.length:Int)))=true->(Value.int .i64 (-1:Int)=(aMy a b)))/\((decide ((a.length:Int) < (b.length:Int)))=false->(Value.int .i64 (1:Int)=(aMy a b)))))/\(((a.length:Int) != (b.length:Int))=false->((inR .i64 ((a.length:Int) - (1:Int)))/\((∃ x1:Nat,((x1 <= a.length/\a.length=b.length/\a.drop x1=b.drop x1)/\(((a=a)/\((b=b)/\((Value.int .i64 ((a.length:Int) - (1:Int))=(.int .i64 ((x1:Int) - (1:Int))))/\True)))/\True)))/\(∀ x1:Nat,((x1 <= a.length/\a.length=b.length/\a.drop x1=b.drop x1)->(((decide (((x1:Int) - (1:Int)) >= (0:Int)))=true->((0 <= ((x1:Int) - (1:Int))/\((x1:Int) - (1:Int)) < (a.length:Int))/\((0 <= ((x1:Int) - (1:Int))/\((x1:Int) - (1:Int)) < (b.length:Int))/\(((decide ((aQj a x1) < (aQi b x1)))=true->(Value.int .i64 (-1:Int)=(aMy a b)))/\((decide ((aQj a x1) < (aQi b x1)))=false->((0 <= ((x1:Int) - (1:Int))/\((x1:Int) - (1:Int)) < (a.length:Int))/\((0 <= ((x1:Int) - (1:Int))/\((x1:Int) - (1:Int)) < (b.length:Int))/\(((decide ((aQj a x1) > (aQi b x1)))=true->(Value.int .i64 (1:Int)=(aMy a b)))/\((decide ((aQj a x1) > (aQi b x1)))=false->((inR .i64 (((x1:Int) - (1:Int)) - (1:Int)))/\(∃ y1:Nat,((y1 <= a.length/\a.length=b.length/\a.drop y1=b.drop y1)/\((y1 < x1)/\(((a=a)/\((b=b)/\((Value.int .i64 (((x1:Int) - (1:Int)) - (1:Int))=(.int .i64 ((y1:Int) - (1:Int))))/\True)))/\True))))))))))))))/\((decide (((x1:Int) - (1:Int)) >= (0:Int)))=false->(Value.int .i64 (0:Int)=(aMy a b))))))))))=_ by kernel_rfl) ?_;delta aMy aQi aQj;obtain ⟨⟨ha,hb⟩,na,nb⟩:=hp;refine ⟨fun h=>⟨fun h1=>?_,fun h1=>?_⟩,fun h=>⟨by simp only [inR]; omega,⟨a.length,⟨le_refl _,by have:(a.length:Int)=b.length:=(by simpa using h); omega,?_⟩,by simp,trivial⟩,?_⟩⟩
 ·rw [a8l (Lb.a9V ha hb (by simpa using h1))]
 ·have h2:(a.length:Int) ≠ b.length:=by simpa using h
  have h3:¬ a.length < b.length:=by simpa using h1
  rw [a8m (Lb.a9V hb ha (by omega))]
 ·have h2:(a.length:Int)=b.length:=by simpa using h
  have h2:a.length=b.length:=by omega
  rw [List.drop_length,h2,List.drop_length]
 rintro k ⟨hk,hlen,hd⟩;refine ⟨fun h0=>?_,fun h0=>?_⟩
 ·have hk0:0 < k:=by have:=of_decide_eq_true h0; omega
  obtain ⟨m,rfl⟩:∃ m,k=m+1:=⟨k - 1,by omega⟩
  have e:(((m+1:Nat):Int) - 1).toNat=m:=by omega
  have hma:m < a.length:=by omega
  have hmb:m < b.length:=by omega
  have ea:a.getD m 0=a[m]:=by simp [getD_eq_getElem?_getD,hma]
  have eb:b.getD m 0=b[m]:=by simp [getD_eq_getElem?_getD,hmb]
  simp only [e,ea,eb];refine ⟨⟨by omega,by omega⟩,⟨by omega,by omega⟩,fun c=>?_,fun c=>⟨⟨by omega,by omega⟩,⟨by omega,by omega⟩,fun c'=>?_,fun c'=>⟨by simp only [inR]; omega,m,⟨by omega,hlen,?_⟩,by omega,by simp,trivial⟩⟩⟩
  ·rw [a8l (Lb.aFb ha.1 m hma hmb hd (by simpa using c))]
  ·rw [a8m (Lb.aFb hb.1 m hmb hma hd.symm (by simpa using c'))]
  ·have h1:¬ a[m] < b[m]:=by simpa using c
   have h2:¬ b[m] < a[m]:=by simpa using c'
   rw [List.drop_eq_getElem_cons hma,List.drop_eq_getElem_cons hmb,hd,show a[m]=b[m] by omega]
 ·have hk0:k=0:=by have:=of_decide_eq_false h0; omega
  subst hk0;rw [drop_zero,drop_zero] at hd;rw [aAu (by rw [hd])]
theorem aLz:CtrOK prog aUp:=.of (by kernel_rfl) (fun bs w xs vs pre r hr hA hG h hp=>by
 simp only [aUp] at h;split at h
 ·cases h;exact a2j mixed a3c aSt Tryz.func222 (by kernel_rfl) hr hA hG rfl rfl (aNa _ _ hp)
 ·cases h) (fun xs α pre φ r=>by simp only [aUp]; split <;> (intro h; cases h))
def RT1:List Ctr:=RT0 ++ [a9r,aUp]
theorem aHn:∀ c ∈ RT1,CtrOK prog c:=a0M aSt (a0Y aAv (a0Y aLz (a3e)))
def aVS:Ctr:=⟨58,spY (gI.c r0) (fun _=>True) (fun (z,_)=>.k (.c (.v (.int .i64 (z.sign)))))⟩
theorem aIM (z:Int):owes LT RT1 [] Tryz.f58 (bd Tryz.f58) [.g [.I (z)]] (.k (.c (.v (.int .i64 (z.sign))))):=by
 refine Eq.mp (show (((((Lb.limbs z.natAbs).length:Int) == (0:Int))=true->(Value.int .i64 (0:Int)=(.int .i64 z.sign)))/\((((Lb.limbs z.natAbs).length:Int) == (0:Int))=false->(((decide (z < 0))=true->(Value.int .i64 (-1:Int)=(.int .i64 z.sign)))/\((decide (z < 0))=false->(Value.int .i64 (1:Int)=(.int .i64 z.sign))))))=_ by kernel_rfl) ?_
 have hl:((Lb.limbs z.natAbs).length:Int)=0 ↔ z=0:=by
  rcases eq_zero_or_pos z.natAbs with e | e
  ·rw [e,Lb.a1h]; simp; omega
  ·rw [Lb.a2i (by omega)]; simp only [List.length_cons]; omega
 refine ⟨fun h=>?_,fun h=>⟨fun h1=>?_,fun h1=>?_⟩⟩
 ·have h0:z=0:=hl.1 (beq_iff_eq.1 h);rw [h0]; rfl
 ·rw [Int.sign_eq_neg_one_of_neg (of_decide_eq_true h1)]
 ·have h0:z ≠ 0:=fun e=>by
   rw [hl.2 e] at h;cases h
  have h2:=of_decide_eq_false h1;rw [Int.sign_eq_one_of_pos (by omega)]
theorem aRh:CtrOK prog aVS:=yOK a3c aHn Tryz.func58 fun _ _=>aIM _
def b2z:Ctr:=⟨59,spY (gI.c r0) (fun (z,_)=>szI z <= 10000000) (fun (z,_)=>.k (.g [.I ((-z))]))⟩
theorem aM5 (z:Int) (hp:szI z <= 10000000):owes LT RT1 [] Tryz.f59 (bd Tryz.f59) [.g [.I (z)]] (.k (.g [.I ((-z))])):=by
 refine Eq.mp (show ((Lb.Lt (Lb.limbs z.natAbs)/\(Lb.limbs z.natAbs).length <= 1000000000)/\(((sgn (!(decide (z < 0))) (Lb.val (Lb.limbs z.natAbs)))=(-z))/\True))=_ by kernel_rfl) ?_;unfold szI at hp;refine ⟨⟨(Lb.a0q _).1,by omega⟩,?_,trivial⟩;rw [Lb.a0F];unfold sgn;by_cases h:z < 0
 ·simp [h]; omega
 ·simp [h]; omega
theorem aUm:CtrOK prog b2z:=yOK a3c aHn Tryz.func59 fun _ hp=>aM5 _ hp
def RT2:List Ctr:=RT1 ++ [aVS,b2z]
theorem b3k:∀ c ∈ RT2,CtrOK prog c:=a0M aHn (a0Y aRh (a0Y aUm (a3e)))
def aDx:Ctr:=⟨130,fun | [.c (.sl (l))]=>.yes (Lb.Lt l/\l.length <= 2) (.k (.c (.v (.int .u64 ((Lb.val l:Int)))))) | _=>.no⟩
def aYH (l:List Nat) (x1:Nat):=(((Lb.val (l.drop x1):Int)*(1000000000:Int))+((l.getD ((x1:Int) - (1:Int)).toNat 0:Nat):Int))
theorem aGb (l:List Nat) (hp:Lb.Lt l/\l.length <= 2):owes LT RT1 [.inv 3 (Nat) (fun ξ=>⟨[.k (.c (.sl (l))),.u,.u,.k (.c (.v (.int .u64 ((Lb.val (l.drop ξ):Int))))),.k (.c (.v (.int .i64 (((ξ:Int) - (1:Int)))))),.u,.u,.u,.u,.u,.u,.u,.u,.u,.u,.u,.u,.u,.u,.u,.u],[]⟩) (fun _ ξ=>(ξ <= l.length)) (fun ξ=>ξ)] f130 (bd f130) [.c (.sl (l))] (.k (.c (.v (.int .u64 ((Lb.val l:Int)))))):=by
 refine Eq.mp (show ((inR .i64 ((l.length:Int) - (1:Int)))/\((∃ x1:Nat,((x1 <= l.length)/\(((l=l)/\((Value.int .u64 (0:Int)=(.int .u64 (Lb.val (l.drop x1):Int)))/\((Value.int .i64 ((l.length:Int) - (1:Int))=(.int .i64 ((x1:Int) - (1:Int))))/\True)))/\True)))/\(∀ x1:Nat,((x1 <= l.length)->(((decide (((x1:Int) - (1:Int)) >= (0:Int)))=true->((inR .u64 ((Lb.val (l.drop x1):Int)*(1000000000:Int)))/\((0 <= ((x1:Int) - (1:Int))/\((x1:Int) - (1:Int)) < (l.length:Int))/\((inR .u64 ((l.getD ((x1:Int) - (1:Int)).toNat 0:Nat):Int))/\((inR .u64 (aYH l x1))/\((inR .i64 (((x1:Int) - (1:Int)) - (1:Int)))/\(∃ y1:Nat,((y1 <= l.length)/\((y1 < x1)/\(((l=l)/\((Value.int .u64 (aYH l x1)=(.int .u64 (Lb.val (l.drop y1):Int)))/\((Value.int .i64 (((x1:Int) - (1:Int)) - (1:Int))=(.int .i64 ((y1:Int) - (1:Int))))/\True)))/\True))))))))))/\((decide (((x1:Int) - (1:Int)) >= (0:Int)))=false->(Value.int .u64 (Lb.val (l.drop x1):Int)=(.int .u64 (Lb.val l:Int)))))))))=_ by kernel_rfl) ?_;delta aYH;obtain ⟨hl,hn⟩:=hp;refine ⟨by simp only [inR]; omega,⟨l.length,le_refl _,by simp [Lb.val],trivial⟩,fun k hk=>⟨fun h=>?_,fun h=>?_⟩⟩
 ·have hk0:0 < k:=by have:=of_decide_eq_true h; omega
  obtain ⟨m,rfl⟩:∃ m,k=m+1:=⟨k - 1,by omega⟩
  have e:(((m+1:Nat):Int) - 1).toNat=m:=by omega
  have hm:m < l.length:=by omega
  have ea:l.getD m 0=l[m]:=by simp [getD_eq_getElem?_getD,hm]
  have hx:=Lb.a2I hl m hm;have hv:=Lb.a2T l m hm;have hb:=Lb.a6g (Lb.aPu hl (m+1));have hb2:Lb.B ^ (l.drop (m+1)).length <= Lb.B ^ 1:=Nat.pow_le_pow_right Lb.a3w (by simp; omega);rw [Lb.a9f] at hx hv;have hb3:Lb.B ^ 1=1000000000:=rfl;rw [hb3] at hb2;simp only [e,ea];refine ⟨by simp only [inR]; omega,⟨by omega,by omega⟩,by simp only [inR]; omega,by simp only [inR]; omega,by simp only [inR]; omega,m,by omega,by omega,⟨trivial,?_,by simp,trivial⟩,trivial⟩;congr 1;omega
 ·have hk0:k=0:=by have:=of_decide_eq_false h; omega
  subst hk0;rfl
theorem aCg:CtrOK prog aDx:=.of (by kernel_rfl) (fun bs w xs vs pre r hr hA hG h hp=>by
 simp only [aDx] at h;split at h
 ·cases h;exact a2j mixed a3c aHn Tryz.func130 (by kernel_rfl) hr hA hG rfl rfl (aGb _ hp)
 ·cases h) (fun xs α pre φ r=>by simp only [aDx]; split <;> (intro h; cases h))
def aVT:Ctr:=⟨314,spY (gI.c (gI.c r0)) (fun (x,y,_)=>szI x <= 10000000/\szI y <= 10000000) (fun (x,y,_)=>.k (.c (.v (.bool (decide (x=y))))))⟩
theorem aIN (x y:Int) (hp:szI x <= 10000000/\szI y <= 10000000):owes LT RT1 [] f314 (bd f314) [.g [.I (x)],.g [.I (y)]] (.k (.c (.v (.bool (decide (x=y)))))):=by
 refine Eq.mp (show (((((decide (x < 0)) == (decide (y < 0))) == true)=true->((Lb.a6v (Lb.limbs x.natAbs)/\Lb.a6v (Lb.limbs y.natAbs))/\(Lb.limbs x.natAbs).length <= 1000000000/\(Lb.limbs y.natAbs).length <= 1000000000))/\(Value.bool (bif ((decide (x < 0)) == (decide (y < 0))) then ((aBi (Lb.val (Lb.limbs x.natAbs)) (Lb.val (Lb.limbs y.natAbs))) == (0:Int)) else false)=(.bool (decide (x=y)))))=_ by kernel_rfl) ?_;unfold szI at hp;obtain ⟨h1,h2⟩:=hp;refine ⟨fun _=>⟨⟨Lb.a0q _,Lb.a0q _⟩,by omega,by omega⟩,?_⟩;rw [Lb.a0F,Lb.a0F];congr 1
 have hc:(aBi x.natAbs y.natAbs == 0)=decide (x.natAbs=y.natAbs):=by
  rcases Nat.lt_trichotomy x.natAbs y.natAbs with h | h | h
  ·rw [a8l h,decide_eq_false (by omega)]; rfl
  ·rw [aAu h,decide_eq_true h]; rfl
  ·rw [a8m h,decide_eq_false (by omega)]; rfl
 rw [hc];by_cases a1:x < 0 <;> by_cases a2:y < 0 <;> simp [a1,a2] <;> omega
theorem aRi:CtrOK prog aVT:=yOK a3c aHn Tryz.func314 fun _ hp=>aIN _ _ hp
def RT3:List Ctr:=RT2 ++ [aDx,aVT]
theorem aWx:∀ c ∈ RT3,CtrOK prog c:=a0M b3k (a0Y aCg (a0Y aRi (a3e)))
def aRe:Ctr:=⟨313,spY (gI.c r0) (fun (z,_)=>szI z <= 10000000) (fun _=>.k (.c (.v (.bool (true)))))⟩
def aMx (z:Int):=((Lb.limbs z.natAbs).length:Int)
theorem aGa (z:Int) (hp:szI z <= 10000000):owes LT RT3 [.inv 2 (Nat) (fun ξ=>⟨[.u,.k (.c (.bx 0 0)),.u,.k (.c (.v (.int .i64 ((ξ:Int))))),.u,.u,.u,.u,.u,.u,.u,.u,.u,.u,.u,.u,.u,.u,.u,.u,.u,.u,.u,.u,.u,.u,.u,.u,.u,.u,.u,.u,.u,.u,.u,.u],[⟨33,[.I (z)]⟩]⟩) (fun _ ξ=>(ξ <= (Lb.limbs z.natAbs).length)) (fun ξ=>(Lb.limbs z.natAbs).length - ξ)] f313 (bd f313) [.g [.I (z)]] (.k (.c (.v (.bool (true))))):=by
 refine Eq.mp (show ((∃ x1:Nat,((x1 <= (Lb.limbs z.natAbs).length)/\((True/\((Value.int .i64 (0:Int)=(.int .i64 (x1:Int)))/\True))/\(((z=z)/\True)/\True))))/\(∀ x1:Nat,((x1 <= (Lb.limbs z.natAbs).length)->(((decide ((x1:Int) < (aMx z)))=true->((0 <= (x1:Int)/\(x1:Int) < (aMx z))/\(((decide ((((Lb.limbs z.natAbs).getD (x1:Int).toNat 0:Nat):Int) >= (1000000000:Int)))=true->(Value.bool false=(.bool true)))/\((decide ((((Lb.limbs z.natAbs).getD (x1:Int).toNat 0:Nat):Int) >= (1000000000:Int)))=false->((inR .i64 ((x1:Int)+(1:Int)))/\(∃ y1:Nat,((y1 <= (Lb.limbs z.natAbs).length)/\(((Lb.limbs z.natAbs).length - y1 < (Lb.limbs z.natAbs).length - x1)/\((True/\((Value.int .i64 ((x1:Int)+(1:Int))=(.int .i64 (y1:Int)))/\True))/\(((z=z)/\True)/\True))))))))))/\((decide ((x1:Int) < (aMx z)))=false->(((Lb.limbs z.natAbs).length <= 1000000000)/\(Value.bool (bif (((Lb.trim (Lb.limbs z.natAbs)).length:Int) == (aMx z)) then (bif (!(decide (z < 0))) then true else (decide ((aMx z) > (0:Int)))) else false)=(.bool true))))))))=_ by kernel_rfl) ?_;delta aMx;unfold szI at hp;have hN:=Lb.a0q z.natAbs
 have hT:Lb.trim (Lb.limbs z.natAbs)=Lb.limbs z.natAbs:=by rw [Lb.a4t hN.1,Lb.a0F]
 have hz:z < 0->0 < (Lb.limbs z.natAbs).length:=fun h=>by
  rw [Lb.a2i (by omega)];simp
 rw [hT]
 generalize Lb.limbs z.natAbs=l at *
 refine ⟨⟨0,zero_le _,by simp,by simp,trivial⟩,fun k hk=>⟨fun h=>?_,fun h=>?_⟩⟩
 ·have hkl:k < l.length:=by simpa using h
  have hx:=Lb.a2I hN.1 k hkl;rw [Lb.a9f] at hx
  have ea:l.getD k 0=l[k]:=by simp [getD_eq_getElem?_getD,hkl]
  simp only [Int.toNat_natCast,ea];refine ⟨⟨by omega,by omega⟩,fun c=>?_,fun _=>⟨by simp only [inR]; omega,k+1,hkl,by omega,by simp,by simp,trivial⟩⟩;have:=of_decide_eq_true c;omega
 ·refine ⟨by omega,?_⟩;by_cases h1:z < 0
  ·have:=hz h1;simp [h1];exact this
  ·simp [h1]
theorem aM1:CtrOK prog aRe:=yOK a3c aWx Tryz.func313 fun _ hp=>aGa _ hp
def RT4:List Ctr:=RT3 ++ [aRe]
theorem b3j:∀ c ∈ RT4,CtrOK prog c:=a0M aWx (a0Y aM1 (a3e))
end Vc
end Go.Proofs.YtbohkigffejhoaaGreat
namespace Go.Proofs.YtbohkigffejhoaaGreat
open Go.RowKit
set_option maxHeartbeats 4000000
set_option maxRecDepth 8000
def aEg (u n:Nat) (o:List Nat):Prop:=Lb.limbs u=o ++ Lb.limbs n/\n <= u
theorem aFe {u n:Nat} {o:List Nat} (h:aEg u n o) (hn:0 < n):aEg u (n / 1000000000) (o ++ [n % 1000000000]):=by
 obtain ⟨h1,h2⟩:=h;rw [Lb.a2i (n:=n) (by omega)] at h1;rw [Lb.a9f] at h1;exact ⟨by rw [h1]; simp,by omega⟩
theorem aId {u n:Nat} {o:List Nat} (h:aEg u n o) (hu:u < 18446744073709551616):o.length <= 3:=by
 have h1:=congrArg List.length h.1
 have h2:=Lb.a08 (n:=u) (k:=3) (by
  have:Lb.B ^ 3=1000000000000000000000000000:=rfl
  omega)
 rw [List.length_append] at h1;omega
theorem a5z (u:Nat) (w:World) (hu:u < 18446744073709551616) :
    Calls prog 63 #[.int .u64 (u:Int)] w (b5s w (Lb.limbs u)):=by
 go_enter Tryz.func63,Tryz.ntmps63
 go_wp2_with fail
 go_loopw [0,3] (fun i out wr=>∃ (n:Nat) (o:List Nat),i=.int .u64 n/\Hid (aEg u n o)/\Hid (OwnG w.heap.size 189 1 uC wr out o)/\Hid (Ext w wr)) (fun i _ _=>(intOf i).toNat)
 case atStart=>exact ⟨u,[],rfl,Lib.hid ⟨by simp,le_refl _⟩,Lib.hid (OwnG.nil _ _ _),Lib.hid (Ext.refl w)⟩
 case round =>
  obtain ⟨n,o,rfl,HL,HO,HE⟩:=hrel;have HN:=Lib.hid (aId HL.out hu);by_cases hn:0 < n
  ·have hq:decide ((n:Int) > 0)=true:=by simp; omega
   have HL2:=Lib.hid (aFe HL.out hn);obtain ⟨X,hX,hAX,heX,hzX⟩:=aAQ wr [n % 1000000000];have HSX:=Lib.hid (hAX.all (n:=1) (cap:=1) rfl (le_refl _)); have HOX:=Lib.hid (HO.out.later heX); have HEX:=Lib.hid (HE.out.trans heX);have HBX:Hid (w.heap.size <= X.heap.size):=Lib.hid HEX.out.size;have HM:Hid (o.length+[n % 1000000000].length <= maxLen):=Lib.hid (by have:=HN.out; unfold maxLen; simp; omega);have HB:Hid ((o.length+[n % 1000000000].length)*4 <= 140737488355328):=Lib.hid (by have:=HN.out; simp; omega)
   have e1:(n:Int) % 1000000000 < 1000000000:=by omega
   have e2:0 <= (n:Int) % 1000000000:=by omega
   have e3:0 <= (n:Int) / 1000000000:=by omega
   have e4:((1000000000:Nat):Int)=1000000000:=rfl;have hnu:n <= u:=HL.out.2;simp only [map_cons,map_nil,uV,Int.natCast_emod,e4] at hX;clear hAX heX hzX HL HO HE HN e4
   go_wp2_with ((at_builtin; refine aJw rfl _ _ rfl Tryz.underlying31 Tryz.info_u32 rfl (by decide) a6h aOk w.heap.size _ _ o [n % 1000000000] rfl rfl HOX.out HSX.out HM.out HB.out HBX.out ?_; intro v6 w6 own6 hg6 hloc6))
   have E6:Ext w w6:=HEX.out.grown hg6 (fun i hi=>(HOX.out.base hi).1)
   go_roundw
   case rel=>exact ⟨n / 1000000000,o ++ [n % 1000000000],by go_num,HL2,Lib.hid own6,Lib.hid E6⟩
   case measure=>simp [intOf]; omega
  ·obtain rfl:n=0:=by omega
   have hl:=HL.out.1;rw [Lb.a1h,append_nil] at hl;have HS:=Lib.hid (HO.out.sl a6h);rw [<- hl] at HS;obtain ⟨a,c,rfl⟩:=SlU.form HS.out
   go_wp2_with fail
   go_ret
   exact ⟨_,_,_,rfl,HS.out,HE.out⟩
theorem a9J (b:Bool) (s:Value) (l:List Nat) (w:World) (hs:SlU w s l) (hl:Lb.Lt l) (hn:l.length <= 1000000000) :
    Calls prog 62 #[.bool b,s] w (b3i w (sgn b (Lb.val l))):=by
 refine (Vc.aAv.yes ⟨w.heap.size,[],[],[]⟩ w [.c (.v (.bool b)),.c (.sl l)] [.bool b,s] _ _ ⟨⟨rfl,rfl⟩,⟨hs,trivial⟩,trivial⟩ rfl rfl rfl ⟨hl,hn⟩).mono ?_;rintro e w' ⟨v,rfl,hx,hv⟩;obtain ⟨b',s',rfl,hi⟩:=(Vc.aOL trivial trivial).1 hv;obtain ⟨a,c,rfl⟩:=SlU.form hi.2;exact ⟨b',a,_,c,rfl,hi,hx⟩
theorem aET (n:Int) (w:World) (h0:-9223372036854775808 <= n) (h1:n <= 9223372036854775807) :
    Calls prog 25 #[.int .i64 n] w (b3i w n):=by
 obtain ⟨W,hW,hb,hE,hz⟩:=a4C w #[.bool false,.slice none 0 0] 33;have HB:=Lib.hid hb; have HZ:=Lib.hid hz;clear hb hz
 have hlen:∀ u:Nat,u < 18446744073709551616->(Lb.limbs u).length <= 1000000000:=fun u hu=>by
  have h2:=Lb.a08 (n:=u) (k:=3) (by
   have:Lb.B ^ 3=1000000000000000000000000000:=rfl
   omega)
  omega
 by_cases hneg:n < 0
 ·obtain ⟨u,rfl⟩:∃ u:Nat,n=-(u:Int):=⟨n.natAbs,by omega⟩
  have hu:u < 18446744073709551616:=by omega
  have hwr:IntKind.u64.wrap (-IntKind.u64.wrap (-(u:Int)))=(u:Int):=by rw [wrap_u64,wrap_u64]; omega
  have hsg:sgn true u=-(u:Int):=rfl
  have hup:0 < u:=by omega
  go_enter func25,ntmps25
  go_wp2_with fail
  refine (a5z u _ hu).mono ?_;rintro e w2 ⟨a,m,c,rfl,hs,hx⟩
  go_wp2_with fail
  refine (a9J true _ _ w2 hs (Lb.a0q u).1 (hlen u hu)).mono ?_;rintro e w3 ⟨b3,a3,m3,c3,rfl,hs3,hx3⟩;rw [Lb.a0F,hsg] at hs3;have HK:=Lib.hid (a3t HB.out (hx.trans hx3));obtain ⟨r0,r1,r2,r3⟩:=aEU HK.out
  go_wp2_with fail
  exact bodyPost_ret (v:=.agg #[.bool b3,.slice a3 m3 c3]) (by simp [results,Tryz.results25,go_sem,r0,r1]) rfl (aQH ((hE.trans hx).trans hx3) (le_refl _) HK.out hs3)
 ·obtain ⟨u,rfl⟩:∃ u:Nat,n=(u:Int):=⟨n.natAbs,by omega⟩
  have hu:u < 18446744073709551616:=by omega
  have hsg:sgn false u=(u:Int):=rfl
  go_enter func25,ntmps25
  go_wp2_with fail
  refine (a5z u _ hu).mono ?_;rintro e w2 ⟨a,m,c,rfl,hs,hx⟩
  go_wp2_with fail
  refine (a9J false _ _ w2 hs (Lb.a0q u).1 (hlen u hu)).mono ?_;rintro e w3 ⟨b3,a3,m3,c3,rfl,hs3,hx3⟩;rw [Lb.a0F,hsg] at hs3;have HK:=Lib.hid (a3t HB.out (hx.trans hx3));obtain ⟨r0,r1,r2,r3⟩:=aEU HK.out
  go_wp2_with fail
  exact bodyPost_ret (v:=.agg #[.bool b3,.slice a3 m3 c3]) (by simp [results,Tryz.results25,go_sem,r0,r1]) rfl (aQH ((hE.trans hx).trans hx3) (le_refl _) HK.out hs3)
def aZ7 (w:World) (l:List Nat) (e:Ending) (w':World):Prop:=∃ a n c,e=.returned (.slice a n c)/\SlU w' (.slice a n c) l/\Ext w w'/\∀ b,(Value.slice a n c).ownBlock=some b->w.heap.size <= b
set_option maxHeartbeats 1000000 in
theorem a3r (v:Value) (l:List Nat) (w:World) (h:SlU w v l) (hn:l.length <= 1000000000) :
    Calls prog 133 #[v] w (aJK w v (Lb.trim l)):=by
 rcases h.cases with ⟨rfl,a,cap,rfl,hc⟩ | ⟨h0,b,off,cap,rfl,hcap,hb,hcell⟩
 ·go_enter func133,ntmps133
  go_wp2
  go_loop [0] (fun t=>t=.slice a 0 cap) (fun _=>0)
  case atStart=>rfl
  case round =>
   subst hrel
   go_wp2
   go_ret
   exact ⟨_,rfl,SlU.empty hc,rfl,rfl⟩
 ·have HC:=Lib.hid hcell;have HL:=Lib.hid hcap;clear hcell hcap h
  go_enter func133,ntmps133
  go_wp2
  go_loop [0] (fun t=>∃ m,m <= l.length/\t=.slice (some ⟨b,off,none⟩) m cap/\Lb.trim (l.take m)=Lb.trim l) (fun t=>match t with | .slice _ m _=>m | _=>0)
  case atStart=>exact ⟨l.length,le_refl _,rfl,by rw [take_length]⟩
  case round =>
   obtain ⟨m,hm,rfl,htr⟩:=hrel;have HT:=Lib.hid htr;clear htr
   cases m with
   | zero =>
     go_wp2
     go_ret
     refine ⟨_,rfl,?_,rfl,rfl⟩;rw [<- HT.out]
     exact SlU.empty (fun h=>by cases h)
   | succ j =>
     have hj:j < l.length:=by omega
     have c:=HC.out j hj
     have hjc:j+1 <= cap:=by have:=HL.out; omega
     have hlast:=aOq hj;by_cases hz:l[j]=0
     ·rw [hz] at c;have HZ:Hid (Lb.trim (l.take j)=Lb.trim l):=Lib.hid (by rw [<- HT.out,hlast,hz,Lb.a4s]);clear hlast hz
      go_wp2
      go_round
      case rel=>exact ⟨j,by omega,by go_num,HZ.out⟩
      case measure=>simp
     ·have hne:((l[j]:Int) == 0)=false:=by simp; omega
      have HZ:Hid (l.take (j+1)=Lb.trim l):=Lib.hid (by
       rw [<- HT.out,Lb.a6T];intro h;simp only [hlast,List.getLast_concat]
       exact hz)
      generalize (l[j]:Int)=x at c hne;clear hlast hz
      go_wp2
      go_ret
      refine ⟨_,rfl,?_,rfl,rfl⟩;rw [<- HZ.out];refine SlU.mk (by simp; omega) hjc (fun _=>hb) fun i hi=>?_
      have hi':i < l.length:=by simp at hi; omega
      rw [HC.out i hi'];simp
theorem a5T {a b o:List Nat} {k c s:Nat} (h:aCu a b k c o) (hs:s=a.getD k 0+b.getD k 0+c):aCu a b (k+1) (s / 1000000000) (o ++ [s % 1000000000]) :=
 ⟨by simp [h.len],Lb.a3T h.lt (Lb.a4v (by rw [Lb.a9f]; omega) Lb.a4k),Lb.aOX h.len h.sum (by rw [Lb.a9f]; omega)⟩
set_option maxHeartbeats 16000000 in
theorem aTp (v1 v2:Value) (a b:List Nat) (w:World) (h1:SlU w v1 a) (h2:SlU w v2 b) (k1:Lb.Lt a) (k2:Lb.Lt b) (n1:a.length <= 100000000) (hab:b.length <= a.length) :
    Calls prog 224 #[v1,v2] w (aZ7 w (Lb.limbs (Lb.val a+Lb.val b))):=by
 obtain ⟨p1,q1,rfl⟩:=h1.form;obtain ⟨p2,q2,rfl⟩:=h2.form
 have hlt:decide (a.length < b.length)=false:=by simp; omega
 have hmk:=a5V (a.length+1) (by omega);rw [natCast_add] at hmk;have e1:((1:Nat):Int)=1:=rfl;rw [e1] at hmk;obtain ⟨W,hW,hA,hE,hz⟩:=a3h w (a.length+1);have HA0:=Lib.hid hA;have HE:=Lib.hid hE;have H1:=Lib.hid h1; have H2:=Lib.hid h2; have HK1:=Lib.hid k1; have HK2:=Lib.hid k2; have HAB:Hid (b.length <= a.length):=Lib.hid (by omega);clear e1 hA hE hz h1 h2 k1 k2 hab
 go_enter func224,ntmps224
 go_wp2_with fail
 clear hmk
 go_loopw [6,7] (fun c i wr=>∃ (k cn:Nat) (o:List Nat),k <= a.length/\i=.int .i64 k/\c=.int .u32 cn/\cn <= 1/\Hid (aCu a b k cn o)/\Hid (ArrU wr w.heap.size (o ++ List.replicate (a.length+1 - k) 0))/\Hid (Ext w wr)) (fun _ i _=>a.length - (intOf i).toNat)
 case atStart=>exact ⟨0,0,[],zero_le _,rfl,rfl,by omega,Lib.hid (a8D a b),HA0,HE⟩
 case round =>
  clear hW HA0 HE hlt;obtain ⟨k,cn,o,hk,rfl,rfl,hcn,HP,HA,HE⟩:=hrel;have HL:Hid (o.length=k):=Lib.hid HP.out.len
  have hlen:k < (o ++ List.replicate (a.length+1 - k) 0).length:=by have:=HL.out; simp; omega
  have cs:=HA.out.cell k hlen;have fs:=HA.out.free k;generalize ((o ++ List.replicate (a.length+1 - k) 0)[k]:Int)=old at cs;clear hlen;by_cases hka:k < a.length
  ·have hx:a[k] < 1000000000:=Lb.a2I HK1.out k hka;have HX:Hid (a.getD k 0=a[k]):=Lib.hid (by simp [hka]);obtain ⟨g1,o1,rfl,cell1⟩:=(H1.out.later HE.out).at k hka
   generalize a[k]=x at *
   by_cases hkb:k < b.length
   ·have hy:b[k] < 1000000000:=Lb.a2I HK2.out k hkb;have HY:Hid (b.getD k 0=b[k]):=Lib.hid (by simp [hkb]);obtain ⟨g2,o2,rfl,cell2⟩:=(H2.out.later HE.out).at k hkb
    generalize b[k]=y at *
    have HP2:=Lib.hid (a5T (s:=cn+x+y) HP.out (by rw [HX.out,HY.out]; omega))
    have HAX:Hid (∀ u:Int,u=((cn:Int)+x+y) % 1000000000->ArrU (wr.setCell ⟨w.heap.size,k,none⟩ (.int .u32 u)) w.heap.size ((o ++ [(cn+x+y) % 1000000000]) ++ List.replicate (a.length+1 - (k+1)) 0)):=Lib.hid (fun u hu=>by
     have e:u=(((cn+x+y) % 1000000000:Nat):Int):=by rw [hu]; simp
     subst e; have:=HA.out.set k ((cn+x+y) % 1000000000); rwa [Lb.a2F HL.out (by omega)] at this)
    have HC:Hid (((cn:Int)+x+y) / 1000000000=(((cn+x+y) / 1000000000:Nat):Int)):=Lib.hid (by simp)
    have hc2:(cn+x+y) / 1000000000 <= 1:=by omega
    have HC2:=Lib.hid hc2;clear hc2 HX HY HP HA HL
    go_wp2_with fail
    go_roundw
    case rel=>exact ⟨k+1,_,_,by omega,by go_num,by rw [HC.out],HC2.out,HP2,Lib.hid (HAX.out _ rfl),Lib.hid (HE.out.setCell (le_refl _) _)⟩
    case measure=>simp [intOf]; omega
   ·have HY:Hid (b.getD k 0=0):=Lib.hid (by simp [Nat.le_of_not_lt hkb]);have HP2:=Lib.hid (a5T (s:=cn+x) HP.out (by rw [HX.out,HY.out]; omega))
    have HAX:Hid (∀ u:Int,u=((cn:Int)+x) % 1000000000->ArrU (wr.setCell ⟨w.heap.size,k,none⟩ (.int .u32 u)) w.heap.size ((o ++ [(cn+x) % 1000000000]) ++ List.replicate (a.length+1 - (k+1)) 0)):=Lib.hid (fun u hu=>by
     have e:u=(((cn+x) % 1000000000:Nat):Int):=by rw [hu]; simp
     subst e; have:=HA.out.set k ((cn+x) % 1000000000); rwa [Lb.a2F HL.out (by omega)] at this)
    have HC:Hid (((cn:Int)+x) / 1000000000=(((cn+x) / 1000000000:Nat):Int)):=Lib.hid (by simp)
    have hc2:(cn+x) / 1000000000 <= 1:=by omega
    have HC2:=Lib.hid hc2;clear hc2 HX HY HP HA HL
    go_wp2_with fail
    go_roundw
    case rel=>exact ⟨k+1,_,_,by omega,by go_num,by rw [HC.out],HC2.out,HP2,Lib.hid (HAX.out _ rfl),Lib.hid (HE.out.setCell (le_refl _) _)⟩
    case measure=>simp [intOf]; omega
  ·obtain rfl:k=a.length:=by omega
   have HC:=Lib.hid (aBW HP.out rfl HAB.out hcn)
   have HAX:Hid (ArrU (wr.setCell ⟨w.heap.size,a.length,none⟩ (.int .u32 (cn:Int))) w.heap.size (o ++ [cn])):=Lib.hid (by
    have:=HA.out.set a.length cn;rw [Lb.a2F HL.out (by omega),sub_self] at this
    simpa using this)
   clear hka;have HEF:Hid (Ext w (wr.setCell ⟨w.heap.size,a.length,none⟩ (.int .u32 (cn:Int)))):=Lib.hid (HE.out.setCell (le_refl _) _);have HS:Hid (SlU (wr.setCell ⟨w.heap.size,a.length,none⟩ (.int .u32 (cn:Int))) (.slice (some ⟨w.heap.size,0,none⟩) (a.length+1) (a.length+1)) (o ++ [cn])):=Lib.hid (HAX.out.all (by simp [HL.out]) (le_refl _));have HLN:Hid ((o ++ [cn]).length <= 1000000000):=Lib.hid (by simp [HL.out]; omega);clear HA HAX HP
   go_wp2_with fail
   refine (a3r _ _ _ HS.out HLN.out).mono ?_;rintro e w3 ⟨v3,rfl,hs3,hb3,rfl⟩;rw [Lb.a4t HC.out.1,HC.out.2] at hs3;obtain ⟨a3,c3,rfl⟩:=SlU.form hs3
   go_wp2_with fail
   go_ret
   exact ⟨_,_,_,rfl,hs3,HEF.out,fun b hb=>by rw [hb3] at hb; cases hb; exact le_refl _⟩
set_option maxHeartbeats 16000000 in
theorem aTo (v1 v2:Value) (a b:List Nat) (w:World) (h1:SlU w v1 a) (h2:SlU w v2 b) (k1:Lb.Lt a) (k2:Lb.Lt b) (n1:a.length <= 100000000) (hab:b.length < a.length) :
    Calls prog 224 #[v2,v1] w (aZ7 w (Lb.limbs (Lb.val a+Lb.val b))):=by
 obtain ⟨p1,q1,rfl⟩:=h1.form;obtain ⟨p2,q2,rfl⟩:=h2.form
 have hlt:decide (b.length < a.length)=true:=by simp; omega
 have hmk:=a5V (a.length+1) (by omega);rw [natCast_add] at hmk;have e1:((1:Nat):Int)=1:=rfl;rw [e1] at hmk;obtain ⟨W,hW,hA,hE,hz⟩:=a3h w (a.length+1);have HA0:=Lib.hid hA;have HE:=Lib.hid hE;have H1:=Lib.hid h1; have H2:=Lib.hid h2; have HK1:=Lib.hid k1; have HK2:=Lib.hid k2; have HAB:Hid (b.length <= a.length):=Lib.hid (by omega);clear e1 hA hE hz h1 h2 k1 k2 hab
 go_enter func224,ntmps224
 go_wp2_with fail
 clear hmk
 go_loopw [6,7] (fun c i wr=>∃ (k cn:Nat) (o:List Nat),k <= a.length/\i=.int .i64 k/\c=.int .u32 cn/\cn <= 1/\Hid (aCu a b k cn o)/\Hid (ArrU wr w.heap.size (o ++ List.replicate (a.length+1 - k) 0))/\Hid (Ext w wr)) (fun _ i _=>a.length - (intOf i).toNat)
 case atStart=>exact ⟨0,0,[],zero_le _,rfl,rfl,by omega,Lib.hid (a8D a b),HA0,HE⟩
 case round =>
  clear hW HA0 HE hlt;obtain ⟨k,cn,o,hk,rfl,rfl,hcn,HP,HA,HE⟩:=hrel;have HL:Hid (o.length=k):=Lib.hid HP.out.len
  have hlen:k < (o ++ List.replicate (a.length+1 - k) 0).length:=by have:=HL.out; simp; omega
  have cs:=HA.out.cell k hlen;have fs:=HA.out.free k;generalize ((o ++ List.replicate (a.length+1 - k) 0)[k]:Int)=old at cs;clear hlen;by_cases hka:k < a.length
  ·have hx:a[k] < 1000000000:=Lb.a2I HK1.out k hka;have HX:Hid (a.getD k 0=a[k]):=Lib.hid (by simp [hka]);obtain ⟨g1,o1,rfl,cell1⟩:=(H1.out.later HE.out).at k hka
   generalize a[k]=x at *
   by_cases hkb:k < b.length
   ·have hy:b[k] < 1000000000:=Lb.a2I HK2.out k hkb;have HY:Hid (b.getD k 0=b[k]):=Lib.hid (by simp [hkb]);obtain ⟨g2,o2,rfl,cell2⟩:=(H2.out.later HE.out).at k hkb
    generalize b[k]=y at *
    have HP2:=Lib.hid (a5T (s:=cn+x+y) HP.out (by rw [HX.out,HY.out]; omega))
    have HAX:Hid (∀ u:Int,u=((cn:Int)+x+y) % 1000000000->ArrU (wr.setCell ⟨w.heap.size,k,none⟩ (.int .u32 u)) w.heap.size ((o ++ [(cn+x+y) % 1000000000]) ++ List.replicate (a.length+1 - (k+1)) 0)):=Lib.hid (fun u hu=>by
     have e:u=(((cn+x+y) % 1000000000:Nat):Int):=by rw [hu]; simp
     subst e; have:=HA.out.set k ((cn+x+y) % 1000000000); rwa [Lb.a2F HL.out (by omega)] at this)
    have HC:Hid (((cn:Int)+x+y) / 1000000000=(((cn+x+y) / 1000000000:Nat):Int)):=Lib.hid (by simp)
    have hc2:(cn+x+y) / 1000000000 <= 1:=by omega
    have HC2:=Lib.hid hc2;clear hc2 HX HY HP HA HL
    go_wp2_with fail
    go_roundw
    case rel=>exact ⟨k+1,_,_,by omega,by go_num,by rw [HC.out],HC2.out,HP2,Lib.hid (HAX.out _ rfl),Lib.hid (HE.out.setCell (le_refl _) _)⟩
    case measure=>simp [intOf]; omega
   ·have HY:Hid (b.getD k 0=0):=Lib.hid (by simp [Nat.le_of_not_lt hkb]);have HP2:=Lib.hid (a5T (s:=cn+x) HP.out (by rw [HX.out,HY.out]; omega))
    have HAX:Hid (∀ u:Int,u=((cn:Int)+x) % 1000000000->ArrU (wr.setCell ⟨w.heap.size,k,none⟩ (.int .u32 u)) w.heap.size ((o ++ [(cn+x) % 1000000000]) ++ List.replicate (a.length+1 - (k+1)) 0)):=Lib.hid (fun u hu=>by
     have e:u=(((cn+x) % 1000000000:Nat):Int):=by rw [hu]; simp
     subst e; have:=HA.out.set k ((cn+x) % 1000000000); rwa [Lb.a2F HL.out (by omega)] at this)
    have HC:Hid (((cn:Int)+x) / 1000000000=(((cn+x) / 1000000000:Nat):Int)):=Lib.hid (by simp)
    have hc2:(cn+x) / 1000000000 <= 1:=by omega
    have HC2:=Lib.hid hc2;clear hc2 HX HY HP HA HL
    go_wp2_with fail
    go_roundw
    case rel=>exact ⟨k+1,_,_,by omega,by go_num,by rw [HC.out],HC2.out,HP2,Lib.hid (HAX.out _ rfl),Lib.hid (HE.out.setCell (le_refl _) _)⟩
    case measure=>simp [intOf]; omega
  ·obtain rfl:k=a.length:=by omega
   have HC:=Lib.hid (aBW HP.out rfl HAB.out hcn)
   have HAX:Hid (ArrU (wr.setCell ⟨w.heap.size,a.length,none⟩ (.int .u32 (cn:Int))) w.heap.size (o ++ [cn])):=Lib.hid (by
    have:=HA.out.set a.length cn;rw [Lb.a2F HL.out (by omega),sub_self] at this
    simpa using this)
   clear hka;have HEF:Hid (Ext w (wr.setCell ⟨w.heap.size,a.length,none⟩ (.int .u32 (cn:Int)))):=Lib.hid (HE.out.setCell (le_refl _) _);have HS:Hid (SlU (wr.setCell ⟨w.heap.size,a.length,none⟩ (.int .u32 (cn:Int))) (.slice (some ⟨w.heap.size,0,none⟩) (a.length+1) (a.length+1)) (o ++ [cn])):=Lib.hid (HAX.out.all (by simp [HL.out]) (le_refl _));have HLN:Hid ((o ++ [cn]).length <= 1000000000):=Lib.hid (by simp [HL.out]; omega);clear HA HAX HP
   go_wp2_with fail
   refine (a3r _ _ _ HS.out HLN.out).mono ?_;rintro e w3 ⟨v3,rfl,hs3,hb3,rfl⟩;rw [Lb.a4t HC.out.1,HC.out.2] at hs3;obtain ⟨a3,c3,rfl⟩:=SlU.form hs3
   go_wp2_with fail
   go_ret
   exact ⟨_,_,_,rfl,hs3,HEF.out,fun b hb=>by rw [hb3] at hb; cases hb; exact le_refl _⟩
theorem aOG (v1 v2:Value) (a b:List Nat) (w:World) (h1:SlU w v1 a) (h2:SlU w v2 b) (k1:Lb.Lt a) (k2:Lb.Lt b) (n1:a.length <= 100000000) (n2:b.length <= 100000000) :
    Calls prog 224 #[v1,v2] w (aZ7 w (Lb.limbs (Lb.val a+Lb.val b))):=by
 by_cases h:b.length <= a.length
 ·exact aTp v1 v2 a b w h1 h2 k1 k2 n1 h
 ·rw [Nat.add_comm];exact aTo v2 v1 b a w h2 h1 k2 k1 n2 (by omega)
set_option maxHeartbeats 16000000 in
theorem a7S (v1 v2:Value) (a b:List Nat) (w:World) (h1:SlU w v1 a) (h2:SlU w v2 b) (k1:Lb.Lt a) (k2:Lb.Lt b) (n1:a.length <= 100000000) (hab:b.length <= a.length) (hle:Lb.val b <= Lb.val a) :
    Calls prog 223 #[v1,v2] w (aZ7 w (Lb.limbs (Lb.val a - Lb.val b))):=by
 obtain ⟨p1,q1,rfl⟩:=h1.form;obtain ⟨p2,q2,rfl⟩:=h2.form;have hmk:=a5V a.length (by omega);obtain ⟨W,hW,hA,hE,hz⟩:=a3h w a.length;have HA0:=Lib.hid hA;have HE:=Lib.hid hE;have H1:=Lib.hid h1; have H2:=Lib.hid h2; have HK1:=Lib.hid k1; have HK2:=Lib.hid k2; have HAB:=Lib.hid hab; have HLE:=Lib.hid hle;clear hA hE hz h1 h2 k1 k2 hab hle
 go_enter Tryz.func223,Tryz.ntmps223
 go_wp2_with fail
 clear hmk
 go_loopw [6,7] (fun c i wr=>∃ (k cn:Nat) (o:List Nat),k <= a.length/\i=.int .i64 k/\c=.int .u32 cn/\cn <= 1/\Hid (a8x a b k cn o)/\Hid (ArrU wr w.heap.size (o ++ List.replicate (a.length - k) 0))/\Hid (Ext w wr)) (fun _ i _=>a.length - (intOf i).toNat)
 case atStart=>exact ⟨0,0,[],zero_le _,rfl,rfl,by omega,Lib.hid (aCW a b),HA0,HE⟩
 case round =>
  clear hW HA0 HE;obtain ⟨k,cn,o,hk,rfl,rfl,hcn,HP,HA,HE⟩:=hrel;have HL:Hid (o.length=k):=Lib.hid HP.out.len;by_cases hka:k < a.length
  ·have hx:a[k] < 1000000000:=Lb.a2I HK1.out k hka;have HX:Hid (a.getD k 0=a[k]):=Lib.hid (by simp [hka]);obtain ⟨g1,o1,rfl,cell1⟩:=(H1.out.later HE.out).at k hka
   have hlen:k < (o ++ List.replicate (a.length - k) 0).length:=by have:=HL.out; simp; omega
   have cs:=HA.out.cell k hlen;have fs:=HA.out.free k;generalize ((o ++ List.replicate (a.length - k) 0)[k]:Int)=old at cs;clear hlen
   generalize a[k]=x at *
   by_cases hkb:k < b.length
   ·have hy:b[k] < 1000000000:=Lb.a2I HK2.out k hkb;have HY:Hid (b.getD k 0=b[k]):=Lib.hid (by simp [hkb]);obtain ⟨g2,o2,rfl,cell2⟩:=(H2.out.later HE.out).at k hkb
    generalize b[k]=y at *
    by_cases hge:x+1000000000 - cn - y < 1000000000
    ·have hq:decide ((x:Int)+1000000000 - cn - y >= 1000000000)=false:=by simp; omega
     obtain ⟨s,hs⟩:∃ s,x+1000000000=s+(cn+y):=⟨x+1000000000 - (cn+y),by omega⟩
     have hsi:(x:Int)+1000000000 - cn - y=(s:Int):=by omega
     have HP2:=Lib.hid (a8G (s:=s) HP.out (by rw [HX.out,HY.out]; omega) (by omega));have HAX:Hid (∀ u:Int,u=(s:Int)->ArrU (wr.setCell ⟨w.heap.size,k,none⟩ (.int .u32 u)) w.heap.size ((o ++ [s]) ++ List.replicate (a.length - (k+1)) 0)):=Lib.hid (fun u hu=>by subst hu; have:=HA.out.set k s; rwa [Lb.a2F HL.out hka] at this);have HSI:=Lib.hid hsi;clear hsi hs hge HX HY HP HA HL
     go_wp2_with fail
     go_roundw
     case rel=>exact ⟨k+1,1,o ++ [s],by omega,by go_num,rfl,by omega,HP2,Lib.hid (HAX.out _ HSI.out),Lib.hid (HE.out.setCell (le_refl _) _)⟩
     case measure=>simp [intOf]; omega
    ·have hq:decide ((x:Int)+1000000000 - cn - y >= 1000000000)=true:=by simp; omega
     obtain ⟨s,hs⟩:∃ s,x=s+(cn+y):=⟨x - (cn+y),by omega⟩
     have hsi:(x:Int)+1000000000 - cn - y - 1000000000=(s:Int):=by omega
     have hge2:0 <= (x:Int)+1000000000 - cn - y - 1000000000:=by omega
     have HP2:=Lib.hid (a9U (s:=s) HP.out (by rw [HX.out,HY.out]; omega) (by omega));have HAX:Hid (∀ u:Int,u=(s:Int)->ArrU (wr.setCell ⟨w.heap.size,k,none⟩ (.int .u32 u)) w.heap.size ((o ++ [s]) ++ List.replicate (a.length - (k+1)) 0)):=Lib.hid (fun u hu=>by subst hu; have:=HA.out.set k s; rwa [Lb.a2F HL.out hka] at this);have HSI:=Lib.hid hsi;clear hsi hs hge HX HY HP HA HL
     go_wp2_with fail
     go_roundw
     case rel=>exact ⟨k+1,0,o ++ [s],by omega,by go_num,rfl,by omega,HP2,Lib.hid (HAX.out _ HSI.out),Lib.hid (HE.out.setCell (le_refl _) _)⟩
     case measure=>simp [intOf]; omega
   ·have HY:Hid (b.getD k 0=0):=Lib.hid (by simp [Nat.le_of_not_lt hkb]);by_cases hge:x+1000000000 - cn < 1000000000
    ·have hq:decide ((x:Int)+1000000000 - cn >= 1000000000)=false:=by simp; omega
     obtain ⟨s,hs⟩:∃ s,x+1000000000=s+(cn):=⟨x+1000000000 - (cn),by omega⟩
     have hsi:(x:Int)+1000000000 - cn=(s:Int):=by omega
     have HP2:=Lib.hid (a8G (s:=s) HP.out (by rw [HX.out,HY.out]; omega) (by omega));have HAX:Hid (∀ u:Int,u=(s:Int)->ArrU (wr.setCell ⟨w.heap.size,k,none⟩ (.int .u32 u)) w.heap.size ((o ++ [s]) ++ List.replicate (a.length - (k+1)) 0)):=Lib.hid (fun u hu=>by subst hu; have:=HA.out.set k s; rwa [Lb.a2F HL.out hka] at this);have HSI:=Lib.hid hsi;clear hsi hs hge HX HY HP HA HL
     go_wp2_with fail
     go_roundw
     case rel=>exact ⟨k+1,1,o ++ [s],by omega,by go_num,rfl,by omega,HP2,Lib.hid (HAX.out _ HSI.out),Lib.hid (HE.out.setCell (le_refl _) _)⟩
     case measure=>simp [intOf]; omega
    ·have hq:decide ((x:Int)+1000000000 - cn >= 1000000000)=true:=by simp; omega
     obtain ⟨s,hs⟩:∃ s,x=s+(cn):=⟨x - (cn),by omega⟩
     have hsi:(x:Int)+1000000000 - cn - 1000000000=(s:Int):=by omega
     have hge2:0 <= (x:Int)+1000000000 - cn - 1000000000:=by omega
     have HP2:=Lib.hid (a9U (s:=s) HP.out (by rw [HX.out,HY.out]; omega) (by omega));have HAX:Hid (∀ u:Int,u=(s:Int)->ArrU (wr.setCell ⟨w.heap.size,k,none⟩ (.int .u32 u)) w.heap.size ((o ++ [s]) ++ List.replicate (a.length - (k+1)) 0)):=Lib.hid (fun u hu=>by subst hu; have:=HA.out.set k s; rwa [Lb.a2F HL.out hka] at this);have HSI:=Lib.hid hsi;clear hsi hs hge HX HY HP HA HL
     go_wp2_with fail
     go_roundw
     case rel=>exact ⟨k+1,0,o ++ [s],by omega,by go_num,rfl,by omega,HP2,Lib.hid (HAX.out _ HSI.out),Lib.hid (HE.out.setCell (le_refl _) _)⟩
     case measure=>simp [intOf]; omega
  ·obtain rfl:k=a.length:=by omega
   have HV:=Lib.hid (Lb.aPq rfl HAB.out HP.out.len HP.out.lt hcn HP.out.sum HLE.out);have HLT:=Lib.hid HP.out.lt
   have HS:Hid (SlU wr (.slice (some ⟨w.heap.size,0,none⟩) a.length a.length) o):=Lib.hid (by
    have:=HA.out;rw [sub_self] at this;simp only [List.replicate_zero,append_nil] at this
    exact this.all (by simp [HL.out]) (le_refl _))
   have HLN:Hid (o.length <= 1000000000):=Lib.hid (by simp [HL.out]; omega);clear hka HP HA
   go_wp2_with fail
   refine (a3r _ _ _ HS.out HLN.out).mono ?_;rintro e w3 ⟨v3,rfl,hs3,hb3,rfl⟩;rw [Lb.a4t HLT.out,HV.out] at hs3;obtain ⟨a3,c3,rfl⟩:=SlU.form hs3
   go_wp2_with fail
   go_ret
   exact ⟨_,_,_,rfl,hs3,HE.out,fun b hb=>by rw [hb3] at hb; cases hb; exact le_refl _⟩
set_option maxHeartbeats 16000000 in
theorem aBP (v1 v2:Value) (a b:List Nat) (w:World) (h1:SlU w v1 a) (h2:SlU w v2 b) (k1:Lb.Lt a) (k2:Lb.Lt b) (n1:a.length <= 100000000) (n2:b.length <= 100000000) :
    Calls prog 328 #[v1,v2] w (aZ7 w (Lb.limbs (Lb.val a*Lb.val b))):=by
 obtain ⟨p1,q1,rfl⟩:=h1.form;obtain ⟨p2,q2,rfl⟩:=h2.form;have hmk:=a5V (a.length+b.length) (by omega);rw [natCast_add] at hmk;obtain ⟨W,hW,hA,hE,hz⟩:=a3h w (a.length+b.length);have HA0:=Lib.hid hA;have HE:=Lib.hid hE;have H1:=Lib.hid h1; have H2:=Lib.hid h2; have HK1:=Lib.hid k1; have HK2:=Lib.hid k2;clear hA hE hz h1 h2 k1 k2
 go_enter Tryz.func328,Tryz.ntmps328
 go_wp2_with fail
 clear hmk
 go_loopw [6] (fun i wr=>∃ (m:Nat) (o:List Nat),m <= a.length/\i=.int .i64 m/\Hid (aA0 a b m o)/\Hid (ArrU wr w.heap.size o)/\Hid (Ext w wr)) (fun i _=>a.length - (intOf i).toNat)
 case atStart=>exact ⟨0,_,zero_le _,rfl,Lib.hid (aCE a b),HA0,HE⟩
 case round =>
  clear hW HA0 HE;obtain ⟨m,o,hm,rfl,HP,HA,HE⟩:=hrel;by_cases hma:m < a.length
  ·have hx:a[m] < 1000000000:=Lb.a2I HK1.out m hma;have HX:Hid (a.getD m 0=a[m]):=Lib.hid (by simp [hma]);obtain ⟨g1,o1,rfl,cell1⟩:=(H1.out.later HE.out).at m hma;have HX1:Hid (∃ x,a[m]=x/\x < 1000000000/\a.getD m 0=x):=Lib.hid ⟨_,rfl,hx,HX.out⟩;clear hx HX cell1;obtain ⟨x,hxm,hx,hX⟩:=HX1.out;have HX:=Lib.hid hX; have HXM:=Lib.hid hxm;clear hxm hX HX1;have HI0:=Lib.hid (aCD HP.out x)
   obtain ⟨wo,rfl⟩:∃ wo:World,wo=wr:=⟨_,rfl⟩
   clear HP
   go_wp2_with fail
   go_loopw [7,8] (fun c i wr=>∃ (k cn:Nat) (o:List Nat),k <= b.length/\i=.int .i64 k/\c=.int .u64 cn/\Hid (aAZ a b m k x cn (Lb.val (a.take m)*Lb.val b) o)/\Hid (ArrU wr w.heap.size o)/\Hid (Ext w wr)) (fun _ i _=>b.length - (intOf i).toNat)
   case atStart=>exact ⟨0,0,o,zero_le _,rfl,rfl,HI0,HA,HE⟩
   case round =>
    clear HI0 HA HE;obtain ⟨k,cn,o2,hk,rfl,rfl,HP,HA,HE⟩:=hrel;obtain ⟨g3,o3,he3,cell1⟩:=(H1.out.later HE.out).at m hma;cases he3;rw [HXM.out] at cell1;by_cases hkb:k < b.length
    ·have hy:b[k] < 1000000000:=Lb.a2I HK2.out k hkb;have HY:Hid (b.getD k 0=b[k]):=Lib.hid (by simp [hkb]);obtain ⟨g2,s2,rfl,cell2⟩:=(H2.out.later HE.out).at k hkb
     generalize b[k]=y at *
     have hlen:m+k < o2.length:=by have:=HP.out.len; omega
     obtain ⟨ov,hov⟩:∃ ov,o2[m+k]?=some ov:=⟨o2[m+k],by simp [hlen]⟩
     have cs:=HA.out.cell (m+k) hlen
     have hoo:o2[m+k]=ov:=by simpa [hlen] using hov
     rw [hoo] at cs;have fs:=HA.out.free (m+k);obtain ⟨st,hov9⟩:=aEJ HP.out hma hkb hx hy HY.out hov;have hcl:cn < 1000000000:=HP.out.clt;have hxy0:0 <= (x:Int)*y:=Int.mul_nonneg (by omega) (by omega)
     have hxy:(x:Int)*y <= 999999998000000001:=by
      have h1:x*y <= 999999999*999999999:=Nat.mul_le_mul (by omega) (by omega);have h2:((x*y:Nat):Int) <= ((999999999*999999999:Nat):Int):=Int.ofNat_le.2 h1;rw [Int.natCast_mul] at h2;exact h2
     have HST:=Lib.hid st; have HOO:=Lib.hid hoo;have E9:Hid ((cn:Int)+ov+x*y=((ov+x*y+cn:Nat):Int)):=Lib.hid (by simp; omega)
     have e10:(cn:Int)+ov+x*y < 18446744073709551616:=by omega
     have e11:0 <= (cn:Int)+ov+x*y:=by omega
     clear hov hoo HY st
     go_wp2_with fail
     have K1:=Later.cell cell1; have K2:=Later.cell cell2; have K3:=Later.cell cs;clear cell1 cell2 cs fs;refine a9B (by kernel_rfl) (by kernel_rfl) ?_
     repeat (go_big_quiet_step (fail))
     refine wpQuiet_nil ?_;rintro _ ⟨z,rfl⟩;have HAZ:=Lib.hid (HA.out.ext z.ext); have HEZ:=Lib.hid (HE.out.trans z.ext);have cs:=HAZ.out.cell (m+k) hlen;rw [show o2[m+k]=ov from HOO.out] at cs;have fs:=HAZ.out.free (m+k);rw [E9.out]
     generalize hT:ov+x*y+cn=T at *
     have HAX:Hid (∀ u:Int,u=(T:Int) % 1000000000->ArrU (z.w.setCell ⟨w.heap.size,m+k,none⟩ (.int .u32 u)) w.heap.size (o2.set (m+k) (T % 1000000000))):=Lib.hid (fun u hu=>by
      have e:u=((T % 1000000000:Nat):Int):=by rw [hu]; simp
      subst e; exact HAZ.out.set (m+k) _)
     have HCN:Hid ((T:Int) / 1000000000=((T / 1000000000:Nat):Int)):=Lib.hid (by simp)
     have hT0:T < 18446744073709551616:=by omega
     have e12:(T:Int) % 1000000000 < 1000000000:=by omega
     have e13:0 <= (T:Int) % 1000000000:=by omega
     clear E9 hT e10 e11 hxy hxy0 K1 K2 K3 HA HE HOO hlen
     go_wp2_with fail
     go_roundw
     case rel=>exact ⟨k+1,_,_,by omega,by go_num,by rw [HCN.out],HST,Lib.hid (HAX.out _ rfl),Lib.hid (HEZ.out.setCell (le_refl _) _)⟩
     case measure=>simp [intOf]; omega
    ·obtain rfl:k=b.length:=by omega
     have HN:=Lib.hid (aHH HP.out hma HX.out);have hcl:cn < 1000000000:=HP.out.clt
     have hlen:m+b.length < o2.length:=by have:=HP.out.len; omega
     have cs:=HA.out.cell (m+b.length) hlen;have fs:=HA.out.free (m+b.length);generalize (o2[m+b.length]:Int)=old at cs;have HAX:=Lib.hid (HA.out.set (m+b.length) cn);clear hlen hkb HX
     go_wp2_with fail
     go_roundw
     case rel=>exact ⟨m+1,_,by omega,by go_num,HN,HAX,Lib.hid (HE.out.setCell (le_refl _) _)⟩
     case measure=>simp [intOf]; omega
  ·obtain rfl:m=a.length:=by omega
   have HM:=Lib.hid (aHI HP.out);have HLT:=Lib.hid HP.out.lt;have HS:Hid (SlU wr (.slice (some ⟨w.heap.size,0,none⟩) (a.length+b.length) (a.length+b.length)) o):=Lib.hid (HA.out.all (by simp [HP.out.len]) (le_refl _));have HLN:Hid (o.length <= 1000000000):=Lib.hid (by simp [HP.out.len]; omega);clear hma HA HP
   go_wp2_with fail
   refine (a3r _ _ _ HS.out HLN.out).mono ?_;rintro e w3 ⟨v3,rfl,hs3,hb3,rfl⟩;rw [Lb.a4t HLT.out,HM.out] at hs3;obtain ⟨a3,c3,rfl⟩:=SlU.form hs3
   go_wp2_with fail
   go_ret
   exact ⟨_,_,_,rfl,hs3,HE.out,fun b hb=>by rw [hb3] at hb; cases hb; exact le_refl _⟩
set_option maxHeartbeats 4000000 in
theorem aHW (v1:Value) (a:List Nat) (n:Nat) (w:World) (h1:SlU w v1 a) (k1:Lb.Lt a) (n1:a.length <= 100000000) (hn:n < 1000000000) :
    Calls prog 221 #[v1,.int .u32 (n:Int)] w (aZ7 w (Lb.limbs (Lb.val a*n))):=by
 obtain ⟨p1,q1,rfl⟩:=h1.form;obtain ⟨X,hX,hAX,heX,hzX⟩:=aAQ w [n];have HSX:=Lib.hid (hAX.all (n:=1) (cap:=1) rfl (le_refl _)); have HX:=Lib.hid heX; have H1:=Lib.hid h1; have HK:=Lib.hid k1;simp only [map_cons,map_nil,uV] at hX;clear hAX heX hzX h1 k1
 go_enter Tryz.func221,Tryz.ntmps221
 go_wp2_with fail
 refine (a3r _ _ _ HSX.out (by simp)).mono ?_;rintro e w3 ⟨v3,rfl,hs3,hb3,rfl⟩;obtain ⟨a3,c3,rfl⟩:=SlU.form hs3;clear hb3
 have HT:Hid (Lb.Lt (Lb.trim [n])/\(Lb.trim [n]).length <= 100000000/\Lb.val (Lb.trim [n])=n):=Lib.hid (by
  have hl:Lb.Lt [n]:=Lb.a4v (by rw [Lb.a9f]; exact hn) Lb.a4k;refine ⟨Lb.aH8 hl,?_,by rw [Lb.aCA]; simp [Lb.val]⟩;have:=Lb.aHF [n];simp at this
  omega)
 have HS3:=Lib.hid hs3; have HS1:=Lib.hid (H1.out.later HX.out); have HE3:=Lib.hid HX.out;clear hs3
 go_wp2_with fail
 refine (aBP _ _ _ _ _ HS1.out HS3.out HK.out HT.out.1 n1 HT.out.2.1).mono ?_;rintro e w4 ⟨a4,m4,c4,rfl,hs4,hx4,hb4⟩;rw [HT.out.2.2] at hs4
 go_wp2_with fail
 go_ret
 exact ⟨_,_,_,rfl,hs4,HE3.out.trans hx4,fun b hb=>le_trans HE3.out.size (hb4 b hb)⟩
end Go.Proofs.YtbohkigffejhoaaGreat
namespace Go.Proofs.YtbohkigffejhoaaGreat
namespace Lb
theorem a2n {m n:Nat} (h:m <= n):(limbs m).length <= (limbs n).length:=by
 rcases lt_or_ge (limbs n).length (limbs m).length with h' | h'
 ·have:=a9V (a0q n) (a0q m) h';rw [a0F,a0F] at this;omega
 ·exact h'
theorem a7P {n k:Nat} (h:(limbs n).length <= k):n < B ^ k:=lt_of_lt_of_le (a07 n) (Nat.pow_le_pow_right a3w h)
structure PartsAt (U:List Nat) (V k:Nat) (Q:List Nat) (R:Nat):Prop where
 le:k <= U.length
 len:Q.length=U.length - k
 lt:Lt Q
 val:val (U.drop k)=val Q*V+R
 rlt:R < V
theorem aCP {U:List Nat} {V:Nat} (hV:0 < V):PartsAt U V U.length [] 0 :=
 ⟨le_refl _,by simp,a4k,by simp [Lb.val],hV⟩
theorem aEY {U Q:List Nat} {V k R:Nat} (hU:Lt U) (h:PartsAt U V (k+1) Q R) (hk:k < U.length):(U[k]+B*R) / V < B/\PartsAt U V k ((U[k]+B*R) / V :: Q) ((U[k]+B*R) % V):=by
 have hx:=a2I hU k hk;have hR:=h.rlt
 have hV:0 < V:=by omega
 have hlt:U[k]+B*R < B*V:=by
  have:B*(R+1) <= B*V:=mul_le_mul_left B hR;rw [Nat.mul_succ] at this;omega
 have hq:(U[k]+B*R) / V < B:=Nat.div_lt_of_lt_mul (by rw [mul_comm V B]; exact hlt);refine ⟨hq,by omega,by simp [h.len]; omega,a4v hq h.lt,?_,mod_lt _ hV⟩;have h1:=Nat.div_add_mod (U[k]+B*R) V;rw [a2T U k hk,h.val,a2a]
 generalize (U[k]+B*R) / V=q at *
 generalize (U[k]+B*R) % V=r at *
 generalize Lb.val Q=Z at *
 rw [mul_add,add_mul];have e1:B*(Z*V)=B*Z*V:=(Nat.mul_assoc _ _ _).symm;have e2:V*q=q*V:=mul_comm _ _;omega
theorem aQu {l:List Nat} {n:Nat} (hl:Lt l) (hn:l.length <= n+2) :
    (if h:n+1 < l.length then l[n+1]*B else 0)+(if h:n < l.length then l[n] else 0)=val l / B ^ n:=by
 have hp:0 < B ^ n:=pow_pos a3w;rcases lt_or_ge n l.length with h | h
 ·have hlt:val (l.take n) < B ^ n:=aOp hl n (by omega);have hv:=a19 l n (by omega)
  have hd:val l / B ^ n=val (l.drop n):=by
   rw [hv,Nat.add_mul_div_left _ _ hp,Nat.div_eq_of_lt hlt,Nat.zero_add]
  rw [hd,a2T l n h];rcases lt_or_ge (n+1) l.length with h' | h'
  ·have e:l.length=n+2:=by omega
   have hn2:l.drop (n+2)=[]:=List.drop_of_length_le (by omega);rw [a2T l (n+1) h',hn2];simp only [h,h',dif_pos,aW1,Nat.mul_zero,Nat.add_zero];rw [mul_comm];omega
  ·have hn1:l.drop (n+1)=[]:=List.drop_of_length_le (by omega)
   have h2:¬ n+1 < l.length:=by omega
   rw [hn1];simp [h,h2,Lb.val]
 ·have hlt:val l < B ^ n:=lt_of_lt_of_le (a6g hl) (Nat.pow_le_pow_right a3w h)
  have h1:¬ n < l.length:=by omega
  have h2:¬ n+1 < l.length:=by omega
  rw [Nat.div_eq_of_lt hlt];simp [h1,h2]
theorem b2l {R V T P:Nat} (h:T*P <= V) (hT:0 < T) (hP:0 < P):R / V <= R / P / T:=by
 rw [Nat.div_div_eq_div_mul];exact Nat.div_le_div_left (by rw [mul_comm]; exact h) (Nat.mul_pos hP hT)
theorem aT9 {R V d:Nat} (h:V*d <= R) (hV:0 < V) (hq:R / V <= d):d=R / V:=by
 have:d <= R / V:=(Nat.le_div_iff_mul_le hV).2 (by rw [mul_comm]; exact h);omega
structure aHp (l:List Nat) (s k:Nat) (o:List Nat) (c:Nat):Prop where
 le:k <= l.length
 len:o.length=l.length - k
 lt:Lt o
 val:val (l.drop k)=val o*s+c
 clt:c < s
theorem aG3 {l:List Nat} {s:Nat} (hs:0 < s):aHp l s l.length [] 0:=⟨le_refl _,by simp,a4k,by simp [Lb.val],hs⟩
theorem aJs {l o:List Nat} {s k c:Nat} (hl:Lt l) (h:aHp l s (k+1) o c) (hk:k < l.length):(c*B+l[k]) / s < B/\aHp l s k ((c*B+l[k]) / s :: o) ((c*B+l[k]) % s):=by
 have hx:=a2I hl k hk;have hc:=h.clt
 have hlt:c*B+l[k] < B*s:=by
  have:(c+1)*B <= s*B:=Nat.mul_le_mul_right B hc;rw [Nat.succ_mul,mul_comm s B] at this;omega
 have hq:(c*B+l[k]) / s < B:=Nat.div_lt_of_lt_mul (by rw [mul_comm s B]; exact hlt);refine ⟨hq,by omega,by simp [h.len]; omega,a4v hq h.lt,?_,mod_lt _ (by omega)⟩;have h1:=Nat.div_add_mod (c*B+l[k]) s;rw [a2T l k hk,h.val,a2a]
 generalize (c*B+l[k]) / s=q at *
 generalize (c*B+l[k]) % s=r at *
 generalize Lb.val o=Z at *
 rw [mul_add,add_mul];have e1:B*(Z*s)=B*Z*s:=(Nat.mul_assoc _ _ _).symm;have e2:s*q=q*s:=mul_comm _ _;have e3:B*c=c*B:=mul_comm _ _;omega
theorem aJt {l o:List Nat} {s c M:Nat} (h:aHp l s 0 o c) (hM:val l=M*s):val o=M:=by
 have h1:=h.val
 have hs:0 < s:=by have:=h.clt; omega
 rw [drop_zero,hM] at h1
 have h2:M=(val o*s+c) / s:=by rw [<- h1,Nat.mul_div_cancel _ hs]
 rw [h2,mul_comm,Nat.mul_add_div hs,Nat.div_eq_of_lt h.clt,Nat.add_zero]
theorem aHO {b:List Nat} {n y:Nat} (hb:a6v b) (hn:b.length=n+1) (hy:b[n]?=some y) :
    0 < y/\y < B/\0 < B / (y+1)/\B / (y+1) < B/\val b*(B / (y+1)) < B ^ (n+1)/\B ^ n <= val b*(B / (y+1)):=by
 have hb0:b ≠ []:=by intro e; rw [e] at hn; simp at hn
 have hlt:n < b.length:=by omega
 have hyb:b[n]=y:=by simpa [hlt] using hy
 have hy1:y < B:=by rw [<- hyb]; exact a2I hb.1 n hlt
 have hy0:y ≠ 0:=by
  have h:=hb.2 hb0
  have e:b.getLast hb0=b[n]:=by
   rw [List.getLast_eq_getElem];congr 1;omega
  rw [e,hyb] at h;exact h
 have hs0:0 < B / (y+1):=Nat.div_pos hy1 (by omega);have hs1:B / (y+1) < B:=Nat.div_lt_self a3w (by omega)
 have hv:val b=val (b.take n)+B ^ n*y:=by
  have:=a19 b n (by omega);rw [this,a2T b n hlt,List.drop_of_length_le (by omega),hyb];simp [Lb.val]
 have ht:=aOp hb.1 n (by omega);refine ⟨by omega,hy1,hs0,hs1,?_,?_⟩
 ·refine aMi (t:=y) ?_;rw [hv,add_mul,Nat.one_mul,mul_comm];omega
 ·have h1:B ^ n*1 <= val b*(B / (y+1)):=by
   refine Nat.mul_le_mul ?_ hs0;rw [hv];have:B ^ n*1 <= B ^ n*y:=mul_le_mul_left _ (by omega);omega
  omega
theorem a7f {V n:Nat} (h1:V < B ^ (n+1)) (h2:B ^ n <= V):(limbs V).length=n+1:=by
 have a1:=a08 h1;rcases lt_or_ge n (limbs V).length with h | h
 ·omega
 ·have:=a7P h;omega
theorem b0I {l:List Nat} {n:Nat} (h:n < l.length):l[n]*B ^ n <= val l:=by
 have h1:=a19 l n (by omega);rw [a2T l n h] at h1;rw [h1,mul_add,mul_comm];omega
theorem aW5 {V n:Nat} (h:(limbs V).length=n+1) (hlt:n < (limbs V).length):0 < (limbs V)[n]:=by
 have h1:=(a0q V).2 (by intro e; rw [e] at h; simp at h);rw [List.getLast_eq_getElem] at h1
 have e:(limbs V).length - 1=n:=by omega
 simp only [e] at h1;omega
theorem a5s {X:List Nat} {k x:Nat}:(List.replicate (k+1) 0 ++ X).set k x=List.replicate k 0 ++ (x :: X):=by
 rw [List.set_append_left _ _ (by simp),show List.replicate (k+1) 0=List.replicate k 0 ++ [0] by rw [<- List.replicate_succ'],List.set_append_right _ _ (by simp)];simp
end Lb
end Go.Proofs.YtbohkigffejhoaaGreat
namespace Go.Proofs.YtbohkigffejhoaaGreat
open Go.RowKit
set_option maxRecDepth 8000
theorem SlU.form' {w:World} {s:Value} {l:List Nat} (h:SlU w s l):∃ a n c,s=.slice a n c/\n=l.length:=by
 obtain ⟨a,n,cap,b,off,rfl,h2,_⟩:=h;exact ⟨a,n,cap,rfl,h2⟩
structure But (g:Nat) (w w':World):Prop where
 os:w'.os=w.os
 tape:w'.tape=w.tape
 output:w'.output=w.output
 size:w.heap.size <= w'.heap.size
 block:∀ j,j < w.heap.size->j ≠ g->w'.heap[j]?=w.heap[j]?
theorem But.refl (g:Nat) (w:World):But g w w:=⟨rfl,rfl,rfl,le_refl _,fun _ _ _=>rfl⟩
theorem But.later {g:Nat} {a b c:World} (h:But g a b) (k:Ext b c):But g a c :=
 ⟨k.out.os.trans h.os,k.out.tape.trans h.tape,k.out.output.trans h.output,le_trans h.size k.size,fun j hj hg=>(k.out.block j (lt_of_lt_of_le hj h.size)).trans (h.block j hj hg)⟩
theorem But.set {g:Nat} {a w:World} (h:But g a w) (i:Nat) (u:Value):But g a (w.setCell ⟨g,i,none⟩ u) :=
 ⟨h.os,h.tape,h.output,by simpa [World.setCell] using h.size,fun j hj hg=>by rw [Below.heap_setCell _ _ _ _ (by exact hg)]; exact h.block j hj hg⟩
theorem But.ext {g:Nat} {a w w':World} (h:Ext a w) (k:But g w w') (hg:a.heap.size <= g):Ext a w' :=
 Ext.of ⟨k.os.trans h.out.os,k.tape.trans h.out.tape,k.output.trans h.out.output,le_trans h.size k.size,fun j hj=>(k.block j (lt_of_lt_of_le hj h.size) (by omega)).trans (h.out.block j hj)⟩
theorem SlU.but {g:Nat} {w w':World} {v:Value} {l:List Nat} (h:SlU w v l) (k:But g w w') (hv:v.ownBlock ≠ some g):SlU w' v l:=by
 obtain ⟨a,n,cap,b,off,rfl,h2,h3,h4,h5,h6⟩:=h;refine ⟨a,n,cap,b,off,rfl,h2,h3,h4,h5,fun i x hx=>?_⟩;obtain ⟨p,q⟩:=h6 i x hx
 have hn:n ≠ 0:=by
  intro e;rw [e] at h2;have:=List.length_eq_zero_iff.1 h2.symm;subst this;simp at hx
 have ha:=h3.resolve_left hn;subst ha;have hbg:b ≠ g:=fun e=>hv (by rw [<- e]; rfl);refine ⟨lt_of_lt_of_le p k.size,fun r u hu=>?_⟩;have:=q r u hu
 unfold World.cell? at *
 simp only at *
 rw [k.block b p hbg];exact this
theorem SlU.blk {w:World} {v:Value} {l:List Nat} {g:Nat} (h:SlU w v l) (e:v.ownBlock=some g) (hl:l ≠ []):g < w.heap.size:=by
 rcases h.cases with ⟨rfl,_⟩ | ⟨_,b,off,cap,rfl,_,hb,_⟩
 ·exact absurd rfl hl
 ·cases e; exact hb
theorem SlU.new {g:Nat} {w w1 w':World} {v:Value} {l:List Nat} (h:SlU w v l) (hg:w.heap.size <= g) (hx:Ext w w1) (k:But g w1 w'):SlU w' v l:=h.later (But.ext hx k hg)
def aZ6 (w:World) (l m:List Nat) (e:Ending) (w':World):Prop:=∃ s t,e=.returned (.tuple #[s,t])/\SlU w' s l/\SlU w' t m/\Ext w w'
theorem aTx (v1 v2:Value) (a b:List Nat) (w:World) (h1:SlU w v1 a) (h2:SlU w v2 b) (k1:Lb.a6v a) (k2:Lb.a6v b) (n1:a.length <= 1000000000) (n2:b.length <= 1000000000) :
    Calls prog 222 #[v1,v2] w fun e w'=>e=.returned (.int .i64 (aBi (Lb.val a) (Lb.val b)))/\Ext w w':=by
 refine (Vc.aLz.yes ⟨w.heap.size,[],[],[]⟩ w [.c (.sl a),.c (.sl b)] [v1,v2] _ _ ⟨⟨h1,trivial⟩,⟨h2,trivial⟩,trivial⟩ rfl rfl rfl ⟨⟨k1,k2⟩,n1,n2⟩).mono ?_;rintro e w' ⟨v,rfl,hx,hv,_⟩;exact ⟨by rw [hv],hx⟩
theorem aBQ (v1:Value) (a:List Nat) (w:World) (h1:SlU w v1 a) (k1:Lb.Lt a) (n1:a.length <= 2) :
    Calls prog 130 #[v1] w fun e w'=>e=.returned (.int .u64 (Lb.val a:Int))/\Ext w w':=by
 refine (Vc.aCg.yes ⟨w.heap.size,[],[],[]⟩ w [.c (.sl a)] [v1] _ _ ⟨⟨h1,trivial⟩,trivial⟩ rfl rfl rfl ⟨k1,n1⟩).mono ?_;rintro e w' ⟨v,rfl,hx,hv,_⟩;exact ⟨by rw [hv],hx⟩
theorem aOg {a:List Nat} (k:Lb.Lt a) (n:a.length <= 2):Lb.val a < 1000000000000000000:=by
 have h:=Lb.a6g k;have h2:Lb.B ^ a.length <= Lb.B ^ 2:=Nat.pow_le_pow_right Lb.a3w n;have h3:Lb.B ^ 2=1000000000000000000:=rfl;omega
set_option maxHeartbeats 8000000 in
theorem aES (v1 v2:Value) (a b:List Nat) (w:World) (h1:SlU w v1 a) (h2:SlU w v2 b) (k1:Lb.Lt a) (k2:Lb.Lt b) (n1:a.length <= 2) (n2:b.length <= 2) (hv:Lb.val b ≠ 0) :
    Calls prog 129 #[v1,v2] w (aZ6 w (Lb.limbs (Lb.val a / Lb.val b)) (Lb.limbs (Lb.val a % Lb.val b))):=by
 obtain ⟨p1,q1,rfl⟩:=h1.form;obtain ⟨p2,q2,rfl⟩:=h2.form
 have hq1:decide ((a.length:Int) <= 2)=true:=by simp; omega
 have hq2:decide ((b.length:Int) <= 2)=true:=by simp; omega
 have H1:=Lib.hid h1; have H2:=Lib.hid h2; have HK1:=Lib.hid k1; have HK2:=Lib.hid k2;have ha:=aOg k1 n1; have hb:=aOg k2 n2;have HN1:=Lib.hid n1; have HN2:=Lib.hid n2;clear h1 h2 k1 k2
 go_enter func129,ntmps129
 go_wp2_with fail
 refine (aBQ _ _ _ H1.out HK1.out HN1.out).mono ?_;rintro e w1 ⟨rfl,x1⟩;have H2':=Lib.hid (H2.out.later x1)
 go_wp2_with fail
 refine (aBQ _ _ _ H2'.out HK2.out HN2.out).mono ?_;rintro e w2 ⟨rfl,x2⟩
 generalize Lb.val a=x at *
 generalize Lb.val b=y at *
 have hy0:((y:Int) == 0)=false:=by simp; omega
 have hy1:¬ (y:Int)=0:=by omega
 have hlt1:x / y < 18446744073709551616:=Nat.lt_of_le_of_lt (Nat.div_le_self _ _) (by omega);have hlt2:x % y < 18446744073709551616:=Nat.lt_of_le_of_lt (Nat.mod_le _ _) (by omega)
 have e1:(x:Int) / y=((x / y:Nat):Int):=by simp
 have e2:(x:Int) % y=((x % y:Nat):Int):=by simp
 have HL1:Hid (∀ w:World,Calls prog 63 #[.int .u64 ((x:Int) / (y:Int))] w (b5s w (Lb.limbs (x / y)))):=Lib.hid (fun w=>by rw [e1]; exact a5z (x / y) w hlt1);have HL2:Hid (∀ w:World,Calls prog 63 #[.int .u64 ((x:Int) % (y:Int))] w (b5s w (Lb.limbs (x % y)))):=Lib.hid (fun w=>by rw [e2]; exact a5z (x % y) w hlt2);have HX:=Lib.hid (x1.trans x2);have e3:0 <= (x:Int) / y:=ediv_nonneg (by omega) (by omega);have e4:(x:Int) / y < 1000000000000000000:=Int.lt_of_le_of_lt (Int.ediv_le_self _ (by omega)) (by omega);clear hv e1 e2 hlt1 hlt2
 go_wp2_with fail
 refine aA9 (fun w'=>∃ x:Later w2,w'=x.w) 10 (.one [0,1,2,4,5,6] 3 (.one [] 7 (.leaf [8,9]))) (by kernel_rfl) (by kernel_rfl) (by kernel_rfl) ⟨⟨_,(Ext.refl _).drew⟩,rfl⟩ ?_;simp only [List.take_succ_cons,List.take_zero];refine aJ6 fun K hK=>?_;simp only [map_cons,map_nil,a2H,List.getElem?_cons_zero,List.getElem?_cons_succ,Option.getD_some]
 repeat (go_big_quiet_step (fail))
 refine wpQuiet_nil ?_
 go_wp2_with ((go_at_call 63; with_reducible refine (HL1.out _).mono ?_); rintro e w3 ⟨a3,m3,c3,rfl,s3,x3⟩)
 refine a8E (hK _ _ ⟨⟨_,(Ext.refl _).drew.trans x3⟩,rfl⟩ ?_); clear hK K;refine aOm fun K hK=>?_;simp only [a2H,List.getElem?_cons_zero,List.getElem?_cons_succ,Option.getD_some]
 go_wp2_with ((go_at_call 63; with_reducible refine (HL2.out _).mono ?_); rintro e w4 ⟨a4,m4,c4,rfl,s4,x4⟩)
 refine a8E (hK _ _ ⟨⟨_,((Ext.refl _).drew.trans x3).trans x4⟩,rfl⟩ ?_); clear hK K;refine aOn ?_;simp only [map_cons,map_nil,a2H,List.getElem?_cons_zero,List.getElem?_cons_succ,Option.getD_some]
 repeat (go_big_quiet_step (fail))
 refine wpQuiet_nil ?_;simp only [List.drop_succ_cons,drop_zero]
 go_wp2_with fail
 go_ret2
 exact ⟨_,_,rfl,s3.later x4,s4,(HX.out.trans ((Ext.refl _).drew.trans x3)).trans x4⟩
set_option maxHeartbeats 16000000 in
theorem aOH (v1 v2:Value) (a b:List Nat) (w:World) (h1:SlU w v1 a) (h2:SlU w v2 b) (k1:Lb.Lt a) (k2:Lb.a6v b) (n1:a.length <= 90000000) (n2:b.length <= 90000000) (hb0:b ≠ []) (hyp:¬(a.length <= 2/\b.length <= 2)) :
    Calls prog 129 #[v1,v2] w (aZ6 w (Lb.limbs (Lb.val a / Lb.val b)) (Lb.limbs (Lb.val a % Lb.val b))):=by
 obtain ⟨p1,q1,rfl⟩:=h1.form;obtain ⟨p2,q2,rfl⟩:=h2.form
 obtain ⟨hq1,-⟩ | ⟨hq1,hq2⟩:(decide ((a.length:Int) <= 2)=false/\True) \/ (decide ((a.length:Int) <= 2)=true/\decide ((b.length:Int) <= 2)=false):=by
  by_cases h:a.length <= 2
  ·exact .inr ⟨by simp; omega,by simp; omega⟩
  ·exact .inl ⟨by simp; omega,trivial⟩
 all_goals
  have H1:=Lib.hid h1; have H2:=Lib.hid h2; have HK1:=Lib.hid k1; have HK2:=Lib.hid k2
  obtain ⟨n,hn⟩:∃ n,b.length=n+1:=⟨b.length - 1,by have:=List.length_pos_iff.2 hb0; omega⟩
  have hnb:n < b.length:=by omega
  obtain ⟨y,hy⟩:∃ y,b[n]?=some y:=⟨b[n],by simp [hnb]⟩
  obtain ⟨hy0,hyB,hs0,hsB,hsV,hsG⟩:=Lb.aHO k2 hn hy;obtain ⟨bb,bo,bc,hbe,hbb,hcell⟩:=a3u h2 n hnb
  have hbn:b[n]=y:=by simpa [hnb] using hy
  rw [hbn] at hcell;cases hbe;clear hbn;rw [Lb.a9f] at hyB hs0 hsB hsV hsG
  have hsd:(1000000000:Int) / ((y:Int)+1)=((1000000000 / (y+1):Nat):Int):=by simp
  have hy1:(((y:Int)+1) == 0)=false:=by simp; omega
  have hy2:¬ ((y:Int)+1=0):=by omega
  have hb90:b.length <= 90000000:=n2;have hHM:Hid (b.length=n+1):=Lib.hid hn
  have HDIV:Hid (Lb.val a*(1000000000 / (y+1)) < Lb.B ^ (a.length+1)):=Lib.hid (by
   have h:=Lb.a6g k1;have h2:Lb.val a*(1000000000 / (y+1)) < Lb.B ^ a.length*Lb.B:=Nat.mul_lt_mul_of_lt_of_le h (by rw [Lb.a9f]; omega) (by rw [Lb.a9f]; omega)
   rwa [<- pow_succ] at h2)
  generalize hsc:1000000000 / (y+1)=s at *
  generalize hnn:b.length=nb at *
  have E1:(nb:Int) - 1=(n:Int):=by omega
  have HSV:Hid (Lb.val b*s < Lb.B ^ (n+1)):=Lib.hid (by rw [Lb.a9f]; exact hsV);have HSG:Hid (Lb.B ^ n <= Lb.val b*s):=Lib.hid (by rw [Lb.a9f]; exact hsG);have HCL:=Lib.hid hcell; have HNN:=Lib.hid hnn; have HNB:=Lib.hid hb90
  have hnlt:n < nb:=by omega
  clear h1 h2 k1 k2 hb0 hn hnb hy hsV hsG hsc hnn hHM n2
  go_enter func129,ntmps129
  go_wp2_with fail
  refine (aHW _ b s w H2.out HK2.out.1 (by have:=HNN.out; omega) (by omega)).mono ?_;rintro e w1 ⟨av,nv,cv,rfl,sv,x1,-⟩;have hVl:(Lb.limbs (Lb.val b*s)).length=n+1:=Lb.a7f HSV.out HSG.out
  obtain ⟨T,hT⟩:∃ T,(Lb.limbs (Lb.val b*s))[n]?=some T:=⟨(Lb.limbs (Lb.val b*s))[n]'(by omega),by simp [hVl]⟩
  have hTn:(Lb.limbs (Lb.val b*s))[n]'(by omega)=T:=by have h:n < (Lb.limbs (Lb.val b*s)).length:=by omega
                                                       simpa [h] using hT
  have hT0:0 < T:=by rw [<- hTn]; exact Lb.aW5 hVl (by omega)
  have hTB:T < 1000000000:=by rw [<- hTn]; exact Lb.a2I (Lb.a0q _).1 n (by omega)
  have hTV:T*Lb.B ^ n <= Lb.val b*s:=by
   have:=Lb.b0I (l:=Lb.limbs (Lb.val b*s)) (n:=n) (by omega);rwa [hTn,Lb.a0F] at this
  obtain ⟨gv,ov,cv',hve,hgv,hvc⟩:=a3u sv n (by omega);rw [hTn] at hvc;cases hve;have HSVV:=Lib.hid sv; have HTV:=Lib.hid hTV; have HX1:=Lib.hid x1
  rw [hVl] at *
  have HVL:=Lib.hid (Lb.a7f HSV.out HSG.out)
  have hV0:0 < Lb.val b*s:=by have:=HSG.out; have:=pow_pos (n:=n) Lb.a3w; omega
  have HV0:=Lib.hid hV0
  have E2:((n+1:Nat):Int) - 1=(n:Int):=by omega
  have E2':((n:Int)+1) - 1=(n:Int):=by omega
  have hmk:=a5V (a.length+1) (by omega);rw [natCast_add] at hmk;have e1:((1:Nat):Int)=1:=rfl;rw [e1] at hmk;obtain ⟨W,hW,hA,hE,hz⟩:=a3h w1 (a.length+1);have HA0:=Lib.hid hA; have HE0:=Lib.hid (HX1.out.trans hE); have HE1:=Lib.hid hE;have HUB:=Lib.hid (aHW _ a s W (H1.out.later HE0.out) HK1.out (by omega) (by omega));have HGV:Hid (gv < w1.heap.size):=Lib.hid hgv;clear e1 hA hE hz hT hTn hTV sv x1 hV0 hcell HCL hVl
  go_wp2_with fail
  refine HUB.out.mono ?_;rintro e w4 ⟨au,L,cu,rfl,su,x4,hbu⟩;clear hW hmk;have hL:=SlU.form' su;obtain ⟨au',L',cu',hue,hLe⟩:=hL;cases hue
  have hL1:L <= a.length+1:=by rw [hLe]; exact Lb.a08 HDIV.out
  have HUS:=Lib.hid su; have HLE:=Lib.hid hLe; have HBU:=Lib.hid hbu;have HUV:=Lib.hid (Lb.a0F (Lb.val a*s)); have HUN:=Lib.hid (Lb.a0q (Lb.val a*s)).1;have HV4:Hid (SlU w4 (.slice (some ⟨gv,ov,none⟩) (n+1) cv) (Lb.limbs (Lb.val b*s))):=Lib.hid (HSVV.out.later (HE1.out.trans x4));have HA4:=Lib.hid (HA0.out.ext x4);have HE4:=Lib.hid (HE0.out.trans x4);have HGW:Hid (w.heap.size <= w1.heap.size/\w1.heap.size < w4.heap.size/\w1.heap.size < W.heap.size):=Lib.hid ⟨HX1.out.size,HA4.out.lt,HA0.out.lt⟩
  generalize hUU:Lb.limbs (Lb.val a*s)=U at *
  generalize hgg:w1.heap.size=g at *
  have HGG:=Lib.hid hgg; have HUE:=Lib.hid hUU
  have hTn:¬ ((T:Int)=0):=by omega
  have hTz:((T:Int) == 0)=false:=by simp; omega
  have HVN:=Lib.hid (Lb.a0q (Lb.val b*s));have HP0:=Lib.hid (Lb.aCP (U:=U) HV0.out)
  have HZ0:Hid (ArrU w4 g (List.replicate L 0 ++ ([] ++ List.replicate (a.length+1 - L) 0))):=Lib.hid (by
   have:=HA4.out
   have e:a.length+1=L+(a.length+1 - L):=by omega
   rw [e,<- List.replicate_append_replicate] at this;rw [List.nil_append]
   exact this)
  rw [<- HLE.out] at HP0
  have hrest0:SlU w4 (.slice none 0 0) (Lb.limbs 0):=by rw [Lb.a1h]; exact SlU.nil _
  have HR0:=Lib.hid hrest0
  have hL90:L <= 90000001:=by omega
  have HNE0:Hid ((Value.slice none 0 0).ownBlock ≠ some g):=Lib.hid (by intro e; cases e);clear su x4 hLe hbu hUU hgg HA0 HA4 HUB hrest0 HX1 HE0 HE1 HSVV HDIV HUE
  go_wp2_with fail
  go_loopw [11,14] (fun rest i wr=>∃ (k:Nat) (j:Int) (Q:List Nat) (R:Nat),i=.int .i64 j/\j=(k:Int) - 1/\k <= L/\Hid (Lb.PartsAt U (Lb.val b*s) k Q R)/\Hid (SlU wr rest (Lb.limbs R))/\Hid (rest.ownBlock ≠ some g)/\Hid (ArrU wr g (List.replicate k 0 ++ (Q ++ List.replicate (a.length+1 - L) 0)))/\Hid (But g w4 wr)) (fun _ i _=>(intOf i+1).toNat)
  case atStart=>exact ⟨L,_,[],0,rfl,by omega,le_refl _,HP0,HR0,HNE0,HZ0,Lib.hid (But.refl _ _)⟩
  case round =>
   clear HP0 HR0 HNE0 HZ0;obtain ⟨k,j,Q,R,rfl,hj,hk,HP,HR,HNE,HA,HB⟩:=hrel;have HEW:Hid (Ext w wr):=Lib.hid (But.ext HE4.out HB.out HGW.out.1);by_cases hk0:0 < k
   ·obtain ⟨m,rfl⟩:∃ m,k=m+1:=⟨k - 1,by omega⟩
    obtain rfl:j=(m:Int):=by omega
    clear hj hk0
    have hmL:m < L:=by omega
    have hmU:m < U.length:=by rw [<- HLE.out]; exact hmL
    have HST:=Lib.hid (Lb.aEY HUN.out HP.out hmU);have hx:U[m] < 1000000000:=Lb.a2I HUN.out m hmU;have HNU:Hid ((Value.slice au L cu).ownBlock ≠ some g):=Lib.hid (fun e=>by have:=HBU.out g e; have:=HGW.out; omega);have HNV:Hid ((Value.slice (some ⟨gv,ov,none⟩) (n+1) cv).ownBlock ≠ some g):=Lib.hid (fun e=>by have e':gv=g:=Option.some.inj e; have:=HGV.out; omega);have HSU:=Lib.hid (HUS.out.but HB.out HNU.out);have HSV1:=Lib.hid (HV4.out.but HB.out HNV.out);obtain ⟨gu,ou,cu',hue,hgu,hcu⟩:=a3u HSU.out m hmU;cases hue
    generalize U[m]=x at *
    obtain ⟨X,hX,hAX,heX,hzX⟩:=aAQ wr [x];have HOX:=Lib.hid (aZj (B:=wr.heap.size) hAX (le_refl _) (by unfold maxLen; simp));have HRX:=Lib.hid (HR.out.later heX); have HEX:=Lib.hid heX;have HRB:Hid (R < Lb.val b*s/\(Lb.limbs R).length <= n+1):=Lib.hid ⟨HP.out.rlt,Lb.a08 (Nat.lt_trans HP.out.rlt HSV.out)⟩;have HM:Hid ([x].length+(Lb.limbs R).length <= maxLen):=Lib.hid (by have:=HRB.out.2; unfold maxLen; simp; omega);have HN:Hid (([x].length+(Lb.limbs R).length)*4 <= 140737488355328):=Lib.hid (by have:=HRB.out.2; simp; omega);have HBX:Hid (wr.heap.size <= X.heap.size):=Lib.hid heX.size;have HGR:Hid (g < wr.heap.size):=Lib.hid HA.out.lt
    have HTR:Hid (Lb.trim ([x] ++ Lb.limbs R)=Lb.limbs (x+Lb.B*R)/\([x] ++ Lb.limbs R).length <= 1000000000):=Lib.hid ⟨by
     rw [Lb.a4t (Lb.a3T (Lb.a4v hx Lb.a4k) (Lb.a0q R).1)]
     simp [Lb.val,Lb.a0F],by have:=HRB.out.2; simp; omega⟩
    simp only [map_cons,map_nil,uV] at hX;clear hAX heX hzX hmU
    go_wp2_with ((at_builtin; refine aJw rfl _ _ rfl Tryz.underlying31 Tryz.info_u32 rfl (by decide) a6h aOk wr.heap.size _ _ [x] (Lb.limbs R) rfl rfl HOX.out HRX.out HM.out HN.out HBX.out ?_; intro v6 w6 own6 hg6 hloc6))
    have x6:Ext wr w6:=HEX.out.grown hg6 (fun i hi=>by cases hi; exact le_refl _);have hb6:∀ b,v6.ownBlock=some b->wr.heap.size <= b:=fun b hb=>(own6.base hb).1;refine (a3r v6 _ w6 (own6.sl a6h) HTR.out.2).mono ?_;rintro e w7 ⟨v7,rfl,s7,hb7,rfl⟩;rw [HTR.out.1] at s7;have HN7:Hid (v7.ownBlock ≠ some g):=Lib.hid (fun e=>by rw [hb7] at e; have:=hb6 g e; have:=HGR.out; omega);obtain ⟨a7,n7,c7,rfl,hn7⟩:=s7.form';have HX6:=Lib.hid x6; have HS7:=Lib.hid s7
    have HR1:Hid (x+Lb.B*R < Lb.B*(Lb.val b*s)):=Lib.hid (by
     have h:Lb.B*(R+1) <= Lb.B*(Lb.val b*s):=mul_le_mul_left _ HRB.out.1
     rw [Nat.mul_succ,Lb.a9f] at *
     omega)
    have hn72:n7 <= n+2:=by
     rw [hn7];refine Lb.a08 ?_;have h1:=HR1.out;have h2:Lb.B*(Lb.val b*s) <= Lb.B*Lb.B ^ (n+1):=mul_le_mul_left _ (Nat.le_of_lt HSV.out);rw [pow_succ Lb.B (n+1),mul_comm _ Lb.B];omega
    have HQ1:Hid ((x+Lb.B*R) / (Lb.val b*s) < 1000000000):=Lib.hid HST.out.1;have HP2:=Lib.hid HST.out.2
    generalize x+Lb.B*R=R1 at *
    have HHS:=Lib.hid (Lb.aQu (l:=Lb.limbs R1) (n:=n) (Lb.a0q R1).1 (by rw [<- hn7]; exact hn72));have HES:=Lib.hid (Lb.b2l (R:=R1) HTV.out hT0 (pow_pos Lb.a3w));rw [Lb.a0F] at HHS;have HL7:=Lib.hid hn7; have HV6:=Lib.hid (HSV1.out.later x6); have HA6:=Lib.hid (HA.out.ext x6);clear hcu hX hn7 x6 s7 hb6 hb7 own6 hg6 hloc6 HOX HRX HEX HM HN HBX HTR HR HNE HSU HSV1 HST;by_cases hc1:n+1 < n7
    rotate_left
    have hq3:decide ((n7:Int) > (n:Int)+1)=false:=by simp; omega
    by_cases hc2:n < n7
    have hq4:decide ((n7:Int) >= (n:Int)+1)=true:=by simp; omega
    obtain ⟨g8,o8,c8',he8,hg8,hc70⟩:=a3u HS7.out n (by rw [<- HL7.out]; omega);cases he8;have HH:=HHS.out;rw [dif_neg (by rw [<- HL7.out]; exact hc1),dif_pos (by rw [<- HL7.out]; omega)] at HH;have hy0:(Lb.limbs R1)[n]'(by rw [<- HL7.out]; omega) < 1000000000:=Lb.a2I (Lb.a0q R1).1 _ _
    generalize (Lb.limbs R1)[n]'(by rw [<- HL7.out]; omega)=yb at *
    clear hc1 hg8;have HHH:Hid (yb=R1 / Lb.B ^ n):=Lib.hid (by have h:=HH; rw [Lb.a9f] at h ⊢; omega);have e5:0 <= ((yb:Int)) / (T:Int):=ediv_nonneg (by omega) (by omega);have e6:((yb:Int)) / (T:Int) < 1000000001000000000:=Int.lt_of_le_of_lt (Int.ediv_le_self _ (by omega)) (by omega);have E7:Hid (((yb:Int)) / (T:Int)=(((yb) / T:Nat):Int)):=Lib.hid (by simp)
    have hw:IntKind.u64.wrap (((yb:Int)) / (T:Int))=((yb:Int)) / (T:Int):=by rw [wrap_u64]; exact emod_eq_of_lt e5 (by omega)
    have HE5:=Lib.hid e5;clear HHS HH e5 e6;by_cases hbig:yb / T > 999999999
    have hq5:decide ((yb:Int) / (T:Int) > 999999999)=true:=by rw [E7.out]; simp only [decide_eq_true_eq]; omega
    have HG:Hid (∃ G:Nat,G < 1000000000/\R1 / (Lb.val b*s) <= G/\(999999999:Int)=(G:Int)):=Lib.hid ⟨999999999,by omega,by have:=HQ1.out; omega,rfl⟩;clear hbig
    rotate_left
    have hq5:decide ((yb:Int) / (T:Int) > 999999999)=false:=by rw [E7.out]; simp only [decide_eq_false_iff_not]; omega
    have hw3:(yb:Int) / (T:Int) % 4294967296=(yb:Int) / (T:Int):=emod_eq_of_lt HE5.out (by rw [E7.out]; omega);have HG:Hid (∃ G:Nat,G < 1000000000/\R1 / (Lb.val b*s) <= G/\(yb:Int) / (T:Int)=(G:Int)):=Lib.hid ⟨_,by omega,by rw [HHH.out]; exact HES.out,E7.out⟩;clear hbig
    rotate_left
    have hq4:decide ((n7:Int) >= (n:Int)+1)=false:=by simp; omega
    have HH:=HHS.out;rw [dif_neg (by rw [<- HL7.out]; exact hc1),dif_neg (by rw [<- HL7.out]; omega)] at HH;have HHH:Hid (R1 / Lb.B ^ n=0):=Lib.hid (by rw [<- HH]);clear HHS HH hc1 hc2;have HG:Hid (∃ G:Nat,G < 1000000000/\R1 / (Lb.val b*s) <= G/\(0:Int)=(G:Int)):=Lib.hid ⟨0,by omega,by have h:=HES.out; rw [HHH.out] at h; simpa using h,rfl⟩
    rotate_left
    have hq3:decide ((n7:Int) > (n:Int)+1)=true:=by simp; omega
    have hq4:decide ((n7:Int) >= (n:Int)+1)=true:=by simp; omega
    obtain ⟨g7,o7,c7',he7,hg7,hc71⟩:=a3u HS7.out (n+1) (by rw [<- HL7.out]; exact hc1);cases he7;obtain ⟨g8,o8,c8',he8,hg8,hc70⟩:=a3u HS7.out n (by rw [<- HL7.out]; omega);cases he8;have HH:=HHS.out;rw [dif_pos (by rw [<- HL7.out]; exact hc1),dif_pos (by rw [<- HL7.out]; omega)] at HH;have hy1:(Lb.limbs R1)[n+1]'(by rw [<- HL7.out]; exact hc1) < 1000000000:=Lb.a2I (Lb.a0q R1).1 _ _;have hy0:(Lb.limbs R1)[n]'(by rw [<- HL7.out]; omega) < 1000000000:=Lb.a2I (Lb.a0q R1).1 _ _
    generalize (Lb.limbs R1)[n+1]'(by rw [<- HL7.out]; exact hc1)=ya at *
    generalize (Lb.limbs R1)[n]'(by rw [<- HL7.out]; omega)=yb at *
    clear hg7 hg8;have HHH:Hid (ya*1000000000+yb=R1 / Lb.B ^ n):=Lib.hid (by have h:=HH; rw [Lb.a9f] at h ⊢; omega);have e5:0 <= ((ya:Int)*1000000000+yb) / (T:Int):=ediv_nonneg (by omega) (by omega);have e6:((ya:Int)*1000000000+yb) / (T:Int) < 1000000001000000000:=Int.lt_of_le_of_lt (Int.ediv_le_self _ (by omega)) (by omega);have E7:Hid (((ya:Int)*1000000000+yb) / (T:Int)=(((ya*1000000000+yb) / T:Nat):Int)):=Lib.hid (by simp)
    have hw:IntKind.u64.wrap (((ya:Int)*1000000000+yb) / (T:Int))=((ya:Int)*1000000000+yb) / (T:Int):=by rw [wrap_u64]; exact emod_eq_of_lt e5 (by omega)
    have HE5:=Lib.hid e5;clear HHS HH e5 e6;by_cases hbig:(ya*1000000000+yb) / T > 999999999
    have hq5:decide (((ya:Int)*1000000000+yb) / (T:Int) > 999999999)=true:=by rw [E7.out]; simp only [decide_eq_true_eq]; omega
    have HG:Hid (∃ G:Nat,G < 1000000000/\R1 / (Lb.val b*s) <= G/\(999999999:Int)=(G:Int)):=Lib.hid ⟨999999999,by omega,by have:=HQ1.out; omega,rfl⟩;clear hbig
    rotate_left
    have hq5:decide (((ya:Int)*1000000000+yb) / (T:Int) > 999999999)=false:=by rw [E7.out]; simp only [decide_eq_false_iff_not]; omega
    have hw3:((ya:Int)*1000000000+yb) / (T:Int) % 4294967296=((ya:Int)*1000000000+yb) / (T:Int):=emod_eq_of_lt HE5.out (by rw [E7.out]; omega);have HG:Hid (∃ G:Nat,G < 1000000000/\R1 / (Lb.val b*s) <= G/\((ya:Int)*1000000000+yb) / (T:Int)=(G:Int)):=Lib.hid ⟨_,by omega,by rw [HHH.out]; exact HES.out,E7.out⟩;clear hbig
    all_goals
     as_aux_lemma =>
      obtain ⟨G,hDD,hQD,hEQ⟩:=HG.out
      have HBY:Hid (∀ x:Int,x=(G:Int)->Calls prog 221 #[.slice (some ⟨gv,ov,none⟩) (n+1) cv,.int .u32 x] w6 (aZ7 w6 (Lb.limbs (Lb.val b*s*G)))):=Lib.hid (fun x hx=>by
       rw [hx];have h:=aHW _ _ G w6 HV6.out HVN.out.1 (by rw [HVL.out]; omega) hDD
       rwa [Lb.a0F] at h)
      have HDD:=Lib.hid hDD; have HQD:=Lib.hid hQD; have HEQ:=Lib.hid hEQ;clear hDD hQD hEQ
      obtain ⟨wo,rfl⟩:∃ wo:World,wo=wr:=⟨_,rfl⟩
      go_wp2_with fail
      refine (HBY.out _ HEQ.out).mono ?_;rintro e w8 ⟨a8,n8,c8,rfl,s8,x8,-⟩;clear HBY
      go_wp2_with fail
      go_loopw [16,17] (fun dv pv wr=>∃ (d:Nat),dv=.int .u64 (d:Int)/\d < 1000000000/\Hid (R1 / (Lb.val b*s) <= d)/\Hid (SlU wr pv (Lb.limbs (Lb.val b*s*d)))/\Hid (Ext w6 wr)) (fun dv _ _=>(intOf dv).toNat)
      case atStart=>exact ⟨G,by rw [HEQ.out],HDD.out,HQD,Lib.hid s8,Lib.hid x8⟩
      case round =>
       clear HEQ HDD HQD s8 x8;obtain ⟨d,rfl,hd,HQD,HPR,HXI⟩:=hrel;obtain ⟨pa,pn,pc,rfl,hpn⟩:=HPR.out.form'
       have HPL:Hid ((Lb.limbs (Lb.val b*s*d)).length <= n+2/\(Lb.limbs R1).length <= n+2):=Lib.hid ⟨Lb.a08 (by
        have h1:=HSV.out;rw [pow_succ]
        exact Nat.mul_lt_mul_of_lt_of_le h1 (by rw [Lb.a9f]; omega) (by rw [Lb.a9f]; omega)),by first | exact hn72 | (rw [<- HL7.out]; exact hn72)⟩
       have HC:=Lib.hid (aTx _ _ _ _ wr HPR.out (HS7.out.later HXI.out) (Lb.a0q _) (Lb.a0q _) (by have:=HPL.out; omega) (by have:=HPL.out; omega));rw [Lb.a0F,Lb.a0F] at HC;clear hpn;by_cases hgt:R1 < Lb.val b*s*d
       ·have hq6:decide (aBi (Lb.val b*s*d) R1 > 0)=true:=by rw [a8m hgt]; rfl
        have hd0:0 < d:=by
         rcases eq_zero_or_pos d with h | h
         ·subst h; simp at hgt
         ·exact h
        have HD1:Hid (R1 / (Lb.val b*s) <= d - 1):=Lib.hid (by
         have h:=(Nat.div_lt_iff_lt_mul HV0.out).2 (by rw [mul_comm]; exact hgt)
         omega)
        have HLE2:Hid (Lb.val b*s <= Lb.val b*s*d):=Lib.hid (by
         have:=mul_le_mul_left (Lb.val b*s) hd0
         rwa [Nat.mul_one] at this)
        have HSUB:Hid (Lb.val b*s*d - Lb.val b*s=Lb.val b*s*(d - 1)):=Lib.hid (by rw [Nat.mul_sub,Nat.mul_one])
        have e9:((d - 1:Nat):Int)=(d:Int) - 1:=by omega
        have E9:=Lib.hid e9;clear hgt e9
        generalize aBi (Lb.val b*s*d) R1=cmp at *
        go_wp2_with fail
        refine HC.out.mono ?_;rintro e w9 ⟨rfl,x9⟩;have HMI:=Lib.hid (a7S _ _ _ _ w9 (HPR.out.later x9) (HV6.out.later (HXI.out.trans x9)) (Lb.a0q _).1 HVN.out.1 (by have:=HPL.out; omega) (Lb.a2n HLE2.out) (by rw [Lb.a0F,Lb.a0F]; exact HLE2.out));rw [Lb.a0F,Lb.a0F,HSUB.out] at HMI;have HX9:=Lib.hid (HXI.out.trans x9);clear x9 HC
        go_wp2_with fail
        refine HMI.out.mono ?_;rintro e w10 ⟨a10,n10,c10,rfl,s10,x10,-⟩
        go_wp2_with fail
        go_roundw
        case rel=>exact ⟨d - 1,by rw [E9.out],by omega,HD1,Lib.hid s10,Lib.hid (HX9.out.trans x10)⟩
        case measure=>simp [intOf]; omega
       ·have hq6:decide (aBi (Lb.val b*s*d) R1 > 0)=false:=by
         rcases lt_or_ge (Lb.val b*s*d) R1 with h | h
         ·rw [a8l h]; rfl
         ·rw [aAu (by omega)]; rfl
        have HLE2:Hid (Lb.val b*s*d <= R1):=Lib.hid (by omega);have HDQ:Hid (d=R1 / (Lb.val b*s)):=Lib.hid (Lb.aT9 HLE2.out HV0.out HQD.out)
        have HSUB:Hid (R1 - Lb.val b*s*d=R1 % (Lb.val b*s)):=Lib.hid (by
         have h:=Nat.div_add_mod R1 (Lb.val b*s);rw [<- HDQ.out] at h
         omega)
        clear hgt
        generalize aBi (Lb.val b*s*d) R1=cmp at *
        go_wp2_with fail
        refine HC.out.mono ?_;rintro e w9 ⟨rfl,x9⟩;have HMI:=Lib.hid (a7S _ _ _ _ w9 (HS7.out.later (HXI.out.trans x9)) (HPR.out.later x9) (Lb.a0q _).1 (Lb.a0q _).1 (by have:=HPL.out; omega) (Lb.a2n HLE2.out) (by rw [Lb.a0F,Lb.a0F]; exact HLE2.out));rw [Lb.a0F,Lb.a0F,HSUB.out] at HMI;have HX9:=Lib.hid (HXI.out.trans x9);clear x9 HC
        go_wp2_with fail
        refine HMI.out.mono ?_;rintro e w10 ⟨a10,n10,c10,rfl,s10,x10,hb10⟩;have HX10:=Lib.hid (HX9.out.trans x10);have HA10:=Lib.hid (HA6.out.ext HX10.out);have HB10:=Lib.hid (HB.out.later (HX6.out.trans HX10.out));have HNE10:Hid ((Value.slice a10 n10 c10).ownBlock ≠ some g):=Lib.hid (fun e=>by have h1:=hb10 g e; have h2:=HGR.out; have h3:=HX6.out.size; have h4:=HX9.out.size; omega)
        have hml:m < (List.replicate (m+1) 0 ++ (Q ++ List.replicate (a.length+1 - U.length) 0)).length:=by simp; omega
        have cs:=HA10.out.cell m hml;have fs:=HA10.out.free m;generalize ((List.replicate (m+1) 0 ++ (Q ++ List.replicate (a.length+1 - U.length) 0))[m]:Int)=old at cs;have HAX:=Lib.hid (HA10.out.set m d);rw [Lb.a5s] at HAX;have HS10:Hid (SlU (w10.setCell ⟨g,m,none⟩ (.int .u32 (d:Int))) (.slice a10 n10 c10) (Lb.limbs (R1 % (Lb.val b*s)))):=Lib.hid (s10.but ((But.refl g w10).set m _) HNE10.out);have HB11:=Lib.hid (HB10.out.set m (.int .u32 (d:Int)));clear hml s10 x10 hb10
        go_wp2_with fail
        go_roundw
        case rel=>exact ⟨m,_,d :: Q,_,rfl,rfl,by omega,by rw [HDQ.out]; exact HP2,HS10,HNE10,HAX,HB11⟩
        case measure=>simp [intOf]
   ·obtain rfl:k=0:=by omega
    obtain rfl:j=-1:=by omega
    clear hj hk0;have HSC:=Lib.hid (Lb.aBO (a:=Lb.val a) (b:=Lb.val b) (s:=s) (Q:=Lb.val Q) (R:=R) (by have:=HP.out.val; rw [drop_zero,HUV.out] at this; exact this) HP.out.rlt);have HQL:Hid (Q.length=L/\Lb.Lt Q):=Lib.hid ⟨by have:=HP.out.len; rw [this,<- HLE.out]; rfl,HP.out.lt⟩;have HRL:Hid ((Lb.limbs R).length <= n+1):=Lib.hid (Lb.a08 (Nat.lt_trans HP.out.rlt HSV.out));obtain ⟨ar,nr,cr,rfl,hnr⟩:=HR.out.form';have HNR:=Lib.hid hnr
    have hnr9:nr <= 90000001:=by rw [hnr]; have:=HRL.out; omega
    have hmk:=a5V nr (by omega);obtain ⟨W2,hW2,hA2,hE2,hz2⟩:=a3h wr nr;have HA2:Hid (ArrU W2 wr.heap.size (List.replicate nr 0 ++ [])):=Lib.hid (by rw [append_nil]; exact hA2);have HB0:=Lib.hid (Lb.aG3 (l:=Lb.limbs R) (s:=s) (by omega));rw [<- hnr] at HB0;have HX2:=Lib.hid hE2; have HGW2:Hid (wr.heap.size < W2.heap.size):=Lib.hid hA2.lt;have HRN:Hid (∀ b',(Value.slice ar nr cr).ownBlock=some b'->Lb.limbs R ≠ []->b' < wr.heap.size):=Lib.hid (fun b' e hne=>HR.out.blk e hne);have HRW:=Lib.hid (HR.out.later hE2);have HAW:=Lib.hid (HA.out.ext hE2);have HGA:Hid (g < wr.heap.size):=Lib.hid HA.out.lt;clear hnr hA2 hE2 hz2 HP HUS HV4
    obtain ⟨wo,rfl⟩:∃ wo:World,wo=wr:=⟨_,rfl⟩
    go_wp2_with fail
    clear hmk hW2
    go_loopw [18,20] (fun c i wr=>∃ (k2:Nat) (j:Int) (o:List Nat) (cn:Nat),c=.int .u64 (cn:Int)/\i=.int .i64 j/\j=(k2:Int) - 1/\k2 <= nr/\Hid (Lb.aHp (Lb.limbs R) s k2 o cn)/\Hid (ArrU wr wo.heap.size (List.replicate k2 0 ++ o))/\Hid (But wo.heap.size W2 wr)) (fun _ i _=>(intOf i+1).toNat)
    case atStart=>exact ⟨nr,_,[],0,rfl,rfl,by omega,le_refl _,HB0,HA2,Lib.hid (But.refl _ _)⟩
    case round =>
     clear HB0 HA2;obtain ⟨k2,j,o,cn,rfl,rfl,hj,hk2,HP,HA2,HB2⟩:=hrel;have HEW2:Hid (Ext wo wr):=Lib.hid (But.ext HX2.out HB2.out (le_refl _));have HRR:=Lib.hid (HR.out.later HEW2.out);by_cases hk0:0 < k2
     ·obtain ⟨m,rfl⟩:∃ m,k2=m+1:=⟨k2 - 1,by omega⟩
      obtain rfl:j=(m:Int):=by omega
      clear hj hk0
      have hmr:m < nr:=by omega
      have hml:m < (Lb.limbs R).length:=by rw [<- HNR.out]; exact hmr
      have HST:=Lib.hid (Lb.aJs (Lb.a0q R).1 HP.out hml);have hx:(Lb.limbs R)[m] < 1000000000:=Lb.a2I (Lb.a0q R).1 m hml;obtain ⟨gr,orr,cr',hre,hgr,hcr⟩:=a3u HRR.out m hml;cases hre
      generalize (Lb.limbs R)[m]=x at *
      have hcn:cn < s:=HP.out.clt
      have hlen2:m < (List.replicate (m+1) 0 ++ o).length:=by simp; omega
      have cs:=HA2.out.cell m hlen2;have fs:=HA2.out.free m;generalize ((List.replicate (m+1) 0 ++ o)[m]:Int)=old at cs;rw [Lb.a9f] at HST;have HDG:Hid ((cn*1000000000+x) / s < 1000000000):=Lib.hid HST.out.1;have e5:0 <= ((cn:Int)*1000000000+x) / (s:Int):=ediv_nonneg (by omega) (by omega);have E7:Hid (((cn:Int)*1000000000+x) / (s:Int)=(((cn*1000000000+x) / s:Nat):Int)):=Lib.hid (by simp);have E8:Hid (((cn:Int)*1000000000+x) % (s:Int)=(((cn*1000000000+x) % s:Nat):Int)):=Lib.hid (by simp)
      have e6:((cn:Int)*1000000000+x) / (s:Int) < 1000000000:=by rw [E7.out]; have:=HDG.out; omega
      have hw:IntKind.u64.wrap (((cn:Int)*1000000000+x) / (s:Int))=((cn:Int)*1000000000+x) / (s:Int):=by rw [wrap_u64]; exact emod_eq_of_lt e5 (by omega)
      have hw3:((cn:Int)*1000000000+x) / (s:Int) % 4294967296=((cn:Int)*1000000000+x) / (s:Int):=emod_eq_of_lt e5 (by omega)
      have hsz:((s:Int) == 0)=false:=by simp; omega
      have hsn:¬ (s:Int)=0:=by omega
      have HAX:Hid (∀ u:Int,u=((cn:Int)*1000000000+x) / (s:Int)->ArrU (wr.setCell ⟨wo.heap.size,m,none⟩ (.int .u32 u)) wo.heap.size (List.replicate m 0 ++ ((cn*1000000000+x) / s :: o))):=Lib.hid (fun u hu=>by
       rw [E7.out] at hu;subst hu;have:=HA2.out.set m ((cn*1000000000+x) / s)
       rwa [Lb.a5s] at this)
      have HBX:Hid (∀ u:Value,But wo.heap.size W2 (wr.setCell ⟨wo.heap.size,m,none⟩ u)):=Lib.hid (fun u=>HB2.out.set m u);clear hlen2 e5 e6 hml HP
      go_wp2_with fail
      go_roundw
      case rel=>exact ⟨m,_,_,_,by rw [E8.out],rfl,rfl,by omega,Lib.hid HST.out.2,Lib.hid (HAX.out _ rfl),Lib.hid (HBX.out _)⟩
      case measure=>simp [intOf]
     ·obtain rfl:k2=0:=by omega
      obtain rfl:j=-1:=by omega
      clear hj hk0;have HVO:=Lib.hid (Lb.aJt HP.out (by rw [Lb.a0F]; exact HSC.out.2))
      have HAG:Hid (ArrU wr g (Q ++ List.replicate (a.length+1 - L) 0)):=Lib.hid (by
       have h:=HAW.out;have h2:=HB2.out.block g (by have:=HGA.out; have:=HGW2.out; omega) (by have:=HGA.out; omega);unfold ArrU at h ⊢;rw [h2]
       simpa using h)
      have HSG2:Hid (SlU wr (.slice (some ⟨g,0,none⟩) L (a.length+1)) Q):=Lib.hid (by
       have h:=HAG.out.sl (n:=L) (cap:=a.length+1) (by simp [HQL.out.1]) (by omega)
       rwa [List.take_append_of_le_length (by rw [HQL.out.1]; exact le_refl _),List.take_of_length_le (by rw [HQL.out.1]; exact le_refl _)] at h)
      have HSO:Hid (SlU wr (.slice (some ⟨wo.heap.size,0,none⟩) nr nr) o):=Lib.hid (by
       have h:=HA2.out;rw [List.replicate_zero,List.nil_append] at h
       exact h.all (by rw [HP.out.len,<- HNR.out]; rfl) (le_refl _))
      have HOL:Hid (o.length <= 1000000000/\Lb.Lt o):=Lib.hid ⟨by rw [HP.out.len,<- HNR.out]; omega,HP.out.lt⟩;have HEF:Hid (Ext w wr):=Lib.hid (HEW.out.trans HEW2.out);clear HP HA2
      go_wp2_with fail
      refine (a3r _ _ _ HSG2.out (by rw [HQL.out.1]; omega)).mono ?_;rintro e w11 ⟨v11,rfl,s11,-,rfl⟩;obtain ⟨a11,c11,rfl⟩:=SlU.form s11
      go_wp2_with fail
      refine (a3r _ _ _ HSO.out HOL.out.1).mono ?_;rintro e w12 ⟨v12,rfl,s12,-,rfl⟩;obtain ⟨a12,c12,rfl⟩:=SlU.form s12
      go_wp2_with fail
      go_ret2
      refine ⟨_,_,rfl,?_,?_,HEF.out⟩
      ·rw [<- HSC.out.1,<- Lb.a4t HQL.out.2]; exact s11
      ·rw [<- HVO.out,<- Lb.a4t HOL.out.2]; exact s12
