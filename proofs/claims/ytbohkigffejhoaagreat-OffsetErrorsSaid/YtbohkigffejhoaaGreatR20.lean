import Derived.Test.YtbohkigffejhoaaGreatR19
import Derived.Test.YtbohkigffejhoaaGreatR16
open List (length_take mem_cons mem_singleton not_mem_nil)
open Nat (le_trans zero_le)
open Go.Proofs.Tryz (f109 f110 f113 f197 f199 f200 f201 f206 f208 f209 f210 f211 f311 f315 f317 f318 f322 f323 f324 f326 f397 f400 func110 func199 func311 func400 prog)
namespace Go.Proofs.YtbohkigffejhoaaGreat
open Go.RowKit
set_option maxHeartbeats 4000000
namespace Vc
attribute [local irreducible] owes
def ET0:List Ctr:=b6u :: b3z
theorem aWB:∀ c ∈ ET0,CtrOK prog c:=by
 intro c hc;rcases mem_cons.1 hc with rfl | h
 ·exact aZe
 ·exact aEj c h
theorem aOJ (k:Nat):List.replicate k 0 ++ [1]=Lb.limbs ((Lb.B ^ k:Nat):Int).natAbs:=by
 rw [Int.natAbs_natCast,<- aW0 k,<- Lb.a4t (b0Y k)];exact (Lb.a6T (by simp)).symm
def aVR:Ctr:=⟨397,spY (gI.c r0) (fun (z,_)=>0 <= z/\szI z <= 2000000) (fun (z,_)=>.t [.g [.I (((isq z.toNat:Nat):Int))],.c (.v (.int .i64 ((0:Int))))])⟩
def aQm:=(Value.int .i64 (0:Int)=(.int .i64 (0:Int)))
def aYL (z:Int):=((Value.bool false=.bool (decide (((isq z.toNat:Nat):Int) < 0)))/\((([]:List Nat)=Lb.limbs ((isq z.toNat:Nat):Int).natAbs)/\True))
def aMD (z:Int):=((Lb.limbs z.natAbs).length:Int)
def aIo (z:Int):=(((aMD z)+(1:Int)) / (2:Int))
def aYK:=((Value.bool false=(.bool false))/\((([]:List Nat)=([]:List Nat))/\True))
def aQl (x1:Int) (z:Int):=((x1+(z / x1)) / (2:Int))
theorem aIL (z:Int) (hp:0 <= z/\szI z <= 2000000):owes LTD ET0 [.inv 7 (Int) (fun ξ=>⟨[.u,.k (.c (.bx 0 0)),.k (.c (.bx 1 0)),.k (.c (.v (.int .i64 ((0:Int))))),.k (.c (.bx 2 0)),.k (.c (.bx 3 0)),.u,.u,.u,.u,.u,.u,.u,.u,.u,.u,.u,.u,.u,.u,.u,.u,.u,.u,.u,.u,.u,.u,.u,.u,.u,.u,.u,.u,.u,.u,.u,.u,.u,.u,.u,.u,.u,.u,.u,.u,.u,.u,.u,.u,.u,.u],[⟨33,[.I (z)]⟩,⟨33,[.v (.bool (false)),.sl (([]:List Nat))]⟩,⟨33,[.I (ξ)]⟩,⟨33,[.I ((2:Int))]⟩]⟩) (fun _ ξ=>(1 <= ξ/\z < (ξ+1)*(ξ+1)/\szI ξ <= szI z+1)) (fun ξ=>(ξ).toNat)] f397 (bd f397) [.g [.I (z)]] (.t [.g [.I (((isq z.toNat:Nat):Int))],.c (.v (.int .i64 ((0:Int))))]):=by
 refine Eq.mp (show (((decide (z < 0))=true->((aYL z)/\((Value.int .i64 (7:Int)=(.int .i64 (0:Int)))/\True)))/\((decide (z < 0))=false->((((aMD z) == (0:Int))=true->((aYL z)/\(aQm/\True)))/\(((aMD z) == (0:Int))=false->((inR .i64 ((aMD z)+(1:Int)))/\(((0 <= (aMD z)+(1:Int)/\0 < (2:Int))/\inR .i64 (aIo z))/\(((aIo z)=(aIo z)/\0 <= (aIo z)/\(aIo z) <= 1000000)/\((∀ z ∈ ([(1:Int)]:List Int),0 <= z)/\((-9223372036854775808 <= (2:Int)/\(2:Int) <= 9223372036854775807)/\((∃ x1:Int,((1 <= x1/\z < (x1+1)*(x1+1)/\szI x1 <= szI z+1)/\((True/\(True/\(aQm/\(True/\(True/\True)))))/\(((z=z)/\True)/\(aYK/\(((Value.bool false=.bool (decide (x1 < 0)))/\(((List.replicate (aIo z).toNat 0 ++ [((1:Int):Int).toNat])=Lb.limbs x1.natAbs)/\True))/\((((2:Int)=(2:Int))/\True)/\True)))))))/\(∀ x1:Int,((1 <= x1/\z < (x1+1)*(x1+1)/\szI x1 <= szI z+1)->(((0 <= z/\0 < x1)/\(szI z <= 5000000/\szI x1 <= 5000000))/\((szI x1 <= 10000000/\szI (z / x1) <= 10000000)/\(((0 <= (x1+(z / x1))/\0 < (2:Int))/\(szI (x1+(z / x1)) <= 5000000/\szI (2:Int) <= 5000000))/\((szI (aQl x1 z) <= 10000000/\szI x1 <= 10000000)/\(((decide ((((aQl x1 z) - x1).sign) >= (0:Int)))=true->(((x1=((isq z.toNat:Nat):Int))/\True)/\(aQm/\True)))/\((decide ((((aQl x1 z) - x1).sign) >= (0:Int)))=false->(∃ y1:Int,((1 <= y1/\z < (y1+1)*(y1+1)/\szI y1 <= szI z+1)/\((y1.toNat < x1.toNat)/\((True/\(True/\(aQm/\(True/\(True/\True)))))/\(((z=z)/\True)/\(aYK/\((((aQl x1 z)=y1)/\True)/\((((2:Int)=(2:Int))/\True)/\True))))))))))))))))))))))))))=_ by kernel_rfl) ?_;delta aQl aYK aIo aMD aYL aQm;obtain ⟨hz,hsz⟩:=hp;refine ⟨fun h=>?_,fun _=>⟨fun h=>?_,fun h=>?_⟩⟩
 ·exfalso;have:=of_decide_eq_true h;omega
 ·have h0:(Lb.limbs z.natAbs).length=0:=by have:=beq_iff_eq.1 h; omega
  have hz0:z=0:=by
   rcases Nat.eq_zero_or_pos z.natAbs with e | e
   ·omega
   ·rw [Lb.a2i (by omega)] at h0;simp at h0
  subst hz0;exact ⟨⟨by simp [isq],by simp [isq,Lb.a1h],trivial⟩,rfl,trivial⟩
 ·have hn0:(Lb.limbs z.natAbs).length ≠ 0:=fun e=>by rw [e] at h; simp at h
  have hlt:=Lb.a07 z.natAbs
  have hz1:1 <= z:=by
   rcases Int.lt_or_le 0 z with e | e
   ·omega
   ·exfalso
    have:z=0:=by omega
    subst this;rw [show (0:Int).natAbs=0 from rfl,Lb.a1h] at hn0;exact hn0 rfl
  have hsn:szI z=(Lb.limbs z.natAbs).length:=rfl
  generalize hn:(Lb.limbs z.natAbs).length=n at *
  have ek:(((n:Int)+1) / 2).toNat=(n+1) / 2:=by omega
  have e1:((1:Int):Int).toNat=1:=rfl;rw [ek,e1]
  generalize hk:(n+1) / 2=k at *
  have hBp:0 < Lb.B ^ k:=Nat.pow_pos Lb.a3w
  have hzB:z < (Lb.B ^ k:Nat)*(Lb.B ^ k:Nat):=by
   have h1:Lb.B ^ n <= Lb.B ^ (k+k):=Nat.pow_le_pow_right Lb.a3w (by omega);rw [Nat.pow_add] at h1
   have h2:z.natAbs < Lb.B ^ k*Lb.B ^ k:=by omega
   have h3:((Lb.B ^ k*Lb.B ^ k:Nat):Int)=(Lb.B ^ k:Nat)*(Lb.B ^ k:Nat):=Int.natCast_mul _ _;omega
  have hsB:szI ((Lb.B ^ k:Nat):Int) <= k+1:=a5i (by
   rw [Int.natAbs_natCast,Nat.pow_succ];have:Lb.B ^ k*1 < Lb.B ^ k*Lb.B:=Nat.mul_lt_mul_of_pos_left (by decide) hBp
   omega)
  have hBi:(0:Int) < ((Lb.B ^ k:Nat):Int):=Int.natCast_pos.2 hBp;have s2:szI 2 <= 5000000:=le_trans (a5i (k:=1) (by decide)) (by decide)
  refine ⟨by simp only [inR]; omega,⟨⟨by omega,by omega⟩,by simp only [inR]; omega⟩,⟨rfl,by omega,by omega⟩,fun y hy=>by simp at hy; omega,⟨by decide,by decide⟩,
   ⟨((Lb.B ^ k:Nat):Int),⟨by omega,?_,by omega⟩,⟨trivial,trivial,rfl,trivial,trivial,trivial⟩,⟨rfl,trivial⟩,⟨rfl,rfl,trivial⟩,⟨by rw [decide_eq_false (by omega)],aOJ k,trivial⟩,⟨rfl,trivial⟩,trivial⟩,fun x hx=>?_⟩
  ·generalize ((Lb.B ^ k:Nat):Int)=b at *
   have:(b+1)*(b+1)=b*b+2*b+1:=by grind
   omega
  ·obtain ⟨x1,x2,x3⟩:=hx;have q0:0 <= z / x:=Int.ediv_nonneg hz (by omega);have qle:z / x <= z:=Int.ediv_le_self x hz;have sq:szI (z / x) <= szI z:=a2W (by omega);have sa:=aJ8 x (z / x);have hnw:=b1u x1 hz;have hst:=fun h=>aH4 (z:=z) x1 h
   generalize z / x=q at *
   have a0:0 <= (x+q) / 2:=by omega
   have sn:szI ((x+q) / 2) <= szI (x+q):=a2W (by omega);refine ⟨⟨⟨hz,by omega⟩,by omega,by omega⟩,⟨by omega,by omega⟩,⟨⟨by omega,by decide⟩,by omega,s2⟩,⟨by omega,by omega⟩,fun c=>⟨⟨?_,trivial⟩,rfl,trivial⟩,fun c=>?_⟩
   ·have c1:=of_decide_eq_true c
    have c2:x <= (x+q) / 2:=by
     rcases Int.lt_or_le ((x+q) / 2) x with g | g
     ·exfalso;have:=Int.sign_eq_neg_one_of_neg (show (x+q) / 2 - x < 0 by omega);omega
     ·exact g
    have c3:=hst c2
    have e2:isq z.toNat=x.toNat:=aCb (by
     have:((x.toNat*x.toNat:Nat):Int)=x*x:=by rw [Int.natCast_mul,Int.toNat_of_nonneg (by omega)]
     omega) (by
     have:(((x.toNat+1)*(x.toNat+1):Nat):Int)=(x+1)*(x+1):=by rw [Int.natCast_mul,Int.natCast_add,Int.toNat_of_nonneg (by omega)]; rfl
     omega)
    rw [e2,Int.toNat_of_nonneg (by omega)]
   ·have c1:=of_decide_eq_false c
    have c2:(x+q) / 2 < x:=by
     rcases Int.lt_or_le ((x+q) / 2) x with g | g
     ·exact g
     ·exfalso;refine c1 ?_;rcases Int.lt_trichotomy ((x+q) / 2 - x) 0 with k | k | k
      ·omega
      ·rw [k]; decide
      ·rw [Int.sign_eq_one_of_pos k]; decide
    generalize (x+q) / 2=y at *
    have y1:1 <= y:=by
     rcases Int.lt_or_le 0 y with g | g
     ·omega
     ·exfalso
      have:y=0:=by omega
      subst this;omega
    refine ⟨y,⟨y1,hnw,le_trans (a2W (by omega)) x3⟩,by omega,⟨trivial,trivial,rfl,trivial,trivial,trivial⟩,⟨rfl,trivial⟩,⟨rfl,rfl,trivial⟩,⟨rfl,trivial⟩,⟨rfl,trivial⟩,trivial⟩
theorem aRg:CtrOK prog aVR:=yOK a0w aWB Tryz.func397 fun _ hp=>aIL _ hp
def ET1:List Ctr:=ET0 ++ [aVR]
theorem aWA:∀ c ∈ ET1,CtrOK prog c:=a0M aWB (fun c hc=>by
 simp only [mem_cons,not_mem_nil,or_false] at hc;subst hc
 exact aRg)
def sqI (z:Int):Int:=((isq z.toNat:Nat):Int)
def isI (z:Int):Bool:=decide (sqI z*sqI z=z)
theorem b1U (n:Nat):isq n <= n:=by
 obtain ⟨h,_⟩:=a7o n;rcases Nat.eq_zero_or_pos (isq n) with e | e
 ·omega
 ·exact le_trans (Nat.le_mul_of_pos_left _ e) h
theorem aOw {z:Int} (h:0 <= z):szI (sqI z) <= szI z:=a2W (by
 have:=b1U z.toNat;unfold sqI
 omega)
def aVO:Ctr:=⟨315,spY (gI.c r0) (fun (z,_)=>0 <= z/\szI z <= 2000000) (fun (z,_)=>.t [.g [.I ((sqI z))],.c (.v (.bool ((isI z))))])⟩
theorem aIH (z:Int) (hp:0 <= z/\szI z <= 2000000):owes LTD ET1 [] f315 (bd f315) [.g [.I (z)]] (.t [.g [.I ((sqI z))],.c (.v (.bool ((isI z))))]):=by
 refine Eq.mp (show ((0 <= z/\szI z <= 2000000)/\(((((0:Int) == (0:Int)) == true)=true->(szI ((isq z.toNat:Nat):Int) <= 10000000/\szI ((isq z.toNat:Nat):Int) <= 10000000))/\(((((0:Int) == (0:Int)) == true)=true->(szI (((isq z.toNat:Nat):Int)*((isq z.toNat:Nat):Int)) <= 10000000/\szI z <= 10000000))/\(((((isq z.toNat:Nat):Int)=(sqI z))/\True)/\((Value.bool (bif ((0:Int) == (0:Int)) then (decide ((((isq z.toNat:Nat):Int)*((isq z.toNat:Nat):Int))=z)) else false)=(.bool (isI z)))/\True)))))=_ by kernel_rfl) ?_;obtain ⟨hz,hsz⟩:=hp;have hs:=aOw hz;have hm:=a1P (sqI z) (sqI z);change szI ((isq z.toNat:Nat):Int) <= _ at hs;change szI (((isq z.toNat:Nat):Int)*((isq z.toNat:Nat):Int)) <= szI ((isq z.toNat:Nat):Int)+szI ((isq z.toNat:Nat):Int) at hm;exact ⟨⟨hz,hsz⟩,fun _=>⟨by omega,by omega⟩,fun _=>⟨by omega,by omega⟩,⟨rfl,trivial⟩,rfl,trivial⟩
theorem aRa:CtrOK prog aVO:=yOK a0w aWA Tryz.func315 fun _ hp=>aIH _ hp
def ET2:List Ctr:=ET1 ++ [aVO]
theorem aWz:∀ c ∈ ET2,CtrOK prog c:=a0M aWA (fun c hc=>by
 simp only [mem_cons,not_mem_nil,or_false] at hc;subst hc
 exact aRa)
def isQ (c:Rat):Bool:=isI c.num && isI (c.den:Int)
def sqr (c:Rat):Rat:=Rat.divInt (sqI c.num) (sqI (c.den:Int))
theorem aKa {z:Int} (h:isI z=true):sqI z*sqI z=z:=of_decide_eq_true h
theorem aYT {n:Nat} (h:0 < n):0 < isq n:=by
 obtain ⟨_,h2⟩:=a7o n;rcases Nat.eq_zero_or_pos (isq n) with e | e
 ·rw [e] at h2; omega
 ·exact e
theorem a9G {c:Rat} (_h0:0 <= c) (h:isQ c=true):(sqr c).num=sqI c.num/\((sqr c).den:Int)=sqI (c.den:Int):=by
 unfold isQ at h;simp only [Bool.and_eq_true] at h;have h1:=aKa h.1;have h2:=aKa h.2
 have hd:0 < sqI (c.den:Int):=by
  have:=aYT (n:=(c.den:Int).toNat) (by have:=c.den_pos; omega);unfold sqI;omega
 refine Rt.aXu hd ?_;have hg:Nat.gcd c.num.natAbs c.den=1:=c.reduced
 have e1:c.num.natAbs=(sqI c.num).natAbs*(sqI c.num).natAbs:=by rw [<- Int.natAbs_mul,h1]
 have e2:c.den=(sqI (c.den:Int)).natAbs*(sqI (c.den:Int)).natAbs:=by rw [<- Int.natAbs_mul,h2]; rfl
 rw [e1,e2] at hg
 have g:Nat.gcd (sqI c.num).natAbs (sqI (c.den:Int)).natAbs=1:=by
  generalize (sqI c.num).natAbs=a at *
  generalize (sqI (c.den:Int)).natAbs=b at *
  have:Nat.gcd a b ∣ Nat.gcd (a*a) (b*b):=Nat.dvd_gcd (Nat.dvd_trans (Nat.gcd_dvd_left a b) (Nat.dvd_mul_left a a)) (Nat.dvd_trans (Nat.gcd_dvd_right a b) (Nat.dvd_mul_left b b));rw [hg] at this;exact Nat.dvd_one.1 this
 show ((Int.gcd (sqI c.num) (sqI (c.den:Int)):Nat):Int)=1;unfold Int.gcd;omega
theorem b0P {c:Rat} (h0:0 <= c) (h:isQ c=true):sqr c*sqr c=c:=by
 obtain ⟨e1,e2⟩:=a9G h0 h;unfold isQ at h;simp only [Bool.and_eq_true] at h;rw [<- Rt.aPm,e1,e2,aKa h.1,aKa h.2,Rt.aIA]
theorem aEM {c:Rat} (h0:0 <= c) (h:isQ c=true):szR (sqr c) <= szR c:=by
 obtain ⟨e1,e2⟩:=a9G h0 h;have a:=a2b c;have b:=a2o c;have k1:=aOw (z:=c.num) (Rat.num_nonneg.2 h0);have k2:=aOw (z:=(c.den:Int)) (by omega);show max (szI (sqr c).num) (szI ((sqr c).den:Int)) <= szR c;rw [e1,e2];omega
theorem b4M {c:Rat} (h:isQ c=false):(bif !(isI c.num) then true else !(isI (c.den:Int)))=true:=by
 unfold isQ at h;cases h1:isI c.num <;> cases h2:isI (c.den:Int) <;> simp_all
theorem b4L {c:Rat} (h:isQ c=true):(bif !(isI c.num) then true else !(isI (c.den:Int)))=false:=by
 unfold isQ at h;cases h1:isI c.num <;> cases h2:isI (c.den:Int) <;> simp_all
def aQ7:Ctr:=⟨199,spY (gR.c r0) (fun (c,_)=>(0 <= c/\isQ c=true)/\szR c <= 1000000) (fun (c,_)=>.t [.g [.R ((sqr c))],.c (.v (.bool (true)))])⟩
theorem aF7 (c:Rat) (hp:(0 <= c/\isQ c=true)/\szR c <= 1000000):owes LTD ET2 [] f199 (bd f199) [.g [.R (c)]] (.t [.g [.R ((sqr c))],.c (.v (.bool (true)))]):=by
 refine Eq.mp (show ((0 <= c.num/\szI c.num <= 2000000)/\((0 <= (c.den:Int)/\szI (c.den:Int) <= 2000000)/\(((bif (!(isI c.num)) then true else (!(isI (c.den:Int))))=true->(False/\((Value.bool false=(.bool true))/\True)))/\((bif (!(isI c.num)) then true else (!(isI (c.den:Int))))=false->((((sqI c.num)=(sqr c).num)/\(((sqI (c.den:Int))=((sqr c).den:Int))/\True))/\((Value.bool true=(.bool true))/\True))))))=_ by kernel_rfl) ?_;obtain ⟨⟨h0,hq⟩,hs⟩:=hp;have a:=a2b c;have b:=a2o c;have h1:=Rat.num_nonneg.2 h0;have h2:=c.den_pos;obtain ⟨e1,e2⟩:=a9G h0 hq;have ht:=b4L hq;exact ⟨⟨h1,by omega⟩,⟨by omega,by omega⟩,fun h=>(by rw [ht] at h; cases h),fun _=>⟨⟨e1.symm,e2.symm,trivial⟩,rfl,trivial⟩⟩
theorem aMU:CtrOK prog aQ7:=yOK a0w aWz func199 fun _ hp=>aF7 _ hp
def aQ8:Ctr:=⟨199,spY (gR.c r0) (fun (c,_)=>(0 <= c/\isQ c=false)/\szR c <= 1000000) (fun _=>.t [.g [.v (.bool (false)),.sl (([]:List Nat)),.v (.bool (false)),.sl (([]:List Nat))],.c (.v (.bool (false)))])⟩
theorem aF8 (c:Rat) (hp:(0 <= c/\isQ c=false)/\szR c <= 1000000):owes LTD ET2 [] f199 (bd f199) [.g [.R (c)]] (.t [.g [.v (.bool (false)),.sl (([]:List Nat)),.v (.bool (false)),.sl (([]:List Nat))],.c (.v (.bool (false)))]):=by
 refine Eq.mp (show ((0 <= c.num/\szI c.num <= 2000000)/\((0 <= (c.den:Int)/\szI (c.den:Int) <= 2000000)/\(((bif (!(isI c.num)) then true else (!(isI (c.den:Int))))=true->(((Value.bool false=(.bool false))/\((([]:List Nat)=([]:List Nat))/\((Value.bool false=(.bool false))/\((([]:List Nat)=([]:List Nat))/\True))))/\((Value.bool false=(.bool false))/\True)))/\((bif (!(isI c.num)) then true else (!(isI (c.den:Int))))=false->(False/\((Value.bool true=(.bool false))/\True))))))=_ by kernel_rfl) ?_;obtain ⟨⟨h0,hq⟩,hs⟩:=hp;have a:=a2b c;have b:=a2o c;have h1:=Rat.num_nonneg.2 h0;have h2:=c.den_pos;have ht:=b4M hq;exact ⟨⟨h1,by omega⟩,⟨by omega,by omega⟩,fun _=>⟨⟨rfl,rfl,rfl,rfl,trivial⟩,rfl,trivial⟩,fun h=>(by rw [ht] at h; cases h)⟩
theorem aMV:CtrOK prog aQ8:=yOK a0w aWz func199 fun _ hp=>aF8 _ hp
def aJO:List Ctr:=b3z ++ [aQ7]
theorem aEk:∀ c ∈ aJO,CtrOK prog c:=a0M aEj (fun c hc=>by
 simp only [mem_cons,not_mem_nil,or_false] at hc;subst hc
 exact aMU)
def aJP:List Ctr:=b3z ++ [aQ8]
theorem aEl:∀ c ∈ aJP,CtrOK prog c:=a0M aEj (fun c hc=>by
 simp only [mem_cons,not_mem_nil,or_false] at hc;subst hc
 exact aMV)
def a05 (a:Rat) (b:Rat) (c:Rat):Rx × Int:=((if isQ c=true then a0v (a+b*sqr c) else a0t a b c),0)
theorem aD6 (a:Rat) (b:Rat) (c:Rat) (hp:0 <= c/\isQ c=true/\szR a+szR b+szR c <= 100000):owes LTD aJO [] f400 (bd f400) [.g [.R (a)],.g [.R (b)],.g [.R (c)]] (.t [.g (eR (a05 a b c).1),.c (.v (.int .i64 ((a05 a b c).2)))]):=by
 refine a0m (show ((True/\True)/\(((decide ((Rt.sg c) < (0:Int)))=true->(False/\((Value.int .i64 (7:Int)=(.int .i64 ((a05 a b c).2)))/\True)))/\((decide ((Rt.sg c) < (0:Int)))=false->(((0 <= c/\isQ c=true)/\szR c <= 1000000)/\((true=true->((True/\True/\(szR b <= 1000000/\szR (sqr c) <= 1000000))/\((True/\True/\(szR a <= 1000000/\szR (b*(sqr c)) <= 1000000))/\((True/\True)/\((((a0v (a+(b*(sqr c)))).ra=(a05 a b c).1.ra)/\(((a0v (a+(b*(sqr c)))).rb=(a05 a b c).1.rb)/\(((a0v (a+(b*(sqr c)))).rc=(a05 a b c).1.rc)/\True)))/\((Value.int .i64 (0:Int)=(.int .i64 ((a05 a b c).2)))/\True))))))/\(true=false->((True/\True/\True/\True)/\((((a0t a b c).ra=(a05 a b c).1.ra)/\(((a0t a b c).rb=(a05 a b c).1.rb)/\(((a0t a b c).rc=(a05 a b c).1.rc)/\True)))/\((Value.int .i64 (0:Int)=(.int .i64 ((a05 a b c).2)))/\True)))))))))=_ by kernel_rfl) ?_;obtain ⟨hp0,hp1,hp2⟩:=hp;have hsg:=Rt.aBc.2 hp0;have hsq:=aEM hp0 hp1;have g1:=a0C b (sqr (c))
 repeat' first | trivial | with_reducible apply And.intro | (intro _)
 all_goals first | exact tU7 | (exfalso; rename_i hx; cases hx; done) | (exfalso; rename_i hx; have hx:=of_decide_eq_true hx; omega) | (unfold a05; exact tR_) | (simp_all; done)
theorem aD7 (a:Rat) (b:Rat) (c:Rat) (hp:0 <= c/\isQ c=false/\szR a+szR b+szR c <= 100000):owes LTD aJP [] f400 (bd f400) [.g [.R (a)],.g [.R (b)],.g [.R (c)]] (.t [.g (eR (a05 a b c).1),.c (.v (.int .i64 ((a05 a b c).2)))]):=by
 refine a0m (show ((True/\True)/\(((decide ((Rt.sg c) < (0:Int)))=true->(False/\((Value.int .i64 (7:Int)=(.int .i64 ((a05 a b c).2)))/\True)))/\((decide ((Rt.sg c) < (0:Int)))=false->(((0 <= c/\isQ c=false)/\szR c <= 1000000)/\((false=true->False)/\(false=false->((True/\True/\True/\True)/\((((a0t a b c).ra=(a05 a b c).1.ra)/\(((a0t a b c).rb=(a05 a b c).1.rb)/\(((a0t a b c).rc=(a05 a b c).1.rc)/\True)))/\((Value.int .i64 (0:Int)=(.int .i64 ((a05 a b c).2)))/\True)))))))))=_ by kernel_rfl) ?_;obtain ⟨hp0,hp1,hp2⟩:=hp;have hsg:=Rt.aBc.2 hp0
 repeat' first | trivial | with_reducible apply And.intro | (intro _)
 all_goals first | exact tU7 | (exfalso; rename_i hx; cases hx; done) | (exfalso; rename_i hx; have hx:=of_decide_eq_true hx; omega) | (unfold a05; exact tR_) | (simp_all; done)
def aD8:Ctr:=⟨400,fun | [.g [a_],.g [b_],.g [c_]]=>(match rq a_,rq b_,rq c_ with | some (qa,a),some (qb,b),some (qc,c)=>.yes (qa/\qb/\qc/\0 <= c/\szR a+szR b+szR c <= 100000) (.t [.g (eR (a05 a b c).1),.c (.v (.int .i64 ((a05 a b c).2)))]) | _,_,_=>.no) | _=>.no⟩
theorem aNz:CtrOK prog aD8:=.of (by kernel_rfl) (fun bs w xs vs pre r hr hA hG h hp=>by
 simp only [aD8] at h;split at h
 ·rename_i a_ b_ c_;split at h
  ·rename_i qa a qb b qc c ea eb ec;cases h;obtain ⟨kka,kkb,kkc,hp⟩:=hp;obtain ⟨hp0,hp1⟩:=hp
   cases hq:isQ c with
   | true=>exact a2j mixed a0w aEk func400 (by kernel_rfl) ((a1k (a2O ea kka) (a1k (a2O eb kkb) (a1k (a2O ec kkc) a3k))) vs hr) hA hG rfl rfl (aD6 a b c ⟨hp0,hq,hp1⟩)
   | false=>exact a2j mixed a0w aEl func400 (by kernel_rfl) ((a1k (a2O ea kka) (a1k (a2O eb kkb) (a1k (a2O ec kkc) a3k))) vs hr) hA hG rfl rfl (aD7 a b c ⟨hp0,hq,hp1⟩)
  ·cases h
 ·cases h) (fun xs α pre φ r=>by simp only [aD8]; split <;> (try split) <;> (intro h; cases h))
def a1m (p:Px):Bool:=(if (bif Rt.sg p.b == (0:Int) then Rt.sg p.d == (0:Int) else false)=true then Rt.sg p.e == (0:Int) else (bif decide (Rt.sg p.e > (0:Int)) then !(isQ p.e) else false))
def aBh:=(bif (bif (!true) then true else (!true)) then true else (!true))
def aMC (p:Px):=(bif ((Rt.sg p.b) == (0:Int)) then ((Rt.sg p.d) == (0:Int)) else false)
theorem aBw (p:Px) (hp:0 <= p.e/\isQ p.e=true/\p.sz <= 100000):owes LTD aJO [] f110 (bd f110) [.g (eP p)] (.k (.c (.v (.bool ((a1m p)))))):=by
 refine a0m (show ((szR p.a <= 1000000)/\((((!true) == false)=true->(szR p.c <= 1000000))/\((((bif (!true) then true else (!true)) == false)=true->(szR p.b <= 1000000))/\(((aBh == false)=true->(szR p.d <= 1000000))/\((((bif aBh then true else (!true)) == false)=true->(szR p.e <= 1000000))/\(((bif (bif aBh then true else (!true)) then true else (!true))=true->(Value.bool false=(.bool (a1m p))))/\((bif (bif aBh then true else (!true)) then true else (!true))=false->((True/\True)/\(((((Rt.sg p.b) == (0:Int)) == true)=true->(True/\True))/\(((aMC p)=true->((True/\True)/\(Value.bool ((Rt.sg p.e) == (0:Int))=(.bool (a1m p)))))/\((aMC p)=false->(((0 <= p.e/\isQ p.e=true)/\szR p.e <= 1000000)/\((True/\True)/\(Value.bool (bif (decide ((Rt.sg p.e) > (0:Int))) then (!true) else false)=(.bool (a1m p))))))))))))))))=_ by kernel_rfl) ?_;delta aMC aBh;obtain ⟨hp0,hp1,hp2⟩:=hp;have hsg:=Rt.aBc.2 hp0;have hsq:=aEM hp0 hp1;have g1:=a5h p
 repeat' first | trivial | with_reducible apply And.intro | (intro _)
 all_goals first | exact tU7 | (exfalso; rename_i hx; cases hx; done) | (exfalso; rename_i hx; have hx:=of_decide_eq_true hx; omega) | (unfold a1m; rw [aT1 (by assumption),hp1]; done) | (unfold a1m; exact tR_) | (simp_all; done)
theorem aBx (p:Px) (hp:0 <= p.e/\isQ p.e=false/\p.sz <= 100000):owes LTD aJP [] f110 (bd f110) [.g (eP p)] (.k (.c (.v (.bool ((a1m p)))))):=by
 refine a0m (show ((szR p.a <= 1000000)/\((((!true) == false)=true->(szR p.c <= 1000000))/\((((bif (!true) then true else (!true)) == false)=true->(szR p.b <= 1000000))/\(((aBh == false)=true->(szR p.d <= 1000000))/\((((bif aBh then true else (!true)) == false)=true->(szR p.e <= 1000000))/\(((bif (bif aBh then true else (!true)) then true else (!true))=true->(Value.bool false=(.bool (a1m p))))/\((bif (bif aBh then true else (!true)) then true else (!true))=false->((True/\True)/\(((((Rt.sg p.b) == (0:Int)) == true)=true->(True/\True))/\(((aMC p)=true->((True/\True)/\(Value.bool ((Rt.sg p.e) == (0:Int))=(.bool (a1m p)))))/\((aMC p)=false->(((0 <= p.e/\isQ p.e=false)/\szR p.e <= 1000000)/\((True/\True)/\(Value.bool (bif (decide ((Rt.sg p.e) > (0:Int))) then (!false) else false)=(.bool (a1m p))))))))))))))))=_ by kernel_rfl) ?_;delta aMC aBh;obtain ⟨hp0,hp1,hp2⟩:=hp;have hsg:=Rt.aBc.2 hp0;have g1:=a5h p
 repeat' first | trivial | with_reducible apply And.intro | (intro _)
 all_goals first | exact tU7 | (exfalso; rename_i hx; cases hx; done) | (exfalso; rename_i hx; have hx:=of_decide_eq_true hx; omega) | (unfold a1m; rw [aT1 (by assumption),hp1]; done) | (unfold a1m; exact tR_) | (simp_all; done)
def a9u:Ctr:=⟨110,fun | [.g p_]=>(match rdP p_ with | some (qp,p)=>.yes (qp/\0 <= p.e/\p.sz <= 100000) (.k (.c (.v (.bool ((a1m p)))))) | _=>.no) | _=>.no⟩
theorem aJh:CtrOK prog a9u:=.of (by kernel_rfl) (fun bs w xs vs pre r hr hA hG h hp=>by
 simp only [a9u] at h;split at h
 ·rename_i p_;split at h
  ·rename_i qp p ep;cases h;obtain ⟨kkp,hp⟩:=hp;obtain ⟨hp0,hp1⟩:=hp
   cases hq:isQ p.e with
   | true=>exact a2j mixed a0w aEk func110 (by kernel_rfl) ((a1k (aBU ep kkp) a3k) vs hr) hA hG rfl rfl (aBw p ⟨hp0,hq,hp1⟩)
   | false=>exact a2j mixed a0w aEl func110 (by kernel_rfl) ((a1k (aBU ep kkp) a3k) vs hr) hA hG rfl rfl (aBx p ⟨hp0,hq,hp1⟩)
  ·cases h
 ·cases h) (fun xs α pre φ r=>by simp only [a9u]; split <;> (try split) <;> (intro h; cases h))
def a0p (a:Rat) (b:Rat) (c:Rat) (d:Rat) (e:Rat):Px:=(if isQ e=true then a1Q (Vx.mk (a1x a (a0h b (sqr e))) (a1x c (a0h d (sqr e)))) else (Px.mk a b c d e))
def aMB (a:Rat) (b:Rat) (e:Rat) (c:Rat) (d:Rat):=(a1Q (Vx.mk (a1x a (a0h b (sqr e))) (a1x c (a0h d (sqr e)))))
theorem a8Z (a:Rat) (b:Rat) (c:Rat) (d:Rat) (e:Rat) (hp:0 <= e/\isQ e=true/\szR a+szR b+szR c+szR d+szR e <= 100000):owes LTD aJO [] f311 (bd f311) [.g [.R (a)],.g [.R (b)],.g [.R (c)],.g [.R (d)],.g [.R (e)]] (.k (.g (eP (a0p a b c d e)))):=by
 refine a0m (show (((0 <= e/\isQ e=true)/\szR e <= 1000000)/\((true=true->((True/\True/\szR b+szR (sqr e) <= 500000)/\((True/\True/\szR a+szR (a0h b (sqr e)) <= 500000)/\((True/\True/\szR d+szR (sqr e) <= 500000)/\((True/\True/\szR c+szR (a0h d (sqr e)) <= 500000)/\(((True/\True)/\True)/\(((aMB a b e c d).a=(a0p a b c d e).a)/\(((aMB a b e c d).b=(a0p a b c d e).b)/\(((aMB a b e c d).c=(a0p a b c d e).c)/\(((aMB a b e c d).d=(a0p a b c d e).d)/\(((aMB a b e c d).e=(a0p a b c d e).e)/\True)))))))))))/\(true=false->((a=(a0p a b c d e).a)/\((b=(a0p a b c d e).b)/\((c=(a0p a b c d e).c)/\((d=(a0p a b c d e).d)/\((e=(a0p a b c d e).e)/\True))))))))=_ by kernel_rfl) ?_;delta aMB;obtain ⟨hp0,hp1,hp2⟩:=hp;have hsg:=Rt.aBc.2 hp0;have hsq:=aEM hp0 hp1;have g1:=@a3f b (sqr (e));have g2:=@a3f d (sqr (e))
 repeat' first | trivial | with_reducible apply And.intro | (intro _)
 all_goals first | exact tU7 | (exfalso; rename_i hx; cases hx; done) | (exfalso; rename_i hx; have hx:=of_decide_eq_true hx; omega) | (unfold a0p; exact tR_) | (simp_all; done)
theorem a81 (a:Rat) (b:Rat) (c:Rat) (d:Rat) (e:Rat) (hp:0 <= e/\isQ e=false/\szR a+szR b+szR c+szR d+szR e <= 100000):owes LTD aJP [] f311 (bd f311) [.g [.R (a)],.g [.R (b)],.g [.R (c)],.g [.R (d)],.g [.R (e)]] (.k (.g (eP (a0p a b c d e)))):=by
 refine a0m (show (((0 <= e/\isQ e=false)/\szR e <= 1000000)/\((false=true->False)/\(false=false->((a=(a0p a b c d e).a)/\((b=(a0p a b c d e).b)/\((c=(a0p a b c d e).c)/\((d=(a0p a b c d e).d)/\((e=(a0p a b c d e).e)/\True))))))))=_ by kernel_rfl) ?_;obtain ⟨hp0,hp1,hp2⟩:=hp;have hsg:=Rt.aBc.2 hp0
 repeat' first | trivial | with_reducible apply And.intro | (intro _)
 all_goals first | exact tU7 | (exfalso; rename_i hx; cases hx; done) | (exfalso; rename_i hx; have hx:=of_decide_eq_true hx; omega) | (unfold a0p; exact tR_) | (simp_all; done)
def a6d:Ctr:=⟨311,fun | [.g [a_],.g [b_],.g [c_],.g [d_],.g [e_]]=>(match rq a_,rq b_,rq c_,rq d_,rq e_ with | some (qa,a),some (qb,b),some (qc,c),some (qd,d),some (qe,e)=>.yes (qa/\qb/\qc/\qd/\qe/\0 <= e/\szR a+szR b+szR c+szR d+szR e <= 100000) (.k (.g (eP (a0p a b c d e)))) | _,_,_,_,_=>.no) | _=>.no⟩
theorem aDS:CtrOK prog a6d:=.of (by kernel_rfl) (fun bs w xs vs pre r hr hA hG h hp=>by
 simp only [a6d] at h;split at h
 ·rename_i a_ b_ c_ d_ e_;split at h
  ·rename_i qa a qb b qc c qd d qe e ea eb ec ed ee;cases h;obtain ⟨kka,kkb,kkc,kkd,kke,hp⟩:=hp;obtain ⟨hp0,hp1⟩:=hp
   cases hq:isQ e with
   | true=>exact a2j mixed a0w aEk func311 (by kernel_rfl) ((a1k (a2O ea kka) (a1k (a2O eb kkb) (a1k (a2O ec kkc) (a1k (a2O ed kkd) (a1k (a2O ee kke) a3k))))) vs hr) hA hG rfl rfl (a8Z a b c d e ⟨hp0,hq,hp1⟩)
   | false=>exact a2j mixed a0w aEl func311 (by kernel_rfl) ((a1k (a2O ea kka) (a1k (a2O eb kkb) (a1k (a2O ec kkc) (a1k (a2O ed kkd) (a1k (a2O ee kke) a3k))))) vs hr) hA hG rfl rfl (a81 a b c d e ⟨hp0,hq,hp1⟩)
  ·cases h
 ·cases h) (fun xs α pre φ r=>by simp only [a6d]; split <;> (try split) <;> (intro h; cases h))
def aWF:List Ctr:=b3z ++ [aD8,a9u,a6d]
theorem aEi:∀ c ∈ aWF,CtrOK prog c:=a0M aEj (a0Y aNz (a0Y aJh (a0Y aDS (a3e))))
theorem aS5 (a b c:Rat) (h:0 <= c):(a05 a b c).1.sz <= szR a+szR b+szR c+10:=by
 unfold a05;dsimp only;split
 ·rename_i hq;have h1:=aEM h hq;have h2:=a0C b (sqr c);have h3:=a1C a (b*sqr c);have h4:=a5R (a+b*sqr c);omega
 ·have:=a7M a b c;omega
def a1U (l:Lx) (p:Px):Rx:=(a05 (a1n (a2h (a0z l.la p.a) (a0z l.lb p.c)) l.lc) (a2h (a0z l.la p.b) (a0z l.lb p.d)) p.e).1
def aTU (l:Lx) (p:Px):=(a05 (a1n (a2h (a0z l.la p.a) (a0z l.lb p.c)) l.lc) (a2h (a0z l.la p.b) (a0z l.lb p.d)) p.e)
theorem aDX (l:Lx) (p:Px) (hp:0 <= p.e/\l.sz+p.sz <= 20000):owes LTD aWF [] f318 (bd f318) [.g (eL l),.g (eP p)] (.k (.g (eR (a1U l p)))):=by
 refine a0m (show ((True/\True/\szR l.la+szR p.a <= 500000)/\((True/\True/\szR l.lb+szR p.c <= 500000)/\((True/\True/\szR (a0z l.la p.a)+szR (a0z l.lb p.c) <= 500000)/\((True/\True/\szR (a2h (a0z l.la p.a) (a0z l.lb p.c))+szR l.lc <= 500000)/\((True/\True/\szR l.la+szR p.b <= 500000)/\((True/\True/\szR l.lb+szR p.d <= 500000)/\((True/\True/\szR (a0z l.la p.b)+szR (a0z l.lb p.d) <= 500000)/\((True/\True/\True/\0 <= p.e/\szR (a1n (a2h (a0z l.la p.a) (a0z l.lb p.c)) l.lc)+szR (a2h (a0z l.la p.b) (a0z l.lb p.d))+szR p.e <= 100000)/\(((aTU l p).1.ra=(a1U l p).ra)/\(((aTU l p).1.rb=(a1U l p).rb)/\(((aTU l p).1.rc=(a1U l p).rc)/\True)))))))))))=_ by kernel_rfl) ?_;delta aTU;obtain ⟨hp0,hp1⟩:=hp;have g1:=aHL l;have g2:=a5h p;have g3:=@a4b l.la p.a;have g4:=@a4b l.lb p.c;have g5:=@aJ1 (a0z l.la p.a) (a0z l.lb p.c);have g6:=@a4b l.la p.b;have g7:=@a4b l.lb p.d;have g8:=@aUY (a2h (a0z l.la p.a) (a0z l.lb p.c)) l.lc;have g9:=@aJ1 (a0z l.la p.b) (a0z l.lb p.d)
 repeat' first | trivial | with_reducible apply And.intro | (intro _)
 all_goals first | exact tU7 | (exfalso; rename_i hx; simp [hp0] at hx; done) | (unfold a1U; exact tR_) | (simp_all; done)
def aLO:Ctr:=⟨318,spY (rL.c (rP.c r0)) (fun (l,p,_)=>0 <= p.e/\l.sz+p.sz <= 20000) (fun (l,p,_)=>.k (.g (eR (a1U l p))))⟩
theorem aJe:CtrOK prog aLO:=yOK a0w aEi Tryz.func318 fun x hp=>aDX x.1 x.2.1 hp
theorem aS3 (l:Lx) (p:Px) (h:0 <= p.e):(a1U l p).sz <= 4*(l.sz+p.sz)+20:=by
 have h1:=a4b l.la p.a;have h2:=a4b l.lb p.c;have h3:=aJ1 (a0z l.la p.a) (a0z l.lb p.c);have h4:=aUY (a2h (a0z l.la p.a) (a0z l.lb p.c)) l.lc;have h5:=a4b l.la p.b;have h6:=a4b l.lb p.d;have h7:=aJ1 (a0z l.la p.b) (a0z l.lb p.d);have h8:=aS5 (a1n (a2h (a0z l.la p.a) (a0z l.lb p.c)) l.lc) (a2h (a0z l.la p.b) (a0z l.lb p.d)) p.e h;have h9:=aHL l;have h10:=a5h p;unfold a1U;omega
def a1V (k:Kx) (p:Px):Rx:=a0n (a1e p (Vx.mk k.kx k.ky)) (-(k.kq))
theorem aD0 (k:Kx) (p:Px) (hp:k.sz+p.sz <= 3000):owes LTD aWF [] f317 (bd f317) [.g (eK k),.g (eP p)] (.k (.g (eR (a1V k p)))):=by
 refine a0m (show (((True/\(True/\(True/\(True/\True))))/\(True/\True)/\p.sz+(Vx.mk k.kx k.ky).sz <= 3000)/\((True/\(szR k.kq <= 5000000))/\(((True/\(True/\True))/\True/\(a1e p (Vx.mk k.kx k.ky)).sz+szR (-k.kq) <= 200000)/\(((a0n (a1e p (Vx.mk k.kx k.ky)) (-k.kq)).ra=(a1V k p).ra)/\(((a0n (a1e p (Vx.mk k.kx k.ky)) (-k.kq)).rb=(a1V k p).rb)/\(((a0n (a1e p (Vx.mk k.kx k.ky)) (-k.kq)).rc=(a1V k p).rc)/\True))))))=_ by kernel_rfl) ?_;have g1:=a5h p;have g2:=aHJ k.kx k.ky;have g3:=aBN k;have g4:=a1Y k.kq;have g5:=@aEC p (Vx.mk k.kx k.ky);have g6:=a2D (a1e p (Vx.mk k.kx k.ky))
 repeat' first | trivial | with_reducible apply And.intro | (intro _)
 all_goals first | exact tU7 | (unfold a1V; exact tR_) | (simp_all; done)
def aLP:Ctr:=⟨317,spY (rKx.c (rP.c r0)) (fun (k,p,_)=>k.sz+p.sz <= 3000) (fun (k,p,_)=>.k (.g (eR (a1V k p))))⟩
theorem aJf:CtrOK prog aLP:=yOK a0w aEi Tryz.func317 fun x hp=>aD0 x.1 x.2.1 hp
theorem aS4 (k:Kx) (p:Px):(a1V k p).sz <= 40*(k.sz+p.sz)+900:=by
 have g1:=@aED (a1e p (Vx.mk k.kx k.ky)) (-(k.kq));have g2:=a2D (a0n (a1e p (Vx.mk k.kx k.ky)) (-(k.kq)));have g3:=@aEC p (Vx.mk k.kx k.ky);have g4:=a2D (a1e p (Vx.mk k.kx k.ky));have g5:=a5h p;have g6:=aHJ k.kx k.ky;have g7:=aBN k;have g8:=a1Y k.kq;unfold a1V
 repeat' split
 all_goals first | omega | (dsimp only; omega)
def a0e (k:Kx):Px × Px:=((a0p k.kx (a1Z ((((1:Int)):Rat))) k.ky ((((0:Int)):Rat)) k.kq),(a0p k.kx ((((1:Int)):Rat)) k.ky ((((0:Int)):Rat)) k.kq))
def aMA (k:Kx):=(a0p k.kx (a1Z ((1:Int):Rat)) k.ky ((0:Int):Rat) k.kq)
def aMz (k:Kx):=(a0p k.kx ((1:Int):Rat) k.ky ((0:Int):Rat) k.kq)
theorem a9a (k:Kx) (hp:0 <= k.kq/\k.sz <= 20000):owes LTD aWF [] f197 (bd f197) [.g (eK k)] (.t [.g (eP (a0e k).1),.g (eP (a0e k).2)]):=by
 refine a0m (show ((-9223372036854775808 <= (1:Int)/\(1:Int) <= 9223372036854775807)/\((-9223372036854775808 <= (0:Int)/\(0:Int) <= 9223372036854775807)/\((True/\szR ((1:Int):Rat) <= 500000)/\((True/\True/\True/\True/\True/\0 <= k.kq/\szR k.kx+szR (a1Z ((1:Int):Rat))+szR k.ky+szR ((0:Int):Rat)+szR k.kq <= 100000)/\((True/\True/\True/\True/\True/\0 <= k.kq/\szR k.kx+szR ((1:Int):Rat)+szR k.ky+szR ((0:Int):Rat)+szR k.kq <= 100000)/\((((aMA k).a=(a0e k).1.a)/\(((aMA k).b=(a0e k).1.b)/\(((aMA k).c=(a0e k).1.c)/\(((aMA k).d=(a0e k).1.d)/\(((aMA k).e=(a0e k).1.e)/\True)))))/\((((aMz k).a=(a0e k).2.a)/\(((aMz k).b=(a0e k).2.b)/\(((aMz k).c=(a0e k).2.c)/\(((aMz k).d=(a0e k).2.d)/\(((aMz k).e=(a0e k).2.e)/\True)))))/\True)))))))=_ by kernel_rfl) ?_;delta aMz aMA;obtain ⟨hp0,hp1⟩:=hp
 have g1:=(a2V (n:=1) (by decide))
 have g2:=aBN k;have g3:=@b0C ((((1:Int)):Rat))
 have g4:=(a2V (n:=0) (by decide))
 repeat' first | trivial | with_reducible apply And.intro | (intro _)
 all_goals first | exact tU7 | (exfalso; rename_i hx; simp [hp0] at hx; done) | (unfold a0e; exact tR_) | (simp_all; done)
def aAF:Ctr:=⟨197,spY (rKx.c r0) (fun (k,_)=>0 <= k.kq/\k.sz <= 20000) (fun (k,_)=>.t [.g (eP (a0e k).1),.g (eP (a0e k).2)])⟩
theorem aBt:CtrOK prog aAF:=yOK a0w aEi Tryz.func197 fun x hp=>a9a x.1 hp
def b0t:List Ctr:=aWF ++ [aLO,aLP,aAF]
theorem aJN:∀ c ∈ b0t,CtrOK prog c:=a0M aEi (a0Y aJe (a0Y aJf (a0Y aBt (a3e))))
def a2c (l:Lx) (p:Px):Int:=a04 (a1U l p)
theorem aGC (l:Lx) (p:Px) (hp:0 <= p.e/\l.sz+p.sz <= 20000):owes LTD b0t [] f201 (bd f201) [.g (eL l),.g (eP p)] (.k (.c (.v (.int .i64 ((a2c l p)))))):=by
 refine a0m (show (((True/\(True/\True))/\(True/\(True/\(True/\(True/\True))))/\0 <= p.e/\l.sz+p.sz <= 20000)/\(((True/\(True/\True))/\(a1U l p).sz <= 150000)/\(Value.int .i64 (a04 (a1U l p))=(.int .i64 (a2c l p)))))=_ by kernel_rfl) ?_;obtain ⟨hp0,hp1⟩:=hp;have g1:=aHL l;have g2:=a5h p;have g3:=@aS3 l p (by assumption);have g4:=a2D (a1U l p)
 repeat' first | trivial | with_reducible apply And.intro | (intro _)
 all_goals first | exact tU7 | (exfalso; rename_i hx; simp [hp0] at hx; done) | (unfold a2c; exact tR_) | (simp_all; done)
def aRK:Ctr:=⟨201,spY (rL.c (rP.c r0)) (fun (l,p,_)=>0 <= p.e/\l.sz+p.sz <= 20000) (fun (l,p,_)=>.k (.c (.v (.int .i64 ((a2c l p))))))⟩
theorem aNr:CtrOK prog aRK:=yOK a0w aJN Tryz.func201 fun x hp=>aGC x.1 x.2.1 hp
theorem a9D (l:Lx) (p:Px):un (a2c l p):=by
 unfold a2c
 repeat' split
 all_goals (repeat' first | exact a6S | exact a6R | exact a6Q | exact a2Q _ | exact a1X .. | exact a1z .. | exact a0X .. | exact a1S .. | exact a1d .. | exact a3q .. | exact a1o .. | exact a3i .. | exact a2U .. | exact a4R .. | exact a4S .. | apply a1M | apply a1O)
def a2t (k:Kx) (p:Px):Int:=((0:Int)) - ((a04 (a1V k p)))
theorem aBv (k:Kx) (p:Px) (hp:k.sz+p.sz <= 3000):owes LTD b0t [] f200 (bd f200) [.g (eK k),.g (eP p)] (.k (.c (.v (.int .i64 ((a2t k p)))))):=by
 refine a0m (show (((True/\(True/\True))/\(True/\(True/\(True/\(True/\True))))/\k.sz+p.sz <= 3000)/\(((True/\(True/\True))/\(a1V k p).sz <= 150000)/\((inR .i64 ((0:Int) - (a04 (a1V k p))))/\(Value.int .i64 ((0:Int) - (a04 (a1V k p)))=(.int .i64 (a2t k p))))))=_ by kernel_rfl) ?_;have g1:=aBN k;have g2:=a5h p;have g3:=@aS4 k p;have g4:=a2D (a1V k p)
 repeat' first | trivial | with_reducible apply And.intro | (intro _)
 all_goals first | rfl | omega | assumption | (with_reducible apply a3E; (repeat' first | exact a6S | exact a6R | exact a6Q | exact a2Q _ | exact a1X .. | exact a1z .. | exact a0X .. | exact a1S .. | exact a1d .. | exact a3q .. | exact a1o .. | exact a3i .. | exact a2U .. | exact a4R .. | exact a4S .. | exact a9D .. | apply a1M | apply a1O); done) | (unfold a2t; exact tR_) | (simp_all; done)
def aGE:Ctr:=⟨200,spY (rKx.c (rP.c r0)) (fun (k,p,_)=>k.sz+p.sz <= 3000) (fun (k,p,_)=>.k (.c (.v (.int .i64 ((a2t k p))))))⟩
theorem aGD:CtrOK prog aGE:=yOK a0w aJN Tryz.func200 fun x hp=>aBv x.1 x.2.1 hp
theorem a9E (k:Kx) (p:Px):un (a2t k p):=by
 unfold a2t
 repeat' split
 all_goals (repeat' first | exact a6S | exact a6R | exact a6Q | exact a2Q _ | exact a1X .. | exact a1z .. | exact a0X .. | exact a1S .. | exact a1d .. | exact a3q .. | exact a1o .. | exact a3i .. | exact a2U .. | exact a4R .. | exact a4S .. | exact a9D .. | apply a1M | apply a1O)
def b4j:List Ctr:=b0t ++ [aRK,aGE]
theorem aSB:∀ c ∈ b4j,CtrOK prog c:=a0M aJN (a0Y aNr (a0Y aGD (a3e)))
def a0T (u:Ux) (p:Px):Bool:=(if u.arc=true then ((a2t u.k p)) == ((0:Int)) else ((a2c u.l p)) == ((0:Int)))
theorem tU8 {p:Prop} (h:p:=by first | rfl | omega | assumption | (with_reducible apply a3E; (repeat' first | exact a6S | exact a6R | exact a6Q | exact a2Q _ | exact a1X .. | exact a1z .. | exact a0X .. | exact a1S .. | exact a1d .. | exact a3q .. | exact a1o .. | exact a3i .. | exact a2U .. | exact a4R .. | exact a4S .. | exact a9D .. | exact a9E .. | apply a1M | apply a1O); done)):p:=h
theorem aAB (u:Ux) (p:Px) (hp:0 <= p.e/\u.sz+p.sz <= 3000):owes LTD b4j [] f113 (bd f113) [.g (eU u),.g (eP p)] (.k (.c (.v (.bool ((a0T u p)))))):=by
 refine a0m (show ((u.arc=true->((((u.arc=true)/\((u.arc=true)/\(u.arc=true)))/\(True/\(True/\(True/\(True/\True))))/\u.k.sz+p.sz <= 3000)/\(Value.bool ((a2t u.k p) == (0:Int))=(.bool (a0T u p)))))/\(u.arc=false->(((((!u.arc)=true)/\(((!u.arc)=true)/\((!u.arc)=true)))/\(True/\(True/\(True/\(True/\True))))/\0 <= p.e/\u.l.sz+p.sz <= 20000)/\(Value.bool ((a2c u.l p) == (0:Int))=(.bool (a0T u p))))))=_ by kernel_rfl) ?_;obtain ⟨hp0,hp1⟩:=hp;have g1:=aCF u;have g2:=a5h p
 repeat' first | trivial | with_reducible apply And.intro | (intro _)
 all_goals first | exact tU8 | (exfalso; rename_i hx; simp [hp0] at hx; done) | (unfold a0T; exact tR_) | (simp_all; done)
def aCi:Ctr:=⟨113,spY (rU.c (rP.c r0)) (fun (u,p,_)=>0 <= p.e/\u.sz+p.sz <= 3000) (fun (u,p,_)=>.k (.c (.v (.bool ((a0T u p))))))⟩
theorem aDH:CtrOK prog aCi:=yOK a0w aSB Tryz.func113 fun x hp=>aAB x.1 x.2.1 hp
def b4i:List Ctr:=b4j ++ [aCi]
theorem aSA:∀ c ∈ b4i,CtrOK prog c:=a0M aSB (a0Y aDH (a3e))
def a0k (u:Ux):Ux:=Ux.mk u.arc u.l (Kx.mk (-(u.k.kx)) u.k.ky u.k.kq) (!(u.cw)) (a0r u.f) (a0r u.t)
theorem aBq (u:Ux) (hp:u.arc=true/\u.sz <= 10000):owes LTD b4i [] f326 (bd f326) [.g (eU u)] (.k (.g (eU (a0k u)))):=by
 refine a0m (show (((u.arc=true)/\(szR u.k.kx <= 5000000))/\(((True/\(True/\(True/\(True/\True))))/\u.f.sz <= 10000)/\(((True/\(True/\(True/\(True/\True))))/\u.t.sz <= 10000)/\((Value.bool u.arc=(.bool ((a0k u).arc)))/\(((!u.arc)=(!(a0k u).arc))/\((u.l.la=(a0k u).l.la)/\(((!u.arc)=(!(a0k u).arc))/\((u.l.lb=(a0k u).l.lb)/\(((!u.arc)=(!(a0k u).arc))/\((u.l.lc=(a0k u).l.lc)/\((((a0k u).arc)=true)/\(((-u.k.kx)=(a0k u).k.kx)/\((u.arc=((a0k u).arc))/\((u.k.ky=(a0k u).k.ky)/\((u.arc=((a0k u).arc))/\((u.k.kq=(a0k u).k.kq)/\((Value.bool (!u.cw)=(.bool ((a0k u).cw)))/\(((a0r u.f).a=(a0k u).f.a)/\(((a0r u.f).b=(a0k u).f.b)/\(((a0r u.f).c=(a0k u).f.c)/\(((a0r u.f).d=(a0k u).f.d)/\(((a0r u.f).e=(a0k u).f.e)/\(((a0r u.t).a=(a0k u).t.a)/\(((a0r u.t).b=(a0k u).t.b)/\(((a0r u.t).c=(a0k u).t.c)/\(((a0r u.t).d=(a0k u).t.d)/\(((a0r u.t).e=(a0k u).t.e)/\True)))))))))))))))))))))))))))=_ by kernel_rfl) ?_;obtain ⟨hp0,hp1⟩:=hp;have g1:=aCF u;have g2:=aBN u.k
 repeat' first | trivial | with_reducible apply And.intro | (intro _)
 all_goals first | exact tU8 | (exfalso; rename_i hx; simp [hp0] at hx; done) | (unfold a0k; exact tR_) | (simp_all; done)
def aGr:Ctr:=⟨326,spY (rU.c r0) (fun (u,_)=>u.arc=true/\u.sz <= 10000) (fun (u,_)=>.k (.g (eU (a0k u))))⟩
theorem aGq:CtrOK prog aGr:=yOK a0w aSA Tryz.func326 fun x hp=>aBq x.1 hp
theorem aOb (u:Ux):(a0k u).sz <= (u.sz):=by
 have g1:=aXb u.arc u.l (Kx.mk (-(u.k.kx)) u.k.ky u.k.kq) (!(u.cw)) (a0r u.f) (a0r u.t);have g2:=aCF u;have g3:=aXc (-(u.k.kx)) u.k.ky u.k.kq;have g4:=a1Y u.k.kx;have g5:=aBN u.k;have g6:=@aCy u.f;have g7:=a5h (a0r u.f);have g8:=@aCy u.t;have g9:=a5h (a0r u.t);unfold a0k
 repeat' split
 all_goals first | omega | (dsimp only; omega)
def b4h:List Ctr:=b4i ++ [aGr]
theorem aSz:∀ c ∈ b4h,CtrOK prog c:=a0M aSA (a0Y aGq (a3e))
def a0P (u:Ux) (p:Px) (q:Px):Int:=(if (!(u.arc))=true then (if (decide (((a0g u.f u.t)) > ((0:Int))))=true then ((0:Int)) - ((a0g p q)) else a0g p q) else (if (!(u.cw))=true then a0L u.k u.f p q else a0L ((a0k u).k) ((a0k u).f) (a0r p) (a0r q)))
theorem aDI (u:Ux) (p:Px) (q:Px) (hp:u.sz+p.sz+q.sz <= 9900):owes LTD b4h [] f211 (bd f211) [.g (eU u),.g (eP p),.g (eP q)] (.k (.c (.v (.int .i64 ((a0P u p q)))))):=by
 refine a0m (show (((!u.arc)=true->((a0o/\a0o/\p.sz+q.sz <= 14500)/\((a0o/\a0o/\u.f.sz+u.t.sz <= 14500)/\(((decide ((a0g u.f u.t) > (0:Int)))=true->((inR .i64 ((0:Int) - (a0g p q)))/\(Value.int .i64 ((0:Int) - (a0g p q))=(.int .i64 (a0P u p q)))))/\((decide ((a0g u.f u.t) > (0:Int)))=false->(Value.int .i64 (a0g p q)=(.int .i64 (a0P u p q))))))))/\((!u.arc)=false->(((!u.cw)=true->((((u.arc=true)/\((u.arc=true)/\(u.arc=true)))/\a0o/\a0o/\a0o/\u.k.sz+u.f.sz+p.sz+q.sz <= 13800)/\(Value.int .i64 (a0L u.k u.f p q)=(.int .i64 (a0P u p q)))))/\((!u.cw)=false->((((((!u.arc)=(!u.arc))/\(((!u.arc)=(!u.arc))/\((!u.arc)=(!u.arc))))/\(((u.arc=u.arc)/\((u.arc=u.arc)/\(u.arc=u.arc)))/\(a0o/\a0o)))/\u.arc=true/\u.sz <= 10000)/\((a0o/\p.sz <= 10000)/\((a0o/\q.sz <= 10000)/\((((((a0k u).arc)=true)/\((((a0k u).arc)=true)/\(((a0k u).arc)=true)))/\a0o/\a0o/\a0o/\((a0k u).k).sz+((a0k u).f).sz+(a0r p).sz+(a0r q).sz <= 13800)/\(Value.int .i64 (a0L ((a0k u).k) ((a0k u).f) (a0r p) (a0r q))=(.int .i64 (a0P u p q)))))))))))=_ by kernel_rfl) ?_;delta a0o;have g1:=a5h p;have g2:=a5h q;have g3:=aCF u;have g4:=@aOb u;have g5:=aCF (a0k u);have g6:=@aCy p;have g7:=a5h (a0r p);have g8:=@aCy q;have g9:=a5h (a0r q)
 repeat' first | trivial | with_reducible apply And.intro | (intro _)
 all_goals first | exact tU8 | (show u.arc=true; (have hq:(!u.arc)=false:=by assumption); revert hq; generalize u.arc=b; cases b <;> decide) | (unfold a0P; exact tR_) | (simp_all; done)
def aLE:Ctr:=⟨211,spY (rU.c (rP.c (rP.c r0))) (fun (u,p,q,_)=>u.sz+p.sz+q.sz <= 9900) (fun (u,p,q,_)=>.k (.c (.v (.int .i64 ((a0P u p q))))))⟩
theorem aIX:CtrOK prog aLE:=yOK a0w aSz Tryz.func211 fun x hp=>aDI x.1 x.2.1 x.2.2.1 hp
theorem aTb (u:Ux) (p:Px) (q:Px):un (a0P u p q):=by
 unfold a0P
 repeat' split
 all_goals (repeat' first | exact a6S | exact a6R | exact a6Q | exact a2Q _ | exact a1X .. | exact a1z .. | exact a0X .. | exact a1S .. | exact a1d .. | exact a3q .. | exact a1o .. | exact a3i .. | exact a2U .. | exact a4R .. | exact a4S .. | exact a9D .. | exact a9E .. | apply a1M | apply a1O)
def b0s:List Ctr:=b4h ++ [aLE]
theorem aJM:∀ c ∈ b0s,CtrOK prog c:=a0M aSz (a0Y aIX (a3e))
def a02 (u:Ux) (p:Px):Bool:=bif (bif ((a0T u p)) then (decide (((a0P u u.f p)) <= ((0:Int)))) else (false)) then (decide (((a0P u p u.t)) <= ((0:Int)))) else (false)
theorem tU9 {p:Prop} (h:p:=by first | rfl | omega | assumption | (with_reducible apply a3E; (repeat' first | exact a6S | exact a6R | exact a6Q | exact a2Q _ | exact a1X .. | exact a1z .. | exact a0X .. | exact a1S .. | exact a1d .. | exact a3q .. | exact a1o .. | exact a3i .. | exact a2U .. | exact a4R .. | exact a4S .. | exact a9D .. | exact a9E .. | exact aTb .. | apply a1M | apply a1O); done)):p:=h
theorem aNj (u:Ux) (p:Px) (hp:0 <= p.e/\u.sz+p.sz <= 3000):owes LTD b0s [] f209 (bd f209) [.g (eU u),.g (eP p)] (.k (.c (.v (.bool ((a02 u p)))))):=by
 refine a0m (show (((a2q u)/\a0o/\0 <= p.e/\u.sz+p.sz <= 3000)/\((((a0T u p) == true)=true->((a2q u)/\a0o/\a0o/\u.sz+u.f.sz+p.sz <= 9900))/\((((bif (a0T u p) then (decide ((a0P u u.f p) <= (0:Int))) else false) == true)=true->((a2q u)/\a0o/\a0o/\u.sz+p.sz+u.t.sz <= 9900))/\(Value.bool (bif (bif (a0T u p) then (decide ((a0P u u.f p) <= (0:Int))) else false) then (decide ((a0P u p u.t) <= (0:Int))) else false)=(.bool (a02 u p))))))=_ by kernel_rfl) ?_;delta a2q a0o;obtain ⟨hp0,hp1⟩:=hp;have g1:=aCF u;have g2:=a5h p
 repeat' first | trivial | with_reducible apply And.intro | (intro _)
 all_goals first | exact tU9 | (unfold a02; exact tR_) | (simp_all; done)
def b2D:Ctr:=⟨209,spY (rU.c (rP.c r0)) (fun (u,p,_)=>0 <= p.e/\u.sz+p.sz <= 3000) (fun (u,p,_)=>.k (.c (.v (.bool ((a02 u p))))))⟩
theorem aUt:CtrOK prog b2D:=yOK a0w aJM Tryz.func209 fun x hp=>aNj x.1 x.2.1 hp
def a3F (u:Ux):Bool:=(if (bif (!((a1m u.f))) then (true) else (!((a1m u.t))))=true then false else (if (bif (bif (u.arc) then (!((a1H u.k))) else (false)) then (true) else (bif (!(u.arc)) then (bif (u.cw) then (true) else (!((a2s u.l)))) else (false)))=true then false else bif (bif ((a0T u u.f)) then ((a0T u u.t)) else (false)) then (!((a0x u.f u.t))) else (false)))
def aYJ (p_:Ux):=(bif (bif p_.arc then (!(a1H p_.k)) else false) then true else (bif (!p_.arc) then (bif p_.cw then true else (!(a2s p_.l))) else false))
theorem aDL (u:Ux) (hp:0 <= u.f.e/\0 <= u.t.e/\u.sz <= 1500):owes LTD b0s [] Tryz.f47 (bd Tryz.f47) [.g (eU u)] (.k (.c (.v (.bool ((a3F u)))))):=by
 refine a0m (show ((a0o/\0 <= u.f.e/\u.f.sz <= 100000)/\((((!(a1m u.f)) == false)=true->(a0o/\0 <= u.t.e/\u.t.sz <= 100000))/\(((bif (!(a1m u.f)) then true else (!(a1m u.t)))=true->(Value.bool false=(.bool (a3F u))))/\((bif (!(a1m u.f)) then true else (!(a1m u.t)))=false->(((u.arc == true)=true->(((u.arc=true)/\((u.arc=true)/\(u.arc=true)))/\u.k.sz <= 100000))/\((((((bif u.arc then (!(a1H u.k)) else false) == false) && ((!u.arc) == true)) && (u.cw == false))=true->((((!u.arc)=true)/\(((!u.arc)=true)/\((!u.arc)=true)))/\u.l.sz <= 100000))/\(((aYJ u)=true->(Value.bool false=(.bool (a3F u))))/\((aYJ u)=false->(((a2q u)/\a0o/\0 <= u.f.e/\u.sz+u.f.sz <= 3000)/\((((a0T u u.f) == true)=true->((a2q u)/\a0o/\0 <= u.t.e/\u.sz+u.t.sz <= 3000))/\((((bif (a0T u u.f) then (a0T u u.t) else false) == true)=true->(a0o/\a0o/\u.f.sz+u.t.sz <= 14500))/\(Value.bool (bif (bif (a0T u u.f) then (a0T u u.t) else false) then (!(a0x u.f u.t)) else false)=(.bool (a3F u))))))))))))))=_ by kernel_rfl) ?_;delta aYJ a2q a0o;obtain ⟨hp0,hp1,hp2⟩:=hp;have g1:=aCF u
 repeat' first | trivial | with_reducible apply And.intro | (intro _)
 all_goals first | exact tU9 | (unfold a3F; exact tR_) | (simp_all; done)
def aLH:Ctr:=⟨47,spY (rU.c r0) (fun (u,_)=>0 <= u.f.e/\0 <= u.t.e/\u.sz <= 1500) (fun (u,_)=>.k (.c (.v (.bool ((a3F u))))))⟩
theorem aI0:CtrOK prog aLH:=yOK a0w aJM Tryz.func47 fun x hp=>aDL x.1 hp
def b4g:List Ctr:=b0s ++ [b2D,aLH]
theorem aSy:∀ c ∈ b4g,CtrOK prog c:=a0M aJM (a0Y aUt (a0Y aI0 (a3e)))
def a1s (u:Ux) (p:Px):Bool:=bif (bif ((a02 u p)) then (!((a0x u.f p))) else (false)) then (!((a0x u.t p))) else (false)
theorem aDD (u:Ux) (p:Px) (hp:0 <= p.e/\u.sz+p.sz <= 3000):owes LTD b4g [] f206 (bd f206) [.g (eU u),.g (eP p)] (.k (.c (.v (.bool ((a1s u p)))))):=by
 refine a0m (show ((((((!u.arc)=(!u.arc))/\(((!u.arc)=(!u.arc))/\((!u.arc)=(!u.arc))))/\(((u.arc=u.arc)/\((u.arc=u.arc)/\(u.arc=u.arc)))/\(a0o/\a0o)))/\a0o/\0 <= p.e/\u.sz+p.sz <= 3000)/\((((a02 u p) == true)=true->(a0o/\a0o/\u.f.sz+p.sz <= 14500))/\((((bif (a02 u p) then (!(a0x u.f p)) else false) == true)=true->(a0o/\a0o/\u.t.sz+p.sz <= 14500))/\(Value.bool (bif (bif (a02 u p) then (!(a0x u.f p)) else false) then (!(a0x u.t p)) else false)=(.bool (a1s u p))))))=_ by kernel_rfl) ?_;delta a0o;obtain ⟨hp0,hp1⟩:=hp;have g1:=aCF u;have g2:=a5h p
 repeat' first | trivial | with_reducible apply And.intro | (intro _)
 all_goals first | exact tU9 | (unfold a1s; exact tR_) | (simp_all; done)
def aLD:Ctr:=⟨206,spY (rU.c (rP.c r0)) (fun (u,p,_)=>0 <= p.e/\u.sz+p.sz <= 3000) (fun (u,p,_)=>.k (.c (.v (.bool ((a1s u p))))))⟩
theorem aIW:CtrOK prog aLD:=yOK a0w aSy Tryz.func206 fun x hp=>aDD x.1 x.2.1 hp
def aUT:List Ctr:=b4g ++ [aLD]
theorem aA5:∀ c ∈ aUT,CtrOK prog c:=a0M aSy (a0Y aIW (a3e))
end Vc
end Go.Proofs.YtbohkigffejhoaaGreat
namespace Go.Proofs.YtbohkigffejhoaaGreat
open Go.RowKit
set_option maxHeartbeats 4000000
namespace Vc
attribute [local irreducible] owes a1q
def LTL:List Lay:=LTD ++ [
 ⟨83,1,false,20,50,[.v (.slice none 0 0)],[]⟩,
 ⟨25,1,false,21,52,[.v (.slice none 0 0)],[]⟩,
 ⟨123,1,false,22,73,[.v (.slice none 0 0)],[]⟩,
 ⟨55,1,false,23,86,[.v (.slice none 0 0)],[]⟩,
 ⟨22,1,false,24,103,[.v (.slice none 0 0)],[]⟩,
 ⟨23,1,false,24,103,[.v (.slice none 0 0)],[]⟩,
 ⟨24,1,false,0,0,[.v (.int .i8 0)],[]⟩,
 ⟨86,2,true,30,24,[.v (.int .i8 0),.v (.int .i8 0)],[]⟩,
 ⟨56,3,true,30,24,[.v (.int .i8 0),.v (.int .i8 0),.v (.int .i8 0)],[]⟩,
 ⟨27,1,true,0,0,[.v (.slice none 0 0)],[(0,1)]⟩,
 ⟨58,4,true,0,0,[.v (.slice none 0 0),.v (.int .i8 0),.v (.int .i8 0),.v (.int .i8 0)],[(0,1),(1,3)]⟩,
 ⟨103,7,true,0,0,[.v (.int .u8 0),.v (.int .u8 0),.v (.int .i8 0),.v (.int .i8 0),.v (.int .i8 0),.v (.int .i8 0),.v (.slice none 0 0)],[(0,1),(1,1),(2,1),(3,1),(4,1),(5,1),(6,1)]⟩]
theorem a3d:∀ l ∈ LTL,a1I prog l:=by
 have h:LTL.all (aYE prog)=true:=by kernel_rfl
 intro l hl;exact a90 (List.all_eq_true.1 h l hl)
theorem a1u {L:List Lay} {C:List Ctr} {I:List LI} {fn:Func} {body:Code} {xs:List AK} {α:Type} {φ:α->Prop} {r:α->AV} {p:Prop} (h:p=a1q L C I fn body xs φ r) (hp:p):a1q L C I fn body xs φ r:=h ▸ hp
theorem aKn {bs:Bs} {w:World} {s:Sc} {f:Bool} {l:List s.T} {xs ys:List AK} (k:∀ vs,relKs bs w xs vs->relKs bs w ys vs):∀ vs,relKs bs w (.c (.rd s f l) :: xs) vs->relKs bs w (.c (.rd s false l) :: ys) vs
 | [],e=>e.elim
 | _ :: vs,e=>⟨by
   obtain ⟨a,cap,b,off,h1,h2,h3⟩:=e.1
   exact ⟨a,cap,b,off,h1,(by intro h; cases h),h3⟩,k vs e.2⟩
def okP (p:Px):Prop:=(szR p.a <= 260/\szR p.b <= 40/\szR p.c <= 260/\szR p.d <= 40/\szR p.e <= 130)/\0 <= p.e/\(isQ p.e=false \/ (p.b=0/\p.d=0))
theorem a1B {p:Px} (h:okP p):p.sz <= 730:=by have:=a5h p; obtain ⟨⟨h1,h2,h3,h4,h5⟩,_⟩:=h; omega
theorem a2N {p:Px} (h:okP p):0 <= p.e:=h.2.1
def okL (l:Lx):Prop:=szR l.la <= 7/\szR l.lb <= 7/\szR l.lc <= 27
def okK (k:Kx):Prop:=szR k.kx <= 2/\szR k.ky <= 2/\szR k.kq <= 3
theorem aBX {l:Lx} (h:okL l):l.sz <= 41:=by have:=aHL l; obtain ⟨h1,h2,h3⟩:=h; omega
theorem a7b {k:Kx} (h:okK k):k.sz <= 7:=by have:=aBN k; obtain ⟨h1,h2,h3⟩:=h; omega
theorem aMf (a b:Rat):szR (a1x a b) <= szR a+szR b+1:=a1C a b
theorem a8S (a b:Rat):szR (a00 a b) <= szR a+szR b+1:=a2z a b
theorem a4a (a b:Rat):szR (a0h a b) <= szR a+szR b:=a0C a b
theorem aW9 (a:Rat):szR (a1Z a) <= szR a:=a1Y a
theorem aEK (a b:Rat) (h:b ≠ 0):szR (a1D a b) <= szR a+szR b:=a9h a b h
theorem b0K (l:Lx):szR (a0N l) <= 2*szR l.la+2*szR l.lb+1:=by
 have h1:=a4a l.la l.la; have h2:=a4a l.lb l.lb; have h3:=aMf (a0h l.la l.la) (a0h l.lb l.lb);unfold a0N; omega
theorem aW8 (l:Lx) (x y:Rat):szR (a03 l x y) <= szR l.la+szR x+szR l.lb+szR y+szR l.lc+2:=by
 have h1:=a4a l.la x; have h2:=a4a l.lb y; have h3:=aMf (a0h l.la x) (a0h l.lb y);have h4:=a8S (a1x (a0h l.la x) (a0h l.lb y)) l.lc;unfold a03; omega
theorem aXa (l m:Lx):szR (a1l l m) <= szR l.la+szR m.lb+szR m.la+szR l.lb+1:=by
 have h1:=a4a l.la m.lb; have h2:=a4a m.la l.lb; have h3:=a8S (a0h l.la m.lb) (a0h m.la l.lb);unfold a1l; omega
theorem b0V {q:Rat} (h:Rt.sg q ≠ 0):q ≠ 0:=fun e=>h (by subst e; rfl)
theorem aUy (v:Vx):(a1Q v).sz <= szR v.vx+szR v.vy+6:=b4q v
theorem aR6 {v:Vx} (h1:szR v.vx <= 260) (h2:szR v.vy <= 260):okP (a1Q v):=by
 have z:szR a1K <= 2:=aOc;exact ⟨⟨h1,le_trans z (by decide),h2,le_trans z (by decide),le_trans z (by decide)⟩,show (0:Rat) <= ((0:Int):Rat) by decide,.inr ⟨rfl,rfl⟩⟩
def aFI (l:Lx) (m:Lx):=(a00 (a0h l.lc m.lb) (a0h m.lc l.lb))
def aQg (l:Lx) (m:Lx):=(bif ((Rt.sg (aFI l m)) == (0:Int)) then ((Rt.sg (a00 (a0h l.la m.lc) (a0h m.la l.lc))) == (0:Int)) else false)
theorem aDU (l:Lx) (m:Lx) (hp:okL l/\okL m):a1q LTL aUT [] f324 (bd f324) [.g (eL l),.g (eL m)] (fun a:List Px × Int=>(∀ p ∈ a.1,okP p)/\a.1.length <= 2) (fun a=>.t [.c (.rd .P (false) (a.1)),.c (.v (.int .i64 (a.2)))]):=by
 refine a1u (show (((True/\(True/\True))/\(True/\(True/\True))/\l.sz+m.sz <= 100000)/\((True/\True/\szR l.lc+szR m.lb <= 500000)/\((True/\True/\szR m.lc+szR l.lb <= 500000)/\((True/\True/\szR (a0h l.lc m.lb)+szR (a0h m.lc l.lb) <= 500000)/\((True/\True/\szR l.la+szR m.lc <= 500000)/\((True/\True/\szR m.la+szR l.lc <= 500000)/\((True/\True/\szR (a0h l.la m.lc)+szR (a0h m.la l.lc) <= 500000)/\((True/\True)/\((((Rt.sg (a1l l m)) != (0:Int))=true->((True/\True/\(a1l l m) ≠ 0/\szR (aFI l m)+szR (a1l l m) <= 500000)/\((True/\True/\(a1l l m) ≠ 0/\szR (a00 (a0h l.la m.lc) (a0h m.la l.lc))+szR (a1l l m) <= 500000)/\(((True/\True)/\True)/\(((True/\(True/\(True/\(True/\True))))/\True)/\(∃ a:List Px × Int,(((∀ p ∈ a.1,okP p)/\a.1.length <= 2)/\((([a1Q (Vx.mk (a1D (aFI l m) (a1l l m)) (a1D (a00 (a0h l.la m.lc) (a0h m.la l.lc)) (a1l l m)))]:List Px)=a.1)/\((Value.int .i64 (0:Int)=(.int .i64 a.2))/\True)))))))))/\(((Rt.sg (a1l l m)) != (0:Int))=false->((True/\True)/\(((((Rt.sg (aFI l m)) == (0:Int)) == true)=true->(True/\True))/\(((aQg l m)=true->(∃ a:List Px × Int,(((∀ p ∈ a.1,okP p)/\a.1.length <= 2)/\((a.1=[])/\((Value.int .i64 (10:Int)=(.int .i64 a.2))/\True)))))/\((aQg l m)=false->(∃ a:List Px × Int,(((∀ p ∈ a.1,okP p)/\a.1.length <= 2)/\((a.1=[])/\((Value.int .i64 (0:Int)=(.int .i64 a.2))/\True))))))))))))))))))=_ by kernel_rfl) ?_;delta aQg aFI;obtain ⟨hl,hm⟩:=hp;have s1:=aBX hl; have s2:=aBX hm;obtain ⟨a1,a2,a3⟩:=hl; obtain ⟨b1,b2,b3⟩:=hm;have c0:=aXa l m;have c1:=a4a l.lc m.lb; have c2:=a4a m.lc l.lb; have c3:=a8S (a0h l.lc m.lb) (a0h m.lc l.lb);have c4:=a4a l.la m.lc; have c5:=a4a m.la l.lc; have c6:=a8S (a0h l.la m.lc) (a0h m.la l.lc)
 have key:a1l l m ≠ 0->okP (a1Q (Vx.mk (a1D (a00 (a0h l.lc m.lb) (a0h m.lc l.lb)) (a1l l m)) (a1D (a00 (a0h l.la m.lc) (a0h m.la l.lc)) (a1l l m)))):=fun h=>by
  have d1:=aEK (a00 (a0h l.lc m.lb) (a0h m.lc l.lb)) (a1l l m) h;have d2:=aEK (a00 (a0h l.la m.lc) (a0h m.la l.lc)) (a1l l m) h;have d3:=aUy (Vx.mk (a1D (a00 (a0h l.lc m.lb) (a0h m.lc l.lb)) (a1l l m)) (a1D (a00 (a0h l.la m.lc) (a0h m.la l.lc)) (a1l l m)));dsimp only at d3;exact aR6 (by dsimp only; omega) (by dsimp only; omega)
 have hne:∀ x:Int,(x != 0)=true->x ≠ 0:=fun x h=>by simpa using h
 repeat' first | trivial | with_reducible apply And.intro | (with_reducible apply b0V; exact hne _ (by assumption)) | (intro _)
 all_goals first | omega | skip
 ·exact ⟨([_],0),⟨fun p hp=>by simp only [mem_singleton] at hp; subst hp; exact key (b0V (hne _ (by assumption))),Nat.le_succ 1⟩,rfl,rfl,trivial⟩
 all_goals exact ⟨([],_),⟨fun p hp=>by simp at hp,zero_le _⟩,rfl,rfl,trivial⟩
def aLM:Ctr:=⟨324,spE (rL.c (rL.c r0)) (List Px × Int) (fun (l,m,_)=>okL l/\okL m) (fun _ a=>(∀ p ∈ a.1,okP p)/\a.1.length <= 2) (fun _ a=>.t [.c (.rd .P (false) (a.1)),.c (.v (.int .i64 (a.2)))])⟩
theorem aI9:CtrOK prog aLM:=eOK a3d aA5 Tryz.func324 fun x hp=>aDU x.1 x.2.1 hp
theorem b0J (l:Lx) (k:Kx):szR (a1E l k) <= szR (a0N l)+szR k.kq+2*szR (a03 l k.kx k.ky)+1:=by
 have h1:=a4a (a0N l) k.kq; have h2:=a4a (a03 l k.kx k.ky) (a03 l k.kx k.ky);have h3:=a8S (a0h (a0N l) k.kq) (a0h (a03 l k.kx k.ky) (a03 l k.kx k.ky));unfold a1E; omega
theorem aBR {a b c d e:Rat} (h:0 <= e) (h1:szR a <= 90) (h2:szR b <= 40) (h3:szR c <= 90) (h4:szR d <= 40) (h5:szR e <= 129):okP (a0p a b c d e):=by
 unfold a0p;split
 ·rename_i hq;have q0:=aEM h hq;have q1:=a4a b (sqr e); have q2:=aMf a (a0h b (sqr e)); have q3:=a4a d (sqr e); have q4:=aMf c (a0h d (sqr e));exact aR6 (by dsimp only; omega) (by dsimp only; omega)
 ·rename_i hq;exact ⟨⟨by dsimp only; omega,by dsimp only; omega,by dsimp only; omega,by dsimp only; omega,by dsimp only; omega⟩,h,.inl (by simpa using hq)⟩
theorem aH2 {l:Lx} (h:l.la ≠ 0 \/ l.lb ≠ 0):a0N l ≠ 0:=fun e=>by
 have e:l.la*l.la+l.lb*l.lb=0:=e
 have sq:∀ x:Rat,0 <= x*x:=fun x=>by
  rcases Rat.le_total (a:=0) (b:=x) with g | g
  ·exact Rat.mul_nonneg g g
  ·have:=Rat.mul_nonneg (show 0 <= -x by grind) (show 0 <= -x by grind);grind
 have h1:=sq l.la; have h2:=sq l.lb
 have h3:l.la*l.la=0:=by grind
 have h4:l.lb*l.lb=0:=by grind
 rcases h with h | h
 ·exact h (by rcases Rat.mul_eq_zero.1 h3 with g | g <;> exact g)
 ·exact h (by rcases Rat.mul_eq_zero.1 h4 with g | g <;> exact g)
theorem aKp {k m:Kx} (hk:okK k) (hm:okK m) (h:a0U k m=false):okL (a1g k m).1/\a0N (a1g k m).1 ≠ 0:=by
 obtain ⟨a1,a2,a3⟩:=hk; obtain ⟨b1,b2,b3⟩:=hm;have two:szR (((2:Int)):Rat) <= 2:=a2V (by decide);have x1:=a8S m.kx k.kx; have x2:=a8S m.ky k.ky;have x3:=a4a (((2:Int)):Rat) (a00 m.kx k.kx); have x4:=a4a (((2:Int)):Rat) (a00 m.ky k.ky);have y1:=a4a m.kx m.kx; have y2:=a4a m.ky m.ky; have y3:=aMf (a0h m.kx m.kx) (a0h m.ky m.ky); have y4:=a8S (a1x (a0h m.kx m.kx) (a0h m.ky m.ky)) m.kq;have z1:=a4a k.kx k.kx; have z2:=a4a k.ky k.ky; have z3:=aMf (a0h k.kx k.kx) (a0h k.ky k.ky); have z4:=a8S (a1x (a0h k.kx k.kx) (a0h k.ky k.ky)) k.kq;have w:=a8S (a00 (a1x (a0h m.kx m.kx) (a0h m.ky m.ky)) m.kq) (a00 (a1x (a0h k.kx k.kx) (a0h k.ky k.ky)) k.kq);refine ⟨⟨?_,?_,?_⟩,aH2 ?_⟩
 ·show szR (a0h _ _) <= _; omega
 ·show szR (a0h _ _) <= _; omega
 ·show szR (a00 _ _) <= _; omega
 ·show ((2:Int):Rat)*(m.kx - k.kx) ≠ 0 \/ ((2:Int):Rat)*(m.ky - k.ky) ≠ 0;have t:((2:Int):Rat)=2:=rfl;rw [t];refine Classical.byContradiction fun hc=>?_;simp only [not_or,Classical.not_not] at hc;obtain ⟨c1,c2⟩:=hc
  have e1:k.kx - m.kx=0:=by grind
  have e2:k.ky - m.ky=0:=by grind
  have h0:Rt.sg (0:Rat)=0:=rfl;unfold a0U at h;rw [e1,e2,h0] at h;cases h
def aAm (l:Lx) (k:Kx):=(a1D (a03 l k.kx k.ky) (a0N l))
def a5m (k:Kx) (l:Lx):=(a00 k.kx (a0h (aAm l k) l.la))
def a5l (k:Kx) (l:Lx):=(a00 k.ky (a0h (aAm l k) l.lb))
def a5k (l:Lx):=(a1D (a1Z l.la) (a0N l))
def aCa (l:Lx):=(a1Z (a1D l.lb (a0N l)))
def aQf (k:Kx) (l:Lx):=(decide ((a0g (a0p (a5m k l) (aCa l) (a5l k l) (a1Z (a5k l)) (a1E l k)) (a0p (a5m k l) (a1D l.lb (a0N l)) (a5l k l) (a5k l) (a1E l k))) > (0:Int)))
def aFH (a:List Px):=((∀ p ∈ a,okP p)/\a.length <= 2)
theorem a7z (l:Lx) (k:Kx) (hp:(okL l/\okK k)/\a0N l ≠ 0):a1q LTL aUT [] f323 (bd f323) [.g (eL l),.g (eK k)] (fun a:List Px=>(∀ p ∈ a,okP p)/\a.length <= 2) (fun a=>.k (.c (.rd .P (false) (a)))):=by
 refine a1u (show ((a1F/\a1F/\l.sz+k.sz <= 1000)/\((a1F/\l.sz <= 100000)/\((True/\True)/\(((decide ((Rt.sg (a1E l k)) < (0:Int)))=true->(∃ a:List Px,((aFH a)/\(a=[]))))/\((decide ((Rt.sg (a1E l k)) < (0:Int)))=false->((a1F/\True/\True/\l.sz+szR k.kx+szR k.ky <= 100000)/\((True/\True/\(a0N l) ≠ 0/\szR (a03 l k.kx k.ky)+szR (a0N l) <= 500000)/\((True/\True/\szR (aAm l k)+szR l.la <= 500000)/\((True/\True/\szR k.kx+szR (a0h (aAm l k) l.la) <= 500000)/\((True/\True/\szR (aAm l k)+szR l.lb <= 500000)/\((True/\True/\szR k.ky+szR (a0h (aAm l k) l.lb) <= 500000)/\((True/\True)/\((((Rt.sg (a1E l k)) == (0:Int))=true->(((True/\True)/\True)/\((a3B/\True)/\(∃ a:List Px,((aFH a)/\(([a1Q (Vx.mk (a5m k l) (a5l k l))]:List Px)=a))))))/\(((Rt.sg (a1E l k)) == (0:Int))=false->((True/\True/\(a0N l) ≠ 0/\szR l.lb+szR (a0N l) <= 500000)/\((True/\szR l.la <= 500000)/\((True/\True/\(a0N l) ≠ 0/\szR (a1Z l.la)+szR (a0N l) <= 500000)/\((True/\szR (a1D l.lb (a0N l)) <= 500000)/\((True/\szR (a5k l) <= 500000)/\((True/\True/\True/\True/\True/\0 <= (a1E l k)/\szR (a5m k l)+szR (aCa l)+szR (a5l k l)+szR (a1Z (a5k l))+szR (a1E l k) <= 100000)/\((True/\True/\True/\True/\True/\0 <= (a1E l k)/\szR (a5m k l)+szR (a1D l.lb (a0N l))+szR (a5l k l)+szR (a5k l)+szR (a1E l k) <= 100000)/\((a3B/\a3B/\(a0p (a5m k l) (aCa l) (a5l k l) (a1Z (a5k l)) (a1E l k)).sz+(a0p (a5m k l) (a1D l.lb (a0N l)) (a5l k l) (a5k l) (a1E l k)).sz <= 14500)/\(((aQf k l)=true->((a3B/\a3B/\True)/\(∃ a:List Px,((aFH a)/\(([a0p (a5m k l) (a1D l.lb (a0N l)) (a5l k l) (a5k l) (a1E l k),a0p (a5m k l) (aCa l) (a5l k l) (a1Z (a5k l)) (a1E l k)]:List Px)=a)))))/\((aQf k l)=false->((a3B/\a3B/\True)/\(∃ a:List Px,((aFH a)/\(([a0p (a5m k l) (aCa l) (a5l k l) (a1Z (a5k l)) (a1E l k),a0p (a5m k l) (a1D l.lb (a0N l)) (a5l k l) (a5k l) (a1E l k)]:List Px)=a))))))))))))))))))))))))))))=_ by kernel_rfl) ?_;delta aFH aQf aCa a3B a1F a5k a5l a5m aAm;obtain ⟨⟨hl,hk⟩,hn⟩:=hp;have s1:=aBX hl; have s2:=a7b hk;obtain ⟨a1,a2,a3⟩:=hl; obtain ⟨b1,b2,b3⟩:=hk;have q0:=aW8 l k.kx k.ky; have q1:=b0K l; have q2:=b0J l k
 generalize hv:a03 l k.kx k.ky=v at *
 have q3:=aEK v (a0N l) hn
 generalize hK:a1D v (a0N l)=K at *
 have q4:=a4a K l.la; have q5:=a8S k.kx (a0h K l.la);have q6:=a4a K l.lb; have q7:=a8S k.ky (a0h K l.lb)
 generalize hX:a00 k.kx (a0h K l.la)=X at *
 generalize hY:a00 k.ky (a0h K l.lb)=Y at *
 have r1:=aEK l.lb (a0N l) hn;have r2:=aW9 l.la; have r3:=aEK (a1Z l.la) (a0N l) hn
 generalize hU:a1D l.lb (a0N l)=U at *
 generalize hW:a1D (a1Z l.la) (a0N l)=W at *
 have r4:=aW9 U; have r5:=aW9 W
 generalize hR:a1E l k=R at *
 have d3:=aUy (Vx.mk X Y);dsimp only at d3;have hge:decide (Rt.sg R < 0)=false->0 <= R:=fun h=>Rt.aBc.1 (by have:=of_decide_eq_false h; omega);have k1:0 <= R->okP (a0p X U Y W R):=fun h=>aBR h (by omega) (by omega) (by omega) (by omega) (by omega);have k2:0 <= R->okP (a0p X (a1Z U) Y (a1Z W) R):=fun h=>aBR h (by omega) (by omega) (by omega) (by omega) (by omega);have k3:okP (a1Q (Vx.mk X Y)):=aR6 (by dsimp only; omega) (by dsimp only; omega)
 have two:∀ {p q:Px},okP p->okP q->∀ x ∈ [p,q],okP x:=fun h1 h2 x hx=>by
  rcases mem_cons.1 hx with rfl | hx
  ·exact h1
  ·obtain rfl:=mem_singleton.1 hx; exact h2
 repeat' first | trivial | with_reducible apply And.intro | assumption | (intro _)
 all_goals first | omega | (exact hge (by assumption)) | skip
 all_goals first | exact ⟨[],⟨fun p hp=>by simp at hp,zero_le _⟩,rfl⟩ | exact ⟨[_],⟨fun p hp=>by rw [mem_singleton.1 hp]; exact k3,Nat.le_succ _⟩,rfl⟩ | exact ⟨[_,_],⟨two (k1 (hge (by assumption))) (k2 (hge (by assumption))),Nat.le_refl _⟩,rfl⟩ | exact ⟨[_,_],⟨two (k2 (hge (by assumption))) (k1 (hge (by assumption))),Nat.le_refl _⟩,rfl⟩ | (have h1:=a1B (k1 (hge (by assumption))); have h2:=a1B (k2 (hge (by assumption))); omega)
def a7A:Ctr:=⟨323,spE (rL.c (rKx.c r0)) (List Px) (fun (l,k,_)=>(okL l/\okK k)/\a0N l ≠ 0) (fun _ a=>(∀ p ∈ a,okP p)/\a.length <= 2) (fun _ a=>.k (.c (.rd .P (false) (a))))⟩
theorem a88:CtrOK prog a7A:=eOK a3d aA5 Tryz.func323 fun x hp=>a7z x.1 x.2.1 hp
def WT0:List Ctr:=aUT ++ [aLM,a7A]
theorem aWk:∀ c ∈ WT0,CtrOK prog c:=a0M aA5 (a0Y aI9 (a0Y a88 (a3e)))
theorem aAG (k:Kx) (m:Kx) (hp:okK k/\okK m):a1q LTL WT0 [] f322 (bd f322) [.g (eK k),.g (eK m)] (fun a:List Px × Int=>(∀ p ∈ a.1,okP p)/\a.1.length <= 2) (fun a=>.t [.c (.rd .P (false) (a.1)),.c (.v (.int .i64 (a.2)))]):=by
 refine a1u (show ((a1F/\a1F/\k.sz+m.sz <= 100000)/\(((a0U k m)=true->((True/\True/\(szR k.kq <= 1000000/\szR m.kq <= 1000000))/\((((Rt.sg (k.kq - m.kq)) == (0:Int))=true->(∃ a:List Px × Int,(((∀ p ∈ a.1,okP p)/\a.1.length <= 2)/\((a.1=[])/\((Value.int .i64 (10:Int)=(.int .i64 a.2))/\True)))))/\(((Rt.sg (k.kq - m.kq)) == (0:Int))=false->(∃ a:List Px × Int,(((∀ p ∈ a.1,okP p)/\a.1.length <= 2)/\((a.1=[])/\((Value.int .i64 (0:Int)=(.int .i64 a.2))/\True))))))))/\((a0U k m)=false->((a1F/\a1F/\a0U k m=false/\k.sz+m.sz <= 1000)/\((a1F/\a1F/\(okL ((a1g k m).1)/\okK k)/\a0N ((a1g k m).1) ≠ 0)/\(∀ e1:List Px,((∀ p ∈ e1,okP p)/\e1.length <= 2->(∃ a:List Px × Int,(((∀ p ∈ a.1,okP p)/\a.1.length <= 2)/\((e1=a.1)/\((Value.int .i64 (0:Int)=(.int .i64 a.2))/\True)))))))))))=_ by kernel_rfl) ?_;delta a1F;obtain ⟨hk,hm⟩:=hp;have s1:=a7b hk; have s2:=a7b hm
 have nil:∀ e:Int,∃ a:List Px × Int,((∀ p ∈ a.1,okP p)/\a.1.length <= 2)/\(a.1=[]/\Value.int .i64 e=.int .i64 a.2/\True):=fun e=>⟨([],e),⟨fun p hp=>by simp at hp,zero_le _⟩,rfl,rfl,trivial⟩
 have f1:=hk.2.2; have f2:=hm.2.2
 repeat' first | trivial | with_reducible apply And.intro | assumption | exact nil _ | exact (aKp hk hm (by assumption)).1 | exact (aKp hk hm (by assumption)).2 | (intro _)
 all_goals first | omega | (rename_i x hx; exact ⟨(x,0),hx,rfl,rfl,trivial⟩)
def aCl:Ctr:=⟨322,spE (rKx.c (rKx.c r0)) (List Px × Int) (fun (k,m,_)=>okK k/\okK m) (fun _ a=>(∀ p ∈ a.1,okP p)/\a.1.length <= 2) (fun _ a=>.t [.c (.rd .P (false) (a.1)),.c (.v (.int .i64 (a.2)))])⟩
theorem aDW:CtrOK prog aCl:=eOK a3d aWk Tryz.func322 fun x hp=>aAG x.1 x.2.1 hp
def WT1:List Ctr:=WT0 ++ [aCl]
theorem aWj:∀ c ∈ WT1,CtrOK prog c:=a0M aWk (a0Y aDW (a3e))
def okU (u:Ux):Prop:=okL u.l/\okK u.k/\okP u.f/\okP u.t/\(u.arc=true->0 < u.k.kq)/\(u.arc=false->u.l.la ≠ 0 \/ u.l.lb ≠ 0)
theorem a3S {u:Ux} (h:okU u):u.sz <= 1508:=by
 have:=aCF u;obtain ⟨h1,h2,h3,h4,_⟩:=h;have:=aBX h1; have:=a7b h2; have:=a1B h3; have:=a1B h4;omega
def aQd:=(∀ e1:List Px × Int,((∀ p ∈ e1.1,okP p)/\e1.1.length <= 2->(∃ a:List Px × Int,(((∀ p ∈ a.1,okP p)/\a.1.length <= 2)/\((e1.1=a.1)/\((Value.int .i64 e1.2=(.int .i64 a.2))/\True))))))
def aK2 (p_:Ux):=(((!p_.arc)=true)/\(((!p_.arc)=true)/\((!p_.arc)=true)))
def aK1 (p_:Ux):=((p_.arc=true)/\((p_.arc=true)/\(p_.arc=true)))
def aQe (p_ q_:Ux):=(p_.arc=true->(((aK2 q_)/\(aK1 p_)/\(okL q_.l/\okK p_.k)/\a0N q_.l ≠ 0)/\(∀ e1:List Px,((∀ p ∈ e1,okP p)/\e1.length <= 2->(∃ a:List Px × Int,(((∀ p ∈ a.1,okP p)/\a.1.length <= 2)/\((e1=a.1)/\((Value.int .i64 (0:Int)=(.int .i64 a.2))/\True))))))))
theorem a8Y (u:Ux) (v:Ux) (hp:okU u/\okU v):a1q LTL WT1 [] f208 (bd f208) [.g (eU u),.g (eU v)] (fun a:List Px × Int=>(∀ p ∈ a.1,okP p)/\a.1.length <= 2) (fun a=>.t [.c (.rd .P (false) (a.1)),.c (.v (.int .i64 (a.2)))]):=by
 refine a1u (show (((bif u.arc then v.arc else false)=true->(((aK1 u)/\(aK1 v)/\okK u.k/\okK v.k)/\aQd))/\((bif u.arc then v.arc else false)=false->((aQe u v)/\(u.arc=false->((aQe v u)/\(v.arc=false->(((aK2 u)/\(aK2 v)/\okL u.l/\okL v.l)/\aQd)))))))=_ by kernel_rfl) ?_;delta aQe aK1 aK2 aQd;obtain ⟨hu,hv⟩:=hp;have nu:u.arc=false->a0N u.l ≠ 0:=fun h=>aH2 (hu.2.2.2.2.2 h);have nv:v.arc=false->a0N v.l ≠ 0:=fun h=>aH2 (hv.2.2.2.2.2 h);obtain ⟨h1,h2,_⟩:=hu; obtain ⟨g1,g2,_⟩:=hv
 repeat' first | trivial | with_reducible apply And.intro | assumption | (exact nu (by assumption)) | (exact nv (by assumption)) | (intro _)
 all_goals first | (simp_all; done) | skip
 all_goals first | (rename_i x hx; exact ⟨x,hx,rfl,rfl,trivial⟩) | (rename_i x hx; exact ⟨(x,0),hx,rfl,rfl,trivial⟩)
def aAD:Ctr:=⟨208,spE (rU.c (rU.c r0)) (List Px × Int) (fun (u,v,_)=>okU u/\okU v) (fun _ a=>(∀ p ∈ a.1,okP p)/\a.1.length <= 2) (fun _ a=>.t [.c (.rd .P (false) (a.1)),.c (.v (.int .i64 (a.2)))])⟩
theorem aBs:CtrOK prog aAD:=eOK a3d aWj Tryz.func208 fun x hp=>a8Y x.1 x.2.1 hp
def WT2:List Ctr:=WT1 ++ [aAD]
theorem aSl:∀ c ∈ WT2,CtrOK prog c:=a0M aWj (a0Y aBs (a3e))
def a6z (k:Kx):List Ux:=[⟨true,⟨0,0,0⟩,k,false,(a0e k).1,(a0e k).2⟩,⟨true,⟨0,0,0⟩,k,false,(a0e k).2,(a0e k).1⟩]
theorem aBG {a b:Bool}:((bif a then b else false)=true)=(a=true/\b=true):=by cases a <;> cases b <;> simp
theorem aNB {a b:Bool}:((bif a then b else false)=false)=(a=true->b=false):=by cases a <;> cases b <;> simp
def Adj {α:Type} (R:α->α->Prop) (l:List α):Prop:=∀ (i:Nat) (x y:α),l[i]?=some x->l[i+1]?=some y->R x y
theorem aZq {α:Type} {R:α->α->Prop}:Adj R []:=fun i x y h=>by simp at h
theorem aZr {α:Type} {R:α->α->Prop} {l:List α} {k:Nat} {z:α} (h:Adj R l) (hk:k <= l.length) (h1:∀ x,0 < k->l[k - 1]?=some x->R x z) (h2:∀ y,l[k]?=some y->R z y):Adj R ((l.take k ++ [z]) ++ l.drop k):=by
 have ht:(l.take k).length=k:=by rw [length_take,Nat.min_eq_left hk]
 have lo:∀ i,i < k->((l.take k ++ [z]) ++ l.drop k)[i]?=l[i]?:=fun i hi=>by
  rw [List.getElem?_append_left (by simp; omega),List.getElem?_append_left (by omega),List.getElem?_take,if_pos hi]
 have mid:((l.take k ++ [z]) ++ l.drop k)[k]?=some z:=by
  rw [List.getElem?_append_left (by simp; omega),List.getElem?_append_right (by omega),ht]; simp
 have hi:∀ i,k < i->((l.take k ++ [z]) ++ l.drop k)[i]?=l[i - 1]?:=fun i h=>by
  rw [List.getElem?_append_right (by simp; omega),List.getElem?_drop];congr 1; simp; omega
 intro i x y hx hy;rcases Nat.lt_trichotomy (i+1) k with h' | h' | h'
 ·rw [lo i (by omega)] at hx; rw [lo (i+1) h'] at hy; exact h i x y hx hy
 ·rw [lo i (by omega)] at hx; rw [h',mid] at hy; cases hy;exact h1 x (by omega) (by rw [show k - 1=i by omega]; exact hx)
 ·rcases Nat.lt_or_ge k i with g | g
  ·rw [hi i g] at hx; rw [hi (i+1) (by omega)] at hy;exact h (i - 1) x y hx (by rw [show i - 1+1=i+1 - 1 by omega]; exact hy)
  ·have e:i=k:=by omega
   subst e;rw [mid] at hx; cases hx;rw [hi (i+1) (by omega),show i+1 - 1=i by omega] at hy;exact h2 y hy
theorem aYV {α:Type} {l:List α} {k:Nat} {x z:α} (h:x ∈ (l.take k ++ [z]) ++ l.drop k):x ∈ l \/ x=z:=by
 simp only [List.mem_append,mem_singleton] at h;rcases h with (h | h) | h
 ·exact .inl (List.mem_of_mem_take h)
 ·exact .inr h
 ·exact .inl (List.mem_of_mem_drop h)
theorem a0W {α:Type} {l:List α} {n:Nat} {d:α} (h:n < l.length):l.getD n d ∈ l:=by
 rw [List.getD_eq_getElem?_getD,List.getElem?_eq_getElem h]; exact List.getElem_mem h
theorem aK6 {α:Type} {l:List α} {n:Nat} {d:α} (h:n < l.length):l[n]?=some (l.getD n d):=by rw [List.getD_eq_getElem?_getD,List.getElem?_eq_getElem h]; rfl
theorem aDe {α:Type} {l:List α} {n:Nat} {x d:α} (h:l[n]?=some x):l.getD n d=x:=by rw [List.getD_eq_getElem?_getD,h]; rfl
def Ro (u:Ux) (x y:Px):Prop:=a0P u x y < 0 \/ (¬ a0P u y x < 0/\a0x y x=false)
def aAl:=(Value.bool false=.bool false)
def aQc:=((aAl/\((([]:List Nat)=[])/\(aAl/\((([]:List Nat)=[])/\(aAl/\((([]:List Nat)=[])/\(aAl/\((([]:List Nat)=[])/\(aAl/\((([]:List Nat)=[])/\(aAl/\((([]:List Nat)=[])/\((!true)=false)))))))))))))/\(((true=true)/\((true=true)/\(true=true)))/\((True/\(True/\(True/\(True/\True))))/\(True/\(True/\(True/\(True/\True)))))))
theorem aGy (k:Kx) (hp:okK k/\0 <= k.kq):a1q LTL WT2 [] f109 (bd f109) [.g (eK k)] (fun a:List Ux=>a=a6z k) (fun a=>.k (.c (.rd .U (false) (a)))):=by
 refine a1u (show (((True/\(True/\True))/\0 <= k.kq/\k.sz <= 20000)/\((aQc/\aQc/\True)/\(∃ a:List Ux,((a=a6z k)/\(([Ux.mk true (Lx.mk 0 0 0) k false ((a0e k).1) ((a0e k).2),Ux.mk true (Lx.mk 0 0 0) k false ((a0e k).2) ((a0e k).1)]:List Ux)=a)))))=_ by kernel_rfl) ?_;delta aQc aAl;have s1:=a7b hp.1;have h0:=hp.2
 repeat' first | trivial | with_reducible apply And.intro | assumption | (intro _)
 all_goals first | omega | (exact ⟨_,rfl,rfl⟩) | (simp; done)
def aRz:Ctr:=⟨109,spE (rKx.c r0) (List Ux) (fun (k,_)=>okK k/\0 <= k.kq) (fun (k,_) a=>a=a6z k) (fun _ a=>.k (.c (.rd .U (false) (a))))⟩
theorem aNl:CtrOK prog aRz:=eOK a3d aSl Tryz.func109 fun x hp=>aGy x.1 hp
structure SoI (u:Ux) (l out:List Px) (i:Nat):Prop where
 hi:i <= l.length
 hn:out.length <= i
 hm:∀ p ∈ out,p ∈ l
 ha:Adj (Ro u) out
structure SoK (u:Ux) (l out:List Px) (i k:Nat):Prop where
 hk:k <= out.length
 ha:∀ x,0 < k->out[k - 1]?=some x->a0P u x (l.getD i dfP) < 0
def a5G (p_:Ux):=(((Value.bool p_.arc=(.bool p_.arc))/\(((!p_.arc)=(!p_.arc))/\((p_.l.la=p_.l.la)/\(((!p_.arc)=(!p_.arc))/\((p_.l.lb=p_.l.lb)/\(((!p_.arc)=(!p_.arc))/\((p_.l.lc=p_.l.lc)/\((p_.arc=p_.arc)/\((p_.k.kx=p_.k.kx)/\((p_.arc=p_.arc)/\((p_.k.ky=p_.k.ky)/\((p_.arc=p_.arc)/\((p_.k.kq=p_.k.kq)/\((Value.bool p_.cw=(.bool p_.cw))/\((p_.f.a=p_.f.a)/\((p_.f.b=p_.f.b)/\((p_.f.c=p_.f.c)/\((p_.f.d=p_.f.d)/\((p_.f.e=p_.f.e)/\((p_.t.a=p_.t.a)/\((p_.t.b=p_.t.b)/\((p_.t.c=p_.t.c)/\((p_.t.d=p_.t.d)/\((p_.t.e=p_.t.e)/\True))))))))))))))))))))))))/\True)
def a6q (x2:List Px × Nat × Nat):=(decide (((x2.2.2:Nat):Int) < (x2.1.length:Int)))
def aFF (x2:List Px × Nat × Nat):=(([]:List Px).length+(x2.1.take ((x2.2.2:Nat):Int).toNat).length <= 10000000)
def aAk (x2:List Px × Nat × Nat):=(x2.1.getD (((x2.2.2:Nat):Int).toNat) dfP)
def a6p (x2:List Px × Nat × Nat):=(((x2.2.1:Nat):Int).toNat)
def aK0 (x2:List Px × Nat × Nat) (l:List Px):=(0 <= ((x2.2.1:Nat):Int)/\((x2.2.1:Nat):Int) < (l.length:Int))
def aKZ (x2:List Px × Nat × Nat):=(([]:List Px) ++ (x2.1.take ((x2.2.2:Nat):Int).toNat))
def aFG (x2:List Px × Nat × Nat) (l:List Px) (u:Ux) (x1:List Px × Nat) (p_:Ux):=((((aKZ x2).length+([(l).getD (a6p x2) dfP]:List Px).length <= 10000000)/\(((((aKZ x2) ++ ([(l).getD (a6p x2) dfP]:List Px)).length+(x2.1.drop ((x2.2.2:Nat):Int).toNat).length <= 10000000)/\(((inR .i64 (((x2.2.1:Nat):Int)+(1:Int)))/\(∃ y1:List Px × Nat,((SoI u l y1.1 y1.2)/\((l.length - y1.2 < l.length - x1.2)/\(((l=l)/\(True/\(((((aKZ x2) ++ ([(l).getD (a6p x2) dfP]:List Px)) ++ (x2.1.drop ((x2.2.2:Nat):Int).toNat))=y1.1)/\((Value.int .i64 (((x2.2.1:Nat):Int)+(1:Int))=(.int .i64 ((y1.2:Nat):Int)))/\True))))/\(a5G p_))))))/\True))/\True))/\True)
def aQb (x2:List Px × Nat × Nat) (l:List Px) (u:Ux) (x1:List Px × Nat):=(((aFF x2)/\(((a0o/\True)/\(aFG x2 l u x1 u))/\True))/\(((a0o/\True)/\(((aFF x2)/\(aFG x2 l u x1 u))/\True))/\True))
def aIm (x2:List Px × Nat × Nat):=(((a6q x2) == true)=true->(0 <= ((x2.2.2:Nat):Int)/\((x2.2.2:Nat):Int) < (x2.1.length:Int)))
theorem aBr (u:Ux) (l:List Px) (hp:(okU u/\∀ p ∈ l,okP p)/\l.length <= 100000):a1q LTL WT2 [.inv 3 (List Px × Nat) (fun ξ=>⟨[.u,.k (.c (.rd .P (false) (l))),.k (.c (.bx 0 0)),.u,.u,.k (.c (.ow 0 50 .P (ξ.1))),.k (.c (.v (.int .i64 (((ξ.2:Nat):Int))))),.u,.u,.u,.u,.u,.u,.u,.u,.u,.u,.u,.u,.u,.u,.u,.u,.u,.u,.u,.u,.u,.u,.u,.u,.u,.u,.u,.u,.u,.u,.u,.u,.u,.u,.u,.u,.u,.u,.u,.u,.u,.u,.u,.u,.u,.u,.u,.u,.u,.u,.u,.u,.u,.u,.u,.u,.u],[⟨52,(eU u)⟩]⟩) (fun _ ξ=>SoI u l ξ.1 ξ.2) (fun ξ=>l.length - ξ.2),.inv 6 (List Px × Nat × Nat) (fun ξ=>⟨[.u,.k (.c (.rd .P (false) (l))),.k (.c (.bx 0 0)),.u,.u,.k (.c (.ow 0 50 .P (ξ.1))),.k (.c (.v (.int .i64 (((ξ.2.1:Nat):Int))))),.k (.c (.v (.int .i64 (((ξ.2.2:Nat):Int))))),.u,.u,.u,.u,.u,.u,.u,.u,.u,.u,.u,.u,.u,.u,.u,.u,.u,.u,.u,.u,.u,.u,.u,.u,.u,.u,.u,.u,.u,.u,.u,.u,.u,.u,.u,.u,.u,.u,.u,.u,.u,.u,.u,.u,.u,.u,.u,.u,.u,.u,.u,.u,.u,.u,.u,.u],[⟨52,(eU u)⟩]⟩) (fun σ ξ=>(SoI u l ξ.1 ξ.2.1/\(ξ.2.1:Int)=(tmI σ 6)/\ξ.2.1 < l.length)/\SoK u l ξ.1 ξ.2.1 ξ.2.2) (fun ξ=>ξ.1.length - ξ.2.2),.cut 9 1000] f210 (bd f210) [.g (eU u),.c (.rd .P (false) (l))] (fun a:List Px=>(Adj (Ro u) a/\∀ p ∈ a,p ∈ l)/\a.length <= l.length) (fun a=>.k (.c (.rd .P (false) (a)))):=by
 refine a1u (show ((∃ x1:List Px × Nat,((SoI u l x1.1 x1.2)/\(((l=l)/\(True/\((x1.1=[])/\((Value.int .i64 (0:Int)=(.int .i64 ((x1.2:Nat):Int)))/\True))))/\(a5G u))))/\(∀ x1:List Px × Nat,((SoI u l x1.1 x1.2)->(((decide (((x1.2:Nat):Int) < (l.length:Int)))=true->((∃ x2:List Px × Nat × Nat,(((SoI u l x2.1 x2.2.1/\(x2.2.1:Int)=((x1.2:Nat):Int)/\x2.2.1 < l.length)/\SoK u l x2.1 x2.2.1 x2.2.2)/\(((l=l)/\(True/\((x1.1=x2.1)/\((Value.int .i64 ((x1.2:Nat):Int)=(.int .i64 ((x2.2.1:Nat):Int)))/\((Value.int .i64 (0:Int)=(.int .i64 ((x2.2.2:Nat):Int)))/\True)))))/\(a5G u))))/\(∀ x2:List Px × Nat × Nat,((SoI u l x2.1 x2.2.1/\(x2.2.1:Int)=((x1.2:Nat):Int)/\x2.2.1 < l.length)/\SoK u l x2.1 x2.2.1 x2.2.2->((aIm x2)/\((((a6q x2) == true)=true->(aK0 x2 l))/\((((a6q x2) == true)=true->(((((!u.arc)=(!u.arc))/\(((!u.arc)=(!u.arc))/\((!u.arc)=(!u.arc))))/\(((u.arc=u.arc)/\((u.arc=u.arc)/\(u.arc=u.arc)))/\(a0o/\a0o)))/\a0o/\a0o/\u.sz+(aAk x2).sz+(l.getD (a6p x2) dfP).sz <= 9900))/\(((bif (a6q x2) then (decide ((a0P u (aAk x2) (l.getD (a6p x2) dfP)) < (0:Int))) else false)=true->((inR .i64 (((x2.2.2:Nat):Int)+(1:Int)))/\(∃ y2:List Px × Nat × Nat,(((SoI u l y2.1 y2.2.1/\(y2.2.1:Int)=((x1.2:Nat):Int)/\y2.2.1 < l.length)/\SoK u l y2.1 y2.2.1 y2.2.2)/\((y2.1.length - y2.2.2 < x2.1.length - x2.2.2)/\(((l=l)/\(True/\((x2.1=y2.1)/\((Value.int .i64 ((x2.2.1:Nat):Int)=(.int .i64 ((y2.2.1:Nat):Int)))/\((Value.int .i64 (((x2.2.2:Nat):Int)+(1:Int))=(.int .i64 ((y2.2.2:Nat):Int)))/\True)))))/\(a5G u)))))))/\((bif (a6q x2) then (decide ((a0P u (aAk x2) (l.getD (a6p x2) dfP)) < (0:Int))) else false)=false->((aIm x2)/\((((a6q x2) == true)=true->(aK0 x2 l))/\((((a6q x2) == true)=true->(a0o/\a0o/\(aAk x2).sz+(l.getD (a6p x2) dfP).sz <= 14500))/\(((bif (a6q x2) then (a0x (aAk x2) (l.getD (a6p x2) dfP)) else false)=true->((inR .i64 (((x2.2.1:Nat):Int)+(1:Int)))/\(∃ y1:List Px × Nat,((SoI u l y1.1 y1.2)/\((l.length - y1.2 < l.length - x1.2)/\(((l=l)/\(True/\((x2.1=y1.1)/\((Value.int .i64 (((x2.2.1:Nat):Int)+(1:Int))=(.int .i64 ((y1.2:Nat):Int)))/\True))))/\(a5G u)))))))/\((bif (a6q x2) then (a0x (aAk x2) (l.getD (a6p x2) dfP)) else false)=false->((0 <= ((x2.2.2:Nat):Int)/\((x2.2.2:Nat):Int) <= (x2.1.length:Int))/\((aK0 x2 l)/\((0 <= ((x2.2.2:Nat):Int)/\((x2.2.2:Nat):Int) <= (x2.1.length:Int))/\((True/\(((aFF x2)/\((((a0o/\True)/\(aFG x2 l u x1 u))/\True)/\True))/\((aQb x2 l u x1)/\True)))/\(((True/\(aQb x2 l u x1))/\(((a0o/\True)/\((True/\(((aFF x2)/\(aFG x2 l u x1 u))/\True))/\True))/\True))/\True)))))))))))))))))))/\((decide (((x1.2:Nat):Int) < (l.length:Int)))=false->(∃ a:List Px,(((Adj (Ro u) a/\∀ p ∈ a,p ∈ l)/\a.length <= l.length)/\(x1.1=a))))))))=_ by kernel_rfl) ?_;delta aIm aQb aFG aKZ aK0 a6p aAk aFF a6q a0o a5G;simp only [true_and,and_true,aBG,aNB,Int.toNat_natCast,Value.int.injEq,decide_eq_true_eq,decide_eq_false_iff_not,beq_true,Int.natCast_nonneg,Int.ofNat_lt,Int.ofNat_le,Int.ofNat_inj,List.nil_append];obtain ⟨⟨hu,hl⟩,hn⟩:=hp;have su:=a3S hu;have sz:∀ p ∈ l,p.sz <= 730:=fun p hp=>a1B (hl p hp);refine ⟨⟨([],0),⟨zero_le _,zero_le _,(fun p hp=>by simp at hp),aZq⟩,rfl,rfl⟩,fun x1 h1=>⟨fun hlt=>⟨⟨(x1.1,x1.2,0),⟨⟨h1,rfl,hlt⟩,⟨zero_le _,fun x hx=>absurd hx (Nat.lt_irrefl 0)⟩⟩,rfl,rfl,rfl⟩,fun x2 h2=>?_⟩,fun hge=>⟨_,⟨⟨h1.ha,h1.hm⟩,by have:=h1.hn; have:=h1.hi; omega⟩,rfl⟩⟩⟩;obtain ⟨⟨hI,he,hlt2⟩,hK⟩:=h2;have hx:l.getD x2.2.1 dfP ∈ l:=a0W hlt2;have hy:x2.2.2 < x2.1.length->x2.1.getD x2.2.2 dfP ∈ l:=fun h=>hI.hm _ (a0W h);have hio:=hI.hi;have hno:=hI.hn;have hk:=hK.hk;refine ⟨fun h=>h,fun _=>hlt2,fun h=>(by have:=sz _ hx; have:=sz _ (hy h); omega),fun h=>⟨by unfold inR; omega,(x2.1,x2.2.1,x2.2.2+1),⟨⟨hI,he,hlt2⟩,⟨h.1,fun x hpos hx0=>?_⟩⟩,(by have:=h.1; dsimp only; omega),rfl,rfl,by simp⟩,fun h=>⟨fun h=>h,fun _=>hlt2,fun h=>(by have:=sz _ hx; have:=sz _ (hy h); omega),fun h'=>⟨by unfold inR; omega,(x2.1,x2.2.1+1),⟨by dsimp only; omega,by dsimp only; omega,hI.hm,hI.ha⟩,by dsimp only; omega,rfl,by simp⟩,fun h'=>?_⟩⟩
 ·rw [Nat.add_sub_cancel] at hx0;rw [<- aDe (d:=dfP) hx0];exact h.2
 ·have hnew:SoI u l (x2.1.take x2.2.2 ++ [l.getD x2.2.1 dfP] ++ x2.1.drop x2.2.2) (x2.2.1+1):=⟨by omega,by simp only [length_take,List.length_drop,List.length_append,List.length_cons,List.length_nil]; omega,fun p hp=>(aYV hp).elim (hI.hm p) (fun e=>e ▸ hx),aZr hI.ha hk (fun x hpos hx0=>.inl (hK.ha x hpos hx0)) (fun y hy0=>by
   have hlk:x2.2.2 < x2.1.length:=(List.getElem?_eq_some_iff.1 hy0).1;have e:=aDe (d:=dfP) hy0;rw [e] at h h'
   exact .inr ⟨h hlk,h' hlk⟩)⟩
  refine ⟨hk,hlt2,hk,?_⟩
  repeat' apply And.intro
  all_goals try (simp only [length_take,List.length_drop,List.length_append,List.length_cons,List.length_nil]; omega)
  all_goals try omega
  all_goals try exact ⟨(_,x2.2.1+1),hnew,(by dsimp only; omega),rfl,(by simp)⟩
def aGu:Ctr:=⟨210,spE (rU.c (lP.c r0)) (List Px) (fun (u,l,_)=>(okU u/\∀ p ∈ l,okP p)/\l.length <= 100000) (fun (u,l,_) a=>(Adj (Ro u) a/\∀ p ∈ a,p ∈ l)/\a.length <= l.length) (fun _ a=>.k (.c (.rd .P (false) (a))))⟩
theorem aGt:CtrOK prog aGu:=eOK a3d aSl Tryz.func210 fun x hp=>aBr x.1 x.2.1 hp
def WT3:List Ctr:=WT2 ++ [aRz,aGu]
theorem aSk:∀ c ∈ WT3,CtrOK prog c:=a0M aSl (a0Y aNl (a0Y aGt (a3e)))
