import Derived.Test.YtbohkigffejhoaaGreatR18
namespace Go.Proofs.YtbohkigffejhoaaGreat
open Go.RowKit
set_option maxHeartbeats 4000000
namespace Vc
section
variable {p q:Rat} {a b:Nat}
theorem a0C (hp:szR p <= a) (hq:szR q <= b):szR (p*q) <= 2*a+2*b:=by have:=aWu p q; omega
theorem a0D (hp:szR p <= a) (hq:szR q <= b):szR (p+q) <= 3*a+3*b+1:=by have:=aOi p q; omega
theorem a0B (hp:szR p <= a) (hq:szR q <= b):szR (p - q) <= 3*a+3*b+1:=by have:=aWt p q; omega
end
section
variable {a1 a2 b1 b2 p1 p2:Rat}
theorem b0D (h:(b1 - a1)*(p1 - a1)+(b2 - a2)*(p2 - a2) <= 0):Rt.seg ⟨a1,a2⟩ ⟨b1,b2⟩ ⟨p1,p2⟩=(p1 - a1)*(p1 - a1)+(p2 - a2)*(p2 - a2):=if_pos h
theorem b08 (h:¬ (b1 - a1)*(p1 - a1)+(b2 - a2)*(p2 - a2) <= 0) (h':(b1 - a1)*(b1 - a1)+(b2 - a2)*(b2 - a2) <= (b1 - a1)*(p1 - a1)+(b2 - a2)*(p2 - a2)) :
    Rt.seg ⟨a1,a2⟩ ⟨b1,b2⟩ ⟨p1,p2⟩=(p1 - b1)*(p1 - b1)+(p2 - b2)*(p2 - b2):=(if_neg h).trans (if_pos h')
theorem b07 (h:¬ (b1 - a1)*(p1 - a1)+(b2 - a2)*(p2 - a2) <= 0) (h':¬ (b1 - a1)*(b1 - a1)+(b2 - a2)*(b2 - a2) <= (b1 - a1)*(p1 - a1)+(b2 - a2)*(p2 - a2)) :
    Rt.seg ⟨a1,a2⟩ ⟨b1,b2⟩ ⟨p1,p2⟩=((b1 - a1)*(p2 - a2) - (b2 - a2)*(p1 - a1))*((b1 - a1)*(p2 - a2) - (b2 - a2)*(p1 - a1)) / ((b1 - a1)*(b1 - a1)+(b2 - a2)*(b2 - a2)):=(if_neg h).trans (if_neg h')
theorem aUJ (h:¬ (b1 - a1)*(p1 - a1)+(b2 - a2)*(p2 - a2) <= 0) (h':¬ (b1 - a1)*(b1 - a1)+(b2 - a2)*(b2 - a2) <= (b1 - a1)*(p1 - a1)+(b2 - a2)*(p2 - a2)):(b1 - a1)*(b1 - a1)+(b2 - a2)*(b2 - a2) ≠ 0:=by
 intro e
 rw [e] at h'
 rw [Rat.not_le] at h h'
 exact absurd (Std.lt_trans h h') (Rat.lt_irrefl)
theorem aCN (h1:szR a1 <= 100) (h2:szR a2 <= 100) (h3:szR b1 <= 100) (h4:szR b2 <= 100) (h5:szR p1 <= 100) (h6:szR p2 <= 100):szR (Rt.seg ⟨a1,a2⟩ ⟨b1,b2⟩ ⟨p1,p2⟩) <= 200000:=by
 by_cases k1:(b1 - a1)*(p1 - a1)+(b2 - a2)*(p2 - a2) <= 0
 ·rw [b0D k1]; (first | omega | (apply Nat.le_trans; (focus (repeat' first | assumption | apply a0B | apply a0D | apply a0C)); omega))
 ·by_cases k2:(b1 - a1)*(b1 - a1)+(b2 - a2)*(b2 - a2) <= (b1 - a1)*(p1 - a1)+(b2 - a2)*(p2 - a2)
  ·rw [b08 k1 k2]; (first | omega | (apply Nat.le_trans; (focus (repeat' first | assumption | apply a0B | apply a0D | apply a0C)); omega))
  ·rw [b07 k1 k2]
   have d1:=aWv (((b1 - a1)*(p2 - a2) - (b2 - a2)*(p1 - a1))*((b1 - a1)*(p2 - a2) - (b2 - a2)*(p1 - a1))) _ (aUJ k1 k2)
   have d2:szR (((b1 - a1)*(p2 - a2) - (b2 - a2)*(p1 - a1))*((b1 - a1)*(p2 - a2) - (b2 - a2)*(p1 - a1))) <= 60000:=by (first | omega | (apply Nat.le_trans; (focus (repeat' first | assumption | apply a0B | apply a0D | apply a0C)); omega))
   have d3:szR ((b1 - a1)*(b1 - a1)+(b2 - a2)*(b2 - a2)) <= 20000:=by (first | omega | (apply Nat.le_trans; (focus (repeat' first | assumption | apply a0B | apply a0D | apply a0C)); omega))
   omega
theorem a9M (c1 c2 a1 a2:Rat):Rt.seg ⟨c1,c2⟩ ⟨c1,c2⟩ ⟨a1,a2⟩=Rt.dot ((⟨c1,c2⟩:Rt.V2).sub ⟨a1,a2⟩) ((⟨c1,c2⟩:Rt.V2).sub ⟨a1,a2⟩):=by
 have e:(c1 - c1)*(a1 - c1)+(c2 - c2)*(a2 - c2) <= 0:=by grind
 rw [b0D e]
 simp only [Rt.dot,Rt.V2.sub]
 grind
end
def aZL:Ctr:=⟨378,spY (gR.c (gR.c r0)) (fun (p,q,_)=>szR p <= 1000000/\szR q <= 1000000) (fun (p,q,_)=>.k (.g [.R ((p - q))]))⟩
theorem aNh (p q:Rat) (hp:szR p <= 1000000/\szR q <= 1000000):owes LT aSa [] Tryz.f378 (bd Tryz.f378) [.g [.R (p)],.g [.R (q)]] (.k (.g [.R ((p - q))])):=by
 refine Eq.mp (show ((szR p <= 1000000/\szR q <= 1000000)/\(((p - q)=(p - q))/\True))=_ by kernel_rfl) ?_
 exact ⟨hp,rfl,trivial⟩
theorem aT9:CtrOK Tryz.prog aZL:=yOK a1w aBl Tryz.func378 fun _ hp=>aNh _ _ hp
def aZP:Ctr:=⟨379,spY (gR.c (gR.c r0)) (fun (p,q,_)=>szR p <= 1000000/\szR q <= 1000000) (fun (p,q,_)=>.k (.g [.R ((p+q))]))⟩
theorem aNm (p q:Rat) (hp:szR p <= 1000000/\szR q <= 1000000):owes LT aSa [] Tryz.f379 (bd Tryz.f379) [.g [.R (p)],.g [.R (q)]] (.k (.g [.R ((p+q))])):=by
 refine Eq.mp (show ((szR p <= 1000000/\szR q <= 1000000)/\(((p+q)=(p+q))/\True))=_ by kernel_rfl) ?_
 exact ⟨hp,rfl,trivial⟩
theorem aUd:CtrOK Tryz.prog aZP:=yOK a1w aBl Tryz.func379 fun _ hp=>aNm _ _ hp
def aZN:Ctr:=⟨276,spY (gR.c (gR.c r0)) (fun (p,q,_)=>szR p <= 1000000/\szR q <= 1000000) (fun (p,q,_)=>.k (.g [.R ((p*q))]))⟩
theorem aNj (p q:Rat) (hp:szR p <= 1000000/\szR q <= 1000000):owes LT aSa [] Tryz.f276 (bd Tryz.f276) [.g [.R (p)],.g [.R (q)]] (.k (.g [.R ((p*q))])):=by
 refine Eq.mp (show ((szR p <= 1000000/\szR q <= 1000000)/\(((p*q)=(p*q))/\True))=_ by kernel_rfl) ?_
 exact ⟨hp,rfl,trivial⟩
theorem aUb:CtrOK Tryz.prog aZN:=yOK a1w aBl Tryz.func276 fun _ hp=>aNj _ _ hp
def aVv:Ctr:=⟨275,spY (gR.c (gR.c r0)) (fun (p,q,_)=>q ≠ 0/\szR p <= 1000000/\szR q <= 1000000) (fun (p,q,_)=>.k (.g [.R ((p / q))]))⟩
theorem aJe (p q:Rat) (hp:q ≠ 0/\szR p <= 1000000/\szR q <= 1000000):owes LT aSa [] Tryz.f275 (bd Tryz.f275) [.g [.R (p)],.g [.R (q)]] (.k (.g [.R ((p / q))])):=by
 refine Eq.mp (show ((q ≠ 0/\szR p <= 1000000/\szR q <= 1000000)/\((((0:Int) != (0:Int))=true->((-9223372036854775808 <= (0:Int)/\(0:Int) <= 9223372036854775807)/\((((0:Int):Rat)=(p / q))/\True)))/\(((0:Int) != (0:Int))=false->(((p / q)=(p / q))/\True))))=_ by kernel_rfl) ?_
 refine ⟨hp,fun h=>?_,fun _=>⟨rfl,trivial⟩⟩
 simp at h
theorem aQR:CtrOK Tryz.prog aVv:=yOK a1w aBl Tryz.func275 fun _ hp=>aJe _ _ hp
def aWc:List Ctr:=aSa ++ [aZL,aZP,aZN,aVv]
theorem aEs:∀ c ∈ aWc,CtrOK Tryz.prog c:=a0O aBl (a03 aT9 (a03 aUd (a03 aUb (a03 aQR (a2L)))))
def aZK:Ctr:=⟨272,spY (gRR.c (gRR.c r0)) (fun ((a1,a2),(b1,b2),_)=>szR a1 <= 100000/\szR a2 <= 100000/\szR b1 <= 100000/\szR b2 <= 100000) (fun ((a1,a2),(b1,b2),_)=>.k (.g [.R ((b1 - a1)),.R ((b2 - a2))]))⟩
theorem aNg (a1 a2 b1 b2:Rat) (hp:szR a1 <= 100000/\szR a2 <= 100000/\szR b1 <= 100000/\szR b2 <= 100000):owes LT aWc [] Tryz.f272 (bd Tryz.f272) [.g [.R (a1),.R (a2)],.g [.R (b1),.R (b2)]] (.k (.g [.R ((b1 - a1)),.R ((b2 - a2))])):=by
 refine Eq.mp (show ((szR b1 <= 1000000/\szR a1 <= 1000000)/\((szR b2 <= 1000000/\szR a2 <= 1000000)/\(((b1 - a1)=(b1 - a1))/\(((b2 - a2)=(b2 - a2))/\True))))=_ by kernel_rfl) ?_
 obtain ⟨h1,h2,h3,h4⟩:=hp
 ((repeat' first | apply And.intro | (intro _)) <;> first | trivial | rfl | (first | omega | (apply Nat.le_trans; (focus (repeat' first | assumption | apply a0B | apply a0D | apply a0C)); omega)) | skip)
theorem aT8:CtrOK Tryz.prog aZK:=yOK a1w aEs Tryz.func272 fun _ hp=>aNg _ _ _ _ hp
def aQS:Ctr:=⟨273,spY (gRR.c (gRR.c r0)) (fun ((a1,a2),(b1,b2),_)=>szR a1 <= 100000/\szR a2 <= 100000/\szR b1 <= 100000/\szR b2 <= 100000) (fun ((a1,a2),(b1,b2),_)=>.k (.g [.R ((a1*b2 - a2*b1))]))⟩
theorem aGi (a1 a2 b1 b2:Rat) (hp:szR a1 <= 100000/\szR a2 <= 100000/\szR b1 <= 100000/\szR b2 <= 100000):owes LT aWc [] Tryz.f273 (bd Tryz.f273) [.g [.R (a1),.R (a2)],.g [.R (b1),.R (b2)]] (.k (.g [.R ((a1*b2 - a2*b1))])):=by
 refine Eq.mp (show ((szR a1 <= 1000000/\szR b2 <= 1000000)/\((szR a2 <= 1000000/\szR b1 <= 1000000)/\((szR (a1*b2) <= 1000000/\szR (a2*b1) <= 1000000)/\((((a1*b2) - (a2*b1))=(a1*b2 - a2*b1))/\True))))=_ by kernel_rfl) ?_
 obtain ⟨h1,h2,h3,h4⟩:=hp
 ((repeat' first | apply And.intro | (intro _)) <;> first | trivial | rfl | (first | omega | (apply Nat.le_trans; (focus (repeat' first | assumption | apply a0B | apply a0D | apply a0C)); omega)) | skip)
theorem aNl:CtrOK Tryz.prog aQS:=yOK a1w aEs Tryz.func273 fun _ hp=>aGi _ _ _ _ hp
def aZO:Ctr:=⟨274,spY (gRR.c (gRR.c r0)) (fun ((a1,a2),(b1,b2),_)=>szR a1 <= 100000/\szR a2 <= 100000/\szR b1 <= 100000/\szR b2 <= 100000) (fun ((a1,a2),(b1,b2),_)=>.k (.g [.R ((a1*b1+a2*b2))]))⟩
theorem aNk (a1 a2 b1 b2:Rat) (hp:szR a1 <= 100000/\szR a2 <= 100000/\szR b1 <= 100000/\szR b2 <= 100000):owes LT aWc [] Tryz.f274 (bd Tryz.f274) [.g [.R (a1),.R (a2)],.g [.R (b1),.R (b2)]] (.k (.g [.R ((a1*b1+a2*b2))])):=by
 refine Eq.mp (show ((szR a1 <= 1000000/\szR b1 <= 1000000)/\((szR a2 <= 1000000/\szR b2 <= 1000000)/\((szR (a1*b1) <= 1000000/\szR (a2*b2) <= 1000000)/\((((a1*b1)+(a2*b2))=(a1*b1+a2*b2))/\True))))=_ by kernel_rfl) ?_
 obtain ⟨h1,h2,h3,h4⟩:=hp
 ((repeat' first | apply And.intro | (intro _)) <;> first | trivial | rfl | (first | omega | (apply Nat.le_trans; (focus (repeat' first | assumption | apply a0B | apply a0D | apply a0C)); omega)) | skip)
theorem aUc:CtrOK Tryz.prog aZO:=yOK a1w aEs Tryz.func274 fun _ hp=>aNk _ _ _ _ hp
def b0x:List Ctr:=aWc ++ [aZK,aQS,aZO]
theorem aR3:∀ c ∈ b0x,CtrOK Tryz.prog c:=a0O aEs (a03 aT8 (a03 aNl (a03 aUc (a2L))))
def aZM:Ctr:=⟨166,spY (gRR.c (gRR.c (gRR.c r0))) (fun ((a1,a2),(b1,b2),(p1,p2),_)=>szR a1 <= 100/\szR a2 <= 100/\szR b1 <= 100/\szR b2 <= 100/\szR p1 <= 100/\szR p2 <= 100) (fun ((a1,a2),(b1,b2),(p1,p2),_)=>.k (.g [.R ((Rt.seg ⟨a1,a2⟩ ⟨b1,b2⟩ ⟨p1,p2⟩))]))⟩
def aIy (b1:Rat) (a1:Rat) (b2:Rat) (a2:Rat):=((b1 - a1)*(b1 - a1)+(b2 - a2)*(b2 - a2))
def aIx (b1:Rat) (a1:Rat) (p2:Rat) (a2:Rat) (b2:Rat) (p1:Rat):=((b1 - a1)*(p2 - a2) - (b2 - a2)*(p1 - a1))
def aMx (b1:Rat) (a1:Rat) (p1:Rat) (b2:Rat) (a2:Rat) (p2:Rat):=((b1 - a1)*(p1 - a1)+(b2 - a2)*(p2 - a2))
theorem aNi (a1 a2 b1 b2 p1 p2:Rat) (hp:szR a1 <= 100/\szR a2 <= 100/\szR b1 <= 100/\szR b2 <= 100/\szR p1 <= 100/\szR p2 <= 100):owes LT b0x [] Tryz.f166 (bd Tryz.f166) [.g [.R (a1),.R (a2)],.g [.R (b1),.R (b2)],.g [.R (p1),.R (p2)]] (.k (.g [.R ((Rt.seg ⟨a1,a2⟩ ⟨b1,b2⟩ ⟨p1,p2⟩))])):=by
 refine Eq.mp (show ((szR a1 <= 100000/\szR a2 <= 100000/\szR b1 <= 100000/\szR b2 <= 100000)/\((szR a1 <= 100000/\szR a2 <= 100000/\szR p1 <= 100000/\szR p2 <= 100000)/\((szR (b1 - a1) <= 100000/\szR (b2 - a2) <= 100000/\szR (b1 - a1) <= 100000/\szR (b2 - a2) <= 100000)/\((szR (b1 - a1) <= 100000/\szR (b2 - a2) <= 100000/\szR (p1 - a1) <= 100000/\szR (p2 - a2) <= 100000)/\(True/\(((decide ((Rt.sg (aMx b1 a1 p1 b2 a2 p2)) <= (0:Int)))=true->((szR (p1 - a1) <= 100000/\szR (p2 - a2) <= 100000/\szR (p1 - a1) <= 100000/\szR (p2 - a2) <= 100000)/\((((p1 - a1)*(p1 - a1)+(p2 - a2)*(p2 - a2))=(Rt.seg ⟨a1,a2⟩ ⟨b1,b2⟩ ⟨p1,p2⟩))/\True)))/\((decide ((Rt.sg (aMx b1 a1 p1 b2 a2 p2)) <= (0:Int)))=false->((szR (aMx b1 a1 p1 b2 a2 p2) <= 1000000/\szR (aIy b1 a1 b2 a2) <= 1000000)/\(((decide ((Rt.sg ((aMx b1 a1 p1 b2 a2 p2) - (aIy b1 a1 b2 a2))) >= (0:Int)))=true->((szR b1 <= 100000/\szR b2 <= 100000/\szR p1 <= 100000/\szR p2 <= 100000)/\((szR (p1 - b1) <= 100000/\szR (p2 - b2) <= 100000/\szR (p1 - b1) <= 100000/\szR (p2 - b2) <= 100000)/\((((p1 - b1)*(p1 - b1)+(p2 - b2)*(p2 - b2))=(Rt.seg ⟨a1,a2⟩ ⟨b1,b2⟩ ⟨p1,p2⟩))/\True))))/\((decide ((Rt.sg ((aMx b1 a1 p1 b2 a2 p2) - (aIy b1 a1 b2 a2))) >= (0:Int)))=false->((szR (b1 - a1) <= 100000/\szR (b2 - a2) <= 100000/\szR (p1 - a1) <= 100000/\szR (p2 - a2) <= 100000)/\((szR (aIx b1 a1 p2 a2 b2 p1) <= 1000000/\szR (aIx b1 a1 p2 a2 b2 p1) <= 1000000)/\(((aIy b1 a1 b2 a2) ≠ 0/\szR ((aIx b1 a1 p2 a2 b2 p1)*(aIx b1 a1 p2 a2 b2 p1)) <= 1000000/\szR (aIy b1 a1 b2 a2) <= 1000000)/\(((((aIx b1 a1 p2 a2 b2 p1)*(aIx b1 a1 p2 a2 b2 p1)) / (aIy b1 a1 b2 a2))=(Rt.seg ⟨a1,a2⟩ ⟨b1,b2⟩ ⟨p1,p2⟩))/\True))))))))))))))=_ by kernel_rfl) ?_
 delta aMx aIx aIy
 obtain ⟨h1,h2,h3,h4,h5,h6⟩:=hp
 refine ⟨by ((repeat' first | apply And.intro | (intro _)) <;> first | trivial | rfl | (first | omega | (apply Nat.le_trans; (focus (repeat' first | assumption | apply a0B | apply a0D | apply a0C)); omega)) | skip),by ((repeat' first | apply And.intro | (intro _)) <;> first | trivial | rfl | (first | omega | (apply Nat.le_trans; (focus (repeat' first | assumption | apply a0B | apply a0D | apply a0C)); omega)) | skip),by ((repeat' first | apply And.intro | (intro _)) <;> first | trivial | rfl | (first | omega | (apply Nat.le_trans; (focus (repeat' first | assumption | apply a0B | apply a0D | apply a0C)); omega)) | skip),by ((repeat' first | apply And.intro | (intro _)) <;> first | trivial | rfl | (first | omega | (apply Nat.le_trans; (focus (repeat' first | assumption | apply a0B | apply a0D | apply a0C)); omega)) | skip),trivial,fun h=>⟨by ((repeat' first | apply And.intro | (intro _)) <;> first | trivial | rfl | (first | omega | (apply Nat.le_trans; (focus (repeat' first | assumption | apply a0B | apply a0D | apply a0C)); omega)) | skip),?_,trivial⟩,fun h=>⟨by ((repeat' first | apply And.intro | (intro _)) <;> first | trivial | rfl | (first | omega | (apply Nat.le_trans; (focus (repeat' first | assumption | apply a0B | apply a0D | apply a0C)); omega)) | skip),fun h'=>⟨by ((repeat' first | apply And.intro | (intro _)) <;> first | trivial | rfl | (first | omega | (apply Nat.le_trans; (focus (repeat' first | assumption | apply a0B | apply a0D | apply a0C)); omega)) | skip),by ((repeat' first | apply And.intro | (intro _)) <;> first | trivial | rfl | (first | omega | (apply Nat.le_trans; (focus (repeat' first | assumption | apply a0B | apply a0D | apply a0C)); omega)) | skip),?_,trivial⟩,fun h'=>⟨by ((repeat' first | apply And.intro | (intro _)) <;> first | trivial | rfl | (first | omega | (apply Nat.le_trans; (focus (repeat' first | assumption | apply a0B | apply a0D | apply a0C)); omega)) | skip),by ((repeat' first | apply And.intro | (intro _)) <;> first | trivial | rfl | (first | omega | (apply Nat.le_trans; (focus (repeat' first | assumption | apply a0B | apply a0D | apply a0C)); omega)) | skip),⟨?_,by ((repeat' first | apply And.intro | (intro _)) <;> first | trivial | rfl | (first | omega | (apply Nat.le_trans; (focus (repeat' first | assumption | apply a0B | apply a0D | apply a0C)); omega)) | skip)⟩,?_,trivial⟩⟩⟩
 ·exact (b0D (Rt.aOp.1 (of_decide_eq_true h))).symm
 ·exact (b08 (fun e=>of_decide_eq_false h (Rt.aOp.2 e)) (Rt.a7c.1 (of_decide_eq_true h'))).symm
 ·exact aUJ (fun e=>of_decide_eq_false h (Rt.aOp.2 e)) (fun e=>of_decide_eq_false h' (Rt.a7c.2 e))
 ·exact (b07 (fun e=>of_decide_eq_false h (Rt.aOp.2 e)) (fun e=>of_decide_eq_false h' (Rt.a7c.2 e))).symm
theorem aUa:CtrOK Tryz.prog aZM:=yOK a1w aR3 Tryz.func166 fun _ hp=>aNi _ _ _ _ _ _ hp
def b0w:List Ctr:=b0x ++ [aZM]
theorem aR2:∀ c ∈ b0w,CtrOK Tryz.prog c:=a0O aR3 (a03 aUa (a2L))
def aVt:Ctr:=⟨165,spY (gRR.c (gRR.c (gRR.c (gRR.c r0)))) (fun ((a1,a2),(b1,b2),(c1,c2),(d1,d2),_)=>(c1=d1/\c2=d2)/\szR a1 <= 100/\szR a2 <= 100/\szR b1 <= 100/\szR b2 <= 100/\szR c1 <= 100/\szR c2 <= 100/\szR d1 <= 100/\szR d2 <= 100) (fun _=>.k (.c (.v (.bool (false)))))⟩
def aDm (b1:Rat) (a1:Rat) (c2:Rat) (a2:Rat) (b2:Rat) (c1:Rat) (d2:Rat) (d1:Rat):=(decide (((Rt.sg ((b1 - a1)*(c2 - a2) - (b2 - a2)*(c1 - a1)))*(Rt.sg ((b1 - a1)*(d2 - a2) - (b2 - a2)*(d1 - a1)))) < (0:Int)))
theorem aJc (a1 a2 b1 b2 c1 c2 d1 d2:Rat) (hp:(c1=d1/\c2=d2)/\szR a1 <= 100/\szR a2 <= 100/\szR b1 <= 100/\szR b2 <= 100/\szR c1 <= 100/\szR c2 <= 100/\szR d1 <= 100/\szR d2 <= 100):owes LT b0w [] Tryz.f165 (bd Tryz.f165) [.g [.R (a1),.R (a2)],.g [.R (b1),.R (b2)],.g [.R (c1),.R (c2)],.g [.R (d1),.R (d2)]] (.k (.c (.v (.bool (false))))):=by
 refine Eq.mp (show ((szR a1 <= 100000/\szR a2 <= 100000/\szR b1 <= 100000/\szR b2 <= 100000)/\((szR c1 <= 100000/\szR c2 <= 100000/\szR d1 <= 100000/\szR d2 <= 100000)/\((szR a1 <= 100000/\szR a2 <= 100000/\szR c1 <= 100000/\szR c2 <= 100000)/\((szR (b1 - a1) <= 100000/\szR (b2 - a2) <= 100000/\szR (c1 - a1) <= 100000/\szR (c2 - a2) <= 100000)/\(True/\((szR a1 <= 100000/\szR a2 <= 100000/\szR d1 <= 100000/\szR d2 <= 100000)/\((szR (b1 - a1) <= 100000/\szR (b2 - a2) <= 100000/\szR (d1 - a1) <= 100000/\szR (d2 - a2) <= 100000)/\(True/\((inR .i64 ((Rt.sg ((b1 - a1)*(c2 - a2) - (b2 - a2)*(c1 - a1)))*(Rt.sg ((b1 - a1)*(d2 - a2) - (b2 - a2)*(d1 - a1)))))/\((((aDm b1 a1 c2 a2 b2 c1 d2 d1) == true)=true->(szR c1 <= 100000/\szR c2 <= 100000/\szR a1 <= 100000/\szR a2 <= 100000))/\((((aDm b1 a1 c2 a2 b2 c1 d2 d1) == true)=true->(szR (d1 - c1) <= 100000/\szR (d2 - c2) <= 100000/\szR (a1 - c1) <= 100000/\szR (a2 - c2) <= 100000))/\((((aDm b1 a1 c2 a2 b2 c1 d2 d1) == true)=true->True)/\((((aDm b1 a1 c2 a2 b2 c1 d2 d1) == true)=true->(szR c1 <= 100000/\szR c2 <= 100000/\szR b1 <= 100000/\szR b2 <= 100000))/\((((aDm b1 a1 c2 a2 b2 c1 d2 d1) == true)=true->(szR (d1 - c1) <= 100000/\szR (d2 - c2) <= 100000/\szR (b1 - c1) <= 100000/\szR (b2 - c2) <= 100000))/\((((aDm b1 a1 c2 a2 b2 c1 d2 d1) == true)=true->True)/\((((aDm b1 a1 c2 a2 b2 c1 d2 d1) == true)=true->(inR .i64 ((Rt.sg ((d1 - c1)*(a2 - c2) - (d2 - c2)*(a1 - c1)))*(Rt.sg ((d1 - c1)*(b2 - c2) - (d2 - c2)*(b1 - c1))))))/\(Value.bool (bif (aDm b1 a1 c2 a2 b2 c1 d2 d1) then (decide (((Rt.sg ((d1 - c1)*(a2 - c2) - (d2 - c2)*(a1 - c1)))*(Rt.sg ((d1 - c1)*(b2 - c2) - (d2 - c2)*(b1 - c1)))) < (0:Int))) else false)=(.bool false))))))))))))))))))=_ by kernel_rfl) ?_
 delta aDm
 obtain ⟨⟨rfl,rfl⟩,h1,h2,h3,h4,h5,h6,h7,h8⟩:=hp
 have hs:=Rt.a4a ((b1 - a1)*(c2 - a2) - (b2 - a2)*(c1 - a1))
 refine ⟨by ((repeat' first | apply And.intro | (intro _)) <;> first | trivial | rfl | (first | omega | (apply Nat.le_trans; (focus (repeat' first | assumption | apply a0B | apply a0D | apply a0C)); omega)) | skip),by ((repeat' first | apply And.intro | (intro _)) <;> first | trivial | rfl | (first | omega | (apply Nat.le_trans; (focus (repeat' first | assumption | apply a0B | apply a0D | apply a0C)); omega)) | skip),by ((repeat' first | apply And.intro | (intro _)) <;> first | trivial | rfl | (first | omega | (apply Nat.le_trans; (focus (repeat' first | assumption | apply a0B | apply a0D | apply a0C)); omega)) | skip),by ((repeat' first | apply And.intro | (intro _)) <;> first | trivial | rfl | (first | omega | (apply Nat.le_trans; (focus (repeat' first | assumption | apply a0B | apply a0D | apply a0C)); omega)) | skip),trivial,by ((repeat' first | apply And.intro | (intro _)) <;> first | trivial | rfl | (first | omega | (apply Nat.le_trans; (focus (repeat' first | assumption | apply a0B | apply a0D | apply a0C)); omega)) | skip),by ((repeat' first | apply And.intro | (intro _)) <;> first | trivial | rfl | (first | omega | (apply Nat.le_trans; (focus (repeat' first | assumption | apply a0B | apply a0D | apply a0C)); omega)) | skip),trivial,?_⟩
 generalize Rt.sg ((b1 - a1)*(c2 - a2) - (b2 - a2)*(c1 - a1))=s at hs ⊢
 rcases hs with rfl | rfl | rfl <;> simp [inR]
theorem aQP:CtrOK Tryz.prog aVt:=yOK a1w aR2 Tryz.func165 fun _ hp=>aJc _ _ _ _ _ _ _ _ hp
def b0v:List Ctr:=b0w ++ [aVt]
theorem aR1:∀ c ∈ b0v,CtrOK Tryz.prog c:=a0O aR2 (a03 aQP (a2L))
def aVu:Ctr:=⟨86,spY (gRR.c (gRR.c (gRR.c (gRR.c r0)))) (fun ((a1,a2),(b1,b2),(c1,c2),(d1,d2),_)=>(c1=d1/\c2=d2)/\szR a1 <= 100/\szR a2 <= 100/\szR b1 <= 100/\szR b2 <= 100/\szR c1 <= 100/\szR c2 <= 100/\szR d1 <= 100/\szR d2 <= 100) (fun ((a1,a2),(b1,b2),(c1,c2),_)=>.k (.g [.R ((Rt.seg ⟨a1,a2⟩ ⟨b1,b2⟩ ⟨c1,c2⟩))]))⟩
def a9d:=(((0:Int)+(1:Int))+(1:Int))
def a7z (a1:Rat) (a2:Rat) (b1:Rat) (b2:Rat) (c1:Rat) (c2:Rat):=(Rt.seg ⟨a1,a2⟩ ⟨b1,b2⟩ ⟨c1,c2⟩)
def a8q (a1:Rat) (a2:Rat) (b1:Rat) (b2:Rat) (d1:Rat) (d2:Rat):=(Rt.seg ⟨a1,a2⟩ ⟨b1,b2⟩ ⟨d1,d2⟩)
def aDl:=(decide ((a9d+(1:Int)) < (3:Int)))
def a9c (c1:Rat) (c2:Rat) (d1:Rat) (d2:Rat) (a1:Rat) (a2:Rat):=(Rt.seg ⟨c1,c2⟩ ⟨d1,d2⟩ ⟨a1,a2⟩)
def aAA (c1:Rat) (c2:Rat) (d1:Rat) (d2:Rat) (b1:Rat) (b2:Rat):=(Rt.seg ⟨c1,c2⟩ ⟨d1,d2⟩ ⟨b1,b2⟩)
def a9b (a1:Rat) (a2:Rat) (b1:Rat) (b2:Rat) (c1:Rat) (c2:Rat):=(Rt.seg ⟨a1,a2⟩ ⟨b1,b2⟩ ⟨c1,c2⟩)
def aPE:=(decide (((0:Int)+(1:Int)) < (3:Int)))
def aFK:=(inR .i64 (a9d+(1:Int)))
def aTb (c1:Rat) (c2:Rat) (d1:Rat) (d2:Rat) (b1:Rat) (b2:Rat) (a1:Rat) (a2:Rat):=(aFK/\((aDl=true->False)/\(aDl=false->(((aAA c1 c2 d1 d2 b1 b2)=(a9b a1 a2 b1 b2 c1 c2))/\True))))
def aXf (c1:Rat) (c2:Rat) (d1:Rat) (d2:Rat) (b1:Rat) (b2:Rat) (a1:Rat) (a2:Rat):=((inR .i64 a9d)/\(((decide (a9d < (3:Int)))=true->((szR (aAA c1 c2 d1 d2 b1 b2) <= 1000000/\szR (a9c c1 c2 d1 d2 a1 a2) <= 1000000)/\(((decide ((Rt.sg ((aAA c1 c2 d1 d2 b1 b2) - (a9c c1 c2 d1 d2 a1 a2))) < (0:Int)))=true->(aTb c1 c2 d1 d2 b1 b2 a1 a2))/\((decide ((Rt.sg ((aAA c1 c2 d1 d2 b1 b2) - (a9c c1 c2 d1 d2 a1 a2))) < (0:Int)))=false->(aFK/\((aDl=true->False)/\(aDl=false->(((a9c c1 c2 d1 d2 a1 a2)=(a9b a1 a2 b1 b2 c1 c2))/\True))))))))/\((decide (a9d < (3:Int)))=false->(((a9c c1 c2 d1 d2 a1 a2)=(a9b a1 a2 b1 b2 c1 c2))/\True))))
theorem aJd (a1 a2 b1 b2 c1 c2 d1 d2:Rat) (hp:(c1=d1/\c2=d2)/\szR a1 <= 100/\szR a2 <= 100/\szR b1 <= 100/\szR b2 <= 100/\szR c1 <= 100/\szR c2 <= 100/\szR d1 <= 100/\szR d2 <= 100):owes LT b0v [.unroll 5 4] Tryz.f86 (bd Tryz.f86) [.g [.R (a1),.R (a2)],.g [.R (b1),.R (b2)],.g [.R (c1),.R (c2)],.g [.R (d1),.R (d2)]] (.k (.g [.R ((Rt.seg ⟨a1,a2⟩ ⟨b1,b2⟩ ⟨c1,c2⟩))])):=by
 refine Eq.mp (show (((c1=d1/\c2=d2)/\szR a1 <= 100/\szR a2 <= 100/\szR b1 <= 100/\szR b2 <= 100/\szR c1 <= 100/\szR c2 <= 100/\szR d1 <= 100/\szR d2 <= 100)/\((false=true->((-9223372036854775808 <= (0:Int)/\(0:Int) <= 9223372036854775807)/\((((0:Int):Rat)=(a9b a1 a2 b1 b2 c1 c2))/\True)))/\(false=false->((szR a1 <= 100/\szR a2 <= 100/\szR b1 <= 100/\szR b2 <= 100/\szR c1 <= 100/\szR c2 <= 100)/\((szR a1 <= 100/\szR a2 <= 100/\szR b1 <= 100/\szR b2 <= 100/\szR d1 <= 100/\szR d2 <= 100)/\((szR c1 <= 100/\szR c2 <= 100/\szR d1 <= 100/\szR d2 <= 100/\szR a1 <= 100/\szR a2 <= 100)/\((szR c1 <= 100/\szR c2 <= 100/\szR d1 <= 100/\szR d2 <= 100/\szR b1 <= 100/\szR b2 <= 100)/\(((decide ((0:Int) < (3:Int)))=true->((szR (a8q a1 a2 b1 b2 d1 d2) <= 1000000/\szR (a7z a1 a2 b1 b2 c1 c2) <= 1000000)/\(((decide ((Rt.sg ((a8q a1 a2 b1 b2 d1 d2) - (a7z a1 a2 b1 b2 c1 c2))) < (0:Int)))=true->((inR .i64 ((0:Int)+(1:Int)))/\((aPE=true->((szR (a9c c1 c2 d1 d2 a1 a2) <= 1000000/\szR (a8q a1 a2 b1 b2 d1 d2) <= 1000000)/\(((decide ((Rt.sg ((a9c c1 c2 d1 d2 a1 a2) - (a8q a1 a2 b1 b2 d1 d2))) < (0:Int)))=true->(aXf c1 c2 d1 d2 b1 b2 a1 a2))/\((decide ((Rt.sg ((a9c c1 c2 d1 d2 a1 a2) - (a8q a1 a2 b1 b2 d1 d2))) < (0:Int)))=false->((inR .i64 a9d)/\(((decide (a9d < (3:Int)))=true->((szR (aAA c1 c2 d1 d2 b1 b2) <= 1000000/\szR (a8q a1 a2 b1 b2 d1 d2) <= 1000000)/\(((decide ((Rt.sg ((aAA c1 c2 d1 d2 b1 b2) - (a8q a1 a2 b1 b2 d1 d2))) < (0:Int)))=true->(aTb c1 c2 d1 d2 b1 b2 a1 a2))/\((decide ((Rt.sg ((aAA c1 c2 d1 d2 b1 b2) - (a8q a1 a2 b1 b2 d1 d2))) < (0:Int)))=false->(aFK/\((aDl=true->False)/\(aDl=false->(((a8q a1 a2 b1 b2 d1 d2)=(a9b a1 a2 b1 b2 c1 c2))/\True))))))))/\((decide (a9d < (3:Int)))=false->(((a8q a1 a2 b1 b2 d1 d2)=(a9b a1 a2 b1 b2 c1 c2))/\True))))))))/\(aPE=false->(((a8q a1 a2 b1 b2 d1 d2)=(a9b a1 a2 b1 b2 c1 c2))/\True)))))/\((decide ((Rt.sg ((a8q a1 a2 b1 b2 d1 d2) - (a7z a1 a2 b1 b2 c1 c2))) < (0:Int)))=false->((inR .i64 ((0:Int)+(1:Int)))/\((aPE=true->((szR (a9c c1 c2 d1 d2 a1 a2) <= 1000000/\szR (a7z a1 a2 b1 b2 c1 c2) <= 1000000)/\(((decide ((Rt.sg ((a9c c1 c2 d1 d2 a1 a2) - (a7z a1 a2 b1 b2 c1 c2))) < (0:Int)))=true->(aXf c1 c2 d1 d2 b1 b2 a1 a2))/\((decide ((Rt.sg ((a9c c1 c2 d1 d2 a1 a2) - (a7z a1 a2 b1 b2 c1 c2))) < (0:Int)))=false->((inR .i64 a9d)/\(((decide (a9d < (3:Int)))=true->((szR (aAA c1 c2 d1 d2 b1 b2) <= 1000000/\szR (a7z a1 a2 b1 b2 c1 c2) <= 1000000)/\(((decide ((Rt.sg ((aAA c1 c2 d1 d2 b1 b2) - (a7z a1 a2 b1 b2 c1 c2))) < (0:Int)))=true->(aTb c1 c2 d1 d2 b1 b2 a1 a2))/\((decide ((Rt.sg ((aAA c1 c2 d1 d2 b1 b2) - (a7z a1 a2 b1 b2 c1 c2))) < (0:Int)))=false->(aFK/\((aDl=true->False)/\(aDl=false->(((a7z a1 a2 b1 b2 c1 c2)=(a9b a1 a2 b1 b2 c1 c2))/\True))))))))/\((decide (a9d < (3:Int)))=false->(((a7z a1 a2 b1 b2 c1 c2)=(a9b a1 a2 b1 b2 c1 c2))/\True))))))))/\(aPE=false->(((a7z a1 a2 b1 b2 c1 c2)=(a9b a1 a2 b1 b2 c1 c2))/\True))))))))/\((decide ((0:Int) < (3:Int)))=false->(((a7z a1 a2 b1 b2 c1 c2)=(a9b a1 a2 b1 b2 c1 c2))/\True))))))))))=_ by kernel_rfl) ?_
 delta aXf aTb aFK aPE a9b aAA a9c aDl a8q a7z a9d
 obtain ⟨⟨rfl,rfl⟩,h1,h2,h3,h4,h5,h6,h7,h8⟩:=hp
 have z1:=aCN (a1:=a1) (a2:=a2) (b1:=b1) (b2:=b2) (p1:=c1) (p2:=c2) h1 h2 h3 h4 h5 h6
 have z2:=aCN (a1:=c1) (a2:=c2) (b1:=c1) (b2:=c2) (p1:=a1) (p2:=a2) h5 h6 h5 h6 h1 h2
 have z3:=aCN (a1:=c1) (a2:=c2) (b1:=c1) (b2:=c2) (p1:=b1) (p2:=b2) h5 h6 h5 h6 h3 h4
 have g1:=Rt.aSw ⟨a1,a2⟩ ⟨b1,b2⟩ ⟨c1,c2⟩
 have g2:=Rt.aSv ⟨a1,a2⟩ ⟨b1,b2⟩ ⟨c1,c2⟩
 have e2:Rt.seg ⟨c1,c2⟩ ⟨c1,c2⟩ ⟨a1,a2⟩=Rt.dot ((⟨c1,c2⟩:Rt.V2).sub ⟨a1,a2⟩) ((⟨c1,c2⟩:Rt.V2).sub ⟨a1,a2⟩):=a9M _ _ _ _
 have e3:Rt.seg ⟨c1,c2⟩ ⟨c1,c2⟩ ⟨b1,b2⟩=Rt.dot ((⟨c1,c2⟩:Rt.V2).sub ⟨b1,b2⟩) ((⟨c1,c2⟩:Rt.V2).sub ⟨b1,b2⟩):=a9M _ _ _ _
 rw [<- e2] at g1
 rw [<- e3] at g2
 generalize Rt.seg ⟨c1,c2⟩ ⟨c1,c2⟩ ⟨a1,a2⟩=S2 at *
 generalize Rt.seg ⟨c1,c2⟩ ⟨c1,c2⟩ ⟨b1,b2⟩=S3 at *
 generalize Rt.seg ⟨a1,a2⟩ ⟨b1,b2⟩ ⟨c1,c2⟩=S at *
 have f1:decide (Rt.sg (S - S) < 0)=false:=decide_eq_false (by rw [Rt.a5K]; exact Rat.lt_irrefl)
 have f2:decide (Rt.sg (S2 - S) < 0)=false:=decide_eq_false (by rw [Rt.a5K]; exact Rat.not_lt.2 g1)
 have f3:decide (Rt.sg (S3 - S) < 0)=false:=decide_eq_false (by rw [Rt.a5K]; exact Rat.not_lt.2 g2)
 simp only [f1,f2,f3]
 refine ⟨⟨⟨trivial,trivial⟩,h1,h2,h3,h4,h5,h6,h5,h6⟩,?_⟩
 have z1':szR S <= 1000000:=by omega
 have z2':szR S2 <= 1000000:=by omega
 have z3':szR S3 <= 1000000:=by omega
 simp [inR,h1,h2,h3,h4,h5,h6,z1',z2',z3']
theorem aQQ:CtrOK Tryz.prog aVu:=yOK a1w aR1 Tryz.func86 fun _ hp=>aJd _ _ _ _ _ _ _ _ hp
def aYy:List Ctr:=b0v ++ [aVu]
theorem aJ5:∀ c ∈ aYy,CtrOK Tryz.prog c:=a0O aR1 (a03 aQQ (a2L))
def aQT:Ctr:=⟨42,spY (rI.c r0) (fun (n,_)=>-9223372036854775808 <= n/\n <= 9223372036854775807) (fun (n,_)=>.k (.g [.R ((n:Rat))]))⟩
theorem aGk (n:Int) (hp:-9223372036854775808 <= n/\n <= 9223372036854775807):owes LT aYy [] Tryz.f42 (bd Tryz.f42) [.c (.v (.int .i64 (n)))] (.k (.g [.R ((n:Rat))])):=by
 refine Eq.mp (show ((-9223372036854775808 <= n/\n <= 9223372036854775807)/\(((n:Rat)=(n:Rat))/\True))=_ by kernel_rfl) ?_
 exact ⟨hp,rfl,trivial⟩
theorem aNn:CtrOK Tryz.prog aQT:=yOK a1w aJ5 Tryz.func42 fun _ hp=>aGk _ hp
def aQU:Ctr:=⟨87,spY (gRR.c (gRR.c r0)) (fun ((a1,a2),(b1,b2),_)=>szR a1 <= 100000/\szR a2 <= 100000/\szR b1 <= 100000/\szR b2 <= 100000) (fun ((a1,a2),(b1,b2),_)=>.k (.g [.R ((a1*b2 - a2*b1))]))⟩
theorem aGl (a1 a2 b1 b2:Rat) (hp:szR a1 <= 100000/\szR a2 <= 100000/\szR b1 <= 100000/\szR b2 <= 100000):owes LT aYy [] Tryz.f87 (bd Tryz.f87) [.g [.R (a1),.R (a2)],.g [.R (b1),.R (b2)]] (.k (.g [.R ((a1*b2 - a2*b1))])):=by
 refine Eq.mp (show ((szR a1 <= 1000000/\szR b2 <= 1000000)/\((szR a2 <= 1000000/\szR b1 <= 1000000)/\((szR (a1*b2) <= 1000000/\szR (a2*b1) <= 1000000)/\((((a1*b2) - (a2*b1))=(a1*b2 - a2*b1))/\True))))=_ by kernel_rfl) ?_
 obtain ⟨h1,h2,h3,h4⟩:=hp
 ((repeat' first | apply And.intro | (intro _)) <;> first | trivial | rfl | (first | omega | (apply Nat.le_trans; (focus (repeat' first | assumption | apply a0B | apply a0D | apply a0C)); omega)) | skip)
theorem aNp:CtrOK Tryz.prog aQU:=yOK a1w aJ5 Tryz.func87 fun _ hp=>aGl _ _ _ _ hp
def b0u:List Ctr:=aYy ++ [aQT,aQU]
theorem aR0:∀ c ∈ b0u,CtrOK Tryz.prog c:=a0O aJ5 (a03 aNn (a03 aNp (a2L)))
def aUf:Ctr:=⟨85,fun | [.g [.v (.int .i64 (m)),.v (.int .i64 (n))]]=>.yes ((-9223372036854775808 <= m/\m <= 9223372036854775807)/\-9223372036854775808 <= n/\n <= 9223372036854775807) (.k (.g [.R ((m:Rat)),.R ((n:Rat))])) | _=>.no⟩
theorem aNo (m n:Int) (hp:(-9223372036854775808 <= m/\m <= 9223372036854775807)/\-9223372036854775808 <= n/\n <= 9223372036854775807):owes LT b0u [] Tryz.f85 (bd Tryz.f85) [.g [.v (.int .i64 (m)),.v (.int .i64 (n))]] (.k (.g [.R ((m:Rat)),.R ((n:Rat))])):=by
 refine Eq.mp (show ((-9223372036854775808 <= m/\m <= 9223372036854775807)/\((-9223372036854775808 <= n/\n <= 9223372036854775807)/\(((m:Rat)=(m:Rat))/\(((n:Rat)=(n:Rat))/\True))))=_ by kernel_rfl) ?_
 exact ⟨hp.1,hp.2,⟨rfl,rfl,trivial⟩⟩
theorem aUe:CtrOK Tryz.prog aUf:=.of (by kernel_rfl) (fun bs w xs vs pre r hr hA hG h hp=>by
 simp only [aUf] at h
 split at h
 ·cases h
  exact a13 mixed a1w aR0 Tryz.func85 (by kernel_rfl) hr hA hG rfl rfl (aNo _ _ hp)
 ·cases h) (fun xs α pre φ r=>by simp only [aUf]; split <;> (intro h; cases h))
def b0t:List Ctr:=b0u ++ [aUf]
theorem aRZ:∀ c ∈ b0t,CtrOK Tryz.prog c:=a0O aR0 (a03 aUe (a2L))
end Vc
end Go.Proofs.YtbohkigffejhoaaGreat
namespace Go.Proofs.YtbohkigffejhoaaGreat
open Go.RowKit
namespace Vc
theorem aFS (l:List Nat) (k:Nat) (hk:k <= l.length) (h0:0 < k):∃ x,(l.take k).getD (k - 1) 0=x/\l.take k=l.take (k - 1) ++ [x]:=by
 obtain ⟨m,rfl⟩:∃ m,k=m+1:=⟨k - 1,by omega⟩
 refine ⟨l[m],?_,?_⟩
 ·simp [List.getD_eq_getElem?_getD,show m < l.length by omega]
 ·rw [List.take_succ_eq_append_getElem (by omega)]
  simp
def aLy:Ctr:=⟨133,fun | [.c (.sl (l))]=>.yes (l.length <= 1000000000) (.k (.c (.sl ((Lb.trim l))))) | _=>.no⟩
def aPC (l:List Nat) (x1:Nat):=(((l.take x1).length:Int) - (1:Int))
def aW9 (l:List Nat) (x1:Nat):=(bif (decide (((l.take x1).length:Int) > (0:Int))) then ((((l.take x1).getD (aPC l x1).toNat 0:Nat):Int) == (0:Int)) else false)
theorem aI5 (l:List Nat) (hp:l.length <= 1000000000):owes LT CT0 [.inv 1 (Nat) (fun ξ=>⟨[.k (.c (.sl ((l.take ξ)))),.u,.u,.u,.u,.u,.u,.u,.u,.u,.u,.u,.u,.u,.u,.u,.u,.u,.u,.u,.u],[]⟩) (fun _ ξ=>(ξ <= l.length/\Lb.trim (l.take ξ)=Lb.trim l)) (fun ξ=>ξ)] Tryz.f133 (bd Tryz.f133) [.c (.sl (l))] (.k (.c (.sl ((Lb.trim l))))):=by
 refine Eq.mp (show ((∃ x1:Nat,((x1 <= l.length/\Lb.trim (l.take x1)=Lb.trim l)/\(((l=(l.take x1))/\True)/\True)))/\(∀ x1:Nat,((x1 <= l.length/\Lb.trim (l.take x1)=Lb.trim l)->((((decide (((l.take x1).length:Int) > (0:Int))) == true)=true->(inR .i64 (aPC l x1)))/\((((decide (((l.take x1).length:Int) > (0:Int))) == true)=true->(0 <= ((l.take x1).length:Int) - (1:Int)/\((l.take x1).length:Int) - (1:Int) < ((l.take x1).length:Int)))/\(((aW9 l x1)=true->((inR .i64 (aPC l x1))/\((0 <= ((l.take x1).length:Int) - (1:Int)/\((l.take x1).length:Int) - (1:Int) <= ((l.take x1).length:Int))/\(∃ y1:Nat,((y1 <= l.length/\Lb.trim (l.take y1)=Lb.trim l)/\((y1 < x1)/\((((l.take x1).take (aPC l x1).toNat=(l.take y1))/\True)/\True)))))))/\((aW9 l x1)=false->((l.take x1)=(Lb.trim l)))))))))=_ by kernel_rfl) ?_
 delta aW9 aPC
 refine ⟨⟨l.length,⟨Nat.le_refl _,by rw [List.take_length]⟩,⟨by rw [List.take_length],by simp⟩,by simp⟩,?_⟩
 rintro k ⟨hk,ht⟩
 have hlen:(l.take k).length=k:=by simp; omega
 have ek:((k:Int) - 1).toNat=k - 1:=by omega
 simp only [hlen,ek]
 refine ⟨fun h=>by simp only [inR]; omega,fun h=>?_,fun h=>?_,fun h=>?_⟩
 ·have:0 < k:=by simpa using h
  omega
 ·have h0:0 < k:=by
   rcases Nat.eq_zero_or_pos k with e | e
   ·subst e; simp at h
   ·exact e
  obtain ⟨x,hx1,hx2⟩:=aFS l k hk h0
  rw [hx1] at h
  have hx0:x=0:=by
   have hd:decide ((k:Int) > 0)=true:=by simp; omega
   rw [hd] at h
   simpa using h
  subst hx0
  refine ⟨by simp only [inR]; omega,⟨by omega,by omega⟩,k - 1,⟨by omega,?_⟩,by omega,⟨?_,trivial⟩,trivial⟩
  ·rw [<- ht,hx2,Lb.a3a]
  ·rw [List.take_take,Nat.min_eq_left (by omega)]
 ·rw [<- ht]
  rcases Nat.eq_zero_or_pos k with e | e
  ·subst e
   rfl
  ·obtain ⟨x,hx1,hx2⟩:=aFS l k hk e
   rw [hx1] at h
   have hd:decide ((k:Int) > 0)=true:=by simp; omega
   rw [hd] at h
   have hx0:x ≠ 0:=by simpa using h
   refine (Lb.a4W fun hne=>?_).symm
   have hg:(l.take k).getLast hne=x:=by
    have:∀ (m:List Nat) (hm:m ≠ []),m=l.take (k - 1) ++ [x]->m.getLast hm=x:=by
     intro m hm e
     subst e
     simp
    exact this _ _ hx2
   rw [hg]
   exact hx0
theorem aQC:CtrOK Tryz.prog aLy:=.of (by kernel_rfl) (fun bs w xs vs pre r hr hA hG h hp=>by
 simp only [aLy] at h
 split at h
 ·cases h
  exact a13 mixed a1w aR4 Tryz.func133 (by kernel_rfl) hr hA hG rfl rfl (aI5 _ hp)
 ·cases h) (fun xs α pre φ r=>by simp only [aLy]; split <;> (intro h; cases h))
def RT0:List Ctr:=CT0 ++ [aLy]
theorem aRQ:∀ c ∈ RT0,CtrOK Tryz.prog c:=a0O aR4 (a03 aQC (a2L))
def a9x:Ctr:=⟨62,fun | [.c (.v (.bool (b))),.c (.sl (l))]=>.yes (Lb.Lt l/\l.length <= 1000000000) (.k (.g [.I ((sgn b (Lb.val l)))])) | _=>.no⟩
theorem aDF (b:Bool) (l:List Nat) (hp:Lb.Lt l/\l.length <= 1000000000):owes LT RT0 [] Tryz.f62 (bd Tryz.f62) [.c (.v (.bool (b))),.c (.sl (l))] (.k (.g [.I ((sgn b (Lb.val l)))])):=by
 refine Eq.mp (show ((l.length <= 1000000000)/\((Value.bool (bif b then (decide (((Lb.trim l).length:Int) > (0:Int))) else false)=.bool (decide ((sgn b (Lb.val l)) < 0)))/\(((Lb.trim l)=Lb.limbs (sgn b (Lb.val l)).natAbs)/\True)))=_ by kernel_rfl) ?_
 obtain ⟨hl,hn⟩:=hp
 have ht:Lb.trim l=Lb.limbs (Lb.val l):=Lb.a4k hl
 refine ⟨hn,?_,?_,trivial⟩
 ·have hc:decide (((Lb.limbs (Lb.val l)).length:Int) > 0)=decide (0 < Lb.val l):=by
   rw [decide_eq_decide]
   rcases Nat.eq_zero_or_pos (Lb.val l) with e | e
   ·rw [e,Lb.a1b]; simp
   ·rw [Lb.a2q (by omega)]; simp only [List.length_cons]; omega
  rw [aHY,ht,hc]
  cases b <;> rfl
 ·rw [a5a,ht]
theorem aAK:CtrOK Tryz.prog a9x:=.of (by kernel_rfl) (fun bs w xs vs pre r hr hA hG h hp=>by
 simp only [a9x] at h
 split at h
 ·cases h
  exact a13 mixed a1w aRQ Tryz.func62 (by kernel_rfl) hr hA hG rfl rfl (aDF _ _ hp)
 ·cases h) (fun xs α pre φ r=>by simp only [a9x]; split <;> (intro h; cases h))
def aTV:Ctr:=⟨222,fun | [.c (.sl (a)),.c (.sl (b))]=>.yes ((Lb.a5G a/\Lb.a5G b)/\a.length <= 1000000000/\b.length <= 1000000000) (.k (.c (.v (.int .i64 ((a3L (Lb.val a) (Lb.val b))))))) | _=>.no⟩
def aPB (a:List Nat) (x1:Nat):=((a.getD ((x1:Int) - (1:Int)).toNat 0:Nat):Int)
def aPA (b:List Nat) (x1:Nat):=((b.getD ((x1:Int) - (1:Int)).toNat 0:Nat):Int)
def aMw (a:List Nat) (b:List Nat):Value:=(.int .i64 (a3L (Lb.val a) (Lb.val b)))
theorem aNb (a b:List Nat) (hp:(Lb.a5G a/\Lb.a5G b)/\a.length <= 1000000000/\b.length <= 1000000000):owes LT RT0 [.inv 6 (Nat) (fun ξ=>⟨[.k (.c (.sl (a))),.k (.c (.sl (b))),.u,.u,.u,.k (.c (.v (.int .i64 (((ξ:Int) - (1:Int)))))),.u,.u,.u,.u,.u,.u,.u,.u,.u,.u,.u,.u,.u,.u,.u,.u,.u,.u,.u,.u,.u,.u,.u,.u,.u,.u,.u,.u,.u,.u,.u,.u,.u,.u,.u],[]⟩) (fun _ ξ=>(ξ <= a.length/\a.length=b.length/\a.drop ξ=b.drop ξ)) (fun ξ=>ξ)] Tryz.f222 (bd Tryz.f222) [.c (.sl (a)),.c (.sl (b))] (.k (.c (.v (.int .i64 ((a3L (Lb.val a) (Lb.val b))))))):=by
 refine Eq.mp (show ((((a.length:Int) != (b.length:Int))=true->(((decide ((a.length:Int) < (b.length:Int)))=true->(Value.int .i64 (-1:Int)=(aMw a b)))/\((decide ((a.length:Int) < (b.length:Int)))=false->(Value.int .i64 (1:Int)=(aMw a b)))))/\(((a.length:Int) != (b.length:Int))=false->((inR .i64 ((a.length:Int) - (1:Int)))/\((∃ x1:Nat,((x1 <= a.length/\a.length=b.length/\a.drop x1=b.drop x1)/\(((a=a)/\((b=b)/\((Value.int .i64 ((a.length:Int) - (1:Int))=(.int .i64 ((x1:Int) - (1:Int))))/\True)))/\True)))/\(∀ x1:Nat,((x1 <= a.length/\a.length=b.length/\a.drop x1=b.drop x1)->(((decide (((x1:Int) - (1:Int)) >= (0:Int)))=true->((0 <= ((x1:Int) - (1:Int))/\((x1:Int) - (1:Int)) < (a.length:Int))/\((0 <= ((x1:Int) - (1:Int))/\((x1:Int) - (1:Int)) < (b.length:Int))/\(((decide ((aPB a x1) < (aPA b x1)))=true->(Value.int .i64 (-1:Int)=(aMw a b)))/\((decide ((aPB a x1) < (aPA b x1)))=false->((0 <= ((x1:Int) - (1:Int))/\((x1:Int) - (1:Int)) < (a.length:Int))/\((0 <= ((x1:Int) - (1:Int))/\((x1:Int) - (1:Int)) < (b.length:Int))/\(((decide ((aPB a x1) > (aPA b x1)))=true->(Value.int .i64 (1:Int)=(aMw a b)))/\((decide ((aPB a x1) > (aPA b x1)))=false->((inR .i64 (((x1:Int) - (1:Int)) - (1:Int)))/\(∃ y1:Nat,((y1 <= a.length/\a.length=b.length/\a.drop y1=b.drop y1)/\((y1 < x1)/\(((a=a)/\((b=b)/\((Value.int .i64 (((x1:Int) - (1:Int)) - (1:Int))=(.int .i64 ((y1:Int) - (1:Int))))/\True)))/\True))))))))))))))/\((decide (((x1:Int) - (1:Int)) >= (0:Int)))=false->(Value.int .i64 (0:Int)=(aMw a b))))))))))=_ by kernel_rfl) ?_
 delta aMw aPA aPB
 obtain ⟨⟨ha,hb⟩,na,nb⟩:=hp
 refine ⟨fun h=>⟨fun h1=>?_,fun h1=>?_⟩,fun h=>⟨by simp only [inR]; omega,⟨a.length,⟨Nat.le_refl _,by have:(a.length:Int)=b.length:=(by simpa using h); omega,?_⟩,by simp,trivial⟩,?_⟩⟩
 ·rw [a3k (Lb.a5e ha hb (by simpa using h1))]
 ·have h2:(a.length:Int) ≠ b.length:=by simpa using h
  have h3:¬ a.length < b.length:=by simpa using h1
  rw [a3x (Lb.a5e hb ha (by omega))]
 ·have h2:(a.length:Int)=b.length:=by simpa using h
  have h2:a.length=b.length:=by omega
  rw [List.drop_length,h2,List.drop_length]
 rintro k ⟨hk,hlen,hd⟩
 refine ⟨fun h0=>?_,fun h0=>?_⟩
 ·have hk0:0 < k:=by have:=of_decide_eq_true h0; omega
  obtain ⟨m,rfl⟩:∃ m,k=m+1:=⟨k - 1,by omega⟩
  have e:(((m+1:Nat):Int) - 1).toNat=m:=by omega
  have hma:m < a.length:=by omega
  have hmb:m < b.length:=by omega
  have ea:a.getD m 0=a[m]:=by simp [List.getD_eq_getElem?_getD,hma]
  have eb:b.getD m 0=b[m]:=by simp [List.getD_eq_getElem?_getD,hmb]
  simp only [e,ea,eb]
  refine ⟨⟨by omega,by omega⟩,⟨by omega,by omega⟩,fun c=>?_,fun c=>⟨⟨by omega,by omega⟩,⟨by omega,by omega⟩,fun c'=>?_,fun c'=>⟨by simp only [inR]; omega,m,⟨by omega,hlen,?_⟩,by omega,by simp,trivial⟩⟩⟩
  ·rw [a3k (Lb.a7n ha.1 m hma hmb hd (by simpa using c))]
  ·rw [a3x (Lb.a7n hb.1 m hmb hma hd.symm (by simpa using c'))]
  ·have h1:¬ a[m] < b[m]:=by simpa using c
   have h2:¬ b[m] < a[m]:=by simpa using c'
   rw [List.drop_eq_getElem_cons hma,List.drop_eq_getElem_cons hmb,hd,show a[m]=b[m] by omega]
 ·have hk0:k=0:=by have:=of_decide_eq_false h0; omega
  subst hk0
  rw [List.drop_zero,List.drop_zero] at hd
  rw [a3V (by rw [hd])]
theorem aLB:CtrOK Tryz.prog aTV:=.of (by kernel_rfl) (fun bs w xs vs pre r hr hA hG h hp=>by
 simp only [aTV] at h
 split at h
 ·cases h
  exact a13 mixed a1w aRQ Tryz.func222 (by kernel_rfl) hr hA hG rfl rfl (aNb _ _ hp)
 ·cases h) (fun xs α pre φ r=>by simp only [aTV]; split <;> (intro h; cases h))
def RT1:List Ctr:=RT0 ++ [a9x,aTV]
theorem aHD:∀ c ∈ RT1,CtrOK Tryz.prog c:=a0O aRQ (a03 aAK (a03 aLB (a2L)))
def aVq:Ctr:=⟨58,spY (gI.c r0) (fun _=>True) (fun (z,_)=>.k (.c (.v (.int .i64 (z.sign)))))⟩
theorem aI7 (z:Int):owes LT RT1 [] Tryz.f58 (bd Tryz.f58) [.g [.I (z)]] (.k (.c (.v (.int .i64 (z.sign))))):=by
 refine Eq.mp (show (((((Lb.limbs z.natAbs).length:Int) == (0:Int))=true->(Value.int .i64 (0:Int)=(.int .i64 z.sign)))/\((((Lb.limbs z.natAbs).length:Int) == (0:Int))=false->(((decide (z < 0))=true->(Value.int .i64 (-1:Int)=(.int .i64 z.sign)))/\((decide (z < 0))=false->(Value.int .i64 (1:Int)=(.int .i64 z.sign))))))=_ by kernel_rfl) ?_
 have hl:((Lb.limbs z.natAbs).length:Int)=0 ↔ z=0:=by
  rcases Nat.eq_zero_or_pos z.natAbs with e | e
  ·rw [e,Lb.a1b]; simp; omega
  ·rw [Lb.a2q (by omega)]; simp only [List.length_cons]; omega
 refine ⟨fun h=>?_,fun h=>⟨fun h1=>?_,fun h1=>?_⟩⟩
 ·have h0:z=0:=hl.1 (beq_iff_eq.1 h)
  rw [h0]; rfl
 ·rw [Int.sign_eq_neg_one_of_neg (of_decide_eq_true h1)]
 ·have h0:z ≠ 0:=fun e=>by
   rw [hl.2 e] at h
   cases h
  have h2:=of_decide_eq_false h1
  rw [Int.sign_eq_one_of_pos (by omega)]
theorem aQE:CtrOK Tryz.prog aVq:=yOK a1w aHD Tryz.func58 fun _ _=>aI7 _
def aZF:Ctr:=⟨59,spY (gI.c r0) (fun (z,_)=>szI z <= 10000000) (fun (z,_)=>.k (.g [.I ((-z))]))⟩
theorem aM6 (z:Int) (hp:szI z <= 10000000):owes LT RT1 [] Tryz.f59 (bd Tryz.f59) [.g [.I (z)]] (.k (.g [.I ((-z))])):=by
 refine Eq.mp (show ((Lb.Lt (Lb.limbs z.natAbs)/\(Lb.limbs z.natAbs).length <= 1000000000)/\(((sgn (!(decide (z < 0))) (Lb.val (Lb.limbs z.natAbs)))=(-z))/\True))=_ by kernel_rfl) ?_
 unfold szI at hp
 refine ⟨⟨(Lb.a0f _).1,by omega⟩,?_,trivial⟩
 rw [Lb.a0a]
 unfold sgn
 by_cases h:z < 0
 ·simp [h]; omega
 ·simp [h]; omega
theorem aTS:CtrOK Tryz.prog aZF:=yOK a1w aHD Tryz.func59 fun _ hp=>aM6 _ hp
def RT2:List Ctr:=RT1 ++ [aVq,aZF]
theorem aZ6:∀ c ∈ RT2,CtrOK Tryz.prog c:=a0O aHD (a03 aQE (a03 aTS (a2L)))
def aDG:Ctr:=⟨130,fun | [.c (.sl (l))]=>.yes (Lb.Lt l/\l.length <= 2) (.k (.c (.v (.int .u64 ((Lb.val l:Int)))))) | _=>.no⟩
def aW8 (l:List Nat) (x1:Nat):=(((Lb.val (l.drop x1):Int)*(1000000000:Int))+((l.getD ((x1:Int) - (1:Int)).toNat 0:Nat):Int))
theorem aGg (l:List Nat) (hp:Lb.Lt l/\l.length <= 2):owes LT RT1 [.inv 3 (Nat) (fun ξ=>⟨[.k (.c (.sl (l))),.u,.u,.k (.c (.v (.int .u64 ((Lb.val (l.drop ξ):Int))))),.k (.c (.v (.int .i64 (((ξ:Int) - (1:Int)))))),.u,.u,.u,.u,.u,.u,.u,.u,.u,.u,.u,.u,.u,.u,.u,.u],[]⟩) (fun _ ξ=>(ξ <= l.length)) (fun ξ=>ξ)] Tryz.f130 (bd Tryz.f130) [.c (.sl (l))] (.k (.c (.v (.int .u64 ((Lb.val l:Int)))))):=by
 refine Eq.mp (show ((inR .i64 ((l.length:Int) - (1:Int)))/\((∃ x1:Nat,((x1 <= l.length)/\(((l=l)/\((Value.int .u64 (0:Int)=(.int .u64 (Lb.val (l.drop x1):Int)))/\((Value.int .i64 ((l.length:Int) - (1:Int))=(.int .i64 ((x1:Int) - (1:Int))))/\True)))/\True)))/\(∀ x1:Nat,((x1 <= l.length)->(((decide (((x1:Int) - (1:Int)) >= (0:Int)))=true->((inR .u64 ((Lb.val (l.drop x1):Int)*(1000000000:Int)))/\((0 <= ((x1:Int) - (1:Int))/\((x1:Int) - (1:Int)) < (l.length:Int))/\((inR .u64 ((l.getD ((x1:Int) - (1:Int)).toNat 0:Nat):Int))/\((inR .u64 (aW8 l x1))/\((inR .i64 (((x1:Int) - (1:Int)) - (1:Int)))/\(∃ y1:Nat,((y1 <= l.length)/\((y1 < x1)/\(((l=l)/\((Value.int .u64 (aW8 l x1)=(.int .u64 (Lb.val (l.drop y1):Int)))/\((Value.int .i64 (((x1:Int) - (1:Int)) - (1:Int))=(.int .i64 ((y1:Int) - (1:Int))))/\True)))/\True))))))))))/\((decide (((x1:Int) - (1:Int)) >= (0:Int)))=false->(Value.int .u64 (Lb.val (l.drop x1):Int)=(.int .u64 (Lb.val l:Int)))))))))=_ by kernel_rfl) ?_
 delta aW8
 obtain ⟨hl,hn⟩:=hp
 refine ⟨by simp only [inR]; omega,⟨l.length,Nat.le_refl _,by simp [Lb.val],trivial⟩,fun k hk=>⟨fun h=>?_,fun h=>?_⟩⟩
 ·have hk0:0 < k:=by have:=of_decide_eq_true h; omega
  obtain ⟨m,rfl⟩:∃ m,k=m+1:=⟨k - 1,by omega⟩
  have e:(((m+1:Nat):Int) - 1).toNat=m:=by omega
  have hm:m < l.length:=by omega
  have ea:l.getD m 0=l[m]:=by simp [List.getD_eq_getElem?_getD,hm]
  have hx:=Lb.a1s hl m hm
  have hv:=Lb.a1R l m hm
  have hb:=Lb.a3l (Lb.a9Z hl (m+1))
  have hb2:Lb.B ^ (l.drop (m+1)).length <= Lb.B ^ 1:=Nat.pow_le_pow_right Lb.a3r (by simp; omega)
  rw [Lb.a4R] at hx hv
  have hb3:Lb.B ^ 1=1000000000:=rfl
  rw [hb3] at hb2
  simp only [e,ea]
  refine ⟨by simp only [inR]; omega,⟨by omega,by omega⟩,by simp only [inR]; omega,by simp only [inR]; omega,by simp only [inR]; omega,m,by omega,by omega,⟨trivial,?_,by simp,trivial⟩,trivial⟩
  congr 1
  omega
 ·have hk0:k=0:=by have:=of_decide_eq_false h; omega
  subst hk0
  rfl
theorem aCt:CtrOK Tryz.prog aDG:=.of (by kernel_rfl) (fun bs w xs vs pre r hr hA hG h hp=>by
 simp only [aDG] at h
 split at h
 ·cases h
  exact a13 mixed a1w aHD Tryz.func130 (by kernel_rfl) hr hA hG rfl rfl (aGg _ hp)
 ·cases h) (fun xs α pre φ r=>by simp only [aDG]; split <;> (intro h; cases h))
def aVr:Ctr:=⟨314,spY (gI.c (gI.c r0)) (fun (x,y,_)=>szI x <= 10000000/\szI y <= 10000000) (fun (x,y,_)=>.k (.c (.v (.bool (decide (x=y))))))⟩
theorem aI8 (x y:Int) (hp:szI x <= 10000000/\szI y <= 10000000):owes LT RT1 [] Tryz.f314 (bd Tryz.f314) [.g [.I (x)],.g [.I (y)]] (.k (.c (.v (.bool (decide (x=y)))))):=by
 refine Eq.mp (show (((((decide (x < 0)) == (decide (y < 0))) == true)=true->((Lb.a5G (Lb.limbs x.natAbs)/\Lb.a5G (Lb.limbs y.natAbs))/\(Lb.limbs x.natAbs).length <= 1000000000/\(Lb.limbs y.natAbs).length <= 1000000000))/\(Value.bool (bif ((decide (x < 0)) == (decide (y < 0))) then ((a3L (Lb.val (Lb.limbs x.natAbs)) (Lb.val (Lb.limbs y.natAbs))) == (0:Int)) else false)=(.bool (decide (x=y)))))=_ by kernel_rfl) ?_
 unfold szI at hp
 obtain ⟨h1,h2⟩:=hp
 refine ⟨fun _=>⟨⟨Lb.a0f _,Lb.a0f _⟩,by omega,by omega⟩,?_⟩
 rw [Lb.a0a,Lb.a0a]
 congr 1
 have hc:(a3L x.natAbs y.natAbs == 0)=decide (x.natAbs=y.natAbs):=by
  rcases Nat.lt_trichotomy x.natAbs y.natAbs with h | h | h
  ·rw [a3k h,decide_eq_false (by omega)]; rfl
  ·rw [a3V h,decide_eq_true h]; rfl
  ·rw [a3x h,decide_eq_false (by omega)]; rfl
 rw [hc]
 by_cases a1:x < 0 <;> by_cases a2:y < 0 <;> simp [a1,a2] <;> omega
theorem aQF:CtrOK Tryz.prog aVr:=yOK a1w aHD Tryz.func314 fun _ hp=>aI8 _ _ hp
def RT3:List Ctr:=RT2 ++ [aDG,aVr]
theorem aVZ:∀ c ∈ RT3,CtrOK Tryz.prog c:=a0O aZ6 (a03 aCt (a03 aQF (a2L)))
def aQB:Ctr:=⟨313,spY (gI.c r0) (fun (z,_)=>szI z <= 10000000) (fun _=>.k (.c (.v (.bool (true)))))⟩
def aMv (z:Int):=((Lb.limbs z.natAbs).length:Int)
theorem aGf (z:Int) (hp:szI z <= 10000000):owes LT RT3 [.inv 2 (Nat) (fun ξ=>⟨[.u,.k (.c (.bx 0 0)),.u,.k (.c (.v (.int .i64 ((ξ:Int))))),.u,.u,.u,.u,.u,.u,.u,.u,.u,.u,.u,.u,.u,.u,.u,.u,.u,.u,.u,.u,.u,.u,.u,.u,.u,.u,.u,.u,.u,.u,.u,.u],[⟨33,[.I (z)]⟩]⟩) (fun _ ξ=>(ξ <= (Lb.limbs z.natAbs).length)) (fun ξ=>(Lb.limbs z.natAbs).length - ξ)] Tryz.f313 (bd Tryz.f313) [.g [.I (z)]] (.k (.c (.v (.bool (true))))):=by
 refine Eq.mp (show ((∃ x1:Nat,((x1 <= (Lb.limbs z.natAbs).length)/\((True/\((Value.int .i64 (0:Int)=(.int .i64 (x1:Int)))/\True))/\(((z=z)/\True)/\True))))/\(∀ x1:Nat,((x1 <= (Lb.limbs z.natAbs).length)->(((decide ((x1:Int) < (aMv z)))=true->((0 <= (x1:Int)/\(x1:Int) < (aMv z))/\(((decide ((((Lb.limbs z.natAbs).getD (x1:Int).toNat 0:Nat):Int) >= (1000000000:Int)))=true->(Value.bool false=(.bool true)))/\((decide ((((Lb.limbs z.natAbs).getD (x1:Int).toNat 0:Nat):Int) >= (1000000000:Int)))=false->((inR .i64 ((x1:Int)+(1:Int)))/\(∃ y1:Nat,((y1 <= (Lb.limbs z.natAbs).length)/\(((Lb.limbs z.natAbs).length - y1 < (Lb.limbs z.natAbs).length - x1)/\((True/\((Value.int .i64 ((x1:Int)+(1:Int))=(.int .i64 (y1:Int)))/\True))/\(((z=z)/\True)/\True))))))))))/\((decide ((x1:Int) < (aMv z)))=false->(((Lb.limbs z.natAbs).length <= 1000000000)/\(Value.bool (bif (((Lb.trim (Lb.limbs z.natAbs)).length:Int) == (aMv z)) then (bif (!(decide (z < 0))) then true else (decide ((aMv z) > (0:Int)))) else false)=(.bool true))))))))=_ by kernel_rfl) ?_
 delta aMv
 unfold szI at hp
 have hN:=Lb.a0f z.natAbs
 have hT:Lb.trim (Lb.limbs z.natAbs)=Lb.limbs z.natAbs:=by rw [Lb.a4k hN.1,Lb.a0a]
 have hz:z < 0->0 < (Lb.limbs z.natAbs).length:=fun h=>by
  rw [Lb.a2q (by omega)]
  simp
 rw [hT]
 generalize Lb.limbs z.natAbs=l at *
 refine ⟨⟨0,Nat.zero_le _,by simp,by simp,trivial⟩,fun k hk=>⟨fun h=>?_,fun h=>?_⟩⟩
 ·have hkl:k < l.length:=by simpa using h
  have hx:=Lb.a1s hN.1 k hkl
  rw [Lb.a4R] at hx
  have ea:l.getD k 0=l[k]:=by simp [List.getD_eq_getElem?_getD,hkl]
  simp only [Int.toNat_natCast,ea]
  refine ⟨⟨by omega,by omega⟩,fun c=>?_,fun _=>⟨by simp only [inR]; omega,k+1,hkl,by omega,by simp,by simp,trivial⟩⟩
  have:=of_decide_eq_true c
  omega
 ·refine ⟨by omega,?_⟩
  by_cases h1:z < 0
  ·have:=hz h1
   simp [h1]
   exact this
  ·simp [h1]
theorem aM2:CtrOK Tryz.prog aQB:=yOK a1w aVZ Tryz.func313 fun _ hp=>aGf _ hp
def RT4:List Ctr:=RT3 ++ [aQB]
theorem aZ5:∀ c ∈ RT4,CtrOK Tryz.prog c:=a0O aVZ (a03 aM2 (a2L))
end Vc
end Go.Proofs.YtbohkigffejhoaaGreat
namespace Go.Proofs.YtbohkigffejhoaaGreat
open Go.RowKit
set_option maxHeartbeats 4000000
set_option maxRecDepth 8000
def aEn (u n:Nat) (o:List Nat):Prop:=Lb.limbs u=o ++ Lb.limbs n/\n <= u
theorem aFd {u n:Nat} {o:List Nat} (h:aEn u n o) (hn:0 < n):aEn u (n / 1000000000) (o ++ [n % 1000000000]):=by
 obtain ⟨h1,h2⟩:=h
 rw [Lb.a2q (n:=n) (by omega)] at h1
 rw [Lb.a4R] at h1
 exact ⟨by rw [h1]; simp,by omega⟩
theorem aIg {u n:Nat} {o:List Nat} (h:aEn u n o) (hu:u < 18446744073709551616):o.length <= 3:=by
 have h1:=congrArg List.length h.1
 have h2:=Lb.a0X (n:=u) (k:=3) (by
  have:Lb.B ^ 3=1000000000000000000000000000:=rfl
  omega)
 rw [List.length_append] at h1
 omega
theorem a5Q (u:Nat) (w:World) (hu:u < 18446744073709551616) :
    Calls Tryz.prog 63 #[.int .u64 (u:Int)] w (aZ4 w (Lb.limbs u)):=by
 go_enter Tryz.func63,Tryz.ntmps63
 go_wp2_with fail
 go_loopw [0,3] (fun i out wr=>∃ (n:Nat) (o:List Nat),i=.int .u64 n/\Hid (aEn u n o)/\Hid (OwnG w.heap.size 189 1 uC wr out o)/\Hid (Ext w wr)) (fun i _ _=>(intOf i).toNat)
 case atStart=>exact ⟨u,[],rfl,Lib.hid ⟨by simp,Nat.le_refl _⟩,Lib.hid (OwnG.nil _ _ _),Lib.hid (Ext.refl w)⟩
 case round =>
  obtain ⟨n,o,rfl,HL,HO,HE⟩:=hrel
  have HN:=Lib.hid (aIg HL.out hu)
  by_cases hn:0 < n
  ·have hq:decide ((n:Int) > 0)=true:=by simp; omega
   have HL2:=Lib.hid (aFd HL.out hn)
   obtain ⟨X,hX,hAX,heX,hzX⟩:=a1L wr [n % 1000000000]
   have HSX:=Lib.hid (hAX.all (n:=1) (cap:=1) rfl (Nat.le_refl _)); have HOX:=Lib.hid (HO.out.later heX); have HEX:=Lib.hid (HE.out.trans heX)
   have HBX:Hid (w.heap.size <= X.heap.size):=Lib.hid HEX.out.size
   have HM:Hid (o.length+[n % 1000000000].length <= maxLen):=Lib.hid (by have:=HN.out; unfold maxLen; simp; omega)
   have HB:Hid ((o.length+[n % 1000000000].length)*4 <= 140737488355328):=Lib.hid (by have:=HN.out; simp; omega)
   have e1:(n:Int) % 1000000000 < 1000000000:=by omega
   have e2:0 <= (n:Int) % 1000000000:=by omega
   have e3:0 <= (n:Int) / 1000000000:=by omega
   have e4:((1000000000:Nat):Int)=1000000000:=rfl
   have hnu:n <= u:=HL.out.2
   simp only [List.map_cons,List.map_nil,uV,Int.natCast_emod,e4] at hX
   clear hAX heX hzX HL HO HE HN e4
   go_wp2_with ((at_builtin; refine a2G rfl _ _ rfl Tryz.underlying31 Tryz.info_u32 rfl (by decide) a15 a3X w.heap.size _ _ o [n % 1000000000] rfl rfl HOX.out HSX.out HM.out HB.out HBX.out ?_; intro v6 w6 own6 hg6 hloc6))
   have E6:Ext w w6:=HEX.out.grown hg6 (fun i hi=>(HOX.out.base hi).1)
   go_roundw
   case rel=>exact ⟨n / 1000000000,o ++ [n % 1000000000],by go_num,HL2,Lib.hid own6,Lib.hid E6⟩
   case measure=>simp [intOf]; omega
  ·obtain rfl:n=0:=by omega
   have hl:=HL.out.1
   rw [Lb.a1b,List.append_nil] at hl
   have HS:=Lib.hid (HO.out.sl a15)
   rw [<- hl] at HS
   obtain ⟨a,c,rfl⟩:=SlU.form HS.out
   go_wp2_with fail
   go_ret
   exact ⟨_,_,_,rfl,HS.out,HE.out⟩
theorem a9P (b:Bool) (s:Value) (l:List Nat) (w:World) (hs:SlU w s l) (hl:Lb.Lt l) (hn:l.length <= 1000000000) :
    Calls Tryz.prog 62 #[.bool b,s] w (aEt w (sgn b (Lb.val l))):=by
 refine (Vc.aAK.yes ⟨w.heap.size,[],[],[]⟩ w [.c (.v (.bool b)),.c (.sl l)] [.bool b,s] _ _ ⟨⟨rfl,rfl⟩,⟨hs,trivial⟩,trivial⟩ rfl rfl rfl ⟨hl,hn⟩).mono ?_
 rintro e w' ⟨v,rfl,hx,hv⟩
 obtain ⟨b',s',rfl,hi⟩:=(Vc.a5B trivial trivial).1 hv
 obtain ⟨a,c,rfl⟩:=SlU.form hi.2
 exact ⟨b',a,_,c,rfl,hi,hx⟩
theorem aES (n:Int) (w:World) (h0:-9223372036854775808 <= n) (h1:n <= 9223372036854775807) :
    Calls Tryz.prog 25 #[.int .i64 n] w (aEt w n):=by
 obtain ⟨W,hW,hb,hE,hz⟩:=a0y w #[.bool false,.slice none 0 0] 33
 have HB:=Lib.hid hb; have HZ:=Lib.hid hz
 clear hb hz
 have hlen:∀ u:Nat,u < 18446744073709551616->(Lb.limbs u).length <= 1000000000:=fun u hu=>by
  have h2:=Lb.a0X (n:=u) (k:=3) (by
   have:Lb.B ^ 3=1000000000000000000000000000:=rfl
   omega)
  omega
 by_cases hneg:n < 0
 ·obtain ⟨u,rfl⟩:∃ u:Nat,n=-(u:Int):=⟨n.natAbs,by omega⟩
  have hu:u < 18446744073709551616:=by omega
  have hwr:IntKind.u64.wrap (-IntKind.u64.wrap (-(u:Int)))=(u:Int):=by rw [IntKind.wrap_u64,IntKind.wrap_u64]; omega
  have hsg:sgn true u=-(u:Int):=rfl
  have hup:0 < u:=by omega
  go_enter Tryz.func25,Tryz.ntmps25
  go_wp2_with fail
  refine (a5Q u _ hu).mono ?_
  rintro e w2 ⟨a,m,c,rfl,hs,hx⟩
  go_wp2_with fail
  refine (a9P true _ _ w2 hs (Lb.a0f u).1 (hlen u hu)).mono ?_
  rintro e w3 ⟨b3,a3,m3,c3,rfl,hs3,hx3⟩
  rw [Lb.a0a,hsg] at hs3
  have HK:=Lib.hid (a0P HB.out (hx.trans hx3))
  obtain ⟨r0,r1,r2,r3⟩:=a2B HK.out
  go_wp2_with fail
  exact bodyPost_ret (v:=.agg #[.bool b3,.slice a3 m3 c3]) (by simp [results,Tryz.results25,go_sem,r0,r1]) rfl (a3U ((hE.trans hx).trans hx3) (Nat.le_refl _) HK.out hs3)
 ·obtain ⟨u,rfl⟩:∃ u:Nat,n=(u:Int):=⟨n.natAbs,by omega⟩
  have hu:u < 18446744073709551616:=by omega
  have hsg:sgn false u=(u:Int):=rfl
  go_enter Tryz.func25,Tryz.ntmps25
  go_wp2_with fail
  refine (a5Q u _ hu).mono ?_
  rintro e w2 ⟨a,m,c,rfl,hs,hx⟩
  go_wp2_with fail
  refine (a9P false _ _ w2 hs (Lb.a0f u).1 (hlen u hu)).mono ?_
  rintro e w3 ⟨b3,a3,m3,c3,rfl,hs3,hx3⟩
  rw [Lb.a0a,hsg] at hs3
  have HK:=Lib.hid (a0P HB.out (hx.trans hx3))
  obtain ⟨r0,r1,r2,r3⟩:=a2B HK.out
  go_wp2_with fail
  exact bodyPost_ret (v:=.agg #[.bool b3,.slice a3 m3 c3]) (by simp [results,Tryz.results25,go_sem,r0,r1]) rfl (a3U ((hE.trans hx).trans hx3) (Nat.le_refl _) HK.out hs3)
end Go.Proofs.YtbohkigffejhoaaGreat
namespace Go.Proofs.YtbohkigffejhoaaGreat
open Go.RowKit
set_option maxRecDepth 8000
def aRN (w:World) (l:List Nat) (e:Ending) (w':World):Prop:=∃ a n c,e=.returned (.slice a n c)/\SlU w' (.slice a n c) l/\Ext w w'/\∀ b,(Value.slice a n c).ownBlock=some b->w.heap.size <= b
set_option maxHeartbeats 1000000 in
theorem a3N (v:Value) (l:List Nat) (w:World) (h:SlU w v l) (hn:l.length <= 1000000000) :
    Calls Tryz.prog 133 #[v] w (aBf w v (Lb.trim l)):=by
 rcases h.cases with ⟨rfl,a,cap,rfl,hc⟩ | ⟨h0,b,off,cap,rfl,hcap,hb,hcell⟩
 ·go_enter Tryz.func133,Tryz.ntmps133
  go_wp2
  go_loop [0] (fun t=>t=.slice a 0 cap) (fun _=>0)
  case atStart=>rfl
  case round =>
   subst hrel
   go_wp2
   go_ret
   exact ⟨_,rfl,SlU.empty hc,rfl,rfl⟩
 ·have HC:=Lib.hid hcell
  have HL:=Lib.hid hcap
  clear hcell hcap h
  go_enter Tryz.func133,Tryz.ntmps133
  go_wp2
  go_loop [0] (fun t=>∃ m,m <= l.length/\t=.slice (some ⟨b,off,none⟩) m cap/\Lb.trim (l.take m)=Lb.trim l) (fun t=>match t with | .slice _ m _=>m | _=>0)
  case atStart=>exact ⟨l.length,Nat.le_refl _,rfl,by rw [List.take_length]⟩
  case round =>
   obtain ⟨m,hm,rfl,htr⟩:=hrel
   have HT:=Lib.hid htr
   clear htr
   cases m with
   | zero =>
     go_wp2
     go_ret
     refine ⟨_,rfl,?_,rfl,rfl⟩
     rw [<- HT.out]
     exact SlU.empty (fun h=>by cases h)
   | succ j =>
     have hj:j < l.length:=by omega
     have c:=HC.out j hj
     have hjc:j+1 <= cap:=by have:=HL.out; omega
     have hlast:=a9I hj
     by_cases hz:l[j]=0
     ·rw [hz] at c
      have HZ:Hid (Lb.trim (l.take j)=Lb.trim l):=Lib.hid (by rw [<- HT.out,hlast,hz,Lb.a3a])
      clear hlast hz
      go_wp2
      go_round
      case rel=>exact ⟨j,by omega,by go_num,HZ.out⟩
      case measure=>simp
     ·have hne:((l[j]:Int) == 0)=false:=by simp; omega
      have HZ:Hid (l.take (j+1)=Lb.trim l):=Lib.hid (by
       rw [<- HT.out,Lb.a4W]
       intro h
       simp only [hlast,List.getLast_concat]
       exact hz)
      generalize (l[j]:Int)=x at c hne
      clear hlast hz
      go_wp2
      go_ret
      refine ⟨_,rfl,?_,rfl,rfl⟩
      rw [<- HZ.out]
      refine SlU.mk (by simp; omega) hjc (fun _=>hb) fun i hi=>?_
      have hi':i < l.length:=by simp at hi; omega
      rw [HC.out i hi']
      simp
end Go.Proofs.YtbohkigffejhoaaGreat
namespace Go.Proofs.YtbohkigffejhoaaGreat
open Go.RowKit
set_option maxRecDepth 8000
theorem a6j {a b o:List Nat} {k c s:Nat} (h:a4w a b k c o) (hs:s=a.getD k 0+b.getD k 0+c):a4w a b (k+1) (s / 1000000000) (o ++ [s % 1000000000]) :=
 ⟨by simp [h.len],Lb.a2p h.lt (Lb.a2R (by rw [Lb.a4R]; omega) Lb.a2Q),Lb.a9Q h.len h.sum (by rw [Lb.a4R]; omega)⟩
set_option maxHeartbeats 16000000 in
theorem aSE (v1 v2:Value) (a b:List Nat) (w:World) (h1:SlU w v1 a) (h2:SlU w v2 b) (k1:Lb.Lt a) (k2:Lb.Lt b) (n1:a.length <= 100000000) (hab:b.length <= a.length) :
    Calls Tryz.prog 224 #[v1,v2] w (aRN w (Lb.limbs (Lb.val a+Lb.val b))):=by
 obtain ⟨p1,q1,rfl⟩:=h1.form
 obtain ⟨p2,q2,rfl⟩:=h2.form
 have hlt:decide (a.length < b.length)=false:=by simp; omega
 have hmk:=a3K (a.length+1) (by omega)
 rw [Int.natCast_add] at hmk
 have e1:((1:Nat):Int)=1:=rfl
 rw [e1] at hmk
 obtain ⟨W,hW,hA,hE,hz⟩:=a1P w (a.length+1)
 have HA0:=Lib.hid hA
 have HE:=Lib.hid hE
 have H1:=Lib.hid h1; have H2:=Lib.hid h2; have HK1:=Lib.hid k1; have HK2:=Lib.hid k2; have HAB:Hid (b.length <= a.length):=Lib.hid (by omega)
 clear e1 hA hE hz h1 h2 k1 k2 hab
 go_enter Tryz.func224,Tryz.ntmps224
 go_wp2_with fail
 clear hmk
 go_loopw [6,7] (fun c i wr=>∃ (k cn:Nat) (o:List Nat),k <= a.length/\i=.int .i64 k/\c=.int .u32 cn/\cn <= 1/\Hid (a4w a b k cn o)/\Hid (ArrU wr w.heap.size (o ++ List.replicate (a.length+1 - k) 0))/\Hid (Ext w wr)) (fun _ i _=>a.length - (intOf i).toNat)
 case atStart=>exact ⟨0,0,[],Nat.zero_le _,rfl,rfl,by omega,Lib.hid (a3O a b),HA0,HE⟩
 case round =>
  clear hW HA0 HE hlt
  obtain ⟨k,cn,o,hk,rfl,rfl,hcn,HP,HA,HE⟩:=hrel
  have HL:Hid (o.length=k):=Lib.hid HP.out.len
  have hlen:k < (o ++ List.replicate (a.length+1 - k) 0).length:=by have:=HL.out; simp; omega
  have cs:=HA.out.cell k hlen
  have fs:=HA.out.free k
  generalize ((o ++ List.replicate (a.length+1 - k) 0)[k]:Int)=old at cs
  clear hlen
  by_cases hka:k < a.length
  ·have hx:a[k] < 1000000000:=Lb.a1s HK1.out k hka
   have HX:Hid (a.getD k 0=a[k]):=Lib.hid (by simp [hka])
   obtain ⟨g1,o1,rfl,cell1⟩:=(H1.out.later HE.out).at k hka
   generalize a[k]=x at *
   by_cases hkb:k < b.length
   ·have hy:b[k] < 1000000000:=Lb.a1s HK2.out k hkb
    have HY:Hid (b.getD k 0=b[k]):=Lib.hid (by simp [hkb])
    obtain ⟨g2,o2,rfl,cell2⟩:=(H2.out.later HE.out).at k hkb
    generalize b[k]=y at *
    have HP2:=Lib.hid (a6j (s:=cn+x+y) HP.out (by rw [HX.out,HY.out]; omega))
    have HAX:Hid (∀ u:Int,u=((cn:Int)+x+y) % 1000000000->ArrU (wr.setCell ⟨w.heap.size,k,none⟩ (.int .u32 u)) w.heap.size ((o ++ [(cn+x+y) % 1000000000]) ++ List.replicate (a.length+1 - (k+1)) 0)):=Lib.hid (fun u hu=>by
     have e:u=(((cn+x+y) % 1000000000:Nat):Int):=by rw [hu]; simp
     subst e; have:=HA.out.set k ((cn+x+y) % 1000000000); rwa [Lb.a2e HL.out (by omega)] at this)
    have HC:Hid (((cn:Int)+x+y) / 1000000000=(((cn+x+y) / 1000000000:Nat):Int)):=Lib.hid (by simp)
    have hc2:(cn+x+y) / 1000000000 <= 1:=by omega
    have HC2:=Lib.hid hc2
    clear hc2 HX HY HP HA HL
    go_wp2_with fail
    go_roundw
    case rel=>exact ⟨k+1,_,_,by omega,by go_num,by rw [HC.out],HC2.out,HP2,Lib.hid (HAX.out _ rfl),Lib.hid (HE.out.setCell (Nat.le_refl _) _)⟩
    case measure=>simp [intOf]; omega
   ·have HY:Hid (b.getD k 0=0):=Lib.hid (by simp [Nat.le_of_not_lt hkb])
    have HP2:=Lib.hid (a6j (s:=cn+x) HP.out (by rw [HX.out,HY.out]; omega))
    have HAX:Hid (∀ u:Int,u=((cn:Int)+x) % 1000000000->ArrU (wr.setCell ⟨w.heap.size,k,none⟩ (.int .u32 u)) w.heap.size ((o ++ [(cn+x) % 1000000000]) ++ List.replicate (a.length+1 - (k+1)) 0)):=Lib.hid (fun u hu=>by
     have e:u=(((cn+x) % 1000000000:Nat):Int):=by rw [hu]; simp
     subst e; have:=HA.out.set k ((cn+x) % 1000000000); rwa [Lb.a2e HL.out (by omega)] at this)
    have HC:Hid (((cn:Int)+x) / 1000000000=(((cn+x) / 1000000000:Nat):Int)):=Lib.hid (by simp)
    have hc2:(cn+x) / 1000000000 <= 1:=by omega
    have HC2:=Lib.hid hc2
    clear hc2 HX HY HP HA HL
    go_wp2_with fail
    go_roundw
    case rel=>exact ⟨k+1,_,_,by omega,by go_num,by rw [HC.out],HC2.out,HP2,Lib.hid (HAX.out _ rfl),Lib.hid (HE.out.setCell (Nat.le_refl _) _)⟩
    case measure=>simp [intOf]; omega
  ·obtain rfl:k=a.length:=by omega
   have HC:=Lib.hid (a6i HP.out rfl HAB.out hcn)
   have HAX:Hid (ArrU (wr.setCell ⟨w.heap.size,a.length,none⟩ (.int .u32 (cn:Int))) w.heap.size (o ++ [cn])):=Lib.hid (by
    have:=HA.out.set a.length cn
    rw [Lb.a2e HL.out (by omega),Nat.sub_self] at this
    simpa using this)
   clear hka
   have HEF:Hid (Ext w (wr.setCell ⟨w.heap.size,a.length,none⟩ (.int .u32 (cn:Int)))):=Lib.hid (HE.out.setCell (Nat.le_refl _) _)
   have HS:Hid (SlU (wr.setCell ⟨w.heap.size,a.length,none⟩ (.int .u32 (cn:Int))) (.slice (some ⟨w.heap.size,0,none⟩) (a.length+1) (a.length+1)) (o ++ [cn])):=Lib.hid (HAX.out.all (by simp [HL.out]) (Nat.le_refl _))
   have HLN:Hid ((o ++ [cn]).length <= 1000000000):=Lib.hid (by simp [HL.out]; omega)
   clear HA HAX HP
   go_wp2_with fail
   refine (a3N _ _ _ HS.out HLN.out).mono ?_
   rintro e w3 ⟨v3,rfl,hs3,hb3,rfl⟩
   rw [Lb.a4k HC.out.1,HC.out.2] at hs3
   obtain ⟨a3,c3,rfl⟩:=SlU.form hs3
   go_wp2_with fail
   go_ret
   exact ⟨_,_,_,rfl,hs3,HEF.out,fun b hb=>by rw [hb3] at hb; cases hb; exact Nat.le_refl _⟩
set_option maxHeartbeats 16000000 in
theorem aSD (v1 v2:Value) (a b:List Nat) (w:World) (h1:SlU w v1 a) (h2:SlU w v2 b) (k1:Lb.Lt a) (k2:Lb.Lt b) (n1:a.length <= 100000000) (hab:b.length < a.length) :
    Calls Tryz.prog 224 #[v2,v1] w (aRN w (Lb.limbs (Lb.val a+Lb.val b))):=by
 obtain ⟨p1,q1,rfl⟩:=h1.form
 obtain ⟨p2,q2,rfl⟩:=h2.form
 have hlt:decide (b.length < a.length)=true:=by simp; omega
 have hmk:=a3K (a.length+1) (by omega)
 rw [Int.natCast_add] at hmk
 have e1:((1:Nat):Int)=1:=rfl
 rw [e1] at hmk
 obtain ⟨W,hW,hA,hE,hz⟩:=a1P w (a.length+1)
 have HA0:=Lib.hid hA
 have HE:=Lib.hid hE
 have H1:=Lib.hid h1; have H2:=Lib.hid h2; have HK1:=Lib.hid k1; have HK2:=Lib.hid k2; have HAB:Hid (b.length <= a.length):=Lib.hid (by omega)
 clear e1 hA hE hz h1 h2 k1 k2 hab
 go_enter Tryz.func224,Tryz.ntmps224
 go_wp2_with fail
 clear hmk
 go_loopw [6,7] (fun c i wr=>∃ (k cn:Nat) (o:List Nat),k <= a.length/\i=.int .i64 k/\c=.int .u32 cn/\cn <= 1/\Hid (a4w a b k cn o)/\Hid (ArrU wr w.heap.size (o ++ List.replicate (a.length+1 - k) 0))/\Hid (Ext w wr)) (fun _ i _=>a.length - (intOf i).toNat)
 case atStart=>exact ⟨0,0,[],Nat.zero_le _,rfl,rfl,by omega,Lib.hid (a3O a b),HA0,HE⟩
 case round =>
  clear hW HA0 HE hlt
  obtain ⟨k,cn,o,hk,rfl,rfl,hcn,HP,HA,HE⟩:=hrel
  have HL:Hid (o.length=k):=Lib.hid HP.out.len
  have hlen:k < (o ++ List.replicate (a.length+1 - k) 0).length:=by have:=HL.out; simp; omega
  have cs:=HA.out.cell k hlen
  have fs:=HA.out.free k
  generalize ((o ++ List.replicate (a.length+1 - k) 0)[k]:Int)=old at cs
  clear hlen
  by_cases hka:k < a.length
  ·have hx:a[k] < 1000000000:=Lb.a1s HK1.out k hka
   have HX:Hid (a.getD k 0=a[k]):=Lib.hid (by simp [hka])
   obtain ⟨g1,o1,rfl,cell1⟩:=(H1.out.later HE.out).at k hka
   generalize a[k]=x at *
   by_cases hkb:k < b.length
   ·have hy:b[k] < 1000000000:=Lb.a1s HK2.out k hkb
    have HY:Hid (b.getD k 0=b[k]):=Lib.hid (by simp [hkb])
    obtain ⟨g2,o2,rfl,cell2⟩:=(H2.out.later HE.out).at k hkb
    generalize b[k]=y at *
    have HP2:=Lib.hid (a6j (s:=cn+x+y) HP.out (by rw [HX.out,HY.out]; omega))
    have HAX:Hid (∀ u:Int,u=((cn:Int)+x+y) % 1000000000->ArrU (wr.setCell ⟨w.heap.size,k,none⟩ (.int .u32 u)) w.heap.size ((o ++ [(cn+x+y) % 1000000000]) ++ List.replicate (a.length+1 - (k+1)) 0)):=Lib.hid (fun u hu=>by
     have e:u=(((cn+x+y) % 1000000000:Nat):Int):=by rw [hu]; simp
     subst e; have:=HA.out.set k ((cn+x+y) % 1000000000); rwa [Lb.a2e HL.out (by omega)] at this)
    have HC:Hid (((cn:Int)+x+y) / 1000000000=(((cn+x+y) / 1000000000:Nat):Int)):=Lib.hid (by simp)
    have hc2:(cn+x+y) / 1000000000 <= 1:=by omega
    have HC2:=Lib.hid hc2
    clear hc2 HX HY HP HA HL
    go_wp2_with fail
    go_roundw
    case rel=>exact ⟨k+1,_,_,by omega,by go_num,by rw [HC.out],HC2.out,HP2,Lib.hid (HAX.out _ rfl),Lib.hid (HE.out.setCell (Nat.le_refl _) _)⟩
    case measure=>simp [intOf]; omega
   ·have HY:Hid (b.getD k 0=0):=Lib.hid (by simp [Nat.le_of_not_lt hkb])
    have HP2:=Lib.hid (a6j (s:=cn+x) HP.out (by rw [HX.out,HY.out]; omega))
    have HAX:Hid (∀ u:Int,u=((cn:Int)+x) % 1000000000->ArrU (wr.setCell ⟨w.heap.size,k,none⟩ (.int .u32 u)) w.heap.size ((o ++ [(cn+x) % 1000000000]) ++ List.replicate (a.length+1 - (k+1)) 0)):=Lib.hid (fun u hu=>by
     have e:u=(((cn+x) % 1000000000:Nat):Int):=by rw [hu]; simp
     subst e; have:=HA.out.set k ((cn+x) % 1000000000); rwa [Lb.a2e HL.out (by omega)] at this)
    have HC:Hid (((cn:Int)+x) / 1000000000=(((cn+x) / 1000000000:Nat):Int)):=Lib.hid (by simp)
    have hc2:(cn+x) / 1000000000 <= 1:=by omega
    have HC2:=Lib.hid hc2
    clear hc2 HX HY HP HA HL
    go_wp2_with fail
    go_roundw
    case rel=>exact ⟨k+1,_,_,by omega,by go_num,by rw [HC.out],HC2.out,HP2,Lib.hid (HAX.out _ rfl),Lib.hid (HE.out.setCell (Nat.le_refl _) _)⟩
    case measure=>simp [intOf]; omega
  ·obtain rfl:k=a.length:=by omega
   have HC:=Lib.hid (a6i HP.out rfl HAB.out hcn)
   have HAX:Hid (ArrU (wr.setCell ⟨w.heap.size,a.length,none⟩ (.int .u32 (cn:Int))) w.heap.size (o ++ [cn])):=Lib.hid (by
    have:=HA.out.set a.length cn
    rw [Lb.a2e HL.out (by omega),Nat.sub_self] at this
    simpa using this)
   clear hka
   have HEF:Hid (Ext w (wr.setCell ⟨w.heap.size,a.length,none⟩ (.int .u32 (cn:Int)))):=Lib.hid (HE.out.setCell (Nat.le_refl _) _)
   have HS:Hid (SlU (wr.setCell ⟨w.heap.size,a.length,none⟩ (.int .u32 (cn:Int))) (.slice (some ⟨w.heap.size,0,none⟩) (a.length+1) (a.length+1)) (o ++ [cn])):=Lib.hid (HAX.out.all (by simp [HL.out]) (Nat.le_refl _))
   have HLN:Hid ((o ++ [cn]).length <= 1000000000):=Lib.hid (by simp [HL.out]; omega)
   clear HA HAX HP
   go_wp2_with fail
   refine (a3N _ _ _ HS.out HLN.out).mono ?_
   rintro e w3 ⟨v3,rfl,hs3,hb3,rfl⟩
   rw [Lb.a4k HC.out.1,HC.out.2] at hs3
   obtain ⟨a3,c3,rfl⟩:=SlU.form hs3
   go_wp2_with fail
   go_ret
   exact ⟨_,_,_,rfl,hs3,HEF.out,fun b hb=>by rw [hb3] at hb; cases hb; exact Nat.le_refl _⟩
theorem aOv (v1 v2:Value) (a b:List Nat) (w:World) (h1:SlU w v1 a) (h2:SlU w v2 b) (k1:Lb.Lt a) (k2:Lb.Lt b) (n1:a.length <= 100000000) (n2:b.length <= 100000000) :
    Calls Tryz.prog 224 #[v1,v2] w (aRN w (Lb.limbs (Lb.val a+Lb.val b))):=by
 by_cases h:b.length <= a.length
 ·exact aSE v1 v2 a b w h1 h2 k1 k2 n1 h
 ·rw [Nat.add_comm]
  exact aSD v2 v1 b a w h2 h1 k2 k1 n2 (by omega)
set_option maxHeartbeats 16000000 in
theorem a2o (v1 v2:Value) (a b:List Nat) (w:World) (h1:SlU w v1 a) (h2:SlU w v2 b) (k1:Lb.Lt a) (k2:Lb.Lt b) (n1:a.length <= 100000000) (hab:b.length <= a.length) (hle:Lb.val b <= Lb.val a) :
    Calls Tryz.prog 223 #[v1,v2] w (aRN w (Lb.limbs (Lb.val a - Lb.val b))):=by
 obtain ⟨p1,q1,rfl⟩:=h1.form
 obtain ⟨p2,q2,rfl⟩:=h2.form
 have hmk:=a3K a.length (by omega)
 obtain ⟨W,hW,hA,hE,hz⟩:=a1P w a.length
 have HA0:=Lib.hid hA
 have HE:=Lib.hid hE
 have H1:=Lib.hid h1; have H2:=Lib.hid h2; have HK1:=Lib.hid k1; have HK2:=Lib.hid k2; have HAB:=Lib.hid hab; have HLE:=Lib.hid hle
 clear hA hE hz h1 h2 k1 k2 hab hle
 go_enter Tryz.func223,Tryz.ntmps223
 go_wp2_with fail
 clear hmk
 go_loopw [6,7] (fun c i wr=>∃ (k cn:Nat) (o:List Nat),k <= a.length/\i=.int .i64 k/\c=.int .u32 cn/\cn <= 1/\Hid (a6V a b k cn o)/\Hid (ArrU wr w.heap.size (o ++ List.replicate (a.length - k) 0))/\Hid (Ext w wr)) (fun _ i _=>a.length - (intOf i).toNat)
 case atStart=>exact ⟨0,0,[],Nat.zero_le _,rfl,rfl,by omega,Lib.hid (a7m a b),HA0,HE⟩
 case round =>
  clear hW HA0 HE
  obtain ⟨k,cn,o,hk,rfl,rfl,hcn,HP,HA,HE⟩:=hrel
  have HL:Hid (o.length=k):=Lib.hid HP.out.len
  by_cases hka:k < a.length
  ·have hx:a[k] < 1000000000:=Lb.a1s HK1.out k hka
   have HX:Hid (a.getD k 0=a[k]):=Lib.hid (by simp [hka])
   obtain ⟨g1,o1,rfl,cell1⟩:=(H1.out.later HE.out).at k hka
   have hlen:k < (o ++ List.replicate (a.length - k) 0).length:=by have:=HL.out; simp; omega
   have cs:=HA.out.cell k hlen
   have fs:=HA.out.free k
   generalize ((o ++ List.replicate (a.length - k) 0)[k]:Int)=old at cs
   clear hlen
   generalize a[k]=x at *
   by_cases hkb:k < b.length
   ·have hy:b[k] < 1000000000:=Lb.a1s HK2.out k hkb
    have HY:Hid (b.getD k 0=b[k]):=Lib.hid (by simp [hkb])
    obtain ⟨g2,o2,rfl,cell2⟩:=(H2.out.later HE.out).at k hkb
    generalize b[k]=y at *
    by_cases hge:x+1000000000 - cn - y < 1000000000
    ·have hq:decide ((x:Int)+1000000000 - cn - y >= 1000000000)=false:=by simp; omega
     obtain ⟨s,hs⟩:∃ s,x+1000000000=s+(cn+y):=⟨x+1000000000 - (cn+y),by omega⟩
     have hsi:(x:Int)+1000000000 - cn - y=(s:Int):=by omega
     have HP2:=Lib.hid (a4L (s:=s) HP.out (by rw [HX.out,HY.out]; omega) (by omega))
     have HAX:Hid (∀ u:Int,u=(s:Int)->ArrU (wr.setCell ⟨w.heap.size,k,none⟩ (.int .u32 u)) w.heap.size ((o ++ [s]) ++ List.replicate (a.length - (k+1)) 0)):=Lib.hid (fun u hu=>by subst hu; have:=HA.out.set k s; rwa [Lb.a2e HL.out hka] at this)
     have HSI:=Lib.hid hsi
     clear hsi hs hge HX HY HP HA HL
     go_wp2_with fail
     go_roundw
     case rel=>exact ⟨k+1,1,o ++ [s],by omega,by go_num,rfl,by omega,HP2,Lib.hid (HAX.out _ HSI.out),Lib.hid (HE.out.setCell (Nat.le_refl _) _)⟩
     case measure=>simp [intOf]; omega
    ·have hq:decide ((x:Int)+1000000000 - cn - y >= 1000000000)=true:=by simp; omega
     obtain ⟨s,hs⟩:∃ s,x=s+(cn+y):=⟨x - (cn+y),by omega⟩
     have hsi:(x:Int)+1000000000 - cn - y - 1000000000=(s:Int):=by omega
     have hge2:0 <= (x:Int)+1000000000 - cn - y - 1000000000:=by omega
     have HP2:=Lib.hid (a5s (s:=s) HP.out (by rw [HX.out,HY.out]; omega) (by omega))
     have HAX:Hid (∀ u:Int,u=(s:Int)->ArrU (wr.setCell ⟨w.heap.size,k,none⟩ (.int .u32 u)) w.heap.size ((o ++ [s]) ++ List.replicate (a.length - (k+1)) 0)):=Lib.hid (fun u hu=>by subst hu; have:=HA.out.set k s; rwa [Lb.a2e HL.out hka] at this)
     have HSI:=Lib.hid hsi
     clear hsi hs hge HX HY HP HA HL
     go_wp2_with fail
     go_roundw
     case rel=>exact ⟨k+1,0,o ++ [s],by omega,by go_num,rfl,by omega,HP2,Lib.hid (HAX.out _ HSI.out),Lib.hid (HE.out.setCell (Nat.le_refl _) _)⟩
     case measure=>simp [intOf]; omega
   ·have HY:Hid (b.getD k 0=0):=Lib.hid (by simp [Nat.le_of_not_lt hkb])
    by_cases hge:x+1000000000 - cn < 1000000000
    ·have hq:decide ((x:Int)+1000000000 - cn >= 1000000000)=false:=by simp; omega
     obtain ⟨s,hs⟩:∃ s,x+1000000000=s+(cn):=⟨x+1000000000 - (cn),by omega⟩
     have hsi:(x:Int)+1000000000 - cn=(s:Int):=by omega
     have HP2:=Lib.hid (a4L (s:=s) HP.out (by rw [HX.out,HY.out]; omega) (by omega))
     have HAX:Hid (∀ u:Int,u=(s:Int)->ArrU (wr.setCell ⟨w.heap.size,k,none⟩ (.int .u32 u)) w.heap.size ((o ++ [s]) ++ List.replicate (a.length - (k+1)) 0)):=Lib.hid (fun u hu=>by subst hu; have:=HA.out.set k s; rwa [Lb.a2e HL.out hka] at this)
     have HSI:=Lib.hid hsi
     clear hsi hs hge HX HY HP HA HL
     go_wp2_with fail
     go_roundw
     case rel=>exact ⟨k+1,1,o ++ [s],by omega,by go_num,rfl,by omega,HP2,Lib.hid (HAX.out _ HSI.out),Lib.hid (HE.out.setCell (Nat.le_refl _) _)⟩
     case measure=>simp [intOf]; omega
    ·have hq:decide ((x:Int)+1000000000 - cn >= 1000000000)=true:=by simp; omega
     obtain ⟨s,hs⟩:∃ s,x=s+(cn):=⟨x - (cn),by omega⟩
     have hsi:(x:Int)+1000000000 - cn - 1000000000=(s:Int):=by omega
     have hge2:0 <= (x:Int)+1000000000 - cn - 1000000000:=by omega
     have HP2:=Lib.hid (a5s (s:=s) HP.out (by rw [HX.out,HY.out]; omega) (by omega))
     have HAX:Hid (∀ u:Int,u=(s:Int)->ArrU (wr.setCell ⟨w.heap.size,k,none⟩ (.int .u32 u)) w.heap.size ((o ++ [s]) ++ List.replicate (a.length - (k+1)) 0)):=Lib.hid (fun u hu=>by subst hu; have:=HA.out.set k s; rwa [Lb.a2e HL.out hka] at this)
     have HSI:=Lib.hid hsi
     clear hsi hs hge HX HY HP HA HL
     go_wp2_with fail
     go_roundw
     case rel=>exact ⟨k+1,0,o ++ [s],by omega,by go_num,rfl,by omega,HP2,Lib.hid (HAX.out _ HSI.out),Lib.hid (HE.out.setCell (Nat.le_refl _) _)⟩
     case measure=>simp [intOf]; omega
  ·obtain rfl:k=a.length:=by omega
   have HV:=Lib.hid (Lb.aFa rfl HAB.out HP.out.len HP.out.lt hcn HP.out.sum HLE.out)
   have HLT:=Lib.hid HP.out.lt
   have HS:Hid (SlU wr (.slice (some ⟨w.heap.size,0,none⟩) a.length a.length) o):=Lib.hid (by
    have:=HA.out
    rw [Nat.sub_self] at this
    simp only [List.replicate_zero,List.append_nil] at this
    exact this.all (by simp [HL.out]) (Nat.le_refl _))
   have HLN:Hid (o.length <= 1000000000):=Lib.hid (by simp [HL.out]; omega)
   clear hka HP HA
   go_wp2_with fail
   refine (a3N _ _ _ HS.out HLN.out).mono ?_
   rintro e w3 ⟨v3,rfl,hs3,hb3,rfl⟩
   rw [Lb.a4k HLT.out,HV.out] at hs3
   obtain ⟨a3,c3,rfl⟩:=SlU.form hs3
   go_wp2_with fail
   go_ret
   exact ⟨_,_,_,rfl,hs3,HE.out,fun b hb=>by rw [hb3] at hb; cases hb; exact Nat.le_refl _⟩
end Go.Proofs.YtbohkigffejhoaaGreat
namespace Go.Proofs.YtbohkigffejhoaaGreat
open Go.RowKit
set_option maxRecDepth 8000
set_option maxHeartbeats 16000000 in
theorem aB0 (v1 v2:Value) (a b:List Nat) (w:World) (h1:SlU w v1 a) (h2:SlU w v2 b) (k1:Lb.Lt a) (k2:Lb.Lt b) (n1:a.length <= 100000000) (n2:b.length <= 100000000) :
    Calls Tryz.prog 328 #[v1,v2] w (aRN w (Lb.limbs (Lb.val a*Lb.val b))):=by
 obtain ⟨p1,q1,rfl⟩:=h1.form
 obtain ⟨p2,q2,rfl⟩:=h2.form
 have hmk:=a3K (a.length+b.length) (by omega)
 rw [Int.natCast_add] at hmk
 obtain ⟨W,hW,hA,hE,hz⟩:=a1P w (a.length+b.length)
 have HA0:=Lib.hid hA
 have HE:=Lib.hid hE
 have H1:=Lib.hid h1; have H2:=Lib.hid h2; have HK1:=Lib.hid k1; have HK2:=Lib.hid k2
 clear hA hE hz h1 h2 k1 k2
 go_enter Tryz.func328,Tryz.ntmps328
 go_wp2_with fail
 clear hmk
 go_loopw [6] (fun i wr=>∃ (m:Nat) (o:List Nat),m <= a.length/\i=.int .i64 m/\Hid (a8H a b m o)/\Hid (ArrU wr w.heap.size o)/\Hid (Ext w wr)) (fun i _=>a.length - (intOf i).toNat)
 case atStart=>exact ⟨0,_,Nat.zero_le _,rfl,Lib.hid (a7a a b),HA0,HE⟩
 case round =>
  clear hW HA0 HE
  obtain ⟨m,o,hm,rfl,HP,HA,HE⟩:=hrel
  by_cases hma:m < a.length
  ·have hx:a[m] < 1000000000:=Lb.a1s HK1.out m hma
   have HX:Hid (a.getD m 0=a[m]):=Lib.hid (by simp [hma])
   obtain ⟨g1,o1,rfl,cell1⟩:=(H1.out.later HE.out).at m hma
   have HX1:Hid (∃ x,a[m]=x/\x < 1000000000/\a.getD m 0=x):=Lib.hid ⟨_,rfl,hx,HX.out⟩
   clear hx HX cell1
   obtain ⟨x,hxm,hx,hX⟩:=HX1.out
   have HX:=Lib.hid hX; have HXM:=Lib.hid hxm
   clear hxm hX HX1
   have HI0:=Lib.hid (a6Z HP.out x)
   obtain ⟨wo,rfl⟩:∃ wo:World,wo=wr:=⟨_,rfl⟩
   clear HP
   go_wp2_with fail
   go_loopw [7,8] (fun c i wr=>∃ (k cn:Nat) (o:List Nat),k <= b.length/\i=.int .i64 k/\c=.int .u64 cn/\Hid (a8G a b m k x cn (Lb.val (a.take m)*Lb.val b) o)/\Hid (ArrU wr w.heap.size o)/\Hid (Ext w wr)) (fun _ i _=>b.length - (intOf i).toNat)
   case atStart=>exact ⟨0,0,o,Nat.zero_le _,rfl,rfl,HI0,HA,HE⟩
   case round =>
    clear HI0 HA HE
    obtain ⟨k,cn,o2,hk,rfl,rfl,HP,HA,HE⟩:=hrel
    obtain ⟨g3,o3,he3,cell1⟩:=(H1.out.later HE.out).at m hma
    cases he3
    rw [HXM.out] at cell1
    by_cases hkb:k < b.length
    ·have hy:b[k] < 1000000000:=Lb.a1s HK2.out k hkb
     have HY:Hid (b.getD k 0=b[k]):=Lib.hid (by simp [hkb])
     obtain ⟨g2,s2,rfl,cell2⟩:=(H2.out.later HE.out).at k hkb
     generalize b[k]=y at *
     have hlen:m+k < o2.length:=by have:=HP.out.len; omega
     obtain ⟨ov,hov⟩:∃ ov,o2[m+k]?=some ov:=⟨o2[m+k],by simp [hlen]⟩
     have cs:=HA.out.cell (m+k) hlen
     have hoo:o2[m+k]=ov:=by simpa [hlen] using hov
     rw [hoo] at cs
     have fs:=HA.out.free (m+k)
     obtain ⟨st,hov9⟩:=a8J HP.out hma hkb hx hy HY.out hov
     have hcl:cn < 1000000000:=HP.out.clt
     have hxy0:0 <= (x:Int)*y:=Int.mul_nonneg (by omega) (by omega)
     have hxy:(x:Int)*y <= 999999998000000001:=by
      have h1:x*y <= 999999999*999999999:=Nat.mul_le_mul (by omega) (by omega)
      have h2:((x*y:Nat):Int) <= ((999999999*999999999:Nat):Int):=Int.ofNat_le.2 h1
      rw [Int.natCast_mul] at h2
      exact h2
     have HST:=Lib.hid st; have HOO:=Lib.hid hoo
     have E9:Hid ((cn:Int)+ov+x*y=((ov+x*y+cn:Nat):Int)):=Lib.hid (by simp; omega)
     have e10:(cn:Int)+ov+x*y < 18446744073709551616:=by omega
     have e11:0 <= (cn:Int)+ov+x*y:=by omega
     clear hov hoo HY st
     go_wp2_with fail
     have K1:=Later.cell cell1; have K2:=Later.cell cell2; have K3:=Later.cell cs
     clear cell1 cell2 cs fs
     refine a2K (by kernel_rfl) (by kernel_rfl) ?_
     repeat (go_big_quiet_step (fail))
     refine wpQuiet_nil ?_
     rintro _ ⟨z,rfl⟩
     have HAZ:=Lib.hid (HA.out.ext z.ext); have HEZ:=Lib.hid (HE.out.trans z.ext)
     have cs:=HAZ.out.cell (m+k) hlen
     rw [show o2[m+k]=ov from HOO.out] at cs
     have fs:=HAZ.out.free (m+k)
     rw [E9.out]
     generalize hT:ov+x*y+cn=T at *
     have HAX:Hid (∀ u:Int,u=(T:Int) % 1000000000->ArrU (z.w.setCell ⟨w.heap.size,m+k,none⟩ (.int .u32 u)) w.heap.size (o2.set (m+k) (T % 1000000000))):=Lib.hid (fun u hu=>by
      have e:u=((T % 1000000000:Nat):Int):=by rw [hu]; simp
      subst e; exact HAZ.out.set (m+k) _)
     have HCN:Hid ((T:Int) / 1000000000=((T / 1000000000:Nat):Int)):=Lib.hid (by simp)
     have hT0:T < 18446744073709551616:=by omega
     have e12:(T:Int) % 1000000000 < 1000000000:=by omega
     have e13:0 <= (T:Int) % 1000000000:=by omega
     clear E9 hT e10 e11 hxy hxy0 K1 K2 K3 HA HE HOO hlen
     go_wp2_with fail
     go_roundw
     case rel=>exact ⟨k+1,_,_,by omega,by go_num,by rw [HCN.out],HST,Lib.hid (HAX.out _ rfl),Lib.hid (HEZ.out.setCell (Nat.le_refl _) _)⟩
     case measure=>simp [intOf]; omega
    ·obtain rfl:k=b.length:=by omega
     have HN:=Lib.hid (a9F HP.out hma HX.out)
     have hcl:cn < 1000000000:=HP.out.clt
     have hlen:m+b.length < o2.length:=by have:=HP.out.len; omega
     have cs:=HA.out.cell (m+b.length) hlen
     have fs:=HA.out.free (m+b.length)
     generalize (o2[m+b.length]:Int)=old at cs
     have HAX:=Lib.hid (HA.out.set (m+b.length) cn)
     clear hlen hkb HX
     go_wp2_with fail
     go_roundw
     case rel=>exact ⟨m+1,_,by omega,by go_num,HN,HAX,Lib.hid (HE.out.setCell (Nat.le_refl _) _)⟩
     case measure=>simp [intOf]; omega
  ·obtain rfl:m=a.length:=by omega
   have HM:=Lib.hid (a9G HP.out)
   have HLT:=Lib.hid HP.out.lt
   have HS:Hid (SlU wr (.slice (some ⟨w.heap.size,0,none⟩) (a.length+b.length) (a.length+b.length)) o):=Lib.hid (HA.out.all (by simp [HP.out.len]) (Nat.le_refl _))
   have HLN:Hid (o.length <= 1000000000):=Lib.hid (by simp [HP.out.len]; omega)
   clear hma HA HP
   go_wp2_with fail
   refine (a3N _ _ _ HS.out HLN.out).mono ?_
   rintro e w3 ⟨v3,rfl,hs3,hb3,rfl⟩
   rw [Lb.a4k HLT.out,HM.out] at hs3
   obtain ⟨a3,c3,rfl⟩:=SlU.form hs3
   go_wp2_with fail
   go_ret
   exact ⟨_,_,_,rfl,hs3,HE.out,fun b hb=>by rw [hb3] at hb; cases hb; exact Nat.le_refl _⟩
set_option maxHeartbeats 4000000 in
theorem a6I (v1:Value) (a:List Nat) (n:Nat) (w:World) (h1:SlU w v1 a) (k1:Lb.Lt a) (n1:a.length <= 100000000) (hn:n < 1000000000) :
    Calls Tryz.prog 221 #[v1,.int .u32 (n:Int)] w (aRN w (Lb.limbs (Lb.val a*n))):=by
 obtain ⟨p1,q1,rfl⟩:=h1.form
 obtain ⟨X,hX,hAX,heX,hzX⟩:=a1L w [n]
 have HSX:=Lib.hid (hAX.all (n:=1) (cap:=1) rfl (Nat.le_refl _)); have HX:=Lib.hid heX; have H1:=Lib.hid h1; have HK:=Lib.hid k1
 simp only [List.map_cons,List.map_nil,uV] at hX
 clear hAX heX hzX h1 k1
 go_enter Tryz.func221,Tryz.ntmps221
 go_wp2_with fail
 refine (a3N _ _ _ HSX.out (by simp)).mono ?_
 rintro e w3 ⟨v3,rfl,hs3,hb3,rfl⟩
 obtain ⟨a3,c3,rfl⟩:=SlU.form hs3
 clear hb3
 have HT:Hid (Lb.Lt (Lb.trim [n])/\(Lb.trim [n]).length <= 100000000/\Lb.val (Lb.trim [n])=n):=Lib.hid (by
  have hl:Lb.Lt [n]:=Lb.a2R (by rw [Lb.a4R]; exact hn) Lb.a2Q
  refine ⟨Lb.aC8 hl,?_,by rw [Lb.a2t]; simp [Lb.val]⟩
  have:=Lb.a2i [n]
  simp at this
  omega)
 have HS3:=Lib.hid hs3; have HS1:=Lib.hid (H1.out.later HX.out); have HE3:=Lib.hid HX.out
 clear hs3
 go_wp2_with fail
 refine (aB0 _ _ _ _ _ HS1.out HS3.out HK.out HT.out.1 n1 HT.out.2.1).mono ?_
 rintro e w4 ⟨a4,m4,c4,rfl,hs4,hx4,hb4⟩
 rw [HT.out.2.2] at hs4
 go_wp2_with fail
 go_ret
 exact ⟨_,_,_,rfl,hs4,HE3.out.trans hx4,fun b hb=>Nat.le_trans HE3.out.size (hb4 b hb)⟩
end Go.Proofs.YtbohkigffejhoaaGreat
namespace Go.Proofs.YtbohkigffejhoaaGreat
namespace Lb
theorem a1n {m n:Nat} (h:m <= n):(limbs m).length <= (limbs n).length:=by
 rcases Nat.lt_or_ge (limbs n).length (limbs m).length with h' | h'
 ·have:=a5e (a0f n) (a0f m) h'
  rw [a0a,a0a] at this
  omega
 ·exact h'
theorem a7Y {n k:Nat} (h:(limbs n).length <= k):n < B ^ k:=Nat.lt_of_lt_of_le (a01 n) (Nat.pow_le_pow_right a3r h)
structure PartsAt (U:List Nat) (V k:Nat) (Q:List Nat) (R:Nat):Prop where
 le:k <= U.length
 len:Q.length=U.length - k
 lt:Lt Q
 val:val (U.drop k)=val Q*V+R
 rlt:R < V
theorem aCZ {U:List Nat} {V:Nat} (hV:0 < V):PartsAt U V U.length [] 0 :=
 ⟨Nat.le_refl _,by simp,a2Q,by simp [Lb.val],hV⟩
theorem aEY {U Q:List Nat} {V k R:Nat} (hU:Lt U) (h:PartsAt U V (k+1) Q R) (hk:k < U.length):(U[k]+B*R) / V < B/\PartsAt U V k ((U[k]+B*R) / V :: Q) ((U[k]+B*R) % V):=by
 have hx:=a1s hU k hk
 have hR:=h.rlt
 have hV:0 < V:=by omega
 have hlt:U[k]+B*R < B*V:=by
  have:B*(R+1) <= B*V:=Nat.mul_le_mul_left B hR
  rw [Nat.mul_succ] at this
  omega
 have hq:(U[k]+B*R) / V < B:=Nat.div_lt_of_lt_mul (by rw [Nat.mul_comm V B]; exact hlt)
 refine ⟨hq,by omega,by simp [h.len]; omega,a2R hq h.lt,?_,Nat.mod_lt _ hV⟩
 have h1:=Nat.div_add_mod (U[k]+B*R) V
 rw [a1R U k hk,h.val,a2u]
 generalize (U[k]+B*R) / V=q at *
 generalize (U[k]+B*R) % V=r at *
 generalize Lb.val Q=Z at *
 rw [Nat.mul_add,Nat.add_mul]
 have e1:B*(Z*V)=B*Z*V:=(Nat.mul_assoc _ _ _).symm
 have e2:V*q=q*V:=Nat.mul_comm _ _
 omega
theorem aPY {l:List Nat} {n:Nat} (hl:Lt l) (hn:l.length <= n+2) :
    (if h:n+1 < l.length then l[n+1]*B else 0)+(if h:n < l.length then l[n] else 0)=val l / B ^ n:=by
 have hp:0 < B ^ n:=Nat.pow_pos a3r
 rcases Nat.lt_or_ge n l.length with h | h
 ·have hlt:val (l.take n) < B ^ n:=a9H hl n (by omega)
  have hv:=a1F l n (by omega)
  have hd:val l / B ^ n=val (l.drop n):=by
   rw [hv,Nat.add_mul_div_left _ _ hp,Nat.div_eq_of_lt hlt,Nat.zero_add]
  rw [hd,a1R l n h]
  rcases Nat.lt_or_ge (n+1) l.length with h' | h'
  ·have e:l.length=n+2:=by omega
   have hn2:l.drop (n+2)=[]:=List.drop_of_length_le (by omega)
   rw [a1R l (n+1) h',hn2]
   simp only [h,h',dif_pos,a7X,Nat.mul_zero,Nat.add_zero]
   rw [Nat.mul_comm]
   omega
  ·have hn1:l.drop (n+1)=[]:=List.drop_of_length_le (by omega)
   have h2:¬ n+1 < l.length:=by omega
   rw [hn1]
   simp [h,h2,Lb.val]
 ·have hlt:val l < B ^ n:=Nat.lt_of_lt_of_le (a3l hl) (Nat.pow_le_pow_right a3r h)
  have h1:¬ n < l.length:=by omega
  have h2:¬ n+1 < l.length:=by omega
  rw [Nat.div_eq_of_lt hlt]
  simp [h1,h2]
theorem aZr {R V T P:Nat} (h:T*P <= V) (hT:0 < T) (hP:0 < P):R / V <= R / P / T:=by
 rw [Nat.div_div_eq_div_mul]
 exact Nat.div_le_div_left (by rw [Nat.mul_comm]; exact h) (Nat.mul_pos hP hT)
theorem a7C {R V d:Nat} (h:V*d <= R) (hV:0 < V) (hq:R / V <= d):d=R / V:=by
 have:d <= R / V:=(Nat.le_div_iff_mul_le hV).2 (by rw [Nat.mul_comm]; exact h)
 omega
structure aHG (l:List Nat) (s k:Nat) (o:List Nat) (c:Nat):Prop where
 le:k <= l.length
 len:o.length=l.length - k
 lt:Lt o
 val:val (l.drop k)=val o*s+c
 clt:c < s
theorem aHh {l:List Nat} {s:Nat} (hs:0 < s):aHG l s l.length [] 0:=⟨Nat.le_refl _,by simp,a2Q,by simp [Lb.val],hs⟩
theorem aJQ {l o:List Nat} {s k c:Nat} (hl:Lt l) (h:aHG l s (k+1) o c) (hk:k < l.length):(c*B+l[k]) / s < B/\aHG l s k ((c*B+l[k]) / s :: o) ((c*B+l[k]) % s):=by
 have hx:=a1s hl k hk
 have hc:=h.clt
 have hlt:c*B+l[k] < B*s:=by
  have:(c+1)*B <= s*B:=Nat.mul_le_mul_right B hc
  rw [Nat.succ_mul,Nat.mul_comm s B] at this
  omega
 have hq:(c*B+l[k]) / s < B:=Nat.div_lt_of_lt_mul (by rw [Nat.mul_comm s B]; exact hlt)
 refine ⟨hq,by omega,by simp [h.len]; omega,a2R hq h.lt,?_,Nat.mod_lt _ (by omega)⟩
 have h1:=Nat.div_add_mod (c*B+l[k]) s
 rw [a1R l k hk,h.val,a2u]
 generalize (c*B+l[k]) / s=q at *
 generalize (c*B+l[k]) % s=r at *
 generalize Lb.val o=Z at *
 rw [Nat.mul_add,Nat.add_mul]
 have e1:B*(Z*s)=B*Z*s:=(Nat.mul_assoc _ _ _).symm
 have e2:s*q=q*s:=Nat.mul_comm _ _
 have e3:B*c=c*B:=Nat.mul_comm _ _
 omega
theorem aJR {l o:List Nat} {s c M:Nat} (h:aHG l s 0 o c) (hM:val l=M*s):val o=M:=by
 have h1:=h.val
 have hs:0 < s:=by have:=h.clt; omega
 rw [List.drop_zero,hM] at h1
 have h2:M=(val o*s+c) / s:=by rw [<- h1,Nat.mul_div_cancel _ hs]
 rw [h2,Nat.mul_comm,Nat.mul_add_div hs,Nat.div_eq_of_lt h.clt,Nat.add_zero]
theorem aH0 {b:List Nat} {n y:Nat} (hb:a5G b) (hn:b.length=n+1) (hy:b[n]?=some y) :
    0 < y/\y < B/\0 < B / (y+1)/\B / (y+1) < B/\val b*(B / (y+1)) < B ^ (n+1)/\B ^ n <= val b*(B / (y+1)):=by
 have hb0:b ≠ []:=by intro e; rw [e] at hn; simp at hn
 have hlt:n < b.length:=by omega
 have hyb:b[n]=y:=by simpa [hlt] using hy
 have hy1:y < B:=by rw [<- hyb]; exact a1s hb.1 n hlt
 have hy0:y ≠ 0:=by
  have h:=hb.2 hb0
  have e:b.getLast hb0=b[n]:=by
   rw [List.getLast_eq_getElem]
   congr 1
   omega
  rw [e,hyb] at h
  exact h
 have hs0:0 < B / (y+1):=Nat.div_pos hy1 (by omega)
 have hs1:B / (y+1) < B:=Nat.div_lt_self a3r (by omega)
 have hv:val b=val (b.take n)+B ^ n*y:=by
  have:=a1F b n (by omega)
  rw [this,a1R b n hlt,List.drop_of_length_le (by omega),hyb]
  simp [Lb.val]
 have ht:=a9H hb.1 n (by omega)
 refine ⟨by omega,hy1,hs0,hs1,?_,?_⟩
 ·refine aBZ (t:=y) ?_
  rw [hv,Nat.add_mul,Nat.one_mul,Nat.mul_comm]
  omega
 ·have h1:B ^ n*1 <= val b*(B / (y+1)):=by
   refine Nat.mul_le_mul ?_ hs0
   rw [hv]
   have:B ^ n*1 <= B ^ n*y:=Nat.mul_le_mul_left _ (by omega)
   omega
  omega
theorem a7o {V n:Nat} (h1:V < B ^ (n+1)) (h2:B ^ n <= V):(limbs V).length=n+1:=by
 have a1:=a0X h1
 rcases Nat.lt_or_ge n (limbs V).length with h | h
 ·omega
 ·have:=a7Y h
  omega
theorem aYD {l:List Nat} {n:Nat} (h:n < l.length):l[n]*B ^ n <= val l:=by
 have h1:=a1F l n (by omega)
 rw [a1R l n h] at h1
 rw [h1,Nat.mul_add,Nat.mul_comm]
 omega
theorem aWk {V n:Nat} (h:(limbs V).length=n+1) (hlt:n < (limbs V).length):0 < (limbs V)[n]:=by
 have h1:=(a0f V).2 (by intro e; rw [e] at h; simp at h)
 rw [List.getLast_eq_getElem] at h1
 have e:(limbs V).length - 1=n:=by omega
 simp only [e] at h1
 omega
theorem a2l {X:List Nat} {k x:Nat}:(List.replicate (k+1) 0 ++ X).set k x=List.replicate k 0 ++ (x :: X):=by
 rw [List.set_append_left _ _ (by simp),show List.replicate (k+1) 0=List.replicate k 0 ++ [0] by rw [<- List.replicate_succ'],List.set_append_right _ _ (by simp)]
 simp
end Lb
end Go.Proofs.YtbohkigffejhoaaGreat
