import Derived.Test.YtocpaddakdcofaaGreatR14
namespace Go.Proofs.YtocpaddakdcofaaGreat
open Go.RowKit
namespace Vc
theorem getD_last (l:List Nat) (k:Nat) (hk:k <= l.length) (h0:0 < k):∃ x,(l.take k).getD (k - 1) 0=x/\l.take k=l.take (k - 1) ++ [x]:=by
 obtain ⟨m,rfl⟩:∃ m,k=m+1:=⟨k - 1,by omega⟩
 refine ⟨l[m],?_,?_⟩
 ·simp [List.getD_eq_getElem?_getD,show m < l.length by omega]
 ·rw [List.take_succ_eq_append_getElem (by omega)]
  simp
def cJtrim:Ctr:=⟨144,fun | [.c (.sl (l))]=>.yes (l.length <= 1000000000) (.k (.c (.sl ((Lb.trim l))))) | _=>.no⟩
theorem cJtrim_owes (l:List Nat) (hp:l.length <= 1000000000):owes LT CT0 [.inv 1 (Nat) (fun ξ=>⟨[.k (.c (.sl ((l.take ξ)))),.u,.u,.u,.u,.u,.u,.u,.u,.u,.u,.u,.u,.u,.u,.u,.u,.u,.u,.u,.u],[]⟩) (fun _ ξ=>(ξ <= l.length/\Lb.trim (l.take ξ)=Lb.trim l)) (fun ξ=>ξ)] Tryz.f144 (Tryz.f144.body.getD .skip) [.c (.sl (l))] (.k (.c (.sl ((Lb.trim l))))):=by
 refine Eq.mp (show ((∃ x1:Nat,((x1 <= l.length/\Lb.trim (l.take x1)=Lb.trim l)/\(((l=(l.take x1))/\(True))/\(True))))/\(∀ x1:Nat,((x1 <= l.length/\Lb.trim (l.take x1)=Lb.trim l)->((((decide (((l.take x1).length:Int) > (0:Int))) == true)=true->(inR .i64 (((l.take x1).length:Int) - (1:Int))))/\((((decide (((l.take x1).length:Int) > (0:Int))) == true)=true->(0 <= ((l.take x1).length:Int) - (1:Int)/\((l.take x1).length:Int) - (1:Int) < ((l.take x1).length:Int)))/\(((bif (decide (((l.take x1).length:Int) > (0:Int))) then ((((l.take x1).getD (((l.take x1).length:Int) - (1:Int)).toNat 0:Nat):Int) == (0:Int)) else false)=true->((inR .i64 (((l.take x1).length:Int) - (1:Int)))/\((0 <= ((l.take x1).length:Int) - (1:Int)/\((l.take x1).length:Int) - (1:Int) <= ((l.take x1).length:Int))/\(∃ y1:Nat,((y1 <= l.length/\Lb.trim (l.take y1)=Lb.trim l)/\((y1 < x1)/\((((l.take x1).take (((l.take x1).length:Int) - (1:Int)).toNat=(l.take y1))/\(True))/\(True))))))))/\((bif (decide (((l.take x1).length:Int) > (0:Int))) then ((((l.take x1).getD (((l.take x1).length:Int) - (1:Int)).toNat 0:Nat):Int) == (0:Int)) else false)=false->((l.take x1)=(Lb.trim l)))))))))=_ by kernel_rfl) ?_
 refine ⟨⟨l.length,⟨Nat.le_refl _,by rw [List.take_length]⟩,⟨by rw [List.take_length],by simp⟩,by simp⟩,?_⟩
 rintro k ⟨hk,ht⟩
 have hlen:(l.take k).length=k:=by simp; omega
 have ek:((k:Int) - 1).toNat=k - 1:=by omega
 simp only [hlen,ek]
 refine ⟨fun h=>by simp only [inR]; omega,fun h=>?_,fun h=>?_,fun h=>?_⟩
 ·have:0 < k:=by simpa using h
  omega
 ·have h0:0 < k:=by
   rcases Nat.eq_zero_or_pos k with e | e
   ·subst e; simp at h
   ·exact e
  obtain ⟨x,hx1,hx2⟩:=getD_last l k hk h0
  rw [hx1] at h
  have hx0:x=0:=by
   have hd:decide ((k:Int) > 0)=true:=by simp; omega
   rw [hd] at h
   simpa using h
  subst hx0
  refine ⟨by simp only [inR]; omega,⟨by omega,by omega⟩,k - 1,⟨by omega,?_⟩,by omega,⟨?_,trivial⟩,trivial⟩
  ·rw [<- ht,hx2,Lb.trim_snoc_zero]
  ·rw [List.take_take,Nat.min_eq_left (by omega)]
 ·rw [<- ht]
  rcases Nat.eq_zero_or_pos k with e | e
  ·subst e
   rfl
  ·obtain ⟨x,hx1,hx2⟩:=getD_last l k hk e
   rw [hx1] at h
   have hd:decide ((k:Int) > 0)=true:=by simp; omega
   rw [hd] at h
   have hx0:x ≠ 0:=by simpa using h
   refine (Lb.trim_norm fun hne=>?_).symm
   have hg:(l.take k).getLast hne=x:=by
    have:∀ (m:List Nat) (hm:m ≠ []),m=l.take (k - 1) ++ [x]->m.getLast hm=x:=by
     intro m hm e
     subst e
     simp
    exact this _ _ hx2
   rw [hg]
   exact hx0
theorem cJtrim_ok:CtrOK Tryz.prog cJtrim:=.of (by kernel_rfl) (fun bs w xs vs pre r hr hA hG h hp=>by
 simp only [cJtrim] at h
 split at h
 ·cases h
  exact ctr_calls mixed LT_ok CT0_ok Tryz.func144 (by kernel_rfl) hr hA hG rfl rfl (cJtrim_owes _ hp)
 ·cases h) (fun xs α pre φ r=>by simp only [cJtrim]; split <;> (intro h; cases h))
def RT0:List Ctr:=CT0 ++ [cJtrim]
theorem RT0_ok:∀ c ∈ RT0,CtrOK Tryz.prog c:=ok_app CT0_ok (by
 intro c hc
 simp only [List.mem_cons,List.not_mem_nil,or_false] at hc
 rcases hc with rfl
 ·exact cJtrim_ok)
def cJsigned:Ctr:=⟨89,fun | [.c (.v (.bool (b))),.c (.sl (l))]=>.yes (Lb.Lt l/\l.length <= 1000000000) (.k (.g [.I ((sgn b (Lb.val l)))])) | _=>.no⟩
theorem cJsigned_owes (b:Bool) (l:List Nat) (hp:Lb.Lt l/\l.length <= 1000000000):owes LT RT0 [] Tryz.f89 (Tryz.f89.body.getD .skip) [.c (.v (.bool (b))),.c (.sl (l))] (.k (.g [.I ((sgn b (Lb.val l)))])):=by
 refine Eq.mp (show (((l).length <= 1000000000)/\((Value.bool (bif b then (decide (((Lb.trim l).length:Int) > (0:Int))) else false)=.bool (decide ((sgn b (Lb.val l)) < 0)))/\(((Lb.trim l)=Lb.limbs (sgn b (Lb.val l)).natAbs)/\(True))))=_ by kernel_rfl) ?_
 obtain ⟨hl,hn⟩:=hp
 have ht:Lb.trim l=Lb.limbs (Lb.val l):=Lb.trim_eq hl
 refine ⟨hn,?_,?_,trivial⟩
 ·have hc:decide (((Lb.limbs (Lb.val l)).length:Int) > 0)=decide (0 < Lb.val l):=by
   rw [decide_eq_decide]
   rcases Nat.eq_zero_or_pos (Lb.val l) with e | e
   ·rw [e,Lb.limbs_zero]; simp
   ·rw [Lb.limbs_pos (by omega)]; simp only [List.length_cons]; omega
  rw [sgn_neg,ht,hc]
  cases b <;> rfl
 ·rw [sgn_natAbs,ht]
theorem cJsigned_ok:CtrOK Tryz.prog cJsigned:=.of (by kernel_rfl) (fun bs w xs vs pre r hr hA hG h hp=>by
 simp only [cJsigned] at h
 split at h
 ·cases h
  exact ctr_calls mixed LT_ok RT0_ok Tryz.func89 (by kernel_rfl) hr hA hG rfl rfl (cJsigned_owes _ _ hp)
 ·cases h) (fun xs α pre φ r=>by simp only [cJsigned]; split <;> (intro h; cases h))
def cJcmp:Ctr:=⟨113,fun | [.c (.sl (a)),.c (.sl (b))]=>.yes ((Lb.Norm a/\Lb.Norm b)/\a.length <= 1000000000/\b.length <= 1000000000) (.k (.c (.v (.int .i64 ((cmpN (Lb.val a) (Lb.val b))))))) | _=>.no⟩
theorem cJcmp_owes (a b:List Nat) (hp:(Lb.Norm a/\Lb.Norm b)/\a.length <= 1000000000/\b.length <= 1000000000):owes LT RT0 [.inv 6 (Nat) (fun ξ=>⟨[.k (.c (.sl (a))),.k (.c (.sl (b))),.u,.u,.u,.k (.c (.v (.int .i64 (((ξ:Int) - (1:Int)))))),.u,.u,.u,.u,.u,.u,.u,.u,.u,.u,.u,.u,.u,.u,.u,.u,.u,.u,.u,.u,.u,.u,.u,.u,.u,.u,.u,.u,.u,.u,.u,.u,.u,.u,.u],[]⟩) (fun _ ξ=>(ξ <= a.length/\a.length=b.length/\a.drop ξ=b.drop ξ)) (fun ξ=>ξ)] Tryz.f113 (Tryz.f113.body.getD .skip) [.c (.sl (a)),.c (.sl (b))] (.k (.c (.v (.int .i64 ((cmpN (Lb.val a) (Lb.val b))))))):=by
 refine Eq.mp (show (((((a).length:Int) != ((b).length:Int))=true->(((decide (((a).length:Int) < ((b).length:Int)))=true->(Value.int .i64 (-1:Int)=(.int .i64 (cmpN (Lb.val a) (Lb.val b)))))/\((decide (((a).length:Int) < ((b).length:Int)))=false->(Value.int .i64 (1:Int)=(.int .i64 (cmpN (Lb.val a) (Lb.val b)))))))/\((((a).length:Int) != ((b).length:Int))=false->((inR .i64 (((a).length:Int) - (1:Int)))/\((∃ x1:Nat,((x1 <= a.length/\a.length=b.length/\a.drop x1=b.drop x1)/\(((a=a)/\((b=b)/\((Value.int .i64 (((a).length:Int) - (1:Int))=(.int .i64 ((x1:Int) - (1:Int))))/\(True))))/\(True))))/\(∀ x1:Nat,((x1 <= a.length/\a.length=b.length/\a.drop x1=b.drop x1)->(((decide (((x1:Int) - (1:Int)) >= (0:Int)))=true->((0 <= ((x1:Int) - (1:Int))/\((x1:Int) - (1:Int)) < ((a).length:Int))/\((0 <= ((x1:Int) - (1:Int))/\((x1:Int) - (1:Int)) < ((b).length:Int))/\(((decide ((((a).getD ((x1:Int) - (1:Int)).toNat 0:Nat):Int) < (((b).getD ((x1:Int) - (1:Int)).toNat 0:Nat):Int)))=true->(Value.int .i64 (-1:Int)=(.int .i64 (cmpN (Lb.val a) (Lb.val b)))))/\((decide ((((a).getD ((x1:Int) - (1:Int)).toNat 0:Nat):Int) < (((b).getD ((x1:Int) - (1:Int)).toNat 0:Nat):Int)))=false->((0 <= ((x1:Int) - (1:Int))/\((x1:Int) - (1:Int)) < ((a).length:Int))/\((0 <= ((x1:Int) - (1:Int))/\((x1:Int) - (1:Int)) < ((b).length:Int))/\(((decide ((((a).getD ((x1:Int) - (1:Int)).toNat 0:Nat):Int) > (((b).getD ((x1:Int) - (1:Int)).toNat 0:Nat):Int)))=true->(Value.int .i64 (1:Int)=(.int .i64 (cmpN (Lb.val a) (Lb.val b)))))/\((decide ((((a).getD ((x1:Int) - (1:Int)).toNat 0:Nat):Int) > (((b).getD ((x1:Int) - (1:Int)).toNat 0:Nat):Int)))=false->((inR .i64 (((x1:Int) - (1:Int)) - (1:Int)))/\(∃ y1:Nat,((y1 <= a.length/\a.length=b.length/\a.drop y1=b.drop y1)/\((y1 < x1)/\(((a=a)/\((b=b)/\((Value.int .i64 (((x1:Int) - (1:Int)) - (1:Int))=(.int .i64 ((y1:Int) - (1:Int))))/\(True))))/\(True)))))))))))))))/\((decide (((x1:Int) - (1:Int)) >= (0:Int)))=false->(Value.int .i64 (0:Int)=(.int .i64 (cmpN (Lb.val a) (Lb.val b))))))))))))=_ by kernel_rfl) ?_
 obtain ⟨⟨ha,hb⟩,na,nb⟩:=hp
 refine ⟨fun h=>⟨fun h1=>?_,fun h1=>?_⟩,fun h=>⟨by simp only [inR]; omega,⟨a.length,⟨Nat.le_refl _,by have:(a.length:Int)=b.length:=(by simpa using h); omega,?_⟩,by simp,trivial⟩,?_⟩⟩
 ·rw [cmpN_lt (Lb.lt_of_len ha hb (by simpa using h1))]
 ·have h2:(a.length:Int) ≠ b.length:=by simpa using h
  have h3:¬ a.length < b.length:=by simpa using h1
  rw [cmpN_gt (Lb.lt_of_len hb ha (by omega))]
 ·have h2:(a.length:Int)=b.length:=by simpa using h
  have h2:a.length=b.length:=by omega
  rw [List.drop_length,h2,List.drop_length]
 rintro k ⟨hk,hlen,hd⟩
 refine ⟨fun h0=>?_,fun h0=>?_⟩
 ·have hk0:0 < k:=by have:=of_decide_eq_true h0; omega
  obtain ⟨m,rfl⟩:∃ m,k=m+1:=⟨k - 1,by omega⟩
  have e:(((m+1:Nat):Int) - 1).toNat=m:=by omega
  have hma:m < a.length:=by omega
  have hmb:m < b.length:=by omega
  have ea:a.getD m 0=a[m]:=by simp [List.getD_eq_getElem?_getD,hma]
  have eb:b.getD m 0=b[m]:=by simp [List.getD_eq_getElem?_getD,hmb]
  simp only [e,ea,eb]
  refine ⟨⟨by omega,by omega⟩,⟨by omega,by omega⟩,fun c=>?_,fun c=>⟨⟨by omega,by omega⟩,⟨by omega,by omega⟩,fun c'=>?_,fun c'=>⟨by simp only [inR]; omega,m,⟨by omega,hlen,?_⟩,by omega,by simp,trivial⟩⟩⟩
  ·rw [cmpN_lt (Lb.lt_of_top ha.1 m hma hmb hd (by simpa using c))]
  ·rw [cmpN_gt (Lb.lt_of_top hb.1 m hmb hma hd.symm (by simpa using c'))]
  ·have h1:¬ a[m] < b[m]:=by simpa using c
   have h2:¬ b[m] < a[m]:=by simpa using c'
   rw [List.drop_eq_getElem_cons hma,List.drop_eq_getElem_cons hmb,hd,show a[m]=b[m] by omega]
 ·have hk0:k=0:=by have:=of_decide_eq_false h0; omega
  subst hk0
  rw [List.drop_zero,List.drop_zero] at hd
  rw [cmpN_eq (by rw [hd])]
theorem cJcmp_ok:CtrOK Tryz.prog cJcmp:=.of (by kernel_rfl) (fun bs w xs vs pre r hr hA hG h hp=>by
 simp only [cJcmp] at h
 split at h
 ·cases h
  exact ctr_calls mixed LT_ok RT0_ok Tryz.func113 (by kernel_rfl) hr hA hG rfl rfl (cJcmp_owes _ _ hp)
 ·cases h) (fun xs α pre φ r=>by simp only [cJcmp]; split <;> (intro h; cases h))
def RT1:List Ctr:=RT0 ++ [cJsigned,cJcmp]
theorem RT1_ok:∀ c ∈ RT1,CtrOK Tryz.prog c:=ok_app RT0_ok (by
 intro c hc
 simp only [List.mem_cons,List.not_mem_nil,or_false] at hc
 rcases hc with rfl | rfl
 ·exact cJsigned_ok
 ·exact cJcmp_ok)
def cJsign:Ctr:=⟨117,fun | [.g [.I (z)]]=>.yes (True) (.k (.c (.v (.int .i64 (z.sign))))) | _=>.no⟩
theorem cJsign_owes (z:Int):owes LT RT1 [] Tryz.f117 (Tryz.f117.body.getD .skip) [.g [.I (z)]] (.k (.c (.v (.int .i64 (z.sign))))):=by
 refine Eq.mp (show (((((Lb.limbs (z).natAbs).length:Int) == (0:Int))=true->(Value.int .i64 (0:Int)=(.int .i64 z.sign)))/\((((Lb.limbs (z).natAbs).length:Int) == (0:Int))=false->(((decide (z < 0))=true->(Value.int .i64 (-1:Int)=(.int .i64 z.sign)))/\((decide (z < 0))=false->(Value.int .i64 (1:Int)=(.int .i64 z.sign))))))=_ by kernel_rfl) ?_
 have hl:((Lb.limbs z.natAbs).length:Int)=0 ↔ z=0:=by
  rcases Nat.eq_zero_or_pos z.natAbs with e | e
  ·rw [e,Lb.limbs_zero]; simp; omega
  ·rw [Lb.limbs_pos (by omega)]; simp only [List.length_cons]; omega
 refine ⟨fun h=>?_,fun h=>⟨fun h1=>?_,fun h1=>?_⟩⟩
 ·have h0:z=0:=hl.1 (beq_iff_eq.1 h)
  rw [h0]; rfl
 ·rw [Int.sign_eq_neg_one_of_neg (of_decide_eq_true h1)]
 ·have h0:z ≠ 0:=fun e=>by
   rw [hl.2 e] at h
   cases h
  have h2:=of_decide_eq_false h1
  rw [Int.sign_eq_one_of_pos (by omega)]
theorem cJsign_ok:CtrOK Tryz.prog cJsign:=.of (by kernel_rfl) (fun bs w xs vs pre r hr hA hG h hp=>by
 simp only [cJsign] at h
 split at h
 ·cases h
  exact ctr_calls mixed LT_ok RT1_ok Tryz.func117 (by kernel_rfl) hr hA hG rfl rfl (cJsign_owes _)
 ·cases h) (fun xs α pre φ r=>by simp only [cJsign]; split <;> (intro h; cases h))
def cJneg:Ctr:=⟨118,fun | [.g [.I (z)]]=>.yes (szI z <= 10000000) (.k (.g [.I ((-z))])) | _=>.no⟩
theorem cJneg_owes (z:Int) (hp:szI z <= 10000000):owes LT RT1 [] Tryz.f118 (Tryz.f118.body.getD .skip) [.g [.I (z)]] (.k (.g [.I ((-z))])):=by
 refine Eq.mp (show ((Lb.Lt (Lb.limbs (z).natAbs)/\(Lb.limbs (z).natAbs).length <= 1000000000)/\(((sgn (!(decide (z < 0))) (Lb.val (Lb.limbs (z).natAbs)))=(-z))/\(True)))=_ by kernel_rfl) ?_
 unfold szI at hp
 refine ⟨⟨(Lb.norm_limbs _).1,by omega⟩,?_,trivial⟩
 rw [Lb.val_limbs]
 unfold sgn
 by_cases h:z < 0
 ·simp [h]; omega
 ·simp [h]; omega
theorem cJneg_ok:CtrOK Tryz.prog cJneg:=.of (by kernel_rfl) (fun bs w xs vs pre r hr hA hG h hp=>by
 simp only [cJneg] at h
 split at h
 ·cases h
  exact ctr_calls mixed LT_ok RT1_ok Tryz.func118 (by kernel_rfl) hr hA hG rfl rfl (cJneg_owes _ hp)
 ·cases h) (fun xs α pre φ r=>by simp only [cJneg]; split <;> (intro h; cases h))
def RT2:List Ctr:=RT1 ++ [cJsign,cJneg]
theorem RT2_ok:∀ c ∈ RT2,CtrOK Tryz.prog c:=ok_app RT1_ok (by
 intro c hc
 simp only [List.mem_cons,List.not_mem_nil,or_false] at hc
 rcases hc with rfl | rfl
 ·exact cJsign_ok
 ·exact cJneg_ok)
def cJshort:Ctr:=⟨172,fun | [.c (.sl (l))]=>.yes (Lb.Lt l/\l.length <= 2) (.k (.c (.v (.int .u64 ((Lb.val l:Int)))))) | _=>.no⟩
theorem cJshort_owes (l:List Nat) (hp:Lb.Lt l/\l.length <= 2):owes LT RT1 [.inv 3 (Nat) (fun ξ=>⟨[.k (.c (.sl (l))),.u,.u,.k (.c (.v (.int .u64 ((Lb.val (l.drop ξ):Int))))),.k (.c (.v (.int .i64 (((ξ:Int) - (1:Int)))))),.u,.u,.u,.u,.u,.u,.u,.u,.u,.u,.u,.u,.u,.u,.u,.u],[]⟩) (fun _ ξ=>(ξ <= l.length)) (fun ξ=>ξ)] Tryz.f172 (Tryz.f172.body.getD .skip) [.c (.sl (l))] (.k (.c (.v (.int .u64 ((Lb.val l:Int)))))):=by
 refine Eq.mp (show ((inR .i64 (((l).length:Int) - (1:Int)))/\((∃ x1:Nat,((x1 <= l.length)/\(((l=l)/\((Value.int .u64 (0:Int)=(.int .u64 (Lb.val (l.drop x1):Int)))/\((Value.int .i64 (((l).length:Int) - (1:Int))=(.int .i64 ((x1:Int) - (1:Int))))/\(True))))/\(True))))/\(∀ x1:Nat,((x1 <= l.length)->(((decide (((x1:Int) - (1:Int)) >= (0:Int)))=true->((inR .u64 ((Lb.val (l.drop x1):Int)*(1000000000:Int)))/\((0 <= ((x1:Int) - (1:Int))/\((x1:Int) - (1:Int)) < ((l).length:Int))/\((inR .u64 (((l).getD ((x1:Int) - (1:Int)).toNat 0:Nat):Int))/\((inR .u64 (((Lb.val (l.drop x1):Int)*(1000000000:Int))+(((l).getD ((x1:Int) - (1:Int)).toNat 0:Nat):Int)))/\((inR .i64 (((x1:Int) - (1:Int)) - (1:Int)))/\(∃ y1:Nat,((y1 <= l.length)/\((y1 < x1)/\(((l=l)/\((Value.int .u64 (((Lb.val (l.drop x1):Int)*(1000000000:Int))+(((l).getD ((x1:Int) - (1:Int)).toNat 0:Nat):Int))=(.int .u64 (Lb.val (l.drop y1):Int)))/\((Value.int .i64 (((x1:Int) - (1:Int)) - (1:Int))=(.int .i64 ((y1:Int) - (1:Int))))/\(True))))/\(True)))))))))))/\((decide (((x1:Int) - (1:Int)) >= (0:Int)))=false->(Value.int .u64 (Lb.val (l.drop x1):Int)=(.int .u64 (Lb.val l:Int)))))))))=_ by kernel_rfl) ?_
 obtain ⟨hl,hn⟩:=hp
 refine ⟨by simp only [inR]; omega,⟨l.length,Nat.le_refl _,by simp [Lb.val],trivial⟩,fun k hk=>⟨fun h=>?_,fun h=>?_⟩⟩
 ·have hk0:0 < k:=by have:=of_decide_eq_true h; omega
  obtain ⟨m,rfl⟩:∃ m,k=m+1:=⟨k - 1,by omega⟩
  have e:(((m+1:Nat):Int) - 1).toNat=m:=by omega
  have hm:m < l.length:=by omega
  have ea:l.getD m 0=l[m]:=by simp [List.getD_eq_getElem?_getD,hm]
  have hx:=Lb.lt_get hl m hm
  have hv:=Lb.val_drop l m hm
  have hb:=Lb.val_lt (Lb.lt_drop hl (m+1))
  have hb2:Lb.B ^ (l.drop (m+1)).length <= Lb.B ^ 1:=Nat.pow_le_pow_right Lb.B_pos (by simp; omega)
  rw [Lb.B_eq] at hx hv
  have hb3:Lb.B ^ 1=1000000000:=rfl
  rw [hb3] at hb2
  simp only [e,ea]
  refine ⟨by simp only [inR]; omega,⟨by omega,by omega⟩,by simp only [inR]; omega,by simp only [inR]; omega,by simp only [inR]; omega,m,by omega,by omega,⟨trivial,?_,by simp,trivial⟩,trivial⟩
  congr 1
  omega
 ·have hk0:k=0:=by have:=of_decide_eq_false h; omega
  subst hk0
  rfl
theorem cJshort_ok:CtrOK Tryz.prog cJshort:=.of (by kernel_rfl) (fun bs w xs vs pre r hr hA hG h hp=>by
 simp only [cJshort] at h
 split at h
 ·cases h
  exact ctr_calls mixed LT_ok RT1_ok Tryz.func172 (by kernel_rfl) hr hA hG rfl rfl (cJshort_owes _ hp)
 ·cases h) (fun xs α pre φ r=>by simp only [cJshort]; split <;> (intro h; cases h))
def cJsame:Ctr:=⟨326,fun | [.g [.I (x)],.g [.I (y)]]=>.yes (szI x <= 10000000/\szI y <= 10000000) (.k (.c (.v (.bool (decide (x=y)))))) | _=>.no⟩
theorem cJsame_owes (x y:Int) (hp:szI x <= 10000000/\szI y <= 10000000):owes LT RT1 [] Tryz.f326 (Tryz.f326.body.getD .skip) [.g [.I (x)],.g [.I (y)]] (.k (.c (.v (.bool (decide (x=y)))))):=by
 refine Eq.mp (show (((((decide (x < 0)) == (decide (y < 0))) == true)=true->((Lb.Norm (Lb.limbs (x).natAbs)/\Lb.Norm (Lb.limbs (y).natAbs))/\(Lb.limbs (x).natAbs).length <= 1000000000/\(Lb.limbs (y).natAbs).length <= 1000000000))/\(Value.bool (bif ((decide (x < 0)) == (decide (y < 0))) then ((cmpN (Lb.val (Lb.limbs (x).natAbs)) (Lb.val (Lb.limbs (y).natAbs))) == (0:Int)) else false)=(.bool (decide (x=y)))))=_ by kernel_rfl) ?_
 unfold szI at hp
 obtain ⟨h1,h2⟩:=hp
 refine ⟨fun _=>⟨⟨Lb.norm_limbs _,Lb.norm_limbs _⟩,by omega,by omega⟩,?_⟩
 rw [Lb.val_limbs,Lb.val_limbs]
 congr 1
 have hc:(cmpN x.natAbs y.natAbs == 0)=decide (x.natAbs=y.natAbs):=by
  rcases Nat.lt_trichotomy x.natAbs y.natAbs with h | h | h
  ·rw [cmpN_lt h,decide_eq_false (by omega)]; rfl
  ·rw [cmpN_eq h,decide_eq_true h]; rfl
  ·rw [cmpN_gt h,decide_eq_false (by omega)]; rfl
 rw [hc]
 by_cases a1:x < 0 <;> by_cases a2:y < 0 <;> simp [a1,a2] <;> omega
theorem cJsame_ok:CtrOK Tryz.prog cJsame:=.of (by kernel_rfl) (fun bs w xs vs pre r hr hA hG h hp=>by
 simp only [cJsame] at h
 split at h
 ·cases h
  exact ctr_calls mixed LT_ok RT1_ok Tryz.func326 (by kernel_rfl) hr hA hG rfl rfl (cJsame_owes _ _ hp)
 ·cases h) (fun xs α pre φ r=>by simp only [cJsame]; split <;> (intro h; cases h))
def RT3:List Ctr:=RT2 ++ [cJshort,cJsame]
theorem RT3_ok:∀ c ∈ RT3,CtrOK Tryz.prog c:=ok_app RT2_ok (by
 intro c hc
 simp only [List.mem_cons,List.not_mem_nil,or_false] at hc
 rcases hc with rfl | rfl
 ·exact cJshort_ok
 ·exact cJsame_ok)
def cJvalid:Ctr:=⟨325,fun | [.g [.I (z)]]=>.yes (szI z <= 10000000) (.k (.c (.v (.bool (true))))) | _=>.no⟩
theorem cJvalid_owes (z:Int) (hp:szI z <= 10000000):owes LT RT3 [.inv 2 (Nat) (fun ξ=>⟨[.u,.k (.c (.bx 0 0)),.u,.k (.c (.v (.int .i64 ((ξ:Int))))),.u,.u,.u,.u,.u,.u,.u,.u,.u,.u,.u,.u,.u,.u,.u,.u,.u,.u,.u,.u,.u,.u,.u,.u,.u,.u,.u,.u,.u,.u,.u,.u],[⟨49,[.I (z)]⟩]⟩) (fun _ ξ=>(ξ <= (Lb.limbs z.natAbs).length)) (fun ξ=>(Lb.limbs z.natAbs).length - ξ)] Tryz.f325 (Tryz.f325.body.getD .skip) [.g [.I (z)]] (.k (.c (.v (.bool (true))))):=by
 refine Eq.mp (show ((∃ x1:Nat,((x1 <= (Lb.limbs z.natAbs).length)/\(((True)/\((Value.int .i64 (0:Int)=(.int .i64 (x1:Int)))/\(True)))/\(((z=z)/\(True))/\(True)))))/\(∀ x1:Nat,((x1 <= (Lb.limbs z.natAbs).length)->(((decide ((x1:Int) < ((Lb.limbs (z).natAbs).length:Int)))=true->((0 <= (x1:Int)/\(x1:Int) < ((Lb.limbs (z).natAbs).length:Int))/\(((decide ((((Lb.limbs (z).natAbs).getD (x1:Int).toNat 0:Nat):Int) >= (1000000000:Int)))=true->(Value.bool false=(.bool true)))/\((decide ((((Lb.limbs (z).natAbs).getD (x1:Int).toNat 0:Nat):Int) >= (1000000000:Int)))=false->((inR .i64 ((x1:Int)+(1:Int)))/\(∃ y1:Nat,((y1 <= (Lb.limbs z.natAbs).length)/\(((Lb.limbs z.natAbs).length - y1 < (Lb.limbs z.natAbs).length - x1)/\(((True)/\((Value.int .i64 ((x1:Int)+(1:Int))=(.int .i64 (y1:Int)))/\(True)))/\(((z=z)/\(True))/\(True)))))))))))/\((decide ((x1:Int) < ((Lb.limbs (z).natAbs).length:Int)))=false->(((Lb.limbs (z).natAbs).length <= 1000000000)/\(Value.bool (bif (((Lb.trim (Lb.limbs (z).natAbs)).length:Int) == ((Lb.limbs (z).natAbs).length:Int)) then (bif (!(decide (z < 0))) then true else (decide (((Lb.limbs (z).natAbs).length:Int) > (0:Int)))) else false)=(.bool true))))))))=_ by kernel_rfl) ?_
 unfold szI at hp
 have hN:=Lb.norm_limbs z.natAbs
 have hT:Lb.trim (Lb.limbs z.natAbs)=Lb.limbs z.natAbs:=by rw [Lb.trim_eq hN.1,Lb.val_limbs]
 have hz:z < 0->0 < (Lb.limbs z.natAbs).length:=fun h=>by
  rw [Lb.limbs_pos (by omega)]
  simp
 rw [hT]
 generalize Lb.limbs z.natAbs=l at *
 refine ⟨⟨0,Nat.zero_le _,by simp,by simp,trivial⟩,fun k hk=>⟨fun h=>?_,fun h=>?_⟩⟩
 ·have hkl:k < l.length:=by simpa using h
  have hx:=Lb.lt_get hN.1 k hkl
  rw [Lb.B_eq] at hx
  have ea:l.getD k 0=l[k]:=by simp [List.getD_eq_getElem?_getD,hkl]
  simp only [Int.toNat_natCast,ea]
  refine ⟨⟨by omega,by omega⟩,fun c=>?_,fun _=>⟨by simp only [inR]; omega,k+1,hkl,by omega,by simp,by simp,trivial⟩⟩
  have:=of_decide_eq_true c
  omega
 ·refine ⟨by omega,?_⟩
  by_cases h1:z < 0
  ·have:=hz h1
   simp [h1]
   exact this
  ·simp [h1]
theorem cJvalid_ok:CtrOK Tryz.prog cJvalid:=.of (by kernel_rfl) (fun bs w xs vs pre r hr hA hG h hp=>by
 simp only [cJvalid] at h
 split at h
 ·cases h
  exact ctr_calls mixed LT_ok RT3_ok Tryz.func325 (by kernel_rfl) hr hA hG rfl rfl (cJvalid_owes _ hp)
 ·cases h) (fun xs α pre φ r=>by simp only [cJvalid]; split <;> (intro h; cases h))
def RT4:List Ctr:=RT3 ++ [cJvalid]
theorem RT4_ok:∀ c ∈ RT4,CtrOK Tryz.prog c:=ok_app RT3_ok (by
 intro c hc
 simp only [List.mem_cons,List.not_mem_nil,or_false] at hc
 rcases hc with rfl
 ·exact cJvalid_ok)
end Vc
end Go.Proofs.YtocpaddakdcofaaGreat
namespace Go.Proofs.YtocpaddakdcofaaGreat
open Go.RowKit
set_option maxRecDepth 8000
def LimbsAt (u n:Nat) (o:List Nat):Prop:=Lb.limbs u=o ++ Lb.limbs n/\n <= u
theorem limbsAt_step {u n:Nat} {o:List Nat} (h:LimbsAt u n o) (hn:0 < n):LimbsAt u (n / 1000000000) (o ++ [n % 1000000000]):=by
 obtain ⟨h1,h2⟩:=h
 rw [Lb.limbs_pos (n:=n) (by omega)] at h1
 rw [Lb.B_eq] at h1
 exact ⟨by rw [h1]; simp,by omega⟩
theorem limbsAt_len {u n:Nat} {o:List Nat} (h:LimbsAt u n o) (hu:u < 18446744073709551616):o.length <= 3:=by
 have h1:=congrArg List.length h.1
 have h2:=Lb.limbs_length (n:=u) (k:=3) (by
  have:Lb.B ^ 3=1000000000000000000000000000:=rfl
  omega)
 rw [List.length_append] at h1
 omega
set_option maxHeartbeats 4000000 in
theorem limbs_any (u:Nat) (w:World) (hu:u < 18446744073709551616) :
    Calls Tryz.prog 90 #[.int .u64 (u:Int)] w (RetU w (Lb.limbs u)):=by
 go_enter Tryz.func90,Tryz.ntmps90
 go_wp2_with fail
 go_loopw [0,3] (fun i out wr=>∃ (n:Nat) (o:List Nat),i=.int .u64 n/\Hid (LimbsAt u n o)/\Hid (OwnG w.heap.size 173 1 uC wr out o)/\Hid (Ext w wr)) (fun i _ _=>(intOf i).toNat)
 case atStart=>exact ⟨u,[],rfl,Lib.hid ⟨by simp,Nat.le_refl _⟩,Lib.hid (OwnG.nil _ _ _),Lib.hid (Ext.refl w)⟩
 case round =>
  obtain ⟨n,o,rfl,HL,HO,HE⟩:=hrel
  have HN:=Lib.hid (limbsAt_len HL.out hu)
  by_cases hn:0 < n
  ·have hq:decide ((n:Int) > 0)=true:=by simp; omega
   have HL2:=Lib.hid (limbsAt_step HL.out hn)
   obtain ⟨X,hX,hAX,heX,hzX⟩:=arr_alloc wr [n % 1000000000]
   have HSX:=Lib.hid (hAX.all (n:=1) (cap:=1) rfl (Nat.le_refl _)); have HOX:=Lib.hid (HO.out.later heX); have HEX:=Lib.hid (HE.out.trans heX)
   have HBX:Hid (w.heap.size <= X.heap.size):=Lib.hid HEX.out.size
   have HM:Hid (o.length+[n % 1000000000].length <= maxLen):=Lib.hid (by have:=HN.out; unfold maxLen; simp; omega)
   have HB:Hid ((o.length+[n % 1000000000].length)*4 <= 140737488355328):=Lib.hid (by have:=HN.out; simp; omega)
   have e1:(n:Int) % 1000000000 < 1000000000:=by omega
   have e2:0 <= (n:Int) % 1000000000:=by omega
   have e3:0 <= (n:Int) / 1000000000:=by omega
   have e4:((1000000000:Nat):Int)=1000000000:=rfl
   have hnu:n <= u:=HL.out.2
   simp only [List.map_cons,List.map_nil,uV,Int.natCast_emod,e4] at hX
   clear hAX heX hzX HL HO HE HN e4
   go_wp2_with ((at_builtin; refine appG_at rfl _ _ rfl Tryz.underlying47 Tryz.info_u32 rfl (by decide) uC_len uC_one w.heap.size _ _ o [n % 1000000000] rfl rfl HOX.out HSX.out HM.out HB.out HBX.out ?_; intro v6 w6 own6 hg6 hloc6))
   have E6:Ext w w6:=HEX.out.grown hg6 (fun i hi=>(HOX.out.base hi).1)
   go_roundw
   case rel=>exact ⟨n / 1000000000,o ++ [n % 1000000000],by go_num,HL2,Lib.hid own6,Lib.hid E6⟩
   case measure=>simp [intOf]; omega
  ·obtain rfl:n=0:=by omega
   have hl:=HL.out.1
   rw [Lb.limbs_zero,List.append_nil] at hl
   have HS:=Lib.hid (HO.out.sl uC_len)
   rw [<- hl] at HS
   obtain ⟨a,c,rfl⟩:=SlU.form HS.out
   go_wp2_with fail
   go_ret
   exact ⟨_,_,_,rfl,HS.out,HE.out⟩
theorem rsigned_any (b:Bool) (s:Value) (l:List Nat) (w:World) (hs:SlU w s l) (hl:Lb.Lt l) (hn:l.length <= 1000000000) :
    Calls Tryz.prog 89 #[.bool b,s] w (RetI w (sgn b (Lb.val l))):=by
 refine (Vc.cJsigned_ok.yes ⟨w.heap.size,[],[],[]⟩ w [.c (.v (.bool b)),.c (.sl l)] [.bool b,s] _ _ ⟨⟨rfl,rfl⟩,⟨hs,Vc.Away.none rfl rfl _ _⟩,trivial⟩ rfl rfl rfl ⟨hl,hn⟩).mono ?_
 rintro e w' ⟨v,rfl,hx,hv⟩
 obtain ⟨b',s',rfl,hi⟩:=(Vc.relK_I rfl rfl).1 hv
 obtain ⟨a,c,rfl⟩:=SlU.form hi.2
 exact ⟨b',a,_,c,rfl,hi,hx⟩
set_option maxHeartbeats 4000000 in
theorem rfromInt_any (n:Int) (w:World) (h0:-9223372036854775808 <= n) (h1:n <= 9223372036854775807) :
    Calls Tryz.prog 53 #[.int .i64 n] w (RetI w n):=by
 obtain ⟨W,hW,hb,hE,hz⟩:=row_alloc w #[.bool false,.slice none 0 0] 49
 have HB:=Lib.hid hb; have HZ:=Lib.hid hz
 clear hb hz
 have hlen:∀ u:Nat,u < 18446744073709551616->(Lb.limbs u).length <= 1000000000:=fun u hu=>by
  have h2:=Lb.limbs_length (n:=u) (k:=3) (by
   have:Lb.B ^ 3=1000000000000000000000000000:=rfl
   omega)
  omega
 by_cases hneg:n < 0
 ·obtain ⟨u,rfl⟩:∃ u:Nat,n=-(u:Int):=⟨n.natAbs,by omega⟩
  have hu:u < 18446744073709551616:=by omega
  have hwr:IntKind.u64.wrap (-IntKind.u64.wrap (-(u:Int)))=(u:Int):=by rw [IntKind.wrap_u64,IntKind.wrap_u64]; omega
  have hsg:sgn true u=-(u:Int):=rfl
  have hup:0 < u:=by omega
  go_enter Tryz.func53,Tryz.ntmps53
  go_wp2_with fail
  refine (limbs_any u _ hu).mono ?_
  rintro e w2 ⟨a,m,c,rfl,hs,hx⟩
  go_wp2_with fail
  refine (rsigned_any true _ _ w2 hs (Lb.norm_limbs u).1 (hlen u hu)).mono ?_
  rintro e w3 ⟨b3,a3,m3,c3,rfl,hs3,hx3⟩
  rw [Lb.val_limbs,hsg] at hs3
  have HK:=Lib.hid (heap_keep HB.out (hx.trans hx3))
  obtain ⟨r0,r1,r2,r3⟩:=res_facts HK.out
  go_wp2_with fail
  exact bodyPost_ret (v:=.agg #[.bool b3,.slice a3 m3 c3]) (by simp [results,Tryz.results53,go_sem,r0,r1]) rfl (fin_int ((hE.trans hx).trans hx3) (Nat.le_refl _) HK.out hs3)
 ·obtain ⟨u,rfl⟩:∃ u:Nat,n=(u:Int):=⟨n.natAbs,by omega⟩
  have hu:u < 18446744073709551616:=by omega
  have hsg:sgn false u=(u:Int):=rfl
  go_enter Tryz.func53,Tryz.ntmps53
  go_wp2_with fail
  refine (limbs_any u _ hu).mono ?_
  rintro e w2 ⟨a,m,c,rfl,hs,hx⟩
  go_wp2_with fail
  refine (rsigned_any false _ _ w2 hs (Lb.norm_limbs u).1 (hlen u hu)).mono ?_
  rintro e w3 ⟨b3,a3,m3,c3,rfl,hs3,hx3⟩
  rw [Lb.val_limbs,hsg] at hs3
  have HK:=Lib.hid (heap_keep HB.out (hx.trans hx3))
  obtain ⟨r0,r1,r2,r3⟩:=res_facts HK.out
  go_wp2_with fail
  exact bodyPost_ret (v:=.agg #[.bool b3,.slice a3 m3 c3]) (by simp [results,Tryz.results53,go_sem,r0,r1]) rfl (fin_int ((hE.trans hx).trans hx3) (Nat.le_refl _) HK.out hs3)
end Go.Proofs.YtocpaddakdcofaaGreat
namespace Go.Proofs.YtocpaddakdcofaaGreat
open Go.RowKit
set_option maxRecDepth 8000
def RetF (w:World) (l:List Nat) (e:Ending) (w':World):Prop:=∃ a n c,e=.returned (.slice a n c)/\SlU w' (.slice a n c) l/\Ext w w'/\∀ b,(Value.slice a n c).ownBlock=some b->w.heap.size <= b
set_option maxHeartbeats 1000000 in
theorem rtrim_blk (v:Value) (l:List Nat) (w:World) (h:SlU w v l) (hn:l.length <= 1000000000) :
    Calls Tryz.prog 144 #[v] w (RetLimbsBlk w v (Lb.trim l)):=by
 rcases h.cases with ⟨rfl,a,cap,rfl,hc⟩ | ⟨h0,b,off,cap,rfl,hcap,hb,hcell⟩
 ·go_enter Tryz.func144,Tryz.ntmps144
  go_wp2
  go_loop [0] (fun t=>t=.slice a 0 cap) (fun _=>0)
  case atStart=>rfl
  case round =>
   subst hrel
   go_wp2
   go_ret
   exact ⟨_,rfl,SlU.empty hc,rfl,rfl⟩
 ·have HC:=Lib.hid hcell
  have HL:=Lib.hid hcap
  clear hcell hcap h
  go_enter Tryz.func144,Tryz.ntmps144
  go_wp2
  go_loop [0] (fun t=>∃ m,m <= l.length/\t=.slice (some ⟨b,off,none⟩) m cap/\Lb.trim (l.take m)=Lb.trim l) (fun t=>match t with | .slice _ m _=>m | _=>0)
  case atStart=>exact ⟨l.length,Nat.le_refl _,rfl,by rw [List.take_length]⟩
  case round =>
   obtain ⟨m,hm,rfl,htr⟩:=hrel
   have HT:=Lib.hid htr
   clear htr
   cases m with
   | zero =>
     go_wp2
     go_ret
     refine ⟨_,rfl,?_,rfl,rfl⟩
     rw [<- HT.out]
     exact SlU.empty (fun h=>by cases h)
   | succ j =>
     have hj:j < l.length:=by omega
     have c:=HC.out j hj
     have hjc:j+1 <= cap:=by have:=HL.out; omega
     have hlast:=take_last hj
     by_cases hz:l[j]=0
     ·rw [hz] at c
      have HZ:Hid (Lb.trim (l.take j)=Lb.trim l):=Lib.hid (by rw [<- HT.out,hlast,hz,Lb.trim_snoc_zero])
      clear hlast hz
      go_wp2
      go_round
      case rel=>exact ⟨j,by omega,by go_num,HZ.out⟩
      case measure=>simp
     ·have hne:((l[j]:Int) == 0)=false:=by simp; omega
      have HZ:Hid (l.take (j+1)=Lb.trim l):=Lib.hid (by
       rw [<- HT.out,Lb.trim_norm]
       intro h
       simp only [hlast,List.getLast_concat]
       exact hz)
      generalize (l[j]:Int)=x at c hne
      clear hlast hz
      go_wp2
      go_ret
      refine ⟨_,rfl,?_,rfl,rfl⟩
      rw [<- HZ.out]
      refine SlU.mk (by simp; omega) hjc (fun _=>hb) fun i hi=>?_
      have hi':i < l.length:=by simp at hi; omega
      rw [HC.out i hi']
      simp
end Go.Proofs.YtocpaddakdcofaaGreat
namespace Go.Proofs.YtocpaddakdcofaaGreat
open Go.RowKit
set_option maxRecDepth 8000
theorem plusAt_any {a b o:List Nat} {k c s:Nat} (h:PlusAt a b k c o) (hs:s=a.getD k 0+b.getD k 0+c):PlusAt a b (k+1) (s / 1000000000) (o ++ [s % 1000000000]) :=
 ⟨by simp [h.len],Lb.lt_append h.lt (Lb.lt_cons (by rw [Lb.B_eq]; omega) Lb.lt_nil),Lb.plus_step h.len h.sum (by rw [Lb.B_eq]; omega)⟩
set_option maxHeartbeats 16000000 in
theorem rplus_ge (v1 v2:Value) (a b:List Nat) (w:World) (h1:SlU w v1 a) (h2:SlU w v2 b) (k1:Lb.Lt a) (k2:Lb.Lt b) (n1:a.length <= 100000000) (hab:b.length <= a.length) :
    Calls Tryz.prog 259 #[v1,v2] w (RetF w (Lb.limbs (Lb.val a+Lb.val b))):=by
 obtain ⟨p1,q1,rfl⟩:=h1.form
 obtain ⟨p2,q2,rfl⟩:=h2.form
 have hlt:decide (a.length < b.length)=false:=by simp; omega
 have hmk:=make_run (a.length+1) (by omega)
 rw [Int.natCast_add] at hmk
 have e1:((1:Nat):Int)=1:=rfl
 rw [e1] at hmk
 obtain ⟨W,hW,hA,hE,hz⟩:=zeros_alloc w (a.length+1)
 have HA0:=Lib.hid hA
 have HE:=Lib.hid hE
 have H1:=Lib.hid h1; have H2:=Lib.hid h2; have HK1:=Lib.hid k1; have HK2:=Lib.hid k2; have HAB:Hid (b.length <= a.length):=Lib.hid (by omega)
 clear e1 hA hE hz h1 h2 k1 k2 hab
 go_enter Tryz.func259,Tryz.ntmps259
 go_wp2_with fail
 clear hmk
 go_loopw [6,7] (fun c i wr=>∃ (k cn:Nat) (o:List Nat),k <= a.length/\i=.int .i64 k/\c=.int .u32 cn/\cn <= 1/\Hid (PlusAt a b k cn o)/\Hid (ArrU wr w.heap.size (o ++ List.replicate (a.length+1 - k) 0))/\Hid (Ext w wr)) (fun _ i _=>a.length - (intOf i).toNat)
 case atStart=>exact ⟨0,0,[],Nat.zero_le _,rfl,rfl,by omega,Lib.hid (plusAt_start a b),HA0,HE⟩
 case round =>
  clear hW HA0 HE hlt
  obtain ⟨k,cn,o,hk,rfl,rfl,hcn,HP,HA,HE⟩:=hrel
  have HL:Hid (o.length=k):=Lib.hid HP.out.len
  have hlen:k < (o ++ List.replicate (a.length+1 - k) 0).length:=by have:=HL.out; simp; omega
  have cs:=HA.out.cell k hlen
  have fs:=HA.out.free k
  generalize ((o ++ List.replicate (a.length+1 - k) 0)[k]:Int)=old at cs
  clear hlen
  by_cases hka:k < a.length
  ·have hx:a[k] < 1000000000:=Lb.lt_get HK1.out k hka
   have HX:Hid (a.getD k 0=a[k]):=Lib.hid (by simp [hka])
   obtain ⟨g1,o1,rfl,cell1⟩:=(H1.out.later HE.out).at k hka
   generalize a[k]=x at *
   by_cases hkb:k < b.length
   ·have hy:b[k] < 1000000000:=Lb.lt_get HK2.out k hkb
    have HY:Hid (b.getD k 0=b[k]):=Lib.hid (by simp [hkb])
    obtain ⟨g2,o2,rfl,cell2⟩:=(H2.out.later HE.out).at k hkb
    generalize b[k]=y at *
    have HP2:=Lib.hid (plusAt_any (s:=cn+x+y) HP.out (by rw [HX.out,HY.out]; omega))
    have HAX:Hid (∀ u:Int,u=((cn:Int)+x+y) % 1000000000->ArrU (wr.setCell ⟨w.heap.size,k,none⟩ (.int .u32 u)) w.heap.size ((o ++ [(cn+x+y) % 1000000000]) ++ List.replicate (a.length+1 - (k+1)) 0)):=Lib.hid (fun u hu=>by
     have e:u=(((cn+x+y) % 1000000000:Nat):Int):=by rw [hu]; simp
     subst e; have:=HA.out.set k ((cn+x+y) % 1000000000); rwa [Lb.set_zeros HL.out (by omega)] at this)
    have HC:Hid (((cn:Int)+x+y) / 1000000000=(((cn+x+y) / 1000000000:Nat):Int)):=Lib.hid (by simp)
    have hc2:(cn+x+y) / 1000000000 <= 1:=by omega
    have HC2:=Lib.hid hc2
    clear hc2 HX HY HP HA HL
    go_wp2_with fail
    go_roundw
    case rel=>exact ⟨k+1,_,_,by omega,by go_num,by rw [HC.out],HC2.out,HP2,Lib.hid (HAX.out _ rfl),Lib.hid (HE.out.setCell (Nat.le_refl _) _)⟩
    case measure=>simp [intOf]; omega
   ·have HY:Hid (b.getD k 0=0):=Lib.hid (by simp [Nat.le_of_not_lt hkb])
    have HP2:=Lib.hid (plusAt_any (s:=cn+x) HP.out (by rw [HX.out,HY.out]; omega))
    have HAX:Hid (∀ u:Int,u=((cn:Int)+x) % 1000000000->ArrU (wr.setCell ⟨w.heap.size,k,none⟩ (.int .u32 u)) w.heap.size ((o ++ [(cn+x) % 1000000000]) ++ List.replicate (a.length+1 - (k+1)) 0)):=Lib.hid (fun u hu=>by
     have e:u=(((cn+x) % 1000000000:Nat):Int):=by rw [hu]; simp
     subst e; have:=HA.out.set k ((cn+x) % 1000000000); rwa [Lb.set_zeros HL.out (by omega)] at this)
    have HC:Hid (((cn:Int)+x) / 1000000000=(((cn+x) / 1000000000:Nat):Int)):=Lib.hid (by simp)
    have hc2:(cn+x) / 1000000000 <= 1:=by omega
    have HC2:=Lib.hid hc2
    clear hc2 HX HY HP HA HL
    go_wp2_with fail
    go_roundw
    case rel=>exact ⟨k+1,_,_,by omega,by go_num,by rw [HC.out],HC2.out,HP2,Lib.hid (HAX.out _ rfl),Lib.hid (HE.out.setCell (Nat.le_refl _) _)⟩
    case measure=>simp [intOf]; omega
  ·obtain rfl:k=a.length:=by omega
   have HC:=Lib.hid (plusAt_end HP.out rfl HAB.out hcn)
   have HAX:Hid (ArrU (wr.setCell ⟨w.heap.size,a.length,none⟩ (.int .u32 (cn:Int))) w.heap.size (o ++ [cn])):=Lib.hid (by
    have:=HA.out.set a.length cn
    rw [Lb.set_zeros HL.out (by omega),Nat.sub_self] at this
    simpa using this)
   clear hka
   have HEF:Hid (Ext w (wr.setCell ⟨w.heap.size,a.length,none⟩ (.int .u32 (cn:Int)))):=Lib.hid (HE.out.setCell (Nat.le_refl _) _)
   have HS:Hid (SlU (wr.setCell ⟨w.heap.size,a.length,none⟩ (.int .u32 (cn:Int))) (.slice (some ⟨w.heap.size,0,none⟩) (a.length+1) (a.length+1)) (o ++ [cn])):=Lib.hid (HAX.out.all (by simp [HL.out]) (Nat.le_refl _))
   have HLN:Hid ((o ++ [cn]).length <= 1000000000):=Lib.hid (by simp [HL.out]; omega)
   clear HA HAX HP
   go_wp2_with fail
   refine (rtrim_blk _ _ _ HS.out HLN.out).mono ?_
   rintro e w3 ⟨v3,rfl,hs3,hb3,rfl⟩
   rw [Lb.trim_eq HC.out.1,HC.out.2] at hs3
   obtain ⟨a3,c3,rfl⟩:=SlU.form hs3
   go_wp2_with fail
   go_ret
   exact ⟨_,_,_,rfl,hs3,HEF.out,fun b hb=>by rw [hb3] at hb; cases hb; exact Nat.le_refl _⟩
set_option maxHeartbeats 16000000 in
theorem rplus_lt (v1 v2:Value) (a b:List Nat) (w:World) (h1:SlU w v1 a) (h2:SlU w v2 b) (k1:Lb.Lt a) (k2:Lb.Lt b) (n1:a.length <= 100000000) (hab:b.length < a.length) :
    Calls Tryz.prog 259 #[v2,v1] w (RetF w (Lb.limbs (Lb.val a+Lb.val b))):=by
 obtain ⟨p1,q1,rfl⟩:=h1.form
 obtain ⟨p2,q2,rfl⟩:=h2.form
 have hlt:decide (b.length < a.length)=true:=by simp; omega
 have hmk:=make_run (a.length+1) (by omega)
 rw [Int.natCast_add] at hmk
 have e1:((1:Nat):Int)=1:=rfl
 rw [e1] at hmk
 obtain ⟨W,hW,hA,hE,hz⟩:=zeros_alloc w (a.length+1)
 have HA0:=Lib.hid hA
 have HE:=Lib.hid hE
 have H1:=Lib.hid h1; have H2:=Lib.hid h2; have HK1:=Lib.hid k1; have HK2:=Lib.hid k2; have HAB:Hid (b.length <= a.length):=Lib.hid (by omega)
 clear e1 hA hE hz h1 h2 k1 k2 hab
 go_enter Tryz.func259,Tryz.ntmps259
 go_wp2_with fail
 clear hmk
 go_loopw [6,7] (fun c i wr=>∃ (k cn:Nat) (o:List Nat),k <= a.length/\i=.int .i64 k/\c=.int .u32 cn/\cn <= 1/\Hid (PlusAt a b k cn o)/\Hid (ArrU wr w.heap.size (o ++ List.replicate (a.length+1 - k) 0))/\Hid (Ext w wr)) (fun _ i _=>a.length - (intOf i).toNat)
 case atStart=>exact ⟨0,0,[],Nat.zero_le _,rfl,rfl,by omega,Lib.hid (plusAt_start a b),HA0,HE⟩
 case round =>
  clear hW HA0 HE hlt
  obtain ⟨k,cn,o,hk,rfl,rfl,hcn,HP,HA,HE⟩:=hrel
  have HL:Hid (o.length=k):=Lib.hid HP.out.len
  have hlen:k < (o ++ List.replicate (a.length+1 - k) 0).length:=by have:=HL.out; simp; omega
  have cs:=HA.out.cell k hlen
  have fs:=HA.out.free k
  generalize ((o ++ List.replicate (a.length+1 - k) 0)[k]:Int)=old at cs
  clear hlen
  by_cases hka:k < a.length
  ·have hx:a[k] < 1000000000:=Lb.lt_get HK1.out k hka
   have HX:Hid (a.getD k 0=a[k]):=Lib.hid (by simp [hka])
   obtain ⟨g1,o1,rfl,cell1⟩:=(H1.out.later HE.out).at k hka
   generalize a[k]=x at *
   by_cases hkb:k < b.length
   ·have hy:b[k] < 1000000000:=Lb.lt_get HK2.out k hkb
    have HY:Hid (b.getD k 0=b[k]):=Lib.hid (by simp [hkb])
    obtain ⟨g2,o2,rfl,cell2⟩:=(H2.out.later HE.out).at k hkb
    generalize b[k]=y at *
    have HP2:=Lib.hid (plusAt_any (s:=cn+x+y) HP.out (by rw [HX.out,HY.out]; omega))
    have HAX:Hid (∀ u:Int,u=((cn:Int)+x+y) % 1000000000->ArrU (wr.setCell ⟨w.heap.size,k,none⟩ (.int .u32 u)) w.heap.size ((o ++ [(cn+x+y) % 1000000000]) ++ List.replicate (a.length+1 - (k+1)) 0)):=Lib.hid (fun u hu=>by
     have e:u=(((cn+x+y) % 1000000000:Nat):Int):=by rw [hu]; simp
     subst e; have:=HA.out.set k ((cn+x+y) % 1000000000); rwa [Lb.set_zeros HL.out (by omega)] at this)
    have HC:Hid (((cn:Int)+x+y) / 1000000000=(((cn+x+y) / 1000000000:Nat):Int)):=Lib.hid (by simp)
    have hc2:(cn+x+y) / 1000000000 <= 1:=by omega
    have HC2:=Lib.hid hc2
    clear hc2 HX HY HP HA HL
    go_wp2_with fail
    go_roundw
    case rel=>exact ⟨k+1,_,_,by omega,by go_num,by rw [HC.out],HC2.out,HP2,Lib.hid (HAX.out _ rfl),Lib.hid (HE.out.setCell (Nat.le_refl _) _)⟩
    case measure=>simp [intOf]; omega
   ·have HY:Hid (b.getD k 0=0):=Lib.hid (by simp [Nat.le_of_not_lt hkb])
    have HP2:=Lib.hid (plusAt_any (s:=cn+x) HP.out (by rw [HX.out,HY.out]; omega))
    have HAX:Hid (∀ u:Int,u=((cn:Int)+x) % 1000000000->ArrU (wr.setCell ⟨w.heap.size,k,none⟩ (.int .u32 u)) w.heap.size ((o ++ [(cn+x) % 1000000000]) ++ List.replicate (a.length+1 - (k+1)) 0)):=Lib.hid (fun u hu=>by
     have e:u=(((cn+x) % 1000000000:Nat):Int):=by rw [hu]; simp
     subst e; have:=HA.out.set k ((cn+x) % 1000000000); rwa [Lb.set_zeros HL.out (by omega)] at this)
    have HC:Hid (((cn:Int)+x) / 1000000000=(((cn+x) / 1000000000:Nat):Int)):=Lib.hid (by simp)
    have hc2:(cn+x) / 1000000000 <= 1:=by omega
    have HC2:=Lib.hid hc2
    clear hc2 HX HY HP HA HL
    go_wp2_with fail
    go_roundw
    case rel=>exact ⟨k+1,_,_,by omega,by go_num,by rw [HC.out],HC2.out,HP2,Lib.hid (HAX.out _ rfl),Lib.hid (HE.out.setCell (Nat.le_refl _) _)⟩
    case measure=>simp [intOf]; omega
  ·obtain rfl:k=a.length:=by omega
   have HC:=Lib.hid (plusAt_end HP.out rfl HAB.out hcn)
   have HAX:Hid (ArrU (wr.setCell ⟨w.heap.size,a.length,none⟩ (.int .u32 (cn:Int))) w.heap.size (o ++ [cn])):=Lib.hid (by
    have:=HA.out.set a.length cn
    rw [Lb.set_zeros HL.out (by omega),Nat.sub_self] at this
    simpa using this)
   clear hka
   have HEF:Hid (Ext w (wr.setCell ⟨w.heap.size,a.length,none⟩ (.int .u32 (cn:Int)))):=Lib.hid (HE.out.setCell (Nat.le_refl _) _)
   have HS:Hid (SlU (wr.setCell ⟨w.heap.size,a.length,none⟩ (.int .u32 (cn:Int))) (.slice (some ⟨w.heap.size,0,none⟩) (a.length+1) (a.length+1)) (o ++ [cn])):=Lib.hid (HAX.out.all (by simp [HL.out]) (Nat.le_refl _))
   have HLN:Hid ((o ++ [cn]).length <= 1000000000):=Lib.hid (by simp [HL.out]; omega)
   clear HA HAX HP
   go_wp2_with fail
   refine (rtrim_blk _ _ _ HS.out HLN.out).mono ?_
   rintro e w3 ⟨v3,rfl,hs3,hb3,rfl⟩
   rw [Lb.trim_eq HC.out.1,HC.out.2] at hs3
   obtain ⟨a3,c3,rfl⟩:=SlU.form hs3
   go_wp2_with fail
   go_ret
   exact ⟨_,_,_,rfl,hs3,HEF.out,fun b hb=>by rw [hb3] at hb; cases hb; exact Nat.le_refl _⟩
theorem rplus_any (v1 v2:Value) (a b:List Nat) (w:World) (h1:SlU w v1 a) (h2:SlU w v2 b) (k1:Lb.Lt a) (k2:Lb.Lt b) (n1:a.length <= 100000000) (n2:b.length <= 100000000) :
    Calls Tryz.prog 259 #[v1,v2] w (RetF w (Lb.limbs (Lb.val a+Lb.val b))):=by
 by_cases h:b.length <= a.length
 ·exact rplus_ge v1 v2 a b w h1 h2 k1 k2 n1 h
 ·rw [Nat.add_comm]
  exact rplus_lt v2 v1 b a w h2 h1 k2 k1 n2 (by omega)
set_option maxHeartbeats 16000000 in
theorem rminus_any (v1 v2:Value) (a b:List Nat) (w:World) (h1:SlU w v1 a) (h2:SlU w v2 b) (k1:Lb.Lt a) (k2:Lb.Lt b) (n1:a.length <= 100000000) (hab:b.length <= a.length) (hle:Lb.val b <= Lb.val a) :
    Calls Tryz.prog 258 #[v1,v2] w (RetF w (Lb.limbs (Lb.val a - Lb.val b))):=by
 obtain ⟨p1,q1,rfl⟩:=h1.form
 obtain ⟨p2,q2,rfl⟩:=h2.form
 have hmk:=make_run a.length (by omega)
 obtain ⟨W,hW,hA,hE,hz⟩:=zeros_alloc w a.length
 have HA0:=Lib.hid hA
 have HE:=Lib.hid hE
 have H1:=Lib.hid h1; have H2:=Lib.hid h2; have HK1:=Lib.hid k1; have HK2:=Lib.hid k2; have HAB:=Lib.hid hab; have HLE:=Lib.hid hle
 clear hA hE hz h1 h2 k1 k2 hab hle
 go_enter Tryz.func258,Tryz.ntmps258
 go_wp2_with fail
 clear hmk
 go_loopw [6,7] (fun c i wr=>∃ (k cn:Nat) (o:List Nat),k <= a.length/\i=.int .i64 k/\c=.int .u32 cn/\cn <= 1/\Hid (MinusAt a b k cn o)/\Hid (ArrU wr w.heap.size (o ++ List.replicate (a.length - k) 0))/\Hid (Ext w wr)) (fun _ i _=>a.length - (intOf i).toNat)
 case atStart=>exact ⟨0,0,[],Nat.zero_le _,rfl,rfl,by omega,Lib.hid (minusAt_start a b),HA0,HE⟩
 case round =>
  clear hW HA0 HE
  obtain ⟨k,cn,o,hk,rfl,rfl,hcn,HP,HA,HE⟩:=hrel
  have HL:Hid (o.length=k):=Lib.hid HP.out.len
  by_cases hka:k < a.length
  ·have hx:a[k] < 1000000000:=Lb.lt_get HK1.out k hka
   have HX:Hid (a.getD k 0=a[k]):=Lib.hid (by simp [hka])
   obtain ⟨g1,o1,rfl,cell1⟩:=(H1.out.later HE.out).at k hka
   have hlen:k < (o ++ List.replicate (a.length - k) 0).length:=by have:=HL.out; simp; omega
   have cs:=HA.out.cell k hlen
   have fs:=HA.out.free k
   generalize ((o ++ List.replicate (a.length - k) 0)[k]:Int)=old at cs
   clear hlen
   generalize a[k]=x at *
   by_cases hkb:k < b.length
   ·have hy:b[k] < 1000000000:=Lb.lt_get HK2.out k hkb
    have HY:Hid (b.getD k 0=b[k]):=Lib.hid (by simp [hkb])
    obtain ⟨g2,o2,rfl,cell2⟩:=(H2.out.later HE.out).at k hkb
    generalize b[k]=y at *
    by_cases hge:x+1000000000 - cn - y < 1000000000
    ·have hq:decide ((x:Int)+1000000000 - cn - y >= 1000000000)=false:=by simp; omega
     obtain ⟨s,hs⟩:∃ s,x+1000000000=s+(cn+y):=⟨x+1000000000 - (cn+y),by omega⟩
     have hsi:(x:Int)+1000000000 - cn - y=(s:Int):=by omega
     have HP2:=Lib.hid (minusAt_high (s:=s) HP.out (by rw [HX.out,HY.out]; omega) (by omega))
     have HAX:Hid (∀ u:Int,u=(s:Int)->ArrU (wr.setCell ⟨w.heap.size,k,none⟩ (.int .u32 u)) w.heap.size ((o ++ [s]) ++ List.replicate (a.length - (k+1)) 0)):=Lib.hid (fun u hu=>by subst hu; have:=HA.out.set k s; rwa [Lb.set_zeros HL.out hka] at this)
     have HSI:=Lib.hid hsi
     clear hsi hs hge HX HY HP HA HL
     go_wp2_with fail
     go_roundw
     case rel=>exact ⟨k+1,1,o ++ [s],by omega,by go_num,rfl,by omega,HP2,Lib.hid (HAX.out _ HSI.out),Lib.hid (HE.out.setCell (Nat.le_refl _) _)⟩
     case measure=>simp [intOf]; omega
    ·have hq:decide ((x:Int)+1000000000 - cn - y >= 1000000000)=true:=by simp; omega
     obtain ⟨s,hs⟩:∃ s,x=s+(cn+y):=⟨x - (cn+y),by omega⟩
     have hsi:(x:Int)+1000000000 - cn - y - 1000000000=(s:Int):=by omega
     have hge2:0 <= (x:Int)+1000000000 - cn - y - 1000000000:=by omega
     have HP2:=Lib.hid (minusAt_low (s:=s) HP.out (by rw [HX.out,HY.out]; omega) (by omega))
     have HAX:Hid (∀ u:Int,u=(s:Int)->ArrU (wr.setCell ⟨w.heap.size,k,none⟩ (.int .u32 u)) w.heap.size ((o ++ [s]) ++ List.replicate (a.length - (k+1)) 0)):=Lib.hid (fun u hu=>by subst hu; have:=HA.out.set k s; rwa [Lb.set_zeros HL.out hka] at this)
     have HSI:=Lib.hid hsi
     clear hsi hs hge HX HY HP HA HL
     go_wp2_with fail
     go_roundw
     case rel=>exact ⟨k+1,0,o ++ [s],by omega,by go_num,rfl,by omega,HP2,Lib.hid (HAX.out _ HSI.out),Lib.hid (HE.out.setCell (Nat.le_refl _) _)⟩
     case measure=>simp [intOf]; omega
   ·have HY:Hid (b.getD k 0=0):=Lib.hid (by simp [Nat.le_of_not_lt hkb])
    by_cases hge:x+1000000000 - cn < 1000000000
    ·have hq:decide ((x:Int)+1000000000 - cn >= 1000000000)=false:=by simp; omega
     obtain ⟨s,hs⟩:∃ s,x+1000000000=s+(cn):=⟨x+1000000000 - (cn),by omega⟩
     have hsi:(x:Int)+1000000000 - cn=(s:Int):=by omega
     have HP2:=Lib.hid (minusAt_high (s:=s) HP.out (by rw [HX.out,HY.out]; omega) (by omega))
     have HAX:Hid (∀ u:Int,u=(s:Int)->ArrU (wr.setCell ⟨w.heap.size,k,none⟩ (.int .u32 u)) w.heap.size ((o ++ [s]) ++ List.replicate (a.length - (k+1)) 0)):=Lib.hid (fun u hu=>by subst hu; have:=HA.out.set k s; rwa [Lb.set_zeros HL.out hka] at this)
     have HSI:=Lib.hid hsi
     clear hsi hs hge HX HY HP HA HL
     go_wp2_with fail
     go_roundw
     case rel=>exact ⟨k+1,1,o ++ [s],by omega,by go_num,rfl,by omega,HP2,Lib.hid (HAX.out _ HSI.out),Lib.hid (HE.out.setCell (Nat.le_refl _) _)⟩
     case measure=>simp [intOf]; omega
    ·have hq:decide ((x:Int)+1000000000 - cn >= 1000000000)=true:=by simp; omega
     obtain ⟨s,hs⟩:∃ s,x=s+(cn):=⟨x - (cn),by omega⟩
     have hsi:(x:Int)+1000000000 - cn - 1000000000=(s:Int):=by omega
     have hge2:0 <= (x:Int)+1000000000 - cn - 1000000000:=by omega
     have HP2:=Lib.hid (minusAt_low (s:=s) HP.out (by rw [HX.out,HY.out]; omega) (by omega))
     have HAX:Hid (∀ u:Int,u=(s:Int)->ArrU (wr.setCell ⟨w.heap.size,k,none⟩ (.int .u32 u)) w.heap.size ((o ++ [s]) ++ List.replicate (a.length - (k+1)) 0)):=Lib.hid (fun u hu=>by subst hu; have:=HA.out.set k s; rwa [Lb.set_zeros HL.out hka] at this)
     have HSI:=Lib.hid hsi
     clear hsi hs hge HX HY HP HA HL
     go_wp2_with fail
     go_roundw
     case rel=>exact ⟨k+1,0,o ++ [s],by omega,by go_num,rfl,by omega,HP2,Lib.hid (HAX.out _ HSI.out),Lib.hid (HE.out.setCell (Nat.le_refl _) _)⟩
     case measure=>simp [intOf]; omega
  ·obtain rfl:k=a.length:=by omega
   have HV:=Lib.hid (Lb.minus_end rfl HAB.out HP.out.len HP.out.lt hcn HP.out.sum HLE.out)
   have HLT:=Lib.hid HP.out.lt
   have HS:Hid (SlU wr (.slice (some ⟨w.heap.size,0,none⟩) a.length a.length) o):=Lib.hid (by
    have:=HA.out
    rw [Nat.sub_self] at this
    simp only [List.replicate_zero,List.append_nil] at this
    exact this.all (by simp [HL.out]) (Nat.le_refl _))
   have HLN:Hid (o.length <= 1000000000):=Lib.hid (by simp [HL.out]; omega)
   clear hka HP HA
   go_wp2_with fail
   refine (rtrim_blk _ _ _ HS.out HLN.out).mono ?_
   rintro e w3 ⟨v3,rfl,hs3,hb3,rfl⟩
   rw [Lb.trim_eq HLT.out,HV.out] at hs3
   obtain ⟨a3,c3,rfl⟩:=SlU.form hs3
   go_wp2_with fail
   go_ret
   exact ⟨_,_,_,rfl,hs3,HE.out,fun b hb=>by rw [hb3] at hb; cases hb; exact Nat.le_refl _⟩
end Go.Proofs.YtocpaddakdcofaaGreat
namespace Go.Proofs.YtocpaddakdcofaaGreat
open Go.RowKit
set_option maxRecDepth 8000
set_option maxHeartbeats 16000000 in
theorem rtimes_any (v1 v2:Value) (a b:List Nat) (w:World) (h1:SlU w v1 a) (h2:SlU w v2 b) (k1:Lb.Lt a) (k2:Lb.Lt b) (n1:a.length <= 100000000) (n2:b.length <= 100000000) :
    Calls Tryz.prog 114 #[v1,v2] w (RetF w (Lb.limbs (Lb.val a*Lb.val b))):=by
 obtain ⟨p1,q1,rfl⟩:=h1.form
 obtain ⟨p2,q2,rfl⟩:=h2.form
 have hmk:=make_run (a.length+b.length) (by omega)
 rw [Int.natCast_add] at hmk
 obtain ⟨W,hW,hA,hE,hz⟩:=zeros_alloc w (a.length+b.length)
 have HA0:=Lib.hid hA
 have HE:=Lib.hid hE
 have H1:=Lib.hid h1; have H2:=Lib.hid h2; have HK1:=Lib.hid k1; have HK2:=Lib.hid k2
 clear hA hE hz h1 h2 k1 k2
 go_enter Tryz.func114,Tryz.ntmps114
 go_wp2_with fail
 clear hmk
 go_loopw [6] (fun i wr=>∃ (m:Nat) (o:List Nat),m <= a.length/\i=.int .i64 m/\Hid (TimesAt a b m o)/\Hid (ArrU wr w.heap.size o)/\Hid (Ext w wr)) (fun i _=>a.length - (intOf i).toNat)
 case atStart=>exact ⟨0,_,Nat.zero_le _,rfl,Lib.hid (timesAt_start a b),HA0,HE⟩
 case round =>
  clear hW HA0 HE
  obtain ⟨m,o,hm,rfl,HP,HA,HE⟩:=hrel
  by_cases hma:m < a.length
  ·have hx:a[m] < 1000000000:=Lb.lt_get HK1.out m hma
   have HX:Hid (a.getD m 0=a[m]):=Lib.hid (by simp [hma])
   obtain ⟨g1,o1,rfl,cell1⟩:=(H1.out.later HE.out).at m hma
   have HX1:Hid (∃ x,a[m]=x/\x < 1000000000/\a.getD m 0=x):=Lib.hid ⟨_,rfl,hx,HX.out⟩
   clear hx HX cell1
   obtain ⟨x,hxm,hx,hX⟩:=HX1.out
   have HX:=Lib.hid hX; have HXM:=Lib.hid hxm
   clear hxm hX HX1
   have HI0:=Lib.hid (timesIn_start HP.out x)
   obtain ⟨wo,rfl⟩:∃ wo:World,wo=wr:=⟨_,rfl⟩
   clear HP
   go_wp2_with fail
   go_loopw [7,8] (fun c i wr=>∃ (k cn:Nat) (o:List Nat),k <= b.length/\i=.int .i64 k/\c=.int .u64 cn/\Hid (TimesIn a b m k x cn (Lb.val (a.take m)*Lb.val b) o)/\Hid (ArrU wr w.heap.size o)/\Hid (Ext w wr)) (fun _ i _=>b.length - (intOf i).toNat)
   case atStart=>exact ⟨0,0,o,Nat.zero_le _,rfl,rfl,HI0,HA,HE⟩
   case round =>
    clear HI0 HA HE
    obtain ⟨k,cn,o2,hk,rfl,rfl,HP,HA,HE⟩:=hrel
    obtain ⟨g3,o3,he3,cell1⟩:=(H1.out.later HE.out).at m hma
    cases he3
    rw [HXM.out] at cell1
    by_cases hkb:k < b.length
    ·have hy:b[k] < 1000000000:=Lb.lt_get HK2.out k hkb
     have HY:Hid (b.getD k 0=b[k]):=Lib.hid (by simp [hkb])
     obtain ⟨g2,s2,rfl,cell2⟩:=(H2.out.later HE.out).at k hkb
     generalize b[k]=y at *
     have hlen:m+k < o2.length:=by have:=HP.out.len; omega
     obtain ⟨ov,hov⟩:∃ ov,o2[m+k]?=some ov:=⟨o2[m+k],by simp [hlen]⟩
     have cs:=HA.out.cell (m+k) hlen
     have hoo:o2[m+k]=ov:=by simpa [hlen] using hov
     rw [hoo] at cs
     have fs:=HA.out.free (m+k)
     obtain ⟨st,hov9⟩:=timesIn_step HP.out hma hkb hx hy HY.out hov
     have hcl:cn < 1000000000:=HP.out.clt
     have hxy0:0 <= (x:Int)*y:=Int.mul_nonneg (by omega) (by omega)
     have hxy:(x:Int)*y <= 999999998000000001:=by
      have h1:x*y <= 999999999*999999999:=Nat.mul_le_mul (by omega) (by omega)
      have h2:((x*y:Nat):Int) <= ((999999999*999999999:Nat):Int):=Int.ofNat_le.2 h1
      rw [Int.natCast_mul] at h2
      exact h2
     have HST:=Lib.hid st; have HOO:=Lib.hid hoo
     have E9:Hid ((cn:Int)+ov+x*y=((ov+x*y+cn:Nat):Int)):=Lib.hid (by simp; omega)
     have e10:(cn:Int)+ov+x*y < 18446744073709551616:=by omega
     have e11:0 <= (cn:Int)+ov+x*y:=by omega
     clear hov hoo HY st
     go_wp2_with fail
     have K1:=Later.cell cell1; have K2:=Later.cell cell2; have K3:=Later.cell cs
     clear cell1 cell2 cs fs
     refine wp_region_later (by kernel_rfl) (by kernel_rfl) ?_
     repeat (go_big_quiet_step (fail))
     refine wpQuiet_nil ?_
     rintro _ ⟨z,rfl⟩
     have HAZ:=Lib.hid (HA.out.ext z.ext); have HEZ:=Lib.hid (HE.out.trans z.ext)
     have cs:=HAZ.out.cell (m+k) hlen
     rw [show o2[m+k]=ov from HOO.out] at cs
     have fs:=HAZ.out.free (m+k)
     rw [E9.out]
     generalize hT:ov+x*y+cn=T at *
     have HAX:Hid (∀ u:Int,u=(T:Int) % 1000000000->ArrU (z.w.setCell ⟨w.heap.size,m+k,none⟩ (.int .u32 u)) w.heap.size (o2.set (m+k) (T % 1000000000))):=Lib.hid (fun u hu=>by
      have e:u=((T % 1000000000:Nat):Int):=by rw [hu]; simp
      subst e; exact HAZ.out.set (m+k) _)
     have HCN:Hid ((T:Int) / 1000000000=((T / 1000000000:Nat):Int)):=Lib.hid (by simp)
     have hT0:T < 18446744073709551616:=by omega
     have e12:(T:Int) % 1000000000 < 1000000000:=by omega
     have e13:0 <= (T:Int) % 1000000000:=by omega
     clear E9 hT e10 e11 hxy hxy0 K1 K2 K3 HA HE HOO hlen
     go_wp2_with fail
     go_roundw
     case rel=>exact ⟨k+1,_,_,by omega,by go_num,by rw [HCN.out],HST,Lib.hid (HAX.out _ rfl),Lib.hid (HEZ.out.setCell (Nat.le_refl _) _)⟩
     case measure=>simp [intOf]; omega
    ·obtain rfl:k=b.length:=by omega
     have HN:=Lib.hid (timesIn_end HP.out hma HX.out)
     have hcl:cn < 1000000000:=HP.out.clt
     have hlen:m+b.length < o2.length:=by have:=HP.out.len; omega
     have cs:=HA.out.cell (m+b.length) hlen
     have fs:=HA.out.free (m+b.length)
     generalize (o2[m+b.length]:Int)=old at cs
     have HAX:=Lib.hid (HA.out.set (m+b.length) cn)
     clear hlen hkb HX
     go_wp2_with fail
     go_roundw
     case rel=>exact ⟨m+1,_,by omega,by go_num,HN,HAX,Lib.hid (HE.out.setCell (Nat.le_refl _) _)⟩
     case measure=>simp [intOf]; omega
  ·obtain rfl:m=a.length:=by omega
   have HM:=Lib.hid (timesAt_end HP.out)
   have HLT:=Lib.hid HP.out.lt
   have HS:Hid (SlU wr (.slice (some ⟨w.heap.size,0,none⟩) (a.length+b.length) (a.length+b.length)) o):=Lib.hid (HA.out.all (by simp [HP.out.len]) (Nat.le_refl _))
   have HLN:Hid (o.length <= 1000000000):=Lib.hid (by simp [HP.out.len]; omega)
   clear hma HA HP
   go_wp2_with fail
   refine (rtrim_blk _ _ _ HS.out HLN.out).mono ?_
   rintro e w3 ⟨v3,rfl,hs3,hb3,rfl⟩
   rw [Lb.trim_eq HLT.out,HM.out] at hs3
   obtain ⟨a3,c3,rfl⟩:=SlU.form hs3
   go_wp2_with fail
   go_ret
   exact ⟨_,_,_,rfl,hs3,HE.out,fun b hb=>by rw [hb3] at hb; cases hb; exact Nat.le_refl _⟩
set_option maxHeartbeats 4000000 in
theorem rby_any (v1:Value) (a:List Nat) (n:Nat) (w:World) (h1:SlU w v1 a) (k1:Lb.Lt a) (n1:a.length <= 100000000) (hn:n < 1000000000) :
    Calls Tryz.prog 257 #[v1,.int .u32 (n:Int)] w (RetF w (Lb.limbs (Lb.val a*n))):=by
 obtain ⟨p1,q1,rfl⟩:=h1.form
 obtain ⟨X,hX,hAX,heX,hzX⟩:=arr_alloc w [n]
 have HSX:=Lib.hid (hAX.all (n:=1) (cap:=1) rfl (Nat.le_refl _)); have HX:=Lib.hid heX; have H1:=Lib.hid h1; have HK:=Lib.hid k1
 simp only [List.map_cons,List.map_nil,uV] at hX
 clear hAX heX hzX h1 k1
 go_enter Tryz.func257,Tryz.ntmps257
 go_wp2_with fail
 refine (rtrim_blk _ _ _ HSX.out (by simp)).mono ?_
 rintro e w3 ⟨v3,rfl,hs3,hb3,rfl⟩
 obtain ⟨a3,c3,rfl⟩:=SlU.form hs3
 clear hb3
 have HT:Hid (Lb.Lt (Lb.trim [n])/\(Lb.trim [n]).length <= 100000000/\Lb.val (Lb.trim [n])=n):=Lib.hid (by
  have hl:Lb.Lt [n]:=Lb.lt_cons (by rw [Lb.B_eq]; exact hn) Lb.lt_nil
  refine ⟨Lb.lt_trim hl,?_,by rw [Lb.val_trim]; simp [Lb.val]⟩
  have:=Lb.trim_length [n]
  simp at this
  omega)
 have HS3:=Lib.hid hs3; have HS1:=Lib.hid (H1.out.later HX.out); have HE3:=Lib.hid HX.out
 clear hs3
 go_wp2_with fail
 refine (rtimes_any _ _ _ _ _ HS1.out HS3.out HK.out HT.out.1 n1 HT.out.2.1).mono ?_
 rintro e w4 ⟨a4,m4,c4,rfl,hs4,hx4,hb4⟩
 rw [HT.out.2.2] at hs4
 go_wp2_with fail
 go_ret
 exact ⟨_,_,_,rfl,hs4,HE3.out.trans hx4,fun b hb=>Nat.le_trans HE3.out.size (hb4 b hb)⟩
end Go.Proofs.YtocpaddakdcofaaGreat
namespace Go.Proofs.YtocpaddakdcofaaGreat
namespace Lb
theorem limbs_mono {m n:Nat} (h:m <= n):(limbs m).length <= (limbs n).length:=by
 rcases Nat.lt_or_ge (limbs n).length (limbs m).length with h' | h'
 ·have:=lt_of_len (norm_limbs n) (norm_limbs m) h'
  rw [val_limbs,val_limbs] at this
  omega
 ·exact h'
theorem val_lt_pow_of_len {n k:Nat} (h:(limbs n).length <= k):n < B ^ k:=Nat.lt_of_lt_of_le (lt_pow_limbs n) (Nat.pow_le_pow_right B_pos h)
structure PartsAt (U:List Nat) (V k:Nat) (Q:List Nat) (R:Nat):Prop where
 le:k <= U.length
 len:Q.length=U.length - k
 lt:Lt Q
 val:val (U.drop k)=val Q*V+R
 rlt:R < V
theorem partsAt_start {U:List Nat} {V:Nat} (hV:0 < V):PartsAt U V U.length [] 0 :=
 ⟨Nat.le_refl _,by simp,lt_nil,by simp [Lb.val],hV⟩
theorem partsAt_step {U Q:List Nat} {V k R:Nat} (hU:Lt U) (h:PartsAt U V (k+1) Q R) (hk:k < U.length):(U[k]+B*R) / V < B/\PartsAt U V k ((U[k]+B*R) / V :: Q) ((U[k]+B*R) % V):=by
 have hx:=lt_get hU k hk
 have hR:=h.rlt
 have hV:0 < V:=by omega
 have hlt:U[k]+B*R < B*V:=by
  have:B*(R+1) <= B*V:=Nat.mul_le_mul_left B hR
  rw [Nat.mul_succ] at this
  omega
 have hq:(U[k]+B*R) / V < B:=Nat.div_lt_of_lt_mul (by rw [Nat.mul_comm V B]; exact hlt)
 refine ⟨hq,by omega,by simp [h.len]; omega,lt_cons hq h.lt,?_,Nat.mod_lt _ hV⟩
 have h1:=Nat.div_add_mod (U[k]+B*R) V
 rw [val_drop U k hk,h.val,val_cons]
 generalize (U[k]+B*R) / V=q at *
 generalize (U[k]+B*R) % V=r at *
 generalize Lb.val Q=Z at *
 rw [Nat.mul_add,Nat.add_mul]
 have e1:B*(Z*V)=B*Z*V:=(Nat.mul_assoc _ _ _).symm
 have e2:V*q=q*V:=Nat.mul_comm _ _
 omega
theorem high_spec {l:List Nat} {n:Nat} (hl:Lt l) (hn:l.length <= n+2) :
    (if h:n+1 < l.length then l[n+1]*B else 0)+(if h:n < l.length then l[n] else 0)=val l / B ^ n:=by
 have hp:0 < B ^ n:=Nat.pow_pos B_pos
 rcases Nat.lt_or_ge n l.length with h | h
 ·have hlt:val (l.take n) < B ^ n:=take_lt hl n (by omega)
  have hv:=val_take_drop l n (by omega)
  have hd:val l / B ^ n=val (l.drop n):=by
   rw [hv,Nat.add_mul_div_left _ _ hp,Nat.div_eq_of_lt hlt,Nat.zero_add]
  rw [hd,val_drop l n h]
  rcases Nat.lt_or_ge (n+1) l.length with h' | h'
  ·have e:l.length=n+2:=by omega
   have hn2:l.drop (n+2)=[]:=List.drop_of_length_le (by omega)
   rw [val_drop l (n+1) h',hn2]
   simp only [h,h',dif_pos,val_nil,Nat.mul_zero,Nat.add_zero]
   rw [Nat.mul_comm]
   omega
  ·have hn1:l.drop (n+1)=[]:=List.drop_of_length_le (by omega)
   have h2:¬ n+1 < l.length:=by omega
   rw [hn1]
   simp [h,h2,Lb.val]
 ·have hlt:val l < B ^ n:=Nat.lt_of_lt_of_le (val_lt hl) (Nat.pow_le_pow_right B_pos h)
  have h1:¬ n < l.length:=by omega
  have h2:¬ n+1 < l.length:=by omega
  rw [Nat.div_eq_of_lt hlt]
  simp [h1,h2]
theorem est_ge {R V T P:Nat} (h:T*P <= V) (hT:0 < T) (hP:0 < P):R / V <= R / P / T:=by
 rw [Nat.div_div_eq_div_mul]
 exact Nat.div_le_div_left (by rw [Nat.mul_comm]; exact h) (Nat.mul_pos hP hT)
theorem est_done {R V d:Nat} (h:V*d <= R) (hV:0 < V) (hq:R / V <= d):d=R / V:=by
 have:d <= R / V:=(Nat.le_div_iff_mul_le hV).2 (by rw [Nat.mul_comm]; exact h)
 omega
structure BackAt (l:List Nat) (s k:Nat) (o:List Nat) (c:Nat):Prop where
 le:k <= l.length
 len:o.length=l.length - k
 lt:Lt o
 val:val (l.drop k)=val o*s+c
 clt:c < s
theorem backAt_start {l:List Nat} {s:Nat} (hs:0 < s):BackAt l s l.length [] 0:=⟨Nat.le_refl _,by simp,lt_nil,by simp [Lb.val],hs⟩
theorem backAt_step {l o:List Nat} {s k c:Nat} (hl:Lt l) (h:BackAt l s (k+1) o c) (hk:k < l.length):(c*B+l[k]) / s < B/\BackAt l s k ((c*B+l[k]) / s :: o) ((c*B+l[k]) % s):=by
 have hx:=lt_get hl k hk
 have hc:=h.clt
 have hlt:c*B+l[k] < B*s:=by
  have:(c+1)*B <= s*B:=Nat.mul_le_mul_right B hc
  rw [Nat.succ_mul,Nat.mul_comm s B] at this
  omega
 have hq:(c*B+l[k]) / s < B:=Nat.div_lt_of_lt_mul (by rw [Nat.mul_comm s B]; exact hlt)
 refine ⟨hq,by omega,by simp [h.len]; omega,lt_cons hq h.lt,?_,Nat.mod_lt _ (by omega)⟩
 have h1:=Nat.div_add_mod (c*B+l[k]) s
 rw [val_drop l k hk,h.val,val_cons]
 generalize (c*B+l[k]) / s=q at *
 generalize (c*B+l[k]) % s=r at *
 generalize Lb.val o=Z at *
 rw [Nat.mul_add,Nat.add_mul]
 have e1:B*(Z*s)=B*Z*s:=(Nat.mul_assoc _ _ _).symm
 have e2:s*q=q*s:=Nat.mul_comm _ _
 have e3:B*c=c*B:=Nat.mul_comm _ _
 omega
theorem backAt_done {l o:List Nat} {s c M:Nat} (h:BackAt l s 0 o c) (hM:val l=M*s):val o=M:=by
 have h1:=h.val
 have hs:0 < s:=by have:=h.clt; omega
 rw [List.drop_zero,hM] at h1
 have h2:M=(val o*s+c) / s:=by rw [<- h1,Nat.mul_div_cancel _ hs]
 rw [h2,Nat.mul_comm,Nat.mul_add_div hs,Nat.div_eq_of_lt h.clt,Nat.add_zero]
theorem scale_parts {b:List Nat} {n y:Nat} (hb:Norm b) (hn:b.length=n+1) (hy:b[n]?=some y) :
    0 < y/\y < B/\0 < B / (y+1)/\B / (y+1) < B/\val b*(B / (y+1)) < B ^ (n+1)/\B ^ n <= val b*(B / (y+1)):=by
 have hb0:b ≠ []:=by intro e; rw [e] at hn; simp at hn
 have hlt:n < b.length:=by omega
 have hyb:b[n]=y:=by simpa [hlt] using hy
 have hy1:y < B:=by rw [<- hyb]; exact lt_get hb.1 n hlt
 have hy0:y ≠ 0:=by
  have h:=hb.2 hb0
  have e:b.getLast hb0=b[n]:=by
   rw [List.getLast_eq_getElem]
   congr 1
   omega
  rw [e,hyb] at h
  exact h
 have hs0:0 < B / (y+1):=Nat.div_pos hy1 (by omega)
 have hs1:B / (y+1) < B:=Nat.div_lt_self B_pos (by omega)
 have hv:val b=val (b.take n)+B ^ n*y:=by
  have:=val_take_drop b n (by omega)
  rw [this,val_drop b n hlt,List.drop_of_length_le (by omega),hyb]
  simp [Lb.val]
 have ht:=take_lt hb.1 n (by omega)
 refine ⟨by omega,hy1,hs0,hs1,?_,?_⟩
 ·refine scale_fits (t:=y) ?_
  rw [hv,Nat.add_mul,Nat.one_mul,Nat.mul_comm]
  omega
 ·have h1:B ^ n*1 <= val b*(B / (y+1)):=by
   refine Nat.mul_le_mul ?_ hs0
   rw [hv]
   have:B ^ n*1 <= B ^ n*y:=Nat.mul_le_mul_left _ (by omega)
   omega
  omega
theorem len_of_bounds {V n:Nat} (h1:V < B ^ (n+1)) (h2:B ^ n <= V):(limbs V).length=n+1:=by
 have a1:=limbs_length h1
 rcases Nat.lt_or_ge n (limbs V).length with h | h
 ·omega
 ·have:=val_lt_pow_of_len h
  omega
theorem top_le {l:List Nat} {n:Nat} (h:n < l.length):l[n]*B ^ n <= val l:=by
 have h1:=val_take_drop l n (by omega)
 rw [val_drop l n h] at h1
 rw [h1,Nat.mul_add,Nat.mul_comm]
 omega
theorem top_pos {V n:Nat} (h:(limbs V).length=n+1) (hlt:n < (limbs V).length):0 < (limbs V)[n]:=by
 have h1:=(norm_limbs V).2 (by intro e; rw [e] at h; simp at h)
 rw [List.getLast_eq_getElem] at h1
 have e:(limbs V).length - 1=n:=by omega
 simp only [e] at h1
 omega
theorem set_zeros_front {X:List Nat} {k x:Nat}:(List.replicate (k+1) 0 ++ X).set k x=List.replicate k 0 ++ (x :: X):=by
 rw [List.set_append_left _ _ (by simp),show List.replicate (k+1) 0=List.replicate k 0 ++ [0] by rw [<- List.replicate_succ'],List.set_append_right _ _ (by simp)]
 simp
end Lb
end Go.Proofs.YtocpaddakdcofaaGreat
