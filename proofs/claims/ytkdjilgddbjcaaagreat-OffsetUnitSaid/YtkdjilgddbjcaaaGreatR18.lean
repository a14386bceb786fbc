import Derived.Test.YtkdjilgddbjcaaaGreatR17
import Derived.Test.YtkdjilgddbjcaaaGreatR15
namespace Go.Proofs.YtkdjilgddbjcaaaGreat
open Go.RowKit
namespace Vc
theorem wrap64_neg {z:Int} (h0:z < 0) (h1:-9223372036854775808 <= z):IntKind.wrap .i64 (IntKind.wrap .u64 (0 - (z.natAbs:Int)))=z:=by
 have p1:(2:Int) ^ 64=18446744073709551616:=by decide
 have p2:(2:Int) ^ (64 - 1)=9223372036854775808:=by decide
 have e1:IntKind.wrap .u64 (0 - (z.natAbs:Int))=18446744073709551616+z:=by
  simp only [IntKind.wrap,IntKind.bits,IntKind.signed,Bool.false_and,p1,p2,Bool.false_eq_true,if_false]
  omega
 rw [e1]
 simp only [IntKind.wrap,IntKind.bits,IntKind.signed,Bool.true_and,decide_eq_true_eq,p1,p2]
 split <;> omega
theorem wrap64_pos {z:Int} (h0:¬ z < 0) (h1:z <= 9223372036854775807):IntKind.wrap .i64 (z.natAbs:Int)=z:=by
 have p1:(2:Int) ^ 64=18446744073709551616:=by decide
 have p2:(2:Int) ^ (64 - 1)=9223372036854775808:=by decide
 simp only [IntKind.wrap,IntKind.bits,IntKind.signed,Bool.true_and,decide_eq_true_eq,p1,p2]
 split <;> omega
def cIvalid:Ctr:=⟨293,fun | [.g [.I (z)]]=>.yes (szI z <= 10000000) (.k (.c (.v (.bool (true))))) | _=>.no⟩
theorem cIvalid_owes (z:Int) (hp:szI z <= 10000000):owes LT CT0 [.inv 2 (Nat) (fun ξ=>⟨[.u,.k (.c (.bx 0 0)),.u,.u,.u,.u,.u,.k (.c (.sl ((Lb.limbs z.natAbs)))),.k (.c (.v (.int .i64 (((Lb.limbs z.natAbs).length:Int))))),.k (.c (.v (.int .i64 ((ξ:Int))))),.u,.u,.u,.u,.u,.u,.u,.u,.u,.u,.u,.u,.u,.u,.u,.u,.u,.u,.u,.u,.u],[⟨30,[.I (z)]⟩]⟩) (fun _ ξ=>(ξ <= (Lb.limbs z.natAbs).length)) (fun ξ=>(Lb.limbs z.natAbs).length - ξ)] Tryz.f293 (Tryz.f293.body.getD .skip) [.g [.I (z)]] (.k (.c (.v (.bool (true))))):=by
 refine Eq.mp (show ((∃ x1:Nat,((x1 <= (Lb.limbs z.natAbs).length)/\((True/\((Lb.limbs z.natAbs=(Lb.limbs z.natAbs))/\((Value.int .i64 ((Lb.limbs z.natAbs).length:Int)=(.int .i64 ((Lb.limbs z.natAbs).length:Int)))/\((Value.int .i64 (0:Int)=(.int .i64 (x1:Int)))/\True))))/\(((z=z)/\True)/\True))))/\(∀ x1:Nat,((x1 <= (Lb.limbs z.natAbs).length)->(((decide ((x1:Int) < ((Lb.limbs z.natAbs).length:Int)))=true->((0 <= (x1:Int)/\(x1:Int) < ((Lb.limbs z.natAbs).length:Int))/\(((decide ((((Lb.limbs z.natAbs).getD (x1:Int).toNat 0:Nat):Int) >= (1000000000:Int)))=true->(Value.bool false=(.bool true)))/\((decide ((((Lb.limbs z.natAbs).getD (x1:Int).toNat 0:Nat):Int) >= (1000000000:Int)))=false->((inR .i64 ((x1:Int)+(1:Int)))/\(∃ y1:Nat,((y1 <= (Lb.limbs z.natAbs).length)/\(((Lb.limbs z.natAbs).length - y1 < (Lb.limbs z.natAbs).length - x1)/\((True/\(((Lb.limbs z.natAbs)=(Lb.limbs z.natAbs))/\((Value.int .i64 ((Lb.limbs z.natAbs).length:Int)=(.int .i64 ((Lb.limbs z.natAbs).length:Int)))/\((Value.int .i64 ((x1:Int)+(1:Int))=(.int .i64 (y1:Int)))/\True))))/\(((z=z)/\True)/\True))))))))))/\((decide ((x1:Int) < ((Lb.limbs z.natAbs).length:Int)))=false->(((decide (((Lb.limbs z.natAbs).length:Int) > (0:Int)))=true->((inR .i64 (((Lb.limbs z.natAbs).length:Int) - (1:Int)))/\((0 <= ((Lb.limbs z.natAbs).length:Int) - (1:Int)/\((Lb.limbs z.natAbs).length:Int) - (1:Int) < ((Lb.limbs z.natAbs).length:Int))/\(Value.bool ((((Lb.limbs z.natAbs).getD (((Lb.limbs z.natAbs).length:Int) - (1:Int)).toNat 0:Nat):Int) != (0:Int))=(.bool true)))))/\((decide (((Lb.limbs z.natAbs).length:Int) > (0:Int)))=false->(Value.bool (!(decide (z < 0)))=(.bool true)))))))))=_ by kernel_rfl) ?_
 unfold szI at hp
 have hN:=Lb.norm_limbs z.natAbs
 have hz:z < 0->0 < (Lb.limbs z.natAbs).length:=fun h=>by
  rw [Lb.limbs_pos (by omega)]
  simp
 generalize Lb.limbs z.natAbs=l at *
 refine ⟨⟨0,Nat.zero_le _,by simp,by simp,trivial⟩,fun k hk=>⟨fun h=>?_,fun h=>⟨fun h1=>?_,fun h1=>?_⟩⟩⟩
 ·have hkl:k < l.length:=by simpa using h
  have hx:=Lb.lt_get hN.1 k hkl
  rw [Lb.B_eq] at hx
  have ea:l.getD k 0=l[k]:=by simp [List.getD_eq_getElem?_getD,hkl]
  simp only [Int.toNat_natCast,ea]
  refine ⟨⟨by omega,by omega⟩,fun c=>?_,fun _=>⟨by simp only [inR]; omega,k+1,hkl,by omega,by simp,by simp,trivial⟩⟩
  have:=of_decide_eq_true c
  omega
 ·have hl:0 < l.length:=by have:=of_decide_eq_true h1; omega
  have hne:l ≠ []:=fun e=>by rw [e] at hl; simp at hl
  have e1:((l.length:Int) - 1).toNat=l.length - 1:=by omega
  have e2:l.getD (l.length - 1) 0=l.getLast hne:=by
   rw [List.getLast_eq_getElem]
   simp [List.getD_eq_getElem?_getD,show l.length - 1 < l.length by omega]
  have h2:=hN.2 hne
  rw [e1,e2]
  refine ⟨by simp only [inR]; omega,⟨by omega,by omega⟩,?_⟩
  simp [h2]
 ·have h2:=of_decide_eq_false h1
  have h3:¬ z < 0:=fun c=>by have:=hz c; omega
  simp [h3]
theorem cIvalid_ok:CtrOK Tryz.prog cIvalid:=.of (by kernel_rfl) (fun bs w xs vs pre r hr hA hG h hp=>by
 simp only [cIvalid] at h
 split at h
 ·cases h
  exact ctr_calls mixed LT_ok CT0_ok Tryz.func293 (by kernel_rfl) hr hA hG rfl rfl (cIvalid_owes _ hp)
 ·cases h) (fun xs α pre φ r=>by simp only [cIvalid]; split <;> (intro h; cases h))
def cInt64:Ctr:=⟨401,fun | [.g [.I (z)]]=>.yes (-9223372036854775808 <= z/\z <= 9223372036854775807) (.t [.c (.v (.int .i64 (z))),.c (.v (.bool (true)))]) | _=>.no⟩
theorem cInt64_owes (z:Int) (hp:-9223372036854775808 <= z/\z <= 9223372036854775807):owes LT CT0 [.inv 5 (Nat) (fun ξ=>⟨[.u,.k (.c (.bx 0 0)),.u,.u,.k (.c (.v (.int .u64 ((Lb.val ((Lb.limbs z.natAbs).drop ξ):Int))))),.k (.c (.v (.int .i64 (((ξ:Int) - (1:Int)))))),.u,.u,.u,.u,.u,.u,.u,.u,.u,.u,.u,.u,.u,.u,.u,.u,.u,.u,.u,.u,.u,.u,.u,.u,.u,.u,.u,.u,.u,.u,.u,.u,.u],[⟨30,[.I (z)]⟩]⟩) (fun _ ξ=>(ξ <= (Lb.limbs z.natAbs).length)) (fun ξ=>ξ)] Tryz.f401 (Tryz.f401.body.getD .skip) [.g [.I (z)]] (.t [.c (.v (.int .i64 (z))),.c (.v (.bool (true)))]):=by
 refine Eq.mp (show ((-9223372036854775808 <= (-9223372036854775808:Int)/\(-9223372036854775808:Int) <= 9223372036854775807)/\((szI z <= 10000000/\szI (-9223372036854775808:Int) <= 10000000)/\((((decide (((z - (-9223372036854775808:Int)).sign) < (0:Int))) == false)=true->(-9223372036854775808 <= (9223372036854775807:Int)/\(9223372036854775807:Int) <= 9223372036854775807))/\((((decide (((z - (-9223372036854775808:Int)).sign) < (0:Int))) == false)=true->(szI z <= 10000000/\szI (9223372036854775807:Int) <= 10000000))/\(((bif (decide (((z - (-9223372036854775808:Int)).sign) < (0:Int))) then true else (decide (((z - (9223372036854775807:Int)).sign) > (0:Int))))=true->((Value.int .i64 (0:Int)=(.int .i64 z))/\((Value.bool false=(.bool true))/\True)))/\((bif (decide (((z - (-9223372036854775808:Int)).sign) < (0:Int))) then true else (decide (((z - (9223372036854775807:Int)).sign) > (0:Int))))=false->((inR .i64 (((Lb.limbs z.natAbs).length:Int) - (1:Int)))/\((∃ x1:Nat,((x1 <= (Lb.limbs z.natAbs).length)/\((True/\((Value.int .u64 (0:Int)=(.int .u64 (Lb.val ((Lb.limbs z.natAbs).drop x1):Int)))/\((Value.int .i64 (((Lb.limbs z.natAbs).length:Int) - (1:Int))=(.int .i64 ((x1:Int) - (1:Int))))/\True)))/\(((z=z)/\True)/\True))))/\(∀ x1:Nat,((x1 <= (Lb.limbs z.natAbs).length)->(((decide (((x1:Int) - (1:Int)) >= (0:Int)))=true->((inR .u64 ((Lb.val ((Lb.limbs z.natAbs).drop x1):Int)*(1000000000:Int)))/\((0 <= ((x1:Int) - (1:Int))/\((x1:Int) - (1:Int)) < ((Lb.limbs z.natAbs).length:Int))/\((inR .u64 (((Lb.limbs z.natAbs).getD ((x1:Int) - (1:Int)).toNat 0:Nat):Int))/\((inR .u64 (((Lb.val ((Lb.limbs z.natAbs).drop x1):Int)*(1000000000:Int))+(((Lb.limbs z.natAbs).getD ((x1:Int) - (1:Int)).toNat 0:Nat):Int)))/\((inR .i64 (((x1:Int) - (1:Int)) - (1:Int)))/\(∃ y1:Nat,((y1 <= (Lb.limbs z.natAbs).length)/\((y1 < x1)/\((True/\((Value.int .u64 (((Lb.val ((Lb.limbs z.natAbs).drop x1):Int)*(1000000000:Int))+(((Lb.limbs z.natAbs).getD ((x1:Int) - (1:Int)).toNat 0:Nat):Int))=(.int .u64 (Lb.val ((Lb.limbs z.natAbs).drop y1):Int)))/\((Value.int .i64 (((x1:Int) - (1:Int)) - (1:Int))=(.int .i64 ((y1:Int) - (1:Int))))/\True)))/\(((z=z)/\True)/\True)))))))))))/\((decide (((x1:Int) - (1:Int)) >= (0:Int)))=false->(((decide (z < 0))=true->((Value.int .i64 (IntKind.wrap .i64 (IntKind.wrap .u64 ((0:Int) - (Lb.val ((Lb.limbs z.natAbs).drop x1):Int))))=(.int .i64 z))/\((Value.bool true=(.bool true))/\True)))/\((decide (z < 0))=false->((Value.int .i64 (IntKind.wrap .i64 (Lb.val ((Lb.limbs z.natAbs).drop x1):Int))=(.int .i64 z))/\((Value.bool true=(.bool true))/\True))))))))))))))))=_ by kernel_rfl) ?_
 obtain ⟨hz1,hz2⟩:=hp
 have hn:z.natAbs <= 9223372036854775808:=by omega
 have hB3:Lb.B ^ 3=1000000000000000000000000000:=by decide
 have hlen:(Lb.limbs z.natAbs).length <= 3:=Lb.limbs_length (by rw [hB3]; omega)
 have hv:=Lb.val_limbs z.natAbs
 have hL:=Lb.norm_limbs z.natAbs
 have hs:szI z <= 10000000:=by unfold szI; omega
 have hs1:szI (-9223372036854775808) <= 10000000:=Nat.le_trans (szI_le (k:=3) (by decide)) (by decide)
 have hs2:szI 9223372036854775807 <= 10000000:=Nat.le_trans (szI_le (k:=3) (by decide)) (by decide)
 have d1:decide ((z - (-9223372036854775808:Int)).sign < 0)=false:=decide_eq_false (by rw [Int.sign_neg_iff]; omega)
 have d2:decide ((z - (9223372036854775807:Int)).sign > 0)=false:=decide_eq_false (by rw [gt_iff_lt,Int.sign_pos_iff]; omega)
 rw [d1,d2]
 have hle:∀ m,Lb.val ((Lb.limbs z.natAbs).drop m) <= z.natAbs:=fun m=>by
  have h1:=Lb.val_append ((Lb.limbs z.natAbs).take m) ((Lb.limbs z.natAbs).drop m)
  rw [List.take_append_drop,hv] at h1
  have h2:1*Lb.val ((Lb.limbs z.natAbs).drop m) <= Lb.B ^ ((Lb.limbs z.natAbs).take m).length*Lb.val ((Lb.limbs z.natAbs).drop m):=Nat.mul_le_mul_right _ (Nat.pow_pos Lb.B_pos)
  omega
 generalize Lb.limbs z.natAbs=l at *
 refine ⟨⟨by decide,by decide⟩,⟨hs,hs1⟩,fun _=>⟨by decide,by decide⟩,fun _=>⟨hs,hs2⟩,fun h=>(by cases h),fun _=>⟨by simp only [inR]; omega,⟨l.length,Nat.le_refl _,⟨trivial,by rw [List.drop_length]; rfl,rfl,trivial⟩,⟨rfl,trivial⟩,trivial⟩,fun k hk=>⟨fun h=>?_,fun h=>?_⟩⟩⟩
 ·have hk0:0 < k:=by have:=of_decide_eq_true h; omega
  obtain ⟨m,rfl⟩:∃ m,k=m+1:=⟨k - 1,by omega⟩
  have e:(((m+1:Nat):Int) - 1).toNat=m:=by omega
  have hm:m < l.length:=by omega
  have ea:l.getD m 0=l[m]:=by simp [List.getD_eq_getElem?_getD,hm]
  have hvd:=Lb.val_drop l m hm
  have hb:=hle m
  rw [Lb.B_eq] at hvd
  simp only [e,ea]
  refine ⟨by simp only [inR]; omega,⟨by omega,by omega⟩,by simp only [inR]; omega,by simp only [inR]; omega,by simp only [inR]; omega,m,by omega,by omega,⟨trivial,?_,?_,trivial⟩,by simp⟩
  ·congr 1
   omega
  ·congr 1
   omega
 ·have hk0:k=0:=by have:=of_decide_eq_false h; omega
  subst hk0
  rw [List.drop_zero,hv]
  exact ⟨fun h=>⟨by rw [wrap64_neg (of_decide_eq_true h) hz1],rfl,trivial⟩,fun h=>⟨by rw [wrap64_pos (of_decide_eq_false h) hz2],rfl,trivial⟩⟩
theorem cInt64_ok:CtrOK Tryz.prog cInt64:=.of (by kernel_rfl) (fun bs w xs vs pre r hr hA hG h hp=>by
 simp only [cInt64] at h
 split at h
 ·cases h
  exact ctr_calls mixed LT_ok CT0_ok Tryz.func401 (by kernel_rfl) hr hA hG rfl rfl (cInt64_owes _ hp)
 ·cases h) (fun xs α pre φ r=>by simp only [cInt64]; split <;> (intro h; cases h))
def cIdv:Ctr:=⟨164,fun | [.g [.I (x)],.g [.I (y)]]=>.yes ((0 <= x/\0 < y)/\(szI x <= 5000000/\szI y <= 5000000)) (.t [.g [.I ((x / y))],.g [.I ((x % y))],.c (.v (.int .i64 ((0:Int))))]) | _=>.no⟩
theorem cIdv_owes (x y:Int) (hp:(0 <= x/\0 < y)/\(szI x <= 5000000/\szI y <= 5000000)):owes LT CT2 [] Tryz.f164 (Tryz.f164.body.getD .skip) [.g [.I (x)],.g [.I (y)]] (.t [.g [.I ((x / y))],.g [.I ((x % y))],.c (.v (.int .i64 ((0:Int))))]):=by
 refine Eq.mp (show (((((Lb.limbs y.natAbs).length:Int) == (0:Int))=true->(((Value.bool false=.bool (decide ((x / y) < 0)))/\((([]:List Nat)=Lb.limbs (x / y).natAbs)/\True))/\(((Value.bool false=.bool (decide ((x % y) < 0)))/\((([]:List Nat)=Lb.limbs (x % y).natAbs)/\True))/\((Value.int .i64 (6:Int)=(.int .i64 (0:Int)))/\True))))/\((((Lb.limbs y.natAbs).length:Int) == (0:Int))=false->(((Lb.Lt (Lb.limbs x.natAbs)/\Lb.Lt (Lb.limbs y.natAbs))/\((Lb.limbs x.natAbs).length <= 100000000/\(Lb.limbs y.natAbs).length <= 100000000)/\Lb.val (Lb.limbs y.natAbs) ≠ 0)/\(∀ e1:List Nat × List Nat,((Lb.Lt e1.1/\Lb.Lt e1.2)/\(e1.1.length <= (Lb.limbs x.natAbs).length+2/\e1.2.length <= (Lb.limbs x.natAbs).length+2)/\Lb.val e1.1=Lb.val (Lb.limbs x.natAbs) / Lb.val (Lb.limbs y.natAbs)/\Lb.val e1.2=Lb.val (Lb.limbs x.natAbs) % Lb.val (Lb.limbs y.natAbs)->((Lb.Lt e1.1/\e1.1.length <= 1000000000)/\((Lb.Lt e1.2/\e1.2.length <= 1000000000)/\(((bif (decide (((Lb.limbs (sgn (decide (x < 0)) (Lb.val e1.2)).natAbs).length:Int) > (0:Int))) then ((decide ((sgn (decide (x < 0)) (Lb.val e1.2)) < 0)) != (decide (y < 0))) else false)=true->((-9223372036854775808 <= (1:Int)/\(1:Int) <= 9223372036854775807)/\((szI (sgn ((decide (x < 0)) != (decide (y < 0))) (Lb.val e1.1)) <= 10000000/\szI (1:Int) <= 10000000)/\((szI (sgn (decide (x < 0)) (Lb.val e1.2)) <= 10000000/\szI y <= 10000000)/\((((((((((sgn ((decide (x < 0)) != (decide (y < 0))) (Lb.val e1.1)) - (1:Int))=(x / y))/\True)/\(((((sgn (decide (x < 0)) (Lb.val e1.2))+y)=(x % y))/\True)/\((Value.int .i64 (0:Int)=(.int .i64 (0:Int)))/\True)))/\True)/\True)/\True)/\(((((((((sgn ((decide (x < 0)) != (decide (y < 0))) (Lb.val e1.1)) - (1:Int))=(x / y))/\True)/\(((((sgn (decide (x < 0)) (Lb.val e1.2))+y)=(x % y))/\True)/\((Value.int .i64 (0:Int)=(.int .i64 (0:Int)))/\True)))/\True)/\True)/\True)/\True))/\((((((((((sgn ((decide (x < 0)) != (decide (y < 0))) (Lb.val e1.1)) - (1:Int))=(x / y))/\True)/\(((((sgn (decide (x < 0)) (Lb.val e1.2))+y)=(x % y))/\True)/\((Value.int .i64 (0:Int)=(.int .i64 (0:Int)))/\True)))/\True)/\True)/\True)/\True)/\True))))))/\((bif (decide (((Lb.limbs (sgn (decide (x < 0)) (Lb.val e1.2)).natAbs).length:Int) > (0:Int))) then ((decide ((sgn (decide (x < 0)) (Lb.val e1.2)) < 0)) != (decide (y < 0))) else false)=false->(((((((((sgn ((decide (x < 0)) != (decide (y < 0))) (Lb.val e1.1))=(x / y))/\True)/\((((sgn (decide (x < 0)) (Lb.val e1.2))=(x % y))/\True)/\((Value.int .i64 (0:Int)=(.int .i64 (0:Int)))/\True)))/\True)/\True)/\True)/\((((((((sgn ((decide (x < 0)) != (decide (y < 0))) (Lb.val e1.1))=(x / y))/\True)/\((((sgn (decide (x < 0)) (Lb.val e1.2))=(x % y))/\True)/\((Value.int .i64 (0:Int)=(.int .i64 (0:Int)))/\True)))/\True)/\True)/\True)/\True))/\(((((((((sgn ((decide (x < 0)) != (decide (y < 0))) (Lb.val e1.1))=(x / y))/\True)/\((((sgn (decide (x < 0)) (Lb.val e1.2))=(x % y))/\True)/\((Value.int .i64 (0:Int)=(.int .i64 (0:Int)))/\True)))/\True)/\True)/\True)/\True)/\True)))))))))))=_ by kernel_rfl) ?_
 obtain ⟨⟨hx,hy⟩,hx5,hy5⟩:=hp
 obtain ⟨a,rfl⟩:=Int.eq_ofNat_of_zero_le hx
 obtain ⟨b,rfl⟩:=Int.eq_ofNat_of_zero_le (Int.le_of_lt hy)
 unfold szI at hx5 hy5
 simp only [Int.natAbs_natCast] at *
 have dx:decide (((a:Nat):Int) < 0)=false:=decide_eq_false (by omega)
 have dy:decide (((b:Nat):Int) < 0)=false:=decide_eq_false (by omega)
 have hny:b ≠ 0:=by omega
 have hly:(Lb.limbs b).length ≠ 0:=by rw [Lb.limbs_pos hny]; simp
 have s0:∀ n:Nat,sgn false n=(n:Int):=fun n=>by simp [sgn]
 rw [dx,dy]
 refine ⟨fun h=>absurd h (by simpa using hly),fun _=>⟨⟨⟨(Lb.norm_limbs _).1,(Lb.norm_limbs _).1⟩,⟨by omega,by omega⟩,by rw [Lb.val_limbs]; exact hny⟩,?_⟩⟩
 rintro ⟨q,r⟩ ⟨⟨l1,l2⟩,⟨n1,n2⟩,v1,v2⟩
 simp only at *
 rw [Lb.val_limbs,Lb.val_limbs] at v1 v2
 have e0:(false != false)=false:=rfl
 rw [e0,v1,v2]
 simp only [s0]
 have dr:decide ((((a % b:Nat)):Int) < 0)=false:=decide_eq_false (by omega)
 rw [dr]
 refine ⟨⟨l1,by omega⟩,⟨l2,by omega⟩,fun h=>?_,fun _=>?_⟩
 ·exfalso
  revert h
  cases decide ((((Lb.limbs (((a % b:Nat)):Int).natAbs).length:Int)) > ((0:Int))) <;> simp
 ·rw [Int.natCast_ediv,Int.natCast_emod]
  simp only [and_self]
theorem cIdv_ok:CtrOK Tryz.prog cIdv:=.of (by kernel_rfl) (fun bs w xs vs pre r hr hA hG h hp=>by
 simp only [cIdv] at h
 split at h
 ·cases h
  exact ctr_calls mixed LT_ok CT2_ok Tryz.func164 (by kernel_rfl) hr hA hG rfl rfl (cIdv_owes _ _ hp)
 ·cases h) (fun xs α pre φ r=>by simp only [cIdv]; split <;> (intro h; cases h))
def cJdv:Ctr:=⟨82,fun | [.g [.I (x)],.g [.I (y)]]=>.yes ((0 <= x/\0 < y)/\(szI x <= 5000000/\szI y <= 5000000)) (.t [.g [.I ((x / y))],.g [.I ((x % y))],.c (.v (.int .i64 ((0:Int))))]) | _=>.no⟩
theorem cJdv_owes (x y:Int) (hp:(0 <= x/\0 < y)/\(szI x <= 5000000/\szI y <= 5000000)):owes LT RT7 [] Tryz.f82 (Tryz.f82.body.getD .skip) [.g [.I (x)],.g [.I (y)]] (.t [.g [.I ((x / y))],.g [.I ((x % y))],.c (.v (.int .i64 ((0:Int))))]):=by
 refine Eq.mp (show (((((Lb.limbs y.natAbs).length:Int) == (0:Int))=true->(((Value.bool false=.bool (decide ((x / y) < 0)))/\((([]:List Nat)=Lb.limbs (x / y).natAbs)/\True))/\(((Value.bool false=.bool (decide ((x % y) < 0)))/\((([]:List Nat)=Lb.limbs (x % y).natAbs)/\True))/\((Value.int .i64 (6:Int)=(.int .i64 (0:Int)))/\True))))/\((((Lb.limbs y.natAbs).length:Int) == (0:Int))=false->(((Lb.Lt (Lb.limbs x.natAbs)/\Lb.Norm (Lb.limbs y.natAbs))/\((Lb.limbs x.natAbs).length <= 90000000/\(Lb.limbs y.natAbs).length <= 90000000)/\Lb.val (Lb.limbs y.natAbs) ≠ 0)/\((Lb.Lt (Lb.limbs (Lb.val (Lb.limbs x.natAbs) / Lb.val (Lb.limbs y.natAbs)))/\(Lb.limbs (Lb.val (Lb.limbs x.natAbs) / Lb.val (Lb.limbs y.natAbs))).length <= 1000000000)/\((Lb.Lt (Lb.limbs (Lb.val (Lb.limbs x.natAbs) % Lb.val (Lb.limbs y.natAbs)))/\(Lb.limbs (Lb.val (Lb.limbs x.natAbs) % Lb.val (Lb.limbs y.natAbs))).length <= 1000000000)/\(((bif (decide (((Lb.limbs (Lb.val (Lb.limbs x.natAbs) % Lb.val (Lb.limbs y.natAbs))).length:Int) > (0:Int))) then ((decide (x < 0)) != (decide (y < 0))) else false)=true->((-9223372036854775808 <= (1:Int)/\(1:Int) <= 9223372036854775807)/\((szI (sgn ((decide (x < 0)) != (decide (y < 0))) (Lb.val (Lb.limbs (Lb.val (Lb.limbs x.natAbs) / Lb.val (Lb.limbs y.natAbs))))) <= 10000000/\szI (1:Int) <= 10000000)/\((szI (sgn (decide (x < 0)) (Lb.val (Lb.limbs (Lb.val (Lb.limbs x.natAbs) % Lb.val (Lb.limbs y.natAbs))))) <= 10000000/\szI y <= 10000000)/\((((((((((sgn ((decide (x < 0)) != (decide (y < 0))) (Lb.val (Lb.limbs (Lb.val (Lb.limbs x.natAbs) / Lb.val (Lb.limbs y.natAbs))))) - (1:Int))=(x / y))/\True)/\(((((sgn (decide (x < 0)) (Lb.val (Lb.limbs (Lb.val (Lb.limbs x.natAbs) % Lb.val (Lb.limbs y.natAbs)))))+y)=(x % y))/\True)/\((Value.int .i64 (0:Int)=(.int .i64 (0:Int)))/\True)))/\True)/\True)/\True)/\(((((((((sgn ((decide (x < 0)) != (decide (y < 0))) (Lb.val (Lb.limbs (Lb.val (Lb.limbs x.natAbs) / Lb.val (Lb.limbs y.natAbs))))) - (1:Int))=(x / y))/\True)/\(((((sgn (decide (x < 0)) (Lb.val (Lb.limbs (Lb.val (Lb.limbs x.natAbs) % Lb.val (Lb.limbs y.natAbs)))))+y)=(x % y))/\True)/\((Value.int .i64 (0:Int)=(.int .i64 (0:Int)))/\True)))/\True)/\True)/\True)/\True))/\((((((((((sgn ((decide (x < 0)) != (decide (y < 0))) (Lb.val (Lb.limbs (Lb.val (Lb.limbs x.natAbs) / Lb.val (Lb.limbs y.natAbs))))) - (1:Int))=(x / y))/\True)/\(((((sgn (decide (x < 0)) (Lb.val (Lb.limbs (Lb.val (Lb.limbs x.natAbs) % Lb.val (Lb.limbs y.natAbs)))))+y)=(x % y))/\True)/\((Value.int .i64 (0:Int)=(.int .i64 (0:Int)))/\True)))/\True)/\True)/\True)/\True)/\True))))))/\((bif (decide (((Lb.limbs (Lb.val (Lb.limbs x.natAbs) % Lb.val (Lb.limbs y.natAbs))).length:Int) > (0:Int))) then ((decide (x < 0)) != (decide (y < 0))) else false)=false->(((((((((sgn ((decide (x < 0)) != (decide (y < 0))) (Lb.val (Lb.limbs (Lb.val (Lb.limbs x.natAbs) / Lb.val (Lb.limbs y.natAbs)))))=(x / y))/\True)/\((((sgn (decide (x < 0)) (Lb.val (Lb.limbs (Lb.val (Lb.limbs x.natAbs) % Lb.val (Lb.limbs y.natAbs)))))=(x % y))/\True)/\((Value.int .i64 (0:Int)=(.int .i64 (0:Int)))/\True)))/\True)/\True)/\True)/\((((((((sgn ((decide (x < 0)) != (decide (y < 0))) (Lb.val (Lb.limbs (Lb.val (Lb.limbs x.natAbs) / Lb.val (Lb.limbs y.natAbs)))))=(x / y))/\True)/\((((sgn (decide (x < 0)) (Lb.val (Lb.limbs (Lb.val (Lb.limbs x.natAbs) % Lb.val (Lb.limbs y.natAbs)))))=(x % y))/\True)/\((Value.int .i64 (0:Int)=(.int .i64 (0:Int)))/\True)))/\True)/\True)/\True)/\True))/\(((((((((sgn ((decide (x < 0)) != (decide (y < 0))) (Lb.val (Lb.limbs (Lb.val (Lb.limbs x.natAbs) / Lb.val (Lb.limbs y.natAbs)))))=(x / y))/\True)/\((((sgn (decide (x < 0)) (Lb.val (Lb.limbs (Lb.val (Lb.limbs x.natAbs) % Lb.val (Lb.limbs y.natAbs)))))=(x % y))/\True)/\((Value.int .i64 (0:Int)=(.int .i64 (0:Int)))/\True)))/\True)/\True)/\True)/\True)/\True)))))))))=_ by kernel_rfl) ?_
 obtain ⟨⟨hx,hy⟩,hx5,hy5⟩:=hp
 obtain ⟨a,rfl⟩:=Int.eq_ofNat_of_zero_le hx
 obtain ⟨b,rfl⟩:=Int.eq_ofNat_of_zero_le (Int.le_of_lt hy)
 unfold szI at hx5 hy5
 simp only [Int.natAbs_natCast] at *
 have dx:decide (((a:Nat):Int) < 0)=false:=decide_eq_false (by omega)
 have dy:decide (((b:Nat):Int) < 0)=false:=decide_eq_false (by omega)
 have hny:b ≠ 0:=by omega
 have hly:(Lb.limbs b).length ≠ 0:=by rw [Lb.limbs_pos hny]; simp
 have s0:∀ n:Nat,sgn false n=(n:Int):=fun n=>by simp [sgn]
 have hd:=Lb.limbs_mono (Nat.div_le_self a b)
 have hm:=Lb.limbs_mono (Nat.mod_le a b)
 simp only [Lb.val_limbs]
 rw [dx,dy]
 refine ⟨fun h=>absurd h (by simpa using hly),fun _=>⟨⟨⟨(Lb.norm_limbs _).1,Lb.norm_limbs _⟩,⟨by omega,by omega⟩,hny⟩,⟨(Lb.norm_limbs _).1,by omega⟩,⟨(Lb.norm_limbs _).1,by omega⟩,fun h=>?_,fun _=>?_⟩⟩
 ·exfalso
  revert h
  cases decide ((((Lb.limbs (a % b)).length:Int)) > ((0:Int))) <;> simp
 ·have e0:(false != false)=false:=rfl
  rw [e0]
  simp only [s0]
  rw [Int.natCast_ediv,Int.natCast_emod]
  simp only [and_self]
theorem cJdv_ok:CtrOK Tryz.prog cJdv:=.of (by kernel_rfl) (fun bs w xs vs pre r hr hA hG h hp=>by
 simp only [cJdv] at h
 split at h
 ·cases h
  exact ctr_calls mixed LT_ok RT7_ok Tryz.func82 (by kernel_rfl) hr hA hG rfl rfl (cJdv_owes _ _ hp)
 ·cases h) (fun xs α pre φ r=>by simp only [cJdv]; split <;> (intro h; cases h))
end Vc
end Go.Proofs.YtkdjilgddbjcaaaGreat
namespace Go.Proofs.YtkdjilgddbjcaaaGreat
open Go.RowKit
namespace Vc
end Vc
def isq:Nat->Nat
 | 0=>0
 | n+1=>if (isq n+1)*(isq n+1) <= n+1 then isq n+1 else isq n
theorem isq_spec:∀ n,isq n*isq n <= n/\n < (isq n+1)*(isq n+1)
 | 0=>by decide
 | n+1=>by
   obtain ⟨h1,h2⟩:=isq_spec n
   rw [isq]
   split
   ·rename_i h
    refine ⟨h,?_⟩
    have:(isq n+1+1)*(isq n+1+1)=(isq n+1)*(isq n+1)+2*(isq n+1)+1:=by grind
    omega
   ·exact ⟨by omega,by omega⟩
theorem isq_unique {n r:Nat} (h1:r*r <= n) (h2:n < (r+1)*(r+1)):isq n=r:=by
 obtain ⟨h3,h4⟩:=isq_spec n
 rcases Nat.lt_trichotomy (isq n) r with h | h | h
 ·have:(isq n+1)*(isq n+1) <= r*r:=Nat.mul_le_mul h h
  omega
 ·exact h
 ·have:(r+1)*(r+1) <= isq n*isq n:=Nat.mul_le_mul h h
  omega
theorem newton {z x:Int} (hx:1 <= x) (hz:0 <= z):z < ((x+z / x) / 2+1)*((x+z / x) / 2+1):=by
 have h1:=Int.mul_ediv_add_emod z x
 have h2:=Int.emod_lt_of_pos z (show 0 < x by omega)
 have h3:=Int.emod_nonneg z (show x ≠ 0 by omega)
 have h4:0 <= z / x:=Int.ediv_nonneg hz (by omega)
 generalize z / x=q at *
 generalize z % x=r at *
 have h5:x+q <= 2*((x+q) / 2)+1:=by omega
 generalize (x+q) / 2=n at *
 have h6:z < x*(q+1):=by rw [Int.mul_add]; omega
 have h7:x+(q+1) <= 2*(n+1):=by omega
 have hs:1 <= q+1:=by omega
 generalize q+1=s at *
 generalize n+1=m at *
 have h8:4*(x*s) <= (x+s)*(x+s):=by
  have:0 <= (x - s)*(x - s):=by
   rcases Int.le_total 0 (x - s) with h | h
   ·exact Int.mul_nonneg h h
   ·have:=Int.mul_nonneg (show 0 <= -(x - s) by omega) (show 0 <= -(x - s) by omega)
    rwa [Int.neg_mul_neg] at this
  grind
 have h9:(x+s)*(x+s) <= 2*m*(2*m):=Int.mul_le_mul h7 h7 (by omega) (by omega)
 have h10:2*m*(2*m)=4*(m*m):=by grind
 omega
theorem newton_stop {z x:Int} (hx:1 <= x) (h:x <= (x+z / x) / 2):x*x <= z:=by
 have h1:=Int.mul_ediv_add_emod z x
 have h3:=Int.emod_nonneg z (show x ≠ 0 by omega)
 generalize z / x=q at *
 have h4:x <= q:=by omega
 have:=Int.mul_le_mul_of_nonneg_left h4 (show 0 <= x by omega)
 omega
theorem val_rep (k:Nat):Lb.val (List.replicate k 0 ++ [1])=Lb.B ^ k:=by
 rw [Lb.val_append]
 have:∀ n,Lb.val (List.replicate n 0)=0:=fun n=>by
  induction n with
  | zero=>rfl
  | succ n ih=>rw [List.replicate_succ]; simp [Lb.val,ih]
 rw [this,List.length_replicate]
 simp [Lb.val]
theorem rep_lt (k:Nat):Lb.Lt (List.replicate k 0 ++ [1]):=by
 intro x hx
 rcases List.mem_append.1 hx with h | h
 ·have:=(List.mem_replicate.1 h).2
  subst this
  decide
 ·have:x=1:=by simpa using h
  subst this
  decide
namespace Vc
def IT0:List Ctr:=cIdv :: CT10
theorem IT0_ok:∀ c ∈ IT0,CtrOK Tryz.prog c:=by
 intro c hc
 rcases List.mem_cons.1 hc with rfl | h
 ·exact cIdv_ok
 ·exact CT10_ok c h
def cIsqrt:Ctr:=⟨167,fun | [.g [.I (z)]]=>.yes (0 <= z/\szI z <= 2000000) (.t [.g [.I (((isq z.toNat:Nat):Int))],.c (.v (.int .i64 ((0:Int))))]) | _=>.no⟩
theorem cIsqrt_owes (z:Int) (hp:0 <= z/\szI z <= 2000000):owes LT IT0 [.inv 8 (Int) (fun ξ=>⟨[.u,.k (.c (.bx 0 0)),.k (.c (.bx 1 0)),.k (.c (.v (.int .i64 ((0:Int))))),.u,.k (.c (.bx 2 0)),.k (.c (.bx 3 0)),.u,.u,.u,.u,.u,.u,.u,.u,.u,.u,.u,.u,.u,.u,.u,.u,.u,.u,.u,.u,.u,.u,.u,.u,.u,.u,.u,.u,.u,.u,.u,.u,.u,.u,.u,.u,.u,.u,.u,.u,.u,.u,.u,.u,.u,.u,.u],[⟨30,[.I (z)]⟩,⟨30,[.v (.bool (false)),.sl (([]:List Nat))]⟩,⟨30,[.I (ξ)]⟩,⟨30,[.I ((2:Int))]⟩]⟩) (fun _ ξ=>(1 <= ξ/\z < (ξ+1)*(ξ+1)/\szI ξ <= szI z+1)) (fun ξ=>(ξ).toNat)] Tryz.f167 (Tryz.f167.body.getD .skip) [.g [.I (z)]] (.t [.g [.I (((isq z.toNat:Nat):Int))],.c (.v (.int .i64 ((0:Int))))]):=by
 refine Eq.mp (show (((decide (z < 0))=true->(((Value.bool false=.bool (decide (((isq z.toNat:Nat):Int) < 0)))/\((([]:List Nat)=Lb.limbs ((isq z.toNat:Nat):Int).natAbs)/\True))/\((Value.int .i64 (7:Int)=(.int .i64 (0:Int)))/\True)))/\((decide (z < 0))=false->(((((Lb.limbs z.natAbs).length:Int) == (0:Int))=true->(((Value.bool false=.bool (decide (((isq z.toNat:Nat):Int) < 0)))/\((([]:List Nat)=Lb.limbs ((isq z.toNat:Nat):Int).natAbs)/\True))/\((Value.int .i64 (0:Int)=(.int .i64 (0:Int)))/\True)))/\((((Lb.limbs z.natAbs).length:Int) == (0:Int))=false->((inR .i64 (((Lb.limbs z.natAbs).length:Int)+(1:Int)))/\(((0 <= ((Lb.limbs z.natAbs).length:Int)+(1:Int)/\0 < (2:Int))/\inR .i64 ((((Lb.limbs z.natAbs).length:Int)+(1:Int)) / (2:Int)))/\((((((Lb.limbs z.natAbs).length:Int)+(1:Int)) / (2:Int))=((((Lb.limbs z.natAbs).length:Int)+(1:Int)) / (2:Int))/\0 <= ((((Lb.limbs z.natAbs).length:Int)+(1:Int)) / (2:Int))/\((((Lb.limbs z.natAbs).length:Int)+(1:Int)) / (2:Int)) <= 1000000)/\((∀ z ∈ ([(1:Int)]:List Int),0 <= z)/\((Lb.Lt (List.replicate ((((Lb.limbs z.natAbs).length:Int)+(1:Int)) / (2:Int)).toNat 0 ++ [((1:Int):Int).toNat])/\(List.replicate ((((Lb.limbs z.natAbs).length:Int)+(1:Int)) / (2:Int)).toNat 0 ++ [((1:Int):Int).toNat]).length <= 1000000000)/\((-9223372036854775808 <= (2:Int)/\(2:Int) <= 9223372036854775807)/\((∃ x1:Int,((1 <= x1/\z < (x1+1)*(x1+1)/\szI x1 <= szI z+1)/\((True/\(True/\((Value.int .i64 (0:Int)=(.int .i64 (0:Int)))/\(True/\(True/\True)))))/\(((z=z)/\True)/\(((Value.bool false=(.bool false))/\((([]:List Nat)=([]:List Nat))/\True))/\((((sgn false (Lb.val (List.replicate ((((Lb.limbs z.natAbs).length:Int)+(1:Int)) / (2:Int)).toNat 0 ++ [((1:Int):Int).toNat])))=x1)/\True)/\((((2:Int)=(2:Int))/\True)/\True)))))))/\(∀ x1:Int,((1 <= x1/\z < (x1+1)*(x1+1)/\szI x1 <= szI z+1)->(((0 <= z/\0 < x1)/\(szI z <= 5000000/\szI x1 <= 5000000))/\((szI x1 <= 10000000/\szI (z / x1) <= 10000000)/\(((0 <= (x1+(z / x1))/\0 < (2:Int))/\(szI (x1+(z / x1)) <= 5000000/\szI (2:Int) <= 5000000))/\((szI ((x1+(z / x1)) / (2:Int)) <= 10000000/\szI x1 <= 10000000)/\(((decide (((((x1+(z / x1)) / (2:Int)) - x1).sign) >= (0:Int)))=true->(((x1=((isq z.toNat:Nat):Int))/\True)/\((Value.int .i64 (0:Int)=(.int .i64 (0:Int)))/\True)))/\((decide (((((x1+(z / x1)) / (2:Int)) - x1).sign) >= (0:Int)))=false->(∃ y1:Int,((1 <= y1/\z < (y1+1)*(y1+1)/\szI y1 <= szI z+1)/\((y1.toNat < x1.toNat)/\((True/\(True/\((Value.int .i64 (0:Int)=(.int .i64 (0:Int)))/\(True/\(True/\True)))))/\(((z=z)/\True)/\(((Value.bool false=(.bool false))/\((([]:List Nat)=([]:List Nat))/\True))/\(((((x1+(z / x1)) / (2:Int))=y1)/\True)/\((((2:Int)=(2:Int))/\True)/\True)))))))))))))))))))))))))))=_ by kernel_rfl) ?_
 obtain ⟨hz,hsz⟩:=hp
 refine ⟨fun h=>?_,fun _=>⟨fun h=>?_,fun h=>?_⟩⟩
 ·exfalso
  have:=of_decide_eq_true h
  omega
 ·have h0:(Lb.limbs z.natAbs).length=0:=by have:=beq_iff_eq.1 h; omega
  have hz0:z=0:=by
   rcases Nat.eq_zero_or_pos z.natAbs with e | e
   ·omega
   ·rw [Lb.limbs_pos (by omega)] at h0
    simp at h0
  subst hz0
  exact ⟨⟨by simp [isq],by simp [isq,Lb.limbs_zero],trivial⟩,rfl,trivial⟩
 ·have hn0:(Lb.limbs z.natAbs).length ≠ 0:=fun e=>by rw [e] at h; simp at h
  have hlt:=Lb.lt_pow_limbs z.natAbs
  have hz1:1 <= z:=by
   rcases Int.lt_or_le 0 z with e | e
   ·omega
   ·exfalso
    have:z=0:=by omega
    subst this
    rw [show (0:Int).natAbs=0 from rfl,Lb.limbs_zero] at hn0
    exact hn0 rfl
  have hsn:szI z=(Lb.limbs z.natAbs).length:=rfl
  generalize hn:(Lb.limbs z.natAbs).length=n at *
  have ek:(((n:Int)+1) / 2).toNat=(n+1) / 2:=by omega
  have e1:((1:Int):Int).toNat=1:=rfl
  rw [ek,e1,val_rep]
  generalize hk:(n+1) / 2=k at *
  have hBp:0 < Lb.B ^ k:=Nat.pow_pos Lb.B_pos
  have hzB:z < (Lb.B ^ k:Nat)*(Lb.B ^ k:Nat):=by
   have h1:Lb.B ^ n <= Lb.B ^ (k+k):=Nat.pow_le_pow_right Lb.B_pos (by omega)
   rw [Nat.pow_add] at h1
   have h2:z.natAbs < Lb.B ^ k*Lb.B ^ k:=by omega
   have h3:((Lb.B ^ k*Lb.B ^ k:Nat):Int)=(Lb.B ^ k:Nat)*(Lb.B ^ k:Nat):=Int.natCast_mul _ _
   omega
  have hsB:szI ((Lb.B ^ k:Nat):Int) <= k+1:=szI_le (by
   rw [Int.natAbs_natCast,Nat.pow_succ]
   have:Lb.B ^ k*1 < Lb.B ^ k*Lb.B:=Nat.mul_lt_mul_of_pos_left (by decide) hBp
   omega)
  have hBi:(0:Int) < ((Lb.B ^ k:Nat):Int):=Int.natCast_pos.2 hBp
  have s2:szI 2 <= 5000000:=Nat.le_trans (szI_le (k:=1) (by decide)) (by decide)
  refine ⟨by simp only [inR]; omega,⟨⟨by omega,by omega⟩,by simp only [inR]; omega⟩,⟨rfl,by omega,by omega⟩,fun y hy=>by simp at hy; omega,⟨rep_lt k,by simp; omega⟩,⟨by decide,by decide⟩,
   ⟨((Lb.B ^ k:Nat):Int),⟨by omega,?_,by omega⟩,⟨trivial,trivial,rfl,trivial,trivial,trivial⟩,⟨rfl,trivial⟩,⟨rfl,rfl,trivial⟩,⟨rfl,trivial⟩,⟨rfl,trivial⟩,trivial⟩,fun x hx=>?_⟩
  ·generalize ((Lb.B ^ k:Nat):Int)=b at *
   have:(b+1)*(b+1)=b*b+2*b+1:=by grind
   omega
  ·obtain ⟨x1,x2,x3⟩:=hx
   have q0:0 <= z / x:=Int.ediv_nonneg hz (by omega)
   have qle:z / x <= z:=Int.ediv_le_self x hz
   have sq:szI (z / x) <= szI z:=szI_mono (by omega)
   have sa:=szI_add' x (z / x)
   have hnw:=newton x1 hz
   have hst:=fun h=>newton_stop (z:=z) x1 h
   generalize z / x=q at *
   have a0:0 <= (x+q) / 2:=by omega
   have sn:szI ((x+q) / 2) <= szI (x+q):=szI_mono (by omega)
   refine ⟨⟨⟨hz,by omega⟩,by omega,by omega⟩,⟨by omega,by omega⟩,⟨⟨by omega,by decide⟩,by omega,s2⟩,⟨by omega,by omega⟩,fun c=>⟨⟨?_,trivial⟩,rfl,trivial⟩,fun c=>?_⟩
   ·have c1:=of_decide_eq_true c
    have c2:x <= (x+q) / 2:=by
     rcases Int.lt_or_le ((x+q) / 2) x with g | g
     ·exfalso
      have:=Int.sign_eq_neg_one_of_neg (show (x+q) / 2 - x < 0 by omega)
      omega
     ·exact g
    have c3:=hst c2
    have e2:isq z.toNat=x.toNat:=isq_unique (by
     have:((x.toNat*x.toNat:Nat):Int)=x*x:=by rw [Int.natCast_mul,Int.toNat_of_nonneg (by omega)]
     omega) (by
     have:(((x.toNat+1)*(x.toNat+1):Nat):Int)=(x+1)*(x+1):=by rw [Int.natCast_mul,Int.natCast_add,Int.toNat_of_nonneg (by omega)]; rfl
     omega)
    rw [e2,Int.toNat_of_nonneg (by omega)]
   ·have c1:=of_decide_eq_false c
    have c2:(x+q) / 2 < x:=by
     rcases Int.lt_or_le ((x+q) / 2) x with g | g
     ·exact g
     ·exfalso
      refine c1 ?_
      rcases Int.lt_trichotomy ((x+q) / 2 - x) 0 with k | k | k
      ·omega
      ·rw [k]; decide
      ·rw [Int.sign_eq_one_of_pos k]; decide
    generalize (x+q) / 2=y at *
    have y1:1 <= y:=by
     rcases Int.lt_or_le 0 y with g | g
     ·omega
     ·exfalso
      have:y=0:=by omega
      subst this
      omega
    refine ⟨y,⟨y1,hnw,Nat.le_trans (szI_mono (by omega)) x3⟩,by omega,⟨trivial,trivial,rfl,trivial,trivial,trivial⟩,⟨rfl,trivial⟩,⟨rfl,rfl,trivial⟩,⟨rfl,trivial⟩,⟨rfl,trivial⟩,trivial⟩
theorem cIsqrt_ok:CtrOK Tryz.prog cIsqrt:=.of (by kernel_rfl) (fun bs w xs vs pre r hr hA hG h hp=>by
 simp only [cIsqrt] at h
 split at h
 ·cases h
  exact ctr_calls mixed LT_ok IT0_ok Tryz.func167 (by kernel_rfl) hr hA hG rfl rfl (cIsqrt_owes _ hp)
 ·cases h) (fun xs α pre φ r=>by simp only [cIsqrt]; split <;> (intro h; cases h))
end Vc
end Go.Proofs.YtkdjilgddbjcaaaGreat
namespace Go.Proofs.YtkdjilgddbjcaaaGreat
namespace Rt
theorem num_eq (a:Rat):(a.num:Rat)=a*((a.den:Int):Rat):=by
 have h:=divInt_self a
 rw [Rat.divInt_eq_div] at h
 have h0:((a.den:Int):Rat) ≠ 0:=by
  have:=a.den_pos
  exact_mod_cast (show (a.den:Int) ≠ 0 by omega)
 have h1:(a.num:Rat) / ((a.den:Int):Rat)*((a.den:Int):Rat)=(a.num:Rat):=Rat.div_mul_cancel h0
 rw [h] at h1
 exact h1.symm
theorem den_pos' (a:Rat):(0:Rat) < ((a.den:Int):Rat):=by
 have:=a.den_pos
 exact_mod_cast (show (0:Int) < (a.den:Int) by omega)
def flr (a:Rat):Int:=a.num / (a.den:Int)
theorem flr_le (a:Rat):(flr a:Rat) <= a/\a < (flr a:Rat)+1:=by
 have hd:(0:Int) < a.den:=by have:=a.den_pos; omega
 have h1:=Int.mul_ediv_add_emod a.num a.den
 have h2:=Int.emod_nonneg a.num (show (a.den:Int) ≠ 0 by omega)
 have h3:=Int.emod_lt_of_pos a.num hd
 have e:=num_eq a
 have hdr:=den_pos' a
 unfold flr
 generalize a.num / (a.den:Int)=f at *
 constructor
 ·have:((f*a.den:Int):Rat) <= (a.num:Rat):=by exact_mod_cast (show f*(a.den:Int) <= a.num by rw [Int.mul_comm]; omega)
  rw [e,Rat.intCast_mul] at this
  exact Rat.le_of_mul_le_mul_right this hdr
 ·have:(a.num:Rat) < (((f+1)*a.den:Int):Rat):=by exact_mod_cast (show a.num < (f+1)*(a.den:Int) by rw [Int.add_mul,Int.mul_comm f]; omega)
  rw [e,Rat.intCast_mul,Rat.intCast_add] at this
  exact Rat.lt_of_mul_lt_mul_right this (Rat.le_of_lt hdr)
theorem flr_nonneg {a:Rat} (h:0 <= a):0 <= flr a:=by
 have h1:=(flr_le a).2
 rcases Int.lt_or_le (flr a) 0 with h2 | h2
 ·exfalso
  have h3:((flr a+1:Int):Rat) <= ((0:Int):Rat):=by exact_mod_cast (show flr a+1 <= 0 by omega)
  rw [Rat.intCast_add] at h3
  grind
 ·exact h2
def btw:Nat->Rat->Rat->Bool->Rat
 | 0,_,_,_=>0
 | n+1,a,b,lim =>
   if lim=false \/ (flr a:Rat)+1 < b then (flr a:Rat)+1
   else if a - (flr a:Rat)=0 then (flr a:Rat)+1 / btw n (1 / (b - (flr a:Rat))) b false
   else (flr a:Rat)+1 / btw n (1 / (b - (flr a:Rat))) (1 / (a - (flr a:Rat))) true
def fuelB (a b:Rat) (lim:Bool):Nat:=if lim=true then a.den+b.den else 1
theorem quot_size {q:Rat} {n d:Int} (hd:0 < d) (h:q*(d:Rat)=(n:Rat)):q.num.natAbs <= n.natAbs/\q.den <= d.natAbs/\q=Rat.divInt n d:=by
 have h0:(d:Rat) ≠ 0:=by exact_mod_cast (show d ≠ 0 by omega)
 have e:q=Rat.divInt n d:=by
  rw [Rat.divInt_eq_div,<- h,Rat.mul_div_cancel h0]
 refine ⟨?_,?_,e⟩
 ·rw [e]; exact red_num_le hd
 ·rw [e]; exact red_den_le hd
theorem num_pos {q:Rat} (h:0 < q):0 < q.num:=by
 rcases Int.lt_or_le 0 q.num with h' | h'
 ·exact h'
 ·exfalso
  have:=Rat.num_nonneg (q:=-q)
  have h2:0 <= (-q).num:=by rw [Rat.neg_num]; omega
  have h3:=Rat.num_nonneg.1 h2
  grind
theorem inv_over {a:Rat} {f:Int} (h:0 < a - (f:Rat)):0 < a.num - f*a.den/\(1 / (a - (f:Rat))).num.natAbs <= a.den/\(1 / (a - (f:Rat))).den <= (a.num - f*a.den).natAbs:=by
 have e:=num_eq a
 have hdr:=den_pos' a
 have h1:((a.num - f*a.den:Int):Rat)=(a - (f:Rat))*((a.den:Int):Rat):=by
  rw [Rat.intCast_sub,Rat.intCast_mul,e]
  grind
 have h2:0 < a.num - f*a.den:=by
  have:=Rat.mul_pos h hdr
  rw [<- h1] at this
  exact_mod_cast this
 have h3:(1 / (a - (f:Rat)))*((a.num - f*a.den:Int):Rat)=((a.den:Int):Rat):=by
  rw [h1,<- Rat.mul_assoc,Rat.div_mul_cancel (by grind)]
  grind
 obtain ⟨q1,q2,_⟩:=quot_size h2 h3
 exact ⟨h2,by simpa using q1,q2⟩
theorem over_den {b:Rat} {f:Int} (hb:b <= (f:Rat)+1) (h:0 < b - (f:Rat)):(1 / (b - (f:Rat))).den <= b.den:=by
 obtain ⟨b1,b2,b3⟩:=inv_over h
 have hbn:=num_eq b
 have hbp:=den_pos' b
 have h3:b*((b.den:Int):Rat) <= ((f:Rat)+1)*((b.den:Int):Rat):=Rat.mul_le_mul_of_nonneg_right hb (Rat.le_of_lt hbp)
 rw [<- hbn] at h3
 have e:((f:Rat)+1)*((b.den:Int):Rat)=(((f+1)*b.den:Int):Rat):=by rw [Rat.intCast_mul,Rat.intCast_add]; rfl
 rw [e] at h3
 have h4:b.num <= (f+1)*b.den:=by exact_mod_cast h3
 rw [Int.add_mul] at h4
 omega
theorem over_den_lt {a:Rat} (h:0 < a - (flr a:Rat)):(1 / (a - (flr a:Rat))).den < a.den:=by
 obtain ⟨a1,a2,a3⟩:=inv_over h
 have h3:a*((a.den:Int):Rat) < ((flr a:Rat)+1)*((a.den:Int):Rat):=Rat.mul_lt_mul_of_pos_right (flr_le a).2 (den_pos' a)
 rw [<- num_eq a] at h3
 have e:((flr a:Rat)+1)*((a.den:Int):Rat)=(((flr a+1)*a.den:Int):Rat):=by rw [Rat.intCast_mul,Rat.intCast_add]; rfl
 rw [e] at h3
 have h4:a.num < (flr a+1)*a.den:=by exact_mod_cast h3
 rw [Int.add_mul] at h4
 omega
theorem over_num {b:Rat} {f:Int} (hf:0 <= f) (h:0 < b - (f:Rat)):(1 / (b - (f:Rat))).den <= b.num.natAbs:=by
 obtain ⟨b1,b2,b3⟩:=inv_over h
 have hfb:0 <= f*(b.den:Int):=Int.mul_nonneg hf (by omega)
 omega
theorem inv_pos {x:Rat} (h:0 < x):0 < 1 / x:=by
 have h3:1 / x*x=1:=Rat.div_mul_cancel (by grind)
 rcases Rat.le_total (a:=1 / x) (b:=0) with g | g
 ·have:=Rat.mul_le_mul_of_nonneg_right g (Rat.le_of_lt h)
  grind
 ·rcases Rat.le_iff_lt_or_eq.1 g with g' | g'
  ·exact g'
  ·rw [<- g'] at h3; grind
theorem inv_lt {x y:Rat} (h:0 < x) (hxy:x < y):1 / y < 1 / x:=by
 have h3:1 / x*x=1:=Rat.div_mul_cancel (by grind)
 have h4:1 / y*y=1:=Rat.div_mul_cancel (by grind)
 have p1:=inv_pos h
 have p2:=inv_pos (x:=y) (by grind)
 generalize 1 / x=u at *
 generalize 1 / y=v at *
 rcases Rat.le_total (a:=u) (b:=v) with g | g
 ·have h5:=Rat.mul_le_mul_of_nonneg_right g (Rat.le_of_lt h)
  have h6:=Rat.mul_lt_mul_of_pos_left hxy p2
  grind
 ·rcases Rat.le_iff_lt_or_eq.1 g with g' | g'
  ·exact g'
  ·subst g'
   have h6:=Rat.mul_lt_mul_of_pos_left hxy p2
   grind
theorem btw_spec:∀ (n:Nat) (a b:Rat) (lim:Bool),0 <= a->(lim=true->a < b)->fuelB a b lim <= n ->
    a < btw n a b lim/\(lim=true->btw n a b lim < b/\(btw n a b lim).num.natAbs <= a.num.natAbs+b.num.natAbs/\(btw n a b lim).den <= a.den+b.den)/\(lim=false->btw n a b lim=(flr a:Rat)+1)
 | 0,a,b,lim,h0,h1,hn=>by
   exfalso
   unfold fuelB at hn
   have:=a.den_pos
   split at hn <;> omega
 | n+1,a,b,lim,h0,h1,hn=>by
   obtain ⟨f1,f2⟩:=flr_le a
   have f0:=flr_nonneg h0
   unfold btw
   have hnum:∀ x:Rat,∀ k:Int,x=(k:Rat)->x.num.natAbs=k.natAbs/\x.den=1:=fun x k h=>by subst h; exact ⟨rfl,rfl⟩
   by_cases hc:lim=false \/ (flr a:Rat)+1 < b
   ·rw [if_pos hc]
    refine ⟨f2,fun hl=>?_,fun _=>rfl⟩
    have hb:(flr a:Rat)+1 < b:=by
     rcases hc with h | h
     ·rw [hl] at h; cases h
     ·exact h
    have e:(flr a:Rat)+1=((flr a+1:Int):Rat):=by rw [Rat.intCast_add]; rfl
    obtain ⟨g1,g2⟩:=hnum _ _ e
    refine ⟨hb,?_,?_⟩
    ·rw [g1]
     have hbn:=num_eq b
     have hbd:=den_pos' b
     have h3:((flr a+1:Int):Rat)*((b.den:Int):Rat) < (b.num:Rat):=by
      rw [hbn,<- e]
      exact Rat.mul_lt_mul_of_pos_right hb hbd
     rw [<- Rat.intCast_mul] at h3
     have h4:(flr a+1)*(b.den:Int) < b.num:=by exact_mod_cast h3
     have h5:(flr a+1)*1 <= (flr a+1)*(b.den:Int):=Int.mul_le_mul_of_nonneg_left (by have:=b.den_pos; omega) (by omega)
     omega
    ·rw [g2]
     have:=a.den_pos
     omega
   ·rw [if_neg hc]
    have hl:lim=true:=by
     cases lim with
     | true=>rfl
     | false=>exact absurd (.inl rfl) hc
    have hb:b <= (flr a:Rat)+1:=by
     rcases Rat.le_total (a:=b) (b:=(flr a:Rat)+1) with h | h
     ·exact h
     ·rcases Rat.le_iff_lt_or_eq.1 h with h' | h'
      ·exact absurd (.inr h') hc
      ·rw [h']; exact Rat.le_refl
    have hab:=h1 hl
    have hbf:0 < b - (flr a:Rat):=by grind
    obtain ⟨b1,b2,b3⟩:=inv_over hbf
    have hbd:b.num - flr a*b.den <= b.den:=by
     have hbn:=num_eq b
     have hbp:=den_pos' b
     have h3:b*((b.den:Int):Rat) <= ((flr a:Rat)+1)*((b.den:Int):Rat):=Rat.mul_le_mul_of_nonneg_right hb (Rat.le_of_lt hbp)
     rw [<- hbn] at h3
     have e:((flr a:Rat)+1)*((b.den:Int):Rat)=(((flr a+1)*b.den:Int):Rat):=by rw [Rat.intCast_mul,Rat.intCast_add]; rfl
     rw [e] at h3
     have h4:b.num <= (flr a+1)*b.den:=by exact_mod_cast h3
     rw [Int.add_mul] at h4
     omega
    have hfb:flr a*(b.den:Int) >= 0:=Int.mul_nonneg f0 (by omega)
    have hfa:flr a*(a.den:Int) >= 0:=Int.mul_nonneg f0 (by omega)
    have hlow1:1 <= 1 / (b - (flr a:Rat)):=by
     have h3:1 / (b - (flr a:Rat))*(b - (flr a:Rat))=1:=Rat.div_mul_cancel (by grind)
     generalize 1 / (b - (flr a:Rat))=y at *
     rcases Rat.le_total (a:=1) (b:=y) with h | h
     ·exact h
     ·have hy:0 < y:=by
       rcases Rat.le_total (a:=y) (b:=0) with g | g
       ·have:=Rat.mul_le_mul_of_nonneg_right g (Rat.le_of_lt hbf)
        grind
       ·rcases Rat.le_iff_lt_or_eq.1 g with g' | g'
        ·exact g'
        ·rw [<- g'] at h3; grind
      have:=Rat.mul_le_mul_of_nonneg_left (show b - (flr a:Rat) <= 1 by grind) (Rat.le_of_lt hy)
      grind
    have step:∀ y:Rat,1 / (b - (flr a:Rat)) < y->(flr a:Rat) < (flr a:Rat)+1 / y/\(flr a:Rat)+1 / y < b/\((flr a:Rat)+1 / y).den <= y.num.natAbs/\((flr a:Rat)+1 / y).num.natAbs <= (flr a*y.num+y.den).natAbs:=fun y hy=>by
     have hy0:0 < y:=by grind
     have h3:1 / (b - (flr a:Rat))*(b - (flr a:Rat))=1:=Rat.div_mul_cancel (by grind)
     have h4:1 / y*y=1:=Rat.div_mul_cancel (by grind)
     have hyp:=num_pos hy0
     have hyn:=num_eq y
     have hyd:=den_pos' y
     have hi:0 < 1 / y:=by
      rcases Rat.le_total (a:=1 / y) (b:=0) with g | g
      ·have:=Rat.mul_le_mul_of_nonneg_right g (Rat.le_of_lt hy0)
       grind
      ·rcases Rat.le_iff_lt_or_eq.1 g with g' | g'
       ·exact g'
       ·rw [<- g'] at h4; grind
     refine ⟨by grind,?_,?_⟩
     ·have h5:=Rat.mul_lt_mul_of_pos_right hy hbf
      rw [h3] at h5
      have h6:=Rat.mul_lt_mul_of_pos_left h5 hi
      have h7:1 / y*(y*(b - (flr a:Rat)))=b - (flr a:Rat):=by rw [<- Rat.mul_assoc,h4,Rat.one_mul]
      rw [h7] at h6
      grind
     ·have h8:((flr a:Rat)+1 / y)*(y.num:Rat)=((flr a*y.num+y.den:Int):Rat):=by
       rw [Rat.intCast_add,Rat.intCast_mul]
       have:1 / y*(y.num:Rat)=((y.den:Int):Rat):=by rw [hyn,<- Rat.mul_assoc,h4,Rat.one_mul]
       grind
      obtain ⟨q1,q2,_⟩:=quot_size hyp h8
      exact ⟨q2,q1⟩
    by_cases ha:a - (flr a:Rat)=0
    ·rw [if_pos ha]
     have hn1:1 <= n:=by
      unfold fuelB at hn
      rw [if_pos hl] at hn
      have:=a.den_pos; have:=b.den_pos
      omega
     obtain ⟨r1,_,r3⟩:=btw_spec n (1 / (b - (flr a:Rat))) b false (by grind) (fun h=>(by cases h)) (by unfold fuelB; rw [if_neg (by decide)]; exact hn1)
     obtain ⟨s1,s2,s3,s4⟩:=step _ r1
     have e:=r3 rfl
     have e2:btw n (1 / (b - (flr a:Rat))) b false=((flr (1 / (b - (flr a:Rat)))+1:Int):Rat):=by rw [e,Rat.intCast_add]; rfl
     obtain ⟨g1,g2⟩:=hnum _ _ e2
     have hg:(btw n (1 / (b - (flr a:Rat))) b false).num=flr (1 / (b - (flr a:Rat)))+1:=by rw [e2]; rfl
     have hlw:flr (1 / (b - (flr a:Rat))) <= b.den:=by
      have h5:=(flr_le (1 / (b - (flr a:Rat)))).1
      have h6:(1 / (b - (flr a:Rat)))*1 <= ((b.den:Int):Rat):=by
       have h7:=num_eq (1 / (b - (flr a:Rat)))
       have h8:=den_pos' (1 / (b - (flr a:Rat)))
       have h9:(1:Rat) <= (((1 / (b - (flr a:Rat))).den:Int):Rat):=by
        have:=(1 / (b - (flr a:Rat))).den_pos
        exact_mod_cast (show (1:Int) <= ((1 / (b - (flr a:Rat))).den:Int) by omega)
       have h10:=Rat.mul_le_mul_of_nonneg_left h9 (show 0 <= 1 / (b - (flr a:Rat)) by grind)
       have h11:((1 / (b - (flr a:Rat))).num:Rat) <= ((b.den:Int):Rat):=by exact_mod_cast (show (1 / (b - (flr a:Rat))).num <= (b.den:Int) by omega)
       rw [h7] at h11
       exact Rat.le_trans h10 h11
      rw [Rat.mul_one] at h6
      have h7:=Rat.le_trans h5 h6
      exact_mod_cast h7
     have hl0:=flr_nonneg (a:=1 / (b - (flr a:Rat))) (by grind)
     have hag:a.den=1/\a.num=flr a:=by
      have:a=((flr a:Int):Rat):=by grind
      rw [this]
      constructor
      ·rfl
      ·show flr a=flr ((flr a:Int):Rat)
       rw [<- this]
     refine ⟨by grind,fun _=>⟨s2,?_,?_⟩,fun h=>(by rw [hl] at h; cases h)⟩
     ·refine Nat.le_trans s4 ?_
      rw [hg,g2]
      have h5:flr a*(flr (1 / (b - (flr a:Rat)))+1) <= flr a*((b.den:Int)+1):=Int.mul_le_mul_of_nonneg_left (by omega) f0
      have h6:0 <= flr a*(flr (1 / (b - (flr a:Rat)))+1):=Int.mul_nonneg f0 (by omega)
      have h7:flr a*((b.den:Int)+1)=flr a*b.den+flr a:=by rw [Int.mul_add,Int.mul_one]
      have h8:=hag.1
      have h9:=hag.2
      omega
     ·refine Nat.le_trans s3 ?_
      rw [g1]
      omega
    ·rw [if_neg ha]
     have haf:0 < a - (flr a:Rat):=by
      rcases Rat.le_iff_lt_or_eq.1 f1 with h | h
      ·grind
      ·exfalso; apply ha; grind
     obtain ⟨a1,a2,a3⟩:=inv_over haf
     have had:a.num - flr a*a.den < a.den:=by
      have h3:a*((a.den:Int):Rat) < ((flr a:Rat)+1)*((a.den:Int):Rat):=Rat.mul_lt_mul_of_pos_right f2 (den_pos' a)
      rw [<- num_eq a] at h3
      have e:((flr a:Rat)+1)*((a.den:Int):Rat)=(((flr a+1)*a.den:Int):Rat):=by rw [Rat.intCast_mul,Rat.intCast_add]; rfl
      rw [e] at h3
      have h4:a.num < (flr a+1)*a.den:=by exact_mod_cast h3
      rw [Int.add_mul] at h4
      omega
     have hlt:1 / (b - (flr a:Rat)) < 1 / (a - (flr a:Rat)):=by
      have h3:1 / (b - (flr a:Rat))*(b - (flr a:Rat))=1:=Rat.div_mul_cancel (by grind)
      have h4:1 / (a - (flr a:Rat))*(a - (flr a:Rat))=1:=Rat.div_mul_cancel (by grind)
      generalize 1 / (b - (flr a:Rat))=y at *
      generalize 1 / (a - (flr a:Rat))=z at *
      rcases Rat.le_total (a:=z) (b:=y) with h | h
      ·exfalso
       have h5:=Rat.mul_le_mul_of_nonneg_right h (Rat.le_of_lt haf)
       have h6:=Rat.mul_lt_mul_of_pos_left (show a - (flr a:Rat) < b - (flr a:Rat) by grind) (show 0 < y by grind)
       grind
      ·rcases Rat.le_iff_lt_or_eq.1 h with h' | h'
       ·exact h'
       ·exfalso
        subst h'
        have h6:=Rat.mul_lt_mul_of_pos_left (show a - (flr a:Rat) < b - (flr a:Rat) by grind) (show 0 < y by grind)
        grind
     obtain ⟨r1,r2,_⟩:=btw_spec n (1 / (b - (flr a:Rat))) (1 / (a - (flr a:Rat))) true (by grind) (fun _=>hlt) (by
      unfold fuelB at hn ⊢
      rw [if_pos rfl]
      rw [if_pos hl] at hn
      omega)
     obtain ⟨r2,r4,r5⟩:=r2 rfl
     obtain ⟨s1,s2,s3,s4⟩:=step _ r1
     generalize hy:btw n (1 / (b - (flr a:Rat))) (1 / (a - (flr a:Rat))) true=y at *
     refine ⟨?_,fun _=>⟨s2,?_,?_⟩,fun h=>(by rw [hl] at h; cases h)⟩
     ·have h4:1 / (a - (flr a:Rat))*(a - (flr a:Rat))=1:=Rat.div_mul_cancel (by grind)
      have h5:1 / y*y=1:=Rat.div_mul_cancel (by grind)
      have hy0:0 < y:=by grind
      have h6:=Rat.mul_lt_mul_of_pos_right r2 haf
      rw [h4] at h6
      have h7:y*(a - (flr a:Rat)) < y*(1 / y):=by grind
      have:=(Rat.mul_lt_mul_left hy0).1 h7
      grind
     ·refine Nat.le_trans s4 ?_
      have hyn:0 < y:=by grind
      have hyp:=num_pos hyn
      have h5:flr a*y.num <= flr a*((b.den:Int)+a.den):=Int.mul_le_mul_of_nonneg_left (by omega) f0
      have h6:0 <= flr a*y.num:=Int.mul_nonneg f0 (by omega)
      have h7:flr a*((b.den:Int)+a.den)=flr a*b.den+flr a*a.den:=Int.mul_add ..
      omega
     ·refine Nat.le_trans s3 ?_
      omega
end Rt
end Go.Proofs.YtkdjilgddbjcaaaGreat
namespace Go.Proofs.YtkdjilgddbjcaaaGreat
open Go.RowKit
namespace Vc
attribute [local irreducible] owes
def IT1:List Ctr:=IT0 ++ [cIsqrt]
theorem IT1_ok:∀ c ∈ IT1,CtrOK Tryz.prog c:=ok_app IT0_ok (by
 intro c hc
 simp only [List.mem_cons,List.not_mem_nil,or_false] at hc
 rcases hc with rfl
 ·exact cIsqrt_ok)
def cRflr:Ctr:=⟨120,fun | [.g [.R (p)]]=>.yes (0 <= p/\szR p <= 1000000) (.k (.g [.I ((Rt.flr p))])) | _=>.no⟩
theorem cRflr_owes (p:Rat) (hp:0 <= p/\szR p <= 1000000):owes LT IT1 [] Tryz.f120 (Tryz.f120.body.getD .skip) [.g [.R (p)]] (.k (.g [.I ((Rt.flr p))])):=by
 refine Eq.mp (show (((0 <= p.num/\0 < (p.den:Int))/\(szI p.num <= 5000000/\szI (p.den:Int) <= 5000000))/\(((p.num / (p.den:Int))=(Rt.flr p))/\True))=_ by kernel_rfl) ?_
 obtain ⟨h0,h1⟩:=hp
 have a1:=szR_num p; have a2:=szR_den p
 have h2:=Rat.num_nonneg.2 h0
 have h3:=p.den_pos
 exact ⟨⟨⟨h2,by omega⟩,by omega,by omega⟩,rfl,trivial⟩
theorem cRflr_ok:CtrOK Tryz.prog cRflr:=.of (by kernel_rfl) (fun bs w xs vs pre r hr hA hG h hp=>by
 simp only [cRflr] at h
 split at h
 ·cases h
  exact ctr_calls mixed LT_ok IT1_ok Tryz.func120 (by kernel_rfl) hr hA hG rfl rfl (cRflr_owes _ hp)
 ·cases h) (fun xs α pre φ r=>by simp only [cRflr]; split <;> (intro h; cases h))
theorem inv_eq {p:Rat}:Rat.divInt (p.den:Int) p.num=1 / p:=by
 have:=Rt.div_eq 1 p
 rw [show (1:Rat).num=1 from rfl,show ((1:Rat).den:Int)=1 from rfl,Int.one_mul,Int.one_mul] at this
 exact this
theorem num_ne {p:Rat} (h:p ≠ 0):p.num ≠ 0:=by rwa [ne_eq,Rat.num_eq_zero]
def cRinv:Ctr:=⟨121,fun | [.g [.R (p)]]=>.yes (p ≠ 0/\szR p <= 1000000) (.k (.g [.R ((1 / p))])) | _=>.no⟩
theorem cRinv_owes (p:Rat) (hp:p ≠ 0/\szR p <= 1000000):owes LT IT1 [] Tryz.f121 (Tryz.f121.body.getD .skip) [.g [.R (p)]] (.k (.g [.R ((1 / p))])):=by
 refine Eq.mp (show ((p.num ≠ 0/\szI (p.den:Int) <= 5000000/\szI p.num <= 5000000)/\(((Rat.divInt (p.den:Int) p.num)=(1 / p))/\True))=_ by kernel_rfl) ?_
 obtain ⟨h0,h1⟩:=hp
 have a1:=szR_num p; have a2:=szR_den p
 exact ⟨⟨num_ne h0,by omega,by omega⟩,inv_eq,trivial⟩
theorem cRinv_ok:CtrOK Tryz.prog cRinv:=.of (by kernel_rfl) (fun bs w xs vs pre r hr hA hG h hp=>by
 simp only [cRinv] at h
 split at h
 ·cases h
  exact ctr_calls mixed LT_ok IT1_ok Tryz.func121 (by kernel_rfl) hr hA hG rfl rfl (cRinv_owes _ hp)
 ·cases h) (fun xs α pre φ r=>by simp only [cRinv]; split <;> (intro h; cases h))
theorem szI_isq {z:Int} (h:0 <= z):szI ((isq z.toNat:Nat):Int) <= szI z:=szI_mono (by
 have h1:=(isq_spec z.toNat).1
 have h2:isq z.toNat*1 <= isq z.toNat*isq z.toNat \/ isq z.toNat=0:=by
  rcases Nat.eq_zero_or_pos (isq z.toNat) with e | e
  ·exact .inr e
  ·exact .inl (Nat.mul_le_mul_left _ e)
 omega)
def cRside:Ctr:=⟨165,fun | [.g [.I (z)]]=>.yes (0 <= z/\szI z <= 1000000) (.t [.g [.I (((isq z.toNat:Nat):Int))],.c (.v (.bool ((decide (((isq z.toNat:Nat):Int)*((isq z.toNat:Nat):Int)=z)))))]) | _=>.no⟩
theorem cRside_owes (z:Int) (hp:0 <= z/\szI z <= 1000000):owes LT IT1 [] Tryz.f165 (Tryz.f165.body.getD .skip) [.g [.I (z)]] (.t [.g [.I (((isq z.toNat:Nat):Int))],.c (.v (.bool ((decide (((isq z.toNat:Nat):Int)*((isq z.toNat:Nat):Int)=z)))))]):=by
 refine Eq.mp (show ((0 <= z/\szI z <= 2000000)/\(((((0:Int) == (0:Int)) == true)=true->(szI ((isq z.toNat:Nat):Int) <= 10000000/\szI ((isq z.toNat:Nat):Int) <= 10000000))/\(((((0:Int) == (0:Int)) == true)=true->(szI (((isq z.toNat:Nat):Int)*((isq z.toNat:Nat):Int)) <= 10000000/\szI z <= 10000000))/\(((((isq z.toNat:Nat):Int)=((isq z.toNat:Nat):Int))/\True)/\((Value.bool (bif ((0:Int) == (0:Int)) then ((((((isq z.toNat:Nat):Int)*((isq z.toNat:Nat):Int)) - z).sign) == (0:Int)) else false)=(.bool (decide (((isq z.toNat:Nat):Int)*((isq z.toNat:Nat):Int)=z))))/\True)))))=_ by kernel_rfl) ?_
 obtain ⟨h0,h1⟩:=hp
 have hs:=szI_isq h0
 have hm:=szI_mul' ((isq z.toNat:Nat):Int) ((isq z.toNat:Nat):Int)
 generalize ((isq z.toNat:Nat):Int)=r at *
 refine ⟨⟨h0,by omega⟩,fun _=>⟨by omega,by omega⟩,fun _=>⟨by omega,by omega⟩,⟨rfl,trivial⟩,?_,trivial⟩
 have e:((r*r - z).sign == (0:Int))=decide (r*r=z):=by
  rw [Bool.eq_iff_iff]
  simp only [beq_iff_eq,decide_eq_true_eq,Int.sign_eq_zero_iff_zero]
  omega
 rw [e]
 rfl
theorem cRside_ok:CtrOK Tryz.prog cRside:=.of (by kernel_rfl) (fun bs w xs vs pre r hr hA hG h hp=>by
 simp only [cRside] at h
 split at h
 ·cases h
  exact ctr_calls mixed LT_ok IT1_ok Tryz.func165 (by kernel_rfl) hr hA hG rfl rfl (cRside_owes _ hp)
 ·cases h) (fun xs α pre φ r=>by simp only [cRside]; split <;> (intro h; cases h))
def IT2:List Ctr:=IT1 ++ [cRflr,cRinv,cRside]
theorem IT2_ok:∀ c ∈ IT2,CtrOK Tryz.prog c:=ok_app IT1_ok (by
 intro c hc
 simp only [List.mem_cons,List.not_mem_nil,or_false] at hc
 rcases hc with rfl | rfl | rfl
 ·exact cRflr_ok
 ·exact cRinv_ok
 ·exact cRside_ok)
def sqB (q:Rat):Bool:=decide (((isq q.num.toNat:Nat):Int)*((isq q.num.toNat:Nat):Int)=q.num) && decide (((isq q.den:Nat):Int)*((isq q.den:Nat):Int)=(q.den:Int))
def sqN (q:Rat):Int:=if sqB q=true then ((isq q.num.toNat:Nat):Int) else 0
def sqD (q:Rat):Int:=if sqB q=true then ((isq q.den:Nat):Int) else 0
def cRsqrt:Ctr:=⟨112,fun | [.g [.R (q)]]=>.yes (0 <= q/\szR q <= 1000000) (.t [.g [.I ((sqN q)),.I ((sqD q))],.c (.v (.bool ((sqB q))))]) | _=>.no⟩
theorem cRsqrt_owes (q:Rat) (hp:0 <= q/\szR q <= 1000000):owes LT IT2 [] Tryz.f112 (Tryz.f112.body.getD .skip) [.g [.R (q)]] (.t [.g [.I ((sqN q)),.I ((sqD q))],.c (.v (.bool ((sqB q))))]):=by
 refine Eq.mp (show ((0 <= q.num/\szI q.num <= 1000000)/\(((decide (((isq q.num.toNat:Nat):Int)*((isq q.num.toNat:Nat):Int)=q.num))=true->((0 <= (q.den:Int)/\szI (q.den:Int) <= 1000000)/\(((decide (((isq (q.den:Int).toNat:Nat):Int)*((isq (q.den:Int).toNat:Nat):Int)=(q.den:Int)))=true->(((((isq q.num.toNat:Nat):Int)=(sqN q))/\((((isq (q.den:Int).toNat:Nat):Int)=(sqD q))/\True))/\((Value.bool true=(.bool (sqB q)))/\True)))/\((decide (((isq (q.den:Int).toNat:Nat):Int)*((isq (q.den:Int).toNat:Nat):Int)=(q.den:Int)))=false->(((Value.bool false=.bool (decide ((sqN q) < 0)))/\((([]:List Nat)=Lb.limbs (sqN q).natAbs)/\((Value.bool false=.bool (decide ((sqD q) < 0)))/\((([]:List Nat)=Lb.limbs (sqD q).natAbs)/\True))))/\((Value.bool false=(.bool (sqB q)))/\True))))))/\((decide (((isq q.num.toNat:Nat):Int)*((isq q.num.toNat:Nat):Int)=q.num))=false->(((Value.bool false=.bool (decide ((sqN q) < 0)))/\((([]:List Nat)=Lb.limbs (sqN q).natAbs)/\((Value.bool false=.bool (decide ((sqD q) < 0)))/\((([]:List Nat)=Lb.limbs (sqD q).natAbs)/\True))))/\((Value.bool false=(.bool (sqB q)))/\True)))))=_ by kernel_rfl) ?_
 obtain ⟨h0,h1⟩:=hp
 have a1:=szR_num q; have a2:=szR_den q
 have hn:=Rat.num_nonneg.2 h0
 have ed:((q.den:Int)).toNat=q.den:=Int.toNat_natCast _
 rw [ed]
 refine ⟨⟨hn,by omega⟩,fun c=>⟨⟨by omega,by omega⟩,fun c2=>?_,fun c2=>?_⟩,fun c=>?_⟩
 ·have hb:sqB q=true:=by unfold sqB; rw [c,c2]; rfl
  exact ⟨⟨by unfold sqN; rw [if_pos hb],by unfold sqD; rw [if_pos hb],trivial⟩,by rw [hb],trivial⟩
 ·have hb:sqB q=false:=by unfold sqB; rw [c,c2]; rfl
  have z1:sqN q=0:=by unfold sqN; rw [hb]; rfl
  have z2:sqD q=0:=by unfold sqD; rw [hb]; rfl
  rw [z1,z2,hb]
  exact ⟨⟨rfl,by simp [Lb.limbs_zero],rfl,by simp [Lb.limbs_zero],trivial⟩,rfl,trivial⟩
 ·have hb:sqB q=false:=by unfold sqB; rw [c]; rfl
  have z1:sqN q=0:=by unfold sqN; rw [hb]; rfl
  have z2:sqD q=0:=by unfold sqD; rw [hb]; rfl
  rw [z1,z2,hb]
  exact ⟨⟨rfl,by simp [Lb.limbs_zero],rfl,by simp [Lb.limbs_zero],trivial⟩,rfl,trivial⟩
theorem cRsqrt_ok:CtrOK Tryz.prog cRsqrt:=.of (by kernel_rfl) (fun bs w xs vs pre r hr hA hG h hp=>by
 simp only [cRsqrt] at h
 split at h
 ·cases h
  exact ctr_calls mixed LT_ok IT2_ok Tryz.func112 (by kernel_rfl) hr hA hG rfl rfl (cRsqrt_owes _ hp)
 ·cases h) (fun xs α pre φ r=>by simp only [cRsqrt]; split <;> (intro h; cases h))
def cRmake:Ctr:=⟨115,fun | [.g [.I (n)],.g [.I (d)]]=>.yes (d ≠ 0/\szI n <= 5000000/\szI d <= 5000000) (.t [.g [.R ((Rat.divInt n d))],.c (.v (.int .i64 ((0:Int))))]) | _=>.no⟩
theorem cRmake_owes (n:Int) (d:Int) (hp:d ≠ 0/\szI n <= 5000000/\szI d <= 5000000):owes LT IT2 [] Tryz.f115 (Tryz.f115.body.getD .skip) [.g [.I (n)],.g [.I (d)]] (.t [.g [.R ((Rat.divInt n d))],.c (.v (.int .i64 ((0:Int))))]):=by
 refine Eq.mp (show (True/\(((d.sign == (0:Int))=true->(False/\((Value.int .i64 (6:Int)=(.int .i64 (0:Int)))/\True)))/\((d.sign == (0:Int))=false->((d ≠ 0/\szI n <= 5000000/\szI d <= 5000000)/\((((Rat.divInt n d)=(Rat.divInt n d))/\True)/\((Value.int .i64 (0:Int)=(.int .i64 (0:Int)))/\True))))))=_ by kernel_rfl) ?_
 obtain ⟨h0,h1,h2⟩:=hp
 refine ⟨trivial,fun h=>?_,fun _=>⟨⟨h0,h1,h2⟩,⟨rfl,trivial⟩,rfl,trivial⟩⟩
 exact absurd (Int.sign_eq_zero_iff_zero.1 (beq_iff_eq.1 h)) h0
theorem cRmake_ok:CtrOK Tryz.prog cRmake:=.of (by kernel_rfl) (fun bs w xs vs pre r hr hA hG h hp=>by
 simp only [cRmake] at h
 split at h
 ·cases h
  exact ctr_calls mixed LT_ok IT2_ok Tryz.func115 (by kernel_rfl) hr hA hG rfl rfl (cRmake_owes _ _ hp)
 ·cases h) (fun xs α pre φ r=>by simp only [cRmake]; split <;> (intro h; cases h))
def cRfrac:Ctr:=⟨70,fun | [.c (.v (.int .i64 (n))),.c (.v (.int .i64 (d)))]=>.yes ((d ≠ 0/\-9223372036854775808 <= n/\n <= 9223372036854775807)/\-9223372036854775808 <= d/\d <= 9223372036854775807) (.k (.g [.R ((Rat.divInt n d))])) | _=>.no⟩
theorem cRfrac_owes (n:Int) (d:Int) (hp:(d ≠ 0/\-9223372036854775808 <= n/\n <= 9223372036854775807)/\-9223372036854775808 <= d/\d <= 9223372036854775807):owes LT IT2 [] Tryz.f70 (Tryz.f70.body.getD .skip) [.c (.v (.int .i64 (n))),.c (.v (.int .i64 (d)))] (.k (.g [.R ((Rat.divInt n d))])):=by
 refine Eq.mp (show (((d == (0:Int))=true->((-9223372036854775808 <= (0:Int)/\(0:Int) <= 9223372036854775807)/\((((0:Int):Rat)=(Rat.divInt n d))/\True)))/\((d == (0:Int))=false->((-9223372036854775808 <= n/\n <= 9223372036854775807)/\((-9223372036854775808 <= d/\d <= 9223372036854775807)/\((d ≠ 0/\szI n <= 5000000/\szI d <= 5000000)/\(((Rat.divInt n d)=(Rat.divInt n d))/\True))))))=_ by kernel_rfl) ?_
 obtain ⟨⟨h0,h1,h2⟩,h3,h4⟩:=hp
 have s1:=szI_i64 h1 h2; have s2:=szI_i64 h3 h4
 refine ⟨fun h=>absurd (beq_iff_eq.1 h) h0,fun _=>⟨⟨h1,h2⟩,⟨h3,h4⟩,⟨h0,by omega,by omega⟩,rfl,trivial⟩⟩
theorem cRfrac_ok:CtrOK Tryz.prog cRfrac:=.of (by kernel_rfl) (fun bs w xs vs pre r hr hA hG h hp=>by
 simp only [cRfrac] at h
 split at h
 ·cases h
  exact ctr_calls mixed LT_ok IT2_ok Tryz.func70 (by kernel_rfl) hr hA hG rfl rfl (cRfrac_owes _ _ hp)
 ·cases h) (fun xs α pre φ r=>by simp only [cRfrac]; split <;> (intro h; cases h))
def IT3:List Ctr:=IT2 ++ [cRsqrt,cRmake,cRfrac]
theorem IT3_ok:∀ c ∈ IT3,CtrOK Tryz.prog c:=ok_app IT2_ok (by
 intro c hc
 simp only [List.mem_cons,List.not_mem_nil,or_false] at hc
 rcases hc with rfl | rfl | rfl
 ·exact cRsqrt_ok
 ·exact cRmake_ok
 ·exact cRfrac_ok)
theorem szI_abs (z:Int):szI ((z.natAbs:Nat):Int)=szI z:=by unfold szI; rw [Int.natAbs_natCast]
theorem szR_int (n:Int):szR (n:Rat) <= szI n+1:=by
 have h:szI 1 <= 1:=szI_one
 unfold szR
 rw [show (n:Rat).num=n from rfl,show (((n:Rat).den:Nat):Int)=1 from rfl]
 omega
theorem szR_flr {a:Rat} (h:0 <= a):szR ((Rt.flr a:Int):Rat) <= szR a+1:=by
 have h1:=szR_int (Rt.flr a)
 have h2:szI (Rt.flr a) <= szI a.num:=szI_mono (by
  have h3:=Rt.flr_nonneg h
  have h4:=Rat.num_nonneg.2 h
  have h5:Rt.flr a <= a.num:=Int.ediv_le_self _ h4
  omega)
 have h3:=szR_num a
 omega
theorem szR_of {q:Rat} {x y:Int} (h1:q.num.natAbs <= x.natAbs) (h2:q.den <= y.natAbs):szR q <= max (szI x) (szI y):=by
 have a1:=szI_mono h1
 have a2:=szI_mono (a:=(q.den:Int)) (b:=y) (by simpa using h2)
 unfold szR
 omega
theorem szR_sum {q a b:Rat} (h1:q.num.natAbs <= a.num.natAbs+b.num.natAbs) (h2:q.den <= a.den+b.den):szR q <= szR a+szR b+1:=by
 have h3:=szR_of (q:=q) (x:=(a.num.natAbs:Int)+(b.num.natAbs:Int)) (y:=(a.den:Int)+(b.den:Int)) (by omega) (by omega)
 have h4:=szI_add' (a.num.natAbs:Int) (b.num.natAbs:Int)
 have h5:=szI_add' (a.den:Int) (b.den:Int)
 rw [szI_abs,szI_abs] at h4
 have a1:=szR_num a; have a2:=szR_den a; have a3:=szR_num b; have a4:=szR_den b
 omega
theorem szR_over {b:Rat} {f:Int} (hf:0 <= f) (h:0 < b - (f:Rat)):szR (1 / (b - (f:Rat))) <= szR b:=by
 have h1:=(Rt.inv_over h).2.1
 have h2:=Rt.over_num hf h
 have h3:=szR_of (q:=1 / (b - (f:Rat))) (x:=(b.den:Int)) (y:=b.num) (by simpa using h1) h2
 have a1:=szR_num b; have a2:=szR_den b
 omega
def preB (N:Nat) (a b:Rat) (lim:Bool):Prop:=(0 <= a/\(lim=true->a < b))/\Rt.fuelB a b lim <= N/\szR a <= 1000/\szR b <= 1000
def cRbtN (N:Nat):Ctr:=⟨71,fun | [.g [.R a],.g [.R b],.c (.v (.bool lim))]=>.yes (preB N a b lim) (.k (.g [.R (Rt.btw N a b lim)])) | _=>.no⟩
theorem cRbtN_owes (N:Nat) (a b:Rat) (lim:Bool) (hp:preB (N+1) a b lim):owes LT (cRbtN N :: IT3) [] Tryz.f71 (Tryz.f71.body.getD .skip) [.g [.R (a)],.g [.R (b)],.c (.v (.bool (lim)))] (.k (.g [.R ((Rt.btw (N+1) a b lim))])):=by
 refine Eq.mp (show ((0 <= a/\szR a <= 1000000)/\(True/\((-9223372036854775808 <= (1:Int)/\(1:Int) <= 9223372036854775807)/\((szR ((Rt.flr a):Rat) <= 1000000/\szR ((1:Int):Rat) <= 1000000)/\((((!lim) == false)=true->(szR (((Rt.flr a):Rat)+((1:Int):Rat)) <= 1000000/\szR b <= 1000000))/\(((bif (!lim) then true else (decide ((Rt.sg ((((Rt.flr a):Rat)+((1:Int):Rat)) - b)) < (0:Int))))=true->(((((Rt.flr a):Rat)+((1:Int):Rat))=(Rt.btw (N+1) a b lim))/\True))/\((bif (!lim) then true else (decide ((Rt.sg ((((Rt.flr a):Rat)+((1:Int):Rat)) - b)) < (0:Int))))=false->((szR b <= 1000000/\szR ((Rt.flr a):Rat) <= 1000000)/\(((b - ((Rt.flr a):Rat)) ≠ 0/\szR (b - ((Rt.flr a):Rat)) <= 1000000)/\((szR a <= 1000000/\szR ((Rt.flr a):Rat) <= 1000000)/\(True/\((((Rt.sg (a - ((Rt.flr a):Rat))) == (0:Int))=true->((preB N (1 / (b - ((Rt.flr a):Rat))) b false)/\(((Rt.btw N (1 / (b - ((Rt.flr a):Rat))) b false) ≠ 0/\szR (Rt.btw N (1 / (b - ((Rt.flr a):Rat))) b false) <= 1000000)/\((szR ((Rt.flr a):Rat) <= 1000000/\szR (1 / (Rt.btw N (1 / (b - ((Rt.flr a):Rat))) b false)) <= 1000000)/\(((((Rt.flr a):Rat)+(1 / (Rt.btw N (1 / (b - ((Rt.flr a):Rat))) b false)))=(Rt.btw (N+1) a b lim))/\True)))))/\(((Rt.sg (a - ((Rt.flr a):Rat))) == (0:Int))=false->(((a - ((Rt.flr a):Rat)) ≠ 0/\szR (a - ((Rt.flr a):Rat)) <= 1000000)/\((preB N (1 / (b - ((Rt.flr a):Rat))) (1 / (a - ((Rt.flr a):Rat))) true)/\(((Rt.btw N (1 / (b - ((Rt.flr a):Rat))) (1 / (a - ((Rt.flr a):Rat))) true) ≠ 0/\szR (Rt.btw N (1 / (b - ((Rt.flr a):Rat))) (1 / (a - ((Rt.flr a):Rat))) true) <= 1000000)/\((szR ((Rt.flr a):Rat) <= 1000000/\szR (1 / (Rt.btw N (1 / (b - ((Rt.flr a):Rat))) (1 / (a - ((Rt.flr a):Rat))) true)) <= 1000000)/\(((((Rt.flr a):Rat)+(1 / (Rt.btw N (1 / (b - ((Rt.flr a):Rat))) (1 / (a - ((Rt.flr a):Rat))) true)))=(Rt.btw (N+1) a b lim))/\True))))))))))))))))))=_ by kernel_rfl) ?_
 obtain ⟨⟨h0,h1⟩,h2,h3,h4⟩:=hp
 have e:Rt.btw (N+1) a b lim=if lim=false \/ (Rt.flr a:Rat)+1 < b then (Rt.flr a:Rat)+1
     else if a - (Rt.flr a:Rat)=0 then (Rt.flr a:Rat)+1 / Rt.btw N (1 / (b - (Rt.flr a:Rat))) b false
     else (Rt.flr a:Rat)+1 / Rt.btw N (1 / (b - (Rt.flr a:Rat))) (1 / (a - (Rt.flr a:Rat))) true:=rfl
 have f0:=Rt.flr_nonneg h0
 have f1:=Rt.flr_le a
 have sf:=szR_flr h0
 have s1:szR ((1:Int):Rat) <= 2:=by have:=szR_int 1; have:=szI_one; omega
 have sf1:=szR_add ((Rt.flr a:Int):Rat) ((1:Int):Rat)
 have sbf:=szR_sub b ((Rt.flr a:Int):Rat)
 have saf:=szR_sub a ((Rt.flr a:Int):Rat)
 have one:((1:Int):Rat)=1:=rfl
 have cond:(bif (!(lim)) then (true) else (decide ((Rt.sg (((Rt.flr a:Int):Rat)+((1:Int):Rat) - b)) < ((0:Int)))))=true ↔ (lim=false \/ (Rt.flr a:Rat)+1 < b):=by
  rw [one]
  cases lim with
  | false=>simp
  | true =>
    simp only [Bool.not_true,cond_false,decide_eq_true_eq,Bool.true_eq_false,false_or]
    exact Rt.sub_sg_lt
 refine ⟨⟨h0,by omega⟩,trivial,⟨by decide,by decide⟩,⟨by omega,by omega⟩,fun _=>⟨by omega,by omega⟩,fun c=>⟨?_,trivial⟩,fun c=>?_⟩
 ·rw [e,if_pos (cond.1 c),one]
 ·have hc:¬ (lim=false \/ (Rt.flr a:Rat)+1 < b):=fun h=>by rw [cond.2 h] at c; cases c
  have hl:lim=true:=by
   cases lim with
   | true=>rfl
   | false=>exact absurd (.inl rfl) hc
  have hb:b <= (Rt.flr a:Rat)+1:=by
   rcases Rat.le_total (a:=b) (b:=(Rt.flr a:Rat)+1) with h | h
   ·exact h
   ·rcases Rat.le_iff_lt_or_eq.1 h with h' | h'
    ·exact absurd (.inr h') hc
    ·rw [h']; exact Rat.le_refl
  have hab:=h1 hl
  have hbf:0 < b - (Rt.flr a:Rat):=by grind
  have slo:=szR_over f0 hbf
  have dlo:=Rt.over_den hb hbf
  have plo:=Rt.inv_pos hbf
  have hfu:a.den+b.den <= N+1:=by
   unfold Rt.fuelB at h2
   rw [if_pos hl] at h2
   exact h2
  have hda:=a.den_pos
  have hdb:=b.den_pos
  rw [e,if_neg hc]
  refine ⟨⟨by omega,by omega⟩,⟨by grind,by omega⟩,⟨by omega,by omega⟩,trivial,fun c2=>?_,fun c2=>?_⟩
  ·have c3:a - (Rt.flr a:Rat)=0:=Rt.sg_zero.1 (beq_iff_eq.1 c2)
   rw [if_pos c3]
   have hfu2:Rt.fuelB (1 / (b - (Rt.flr a:Rat))) b false <= N:=by
    unfold Rt.fuelB
    rw [if_neg (by decide)]
    omega
   obtain ⟨r1,_,r3⟩:=Rt.btw_spec N (1 / (b - (Rt.flr a:Rat))) b false (by grind) (fun h=>(by cases h)) hfu2
   have r4:=r3 rfl
   have sz:=szR_add ((Rt.flr (1 / (b - (Rt.flr a:Rat))):Int):Rat) ((1:Int):Rat)
   have sfl:=szR_flr (a:=1 / (b - (Rt.flr a:Rat))) (by grind)
   rw [one] at sz s1
   rw [<- r4] at sz
   have hne:Rt.btw N (1 / (b - (Rt.flr a:Rat))) b false ≠ 0:=by grind
   have sd:=szR_div 1 _ hne
   exact ⟨⟨⟨by grind,fun h=>(by cases h)⟩,hfu2,by omega,by omega⟩,⟨hne,by omega⟩,⟨by omega,by omega⟩,rfl,trivial⟩
  ·have c3:¬ a - (Rt.flr a:Rat)=0:=fun h=>by rw [Rt.sg_zero.2 h] at c2; cases c2
   rw [if_neg c3]
   have haf:0 < a - (Rt.flr a:Rat):=by
    rcases Rat.le_iff_lt_or_eq.1 f1.1 with h | h
    ·grind
    ·exfalso; apply c3; grind
   have shi:=szR_over f0 haf
   have dhi:=Rt.over_den_lt haf
   have hlt:=Rt.inv_lt haf (show a - (Rt.flr a:Rat) < b - (Rt.flr a:Rat) by grind)
   have hfu2:Rt.fuelB (1 / (b - (Rt.flr a:Rat))) (1 / (a - (Rt.flr a:Rat))) true <= N:=by
    unfold Rt.fuelB
    rw [if_pos rfl]
    omega
   obtain ⟨r1,r2,_⟩:=Rt.btw_spec N (1 / (b - (Rt.flr a:Rat))) (1 / (a - (Rt.flr a:Rat))) true (by grind) (fun _=>hlt) hfu2
   obtain ⟨_,r4,r5⟩:=r2 rfl
   have sz:=szR_sum r4 r5
   have hne:Rt.btw N (1 / (b - (Rt.flr a:Rat))) (1 / (a - (Rt.flr a:Rat))) true ≠ 0:=by grind
   have sd:=szR_div 1 _ hne
   rw [one] at s1
   exact ⟨⟨c3,by omega⟩,⟨⟨by grind,fun _=>hlt⟩,hfu2,by omega,by omega⟩,⟨hne,by omega⟩,⟨by omega,by omega⟩,rfl,trivial⟩
theorem cRbtN_ok:∀ N,CtrOK Tryz.prog (cRbtN N)
 | 0=>.of (by kernel_rfl) (fun bs w xs vs pre r hr hA hG h hp=>by
   simp only [cRbtN] at h
   split at h
   ·cases h
    exfalso
    obtain ⟨_,h2,_⟩:=hp
    unfold Rt.fuelB at h2
    split at h2
    ·exact Nat.ne_of_gt (Rat.den_pos _) (Nat.add_eq_zero_iff.1 (Nat.le_zero.1 h2)).1
    ·omega
   ·cases h) (fun xs α pre φ r=>by simp only [cRbtN]; split <;> (intro h; cases h))
 | N+1=>.of (by kernel_rfl) (fun bs w xs vs pre r hr hA hG h hp=>by
   simp only [cRbtN] at h
   split at h
   ·cases h
    exact ctr_calls mixed LT_ok (fun c hc=>(by
     rcases List.mem_cons.1 hc with rfl | h
     ·exact cRbtN_ok N
     ·exact IT3_ok c h)) Tryz.func71 (by kernel_rfl) hr hA hG rfl rfl (cRbtN_owes N _ _ _ hp)
   ·cases h) (fun xs α pre φ r=>by simp only [cRbtN]; split <;> (intro h; cases h))
def cRbt:Ctr:=⟨71,fun | [.g [.R a],.g [.R b],.c (.v (.bool lim))]=>.yes ((0 <= a/\(lim=true->a < b))/\szR a <= 1000/\szR b <= 1000) (.k (.g [.R (Rt.btw (Rt.fuelB a b lim) a b lim)])) | _=>.no⟩
theorem cRbt_ok:CtrOK Tryz.prog cRbt:=.of (by kernel_rfl) (fun bs w xs vs pre r hr hA hG h hp=>by
 simp only [cRbt] at h
 split at h
 ·cases h
  exact (cRbtN_ok _).yes bs w _ vs _ _ hr hA hG rfl ⟨hp.1,Nat.le_refl _,hp.2⟩
 ·cases h) (fun xs α pre φ r=>by simp only [cRbt]; split <;> (intro h; cases h))
def IT4:List Ctr:=IT3 ++ [cRbt]
theorem IT4_ok:∀ c ∈ IT4,CtrOK Tryz.prog c:=ok_app IT3_ok (by
 intro c hc
 simp only [List.mem_cons,List.not_mem_nil,or_false] at hc
 rcases hc with rfl
 ·exact cRbt_ok)
def smp (a b:Rat):Rat:=if a < 0/\0 < b then 0 else if a < 0 then -(Rt.btw (Rt.fuelB (-b) (-a) true) (-b) (-a) true) else Rt.btw (Rt.fuelB a b true) a b true
theorem smp_spec {a b:Rat} (h:a < b):a < smp a b/\smp a b < b:=by
 unfold smp
 split
 ·rename_i hc; exact hc
 ·rename_i hc
  split
  ·rename_i ha
   obtain ⟨r1,r2,_⟩:=Rt.btw_spec _ (-b) (-a) true (by grind) (fun _=>by grind) (Nat.le_refl _)
   have:=(r2 rfl).1
   constructor <;> grind
  ·rename_i ha
   obtain ⟨r1,r2,_⟩:=Rt.btw_spec _ a b true (by grind) (fun _=>h) (Nat.le_refl _)
   exact ⟨r1,(r2 rfl).1⟩
theorem szR_smp {a b:Rat} (h:a < b):szR (smp a b) <= szR a+szR b+1:=by
 unfold smp
 split
 ·have:=szR_int 0
  have h0:szI 0 <= 0:=szI_le (by decide)
  have:szR (0:Rat) <= szI 0+1:=this
  omega
 ·rename_i hc
  split
  ·rename_i ha
   obtain ⟨r1,r2,_⟩:=Rt.btw_spec _ (-b) (-a) true (by grind) (fun _=>by grind) (Nat.le_refl _)
   have s:=szR_sum (r2 rfl).2.1 (r2 rfl).2.2
   have s1:=szR_neg a; have s2:=szR_neg b
   have s3:=szR_neg (Rt.btw (Rt.fuelB (-b) (-a) true) (-b) (-a) true)
   omega
  ·rename_i ha
   obtain ⟨r1,r2,_⟩:=Rt.btw_spec _ a b true (by grind) (fun _=>h) (Nat.le_refl _)
   exact szR_sum (r2 rfl).2.1 (r2 rfl).2.2
def cRsmp:Ctr:=⟨32,fun | [.g [.R (p)],.g [.R (q)]]=>.yes (p < q/\szR p <= 900/\szR q <= 900) (.t [.g [.R ((smp p q))],.c (.v (.int .i64 ((0:Int))))]) | _=>.no⟩
theorem cRsmp_owes (p:Rat) (q:Rat) (hp:p < q/\szR p <= 900/\szR q <= 900):owes LT IT4 [] Tryz.f32 (Tryz.f32.body.getD .skip) [.g [.R (p)],.g [.R (q)]] (.t [.g [.R ((smp p q))],.c (.v (.int .i64 ((0:Int))))]):=by
 refine Eq.mp (show ((szR p <= 1000000/\szR q <= 1000000)/\(((decide ((Rt.sg (p - q)) >= (0:Int)))=true->(False/\((Value.int .i64 (1:Int)=(.int .i64 (0:Int)))/\True)))/\((decide ((Rt.sg (p - q)) >= (0:Int)))=false->(True/\((((decide ((Rt.sg p) < (0:Int))) == true)=true->True)/\(((bif (decide ((Rt.sg p) < (0:Int))) then (decide ((Rt.sg q) > (0:Int))) else false)=true->((-9223372036854775808 <= (0:Int)/\(0:Int) <= 9223372036854775807)/\(((((0:Int):Rat)=(smp p q))/\True)/\((Value.int .i64 (0:Int)=(.int .i64 (0:Int)))/\True))))/\((bif (decide ((Rt.sg p) < (0:Int))) then (decide ((Rt.sg q) > (0:Int))) else false)=false->(True/\(((decide ((Rt.sg p) < (0:Int)))=true->((szR q <= 5000000)/\((szR p <= 5000000)/\(((0 <= (-q)/\(true=true->(-q) < (-p)))/\szR (-q) <= 1000/\szR (-p) <= 1000)/\((szR (Rt.btw (Rt.fuelB (-q) (-p) true) (-q) (-p) true) <= 5000000)/\((((-(Rt.btw (Rt.fuelB (-q) (-p) true) (-q) (-p) true))=(smp p q))/\True)/\((Value.int .i64 (0:Int)=(.int .i64 (0:Int)))/\True)))))))/\((decide ((Rt.sg p) < (0:Int)))=false->(((0 <= p/\(true=true->p < q))/\szR p <= 1000/\szR q <= 1000)/\((((Rt.btw (Rt.fuelB p q true) p q true)=(smp p q))/\True)/\((Value.int .i64 (0:Int)=(.int .i64 (0:Int)))/\True)))))))))))))=_ by kernel_rfl) ?_
 obtain ⟨h0,h1,h2⟩:=hp
 have sp:=szR_neg p; have sq:=szR_neg q
 have c1:decide (Rt.sg (p - q) >= (0:Int))=false:=decide_eq_false (fun h=>by have:=Rt.sub_sg_ge.1 h; grind)
 have e1:decide (Rt.sg p < (0:Int))=decide (p < 0):=decide_eq_decide.2 Rt.sg_neg
 have e2:decide (Rt.sg q > (0:Int))=decide (0 < q):=decide_eq_decide.2 Rt.sg_pos
 rw [c1,e1,e2]
 have zero:((0:Int):Rat)=0:=rfl
 refine ⟨⟨by omega,by omega⟩,fun h=>(by cases h),fun _=>⟨trivial,fun _=>trivial,fun h=>?_,fun h=>⟨trivial,fun h3=>?_,fun h3=>?_⟩⟩⟩
 ·have hc:p < 0/\0 < q:=by
   by_cases hp0:p < 0
   ·rw [decide_eq_true hp0] at h
    exact ⟨hp0,of_decide_eq_true h⟩
   ·rw [decide_eq_false hp0] at h
    cases h
  exact ⟨⟨by decide,by decide⟩,⟨by rw [zero]; unfold smp; rw [if_pos hc],trivial⟩,rfl,trivial⟩
 ·have hp0:=of_decide_eq_true h3
  rw [decide_eq_true hp0] at h
  have hq0:¬ 0 < q:=of_decide_eq_false h
  obtain ⟨r1,r2,_⟩:=Rt.btw_spec _ (-q) (-p) true (by grind) (fun _=>by grind) (Nat.le_refl _)
  have s:=szR_sum (r2 rfl).2.1 (r2 rfl).2.2
  exact ⟨by omega,by omega,⟨⟨by grind,fun _=>by grind⟩,by omega,by omega⟩,by omega,⟨by unfold smp; rw [if_neg (fun hc=>hq0 hc.2),if_pos hp0],trivial⟩,rfl,trivial⟩
 ·have hp0:=of_decide_eq_false h3
  exact ⟨⟨⟨by grind,fun _=>h0⟩,by omega,by omega⟩,⟨by unfold smp; rw [if_neg (fun hc=>hp0 hc.1),if_neg hp0],trivial⟩,rfl,trivial⟩
theorem cRsmp_ok:CtrOK Tryz.prog cRsmp:=.of (by kernel_rfl) (fun bs w xs vs pre r hr hA hG h hp=>by
 simp only [cRsmp] at h
 split at h
 ·cases h
  exact ctr_calls mixed LT_ok IT4_ok Tryz.func32 (by kernel_rfl) hr hA hG rfl rfl (cRsmp_owes _ _ hp)
 ·cases h) (fun xs α pre φ r=>by simp only [cRsmp]; split <;> (intro h; cases h))
def IT5:List Ctr:=IT4 ++ [cRsmp]
theorem IT5_ok:∀ c ∈ IT5,CtrOK Tryz.prog c:=ok_app IT4_ok (by
 intro c hc
 simp only [List.mem_cons,List.not_mem_nil,or_false] at hc
 rcases hc with rfl
 ·exact cRsmp_ok)
end Vc
end Go.Proofs.YtkdjilgddbjcaaaGreat
