import Derived.Test.YtkdjilgddbjcaaaGreatR25
import Derived.Test.YtkdjilgddbjcaaaGreatR17
import Derived.Test.YtkdjilgddbjcaaaGreatR18
import Derived.Test.YtkdjilgddbjcaaaGreatR13
namespace Go.Proofs.YtkdjilgddbjcaaaGreat
open Go.RowKit
namespace Zc
open Vc (szR entersB)
theorem bif_some {α:Type} {b:Bool} {x r:α} (h:(bif b then some x else none)=some r):b=true/\x=r:=by
 cases b with
 | false=>cases h
 | true=>exact ⟨rfl,by simpa using h⟩
def bigN:Nat:=Lb.B ^ 200
noncomputable def smI (a:Int):Bool:=Nat.ble a.natAbs bigN
noncomputable def iPos (d:Int):Bool:=Int.rec (fun n=>Nat.ble 1 n) (fun _=>false) d
noncomputable def iZ (d:Int):Bool:=Int.rec (fun n=>Nat.beq n 0) (fun _=>false) d
noncomputable def i64B (d:Int):Bool:=Int.rec (fun n=>Nat.ble n 9223372036854775807) (fun n=>Nat.ble n 9223372036854775807) d
noncomputable def smQ (n d:Int):Bool:=smI n && (smI d && (iPos d && Nat.beq (Nat.gcd n.natAbs d.natAbs) 1))
theorem smI_sz {a:Int} (h:smI a=true):szI a <= 201:=by
 refine szI_le ?_
 have h:=Nat.le_of_ble_eq_true h
 exact Nat.lt_of_le_of_lt h (Nat.pow_lt_pow_right (by decide) (by decide))
theorem iPos_spec {d:Int} (h:iPos d=true):0 < d:=by
 cases d with
 | ofNat n=>have:=Nat.le_of_ble_eq_true (show Nat.ble 1 n=true from h); exact Int.ofNat_lt.2 this
 | negSucc n=>cases h
theorem iZ_spec {d:Int} (h:iZ d=true):d=0:=by
 cases d with
 | ofNat n=>have:=Nat.eq_of_beq_eq_true (show Nat.beq n 0=true from h); subst this; rfl
 | negSucc n=>cases h
theorem i64B_spec {d:Int} (h:i64B d=true):-9223372036854775808 <= d/\d <= 9223372036854775807:=by
 cases d with
 | ofNat n =>
   have:=Nat.le_of_ble_eq_true (show Nat.ble n 9223372036854775807=true from h)
   show -9223372036854775808 <= ((n:Nat):Int)/\((n:Nat):Int) <= 9223372036854775807
   constructor <;> omega
 | negSucc n=>have:=Nat.le_of_ble_eq_true (show Nat.ble n 9223372036854775807=true from h); constructor <;> omega
structure QOK (n d:Int):Prop where
 a:szI n <= 201
 b:szI d <= 201
 p:0 < d
 g:Nat.gcd n.natAbs d.natAbs=1
theorem smQ_spec {n d:Int} (h:smQ n d=true):QOK n d:=by
 unfold smQ at h
 simp only [Bool.and_eq_true] at h
 exact ⟨smI_sz h.1,smI_sz h.2.1,iPos_spec h.2.2.1,Nat.eq_of_beq_eq_true h.2.2.2⟩
def qOf (n d:Int) (h:QOK n d):Rat:=⟨n,d.natAbs,by have:=h.p; omega,h.g⟩
theorem qOf_num {n d:Int} (h:QOK n d):(qOf n d h).num=n:=rfl
theorem qOf_den {n d:Int} (h:QOK n d):((qOf n d h).den:Int)=d:=by
 show ((d.natAbs:Nat):Int)=d
 have:=h.p
 omega
theorem qOf_sz {n d:Int} (h:QOK n d):szR (qOf n d h) <= 201:=by
 unfold szR
 rw [qOf_den h]
 have:=h.a; have:=h.b
 show max (szI n) (szI d) <= 201
 omega
theorem rat_K {r:Rat} {N D:Int} (h1:r.num=N) (h2:(r.den:Int)=D):eqK (.g [.I N,.I D]) (.g [.R r]):=by
 subst h1
 show toACs (flats [.I r.num,.I D])=some (Vc.flats [.R r])
 rw [<- h2]
 rfl
theorem qOf_K {n d:Int} (h:QOK n d):eqK (.g [.I n,.I d]) (.g [.R (qOf n d h)]):=rat_K rfl (qOf_den h)
noncomputable def qN (n d:Int):KK:=(fun g=>KK.g [.I (n / g),.I (d / g)]) (Int.ofNat (Nat.gcd n.natAbs d.natAbs))
theorem qN_K {n d:Int} (hd:0 < d) {r:Rat} (e:Rat.divInt n d=r):eqK (qN n d) (.g [.R r]):=by
 subst e
 exact rat_K (Rt.red_num hd) (Rt.red_den hd)
theorem int_K (a:Int):eqK (.g [.I a]) (.g [.I a]):=rfl
theorem val_K (v:Value):eqK (.c (.v v)) (.c (.v v)):=rfl
noncomputable def lMul:Leaf:=fun xs =>
 match xs with
 | [.g [.I a],.g [.I b]]=>bif smI a && smI b then some (.k (.g [.I (a*b)])) else none
 | _=>none
noncomputable def lAdd:Leaf:=fun xs =>
 match xs with
 | [.g [.I a],.g [.I b]]=>bif smI a && smI b then some (.k (.g [.I (a+b)])) else none
 | _=>none
noncomputable def lSub:Leaf:=fun xs =>
 match xs with
 | [.g [.I a],.g [.I b]]=>bif smI a && smI b then some (.k (.g [.I (a - b)])) else none
 | _=>none
noncomputable def lNeg:Leaf:=fun xs =>
 match xs with
 | [.g [.I a]]=>bif smI a then some (.k (.g [.I (-a)])) else none
 | _=>none
noncomputable def lFrom:Leaf:=fun xs =>
 match xs with
 | [.c (.v (.int .i64 n))]=>bif i64B n then some (.k (.g [.I n])) else none
 | _=>none
noncomputable def lSign:Leaf:=fun xs =>
 match xs with
 | [.g [.I a]]=>bif smI a then some (.k (.c (.v (.int .i64 a.sign)))) else none
 | _=>none
noncomputable def lCmp:Leaf:=fun xs =>
 match xs with
 | [.g [.I a],.g [.I b]]=>bif smI a && smI b then some (.k (.c (.v (.int .i64 (a - b).sign)))) else none
 | _=>none
noncomputable def lGcd:Leaf:=fun xs =>
 match xs with
 | [.g [.I a],.g [.I b]]=>bif smI a && smI b then some (.k (.g [.I (Int.gcd a b:Int)])) else none
 | _=>none
noncomputable def lDm:Leaf:=fun xs =>
 match xs with
 | [.g [.I a],.g [.I b]]=>bif (smI a && smI b) && (iPos b && iZ (a % b)) then some (.t [.g [.I (a / b)],.g [.I 0],.c (.v (.int .i64 0))]) else none
 | _=>none
noncomputable def lValid:Leaf:=fun xs =>
 match xs with
 | [.g [.I a]]=>bif smI a then some (.k (.c (.v (.bool true)))) else none
 | _=>none
noncomputable def lSame:Leaf:=fun xs =>
 match xs with
 | [.g [.I a],.g [.I b]]=>bif smI a && smI b then some (.k (.c (.v (.bool (decide (a=b)))))) else none
 | _=>none
theorem lMul_ok_cImul:Leaf1 Tryz.prog 64 lMul:=fun xs r h=>by
 unfold lMul at h
 split at h <;> try (cases h; done)
 rename_i a b
 obtain ⟨hb,rfl⟩:=bif_some h
 try simp only [Bool.and_eq_true] at hb
 exact leaf_of Vc.cImul_ok rfl (ys:=[.g [.I a],.g [.I b]]) ⟨int_K a,int_K b,trivial⟩ rfl (by have:=smI_sz hb.1; have:=smI_sz hb.2; constructor <;> omega) (int_K _)
theorem lAdd_ok_cIadd:Leaf1 Tryz.prog 69 lAdd:=fun xs r h=>by
 unfold lAdd at h
 split at h <;> try (cases h; done)
 rename_i a b
 obtain ⟨hb,rfl⟩:=bif_some h
 try simp only [Bool.and_eq_true] at hb
 exact leaf_of Vc.cIadd_ok rfl (ys:=[.g [.I a],.g [.I b]]) ⟨int_K a,int_K b,trivial⟩ rfl (by have:=smI_sz hb.1; have:=smI_sz hb.2; constructor <;> omega) (int_K _)
theorem lSub_ok_cIsub:Leaf1 Tryz.prog 217 lSub:=fun xs r h=>by
 unfold lSub at h
 split at h <;> try (cases h; done)
 rename_i a b
 obtain ⟨hb,rfl⟩:=bif_some h
 try simp only [Bool.and_eq_true] at hb
 exact leaf_of Vc.cIsub_ok rfl (ys:=[.g [.I a],.g [.I b]]) ⟨int_K a,int_K b,trivial⟩ rfl (by have:=smI_sz hb.1; have:=smI_sz hb.2; constructor <;> omega) (int_K _)
theorem lNeg_ok_cIneg:Leaf1 Tryz.prog 72 lNeg:=fun xs r h=>by
 unfold lNeg at h
 split at h <;> try (cases h; done)
 rename_i a
 obtain ⟨hb,rfl⟩:=bif_some h
 try simp only [Bool.and_eq_true] at hb
 exact leaf_of Vc.cIneg_ok rfl (ys:=[.g [.I a]]) ⟨int_K a,trivial⟩ rfl (by have:=smI_sz hb; omega) (int_K _)
theorem lFrom_ok_cIfrom:Leaf1 Tryz.prog 60 lFrom:=fun xs r h=>by
 unfold lFrom at h
 split at h <;> try (cases h; done)
 rename_i n
 obtain ⟨hb,rfl⟩:=bif_some h
 try simp only [Bool.and_eq_true] at hb
 exact leaf_of Vc.cIfrom_ok rfl (ys:=[.c (.v (.int .i64 n))]) ⟨val_K _,trivial⟩ rfl (i64B_spec hb) (int_K _)
theorem lSign_ok_cIsign:Leaf1 Tryz.prog 61 lSign:=fun xs r h=>by
 unfold lSign at h
 split at h <;> try (cases h; done)
 rename_i a
 obtain ⟨hb,rfl⟩:=bif_some h
 try simp only [Bool.and_eq_true] at hb
 exact leaf_of Vc.cIsign_ok rfl (ys:=[.g [.I a]]) ⟨int_K a,trivial⟩ rfl (trivial) (val_K _)
theorem lCmp_ok_cIcmp:Leaf1 Tryz.prog 63 lCmp:=fun xs r h=>by
 unfold lCmp at h
 split at h <;> try (cases h; done)
 rename_i a b
 obtain ⟨hb,rfl⟩:=bif_some h
 try simp only [Bool.and_eq_true] at hb
 exact leaf_of Vc.cIcmp_ok rfl (ys:=[.g [.I a],.g [.I b]]) ⟨int_K a,int_K b,trivial⟩ rfl (by have:=smI_sz hb.1; have:=smI_sz hb.2; constructor <;> omega) (val_K _)
theorem lGcd_ok_cIgcd:Leaf1 Tryz.prog 110 lGcd:=fun xs r h=>by
 unfold lGcd at h
 split at h <;> try (cases h; done)
 rename_i a b
 obtain ⟨hb,rfl⟩:=bif_some h
 try simp only [Bool.and_eq_true] at hb
 exact leaf_of Vc.cIgcd_ok rfl (ys:=[.g [.I a],.g [.I b]]) ⟨int_K a,int_K b,trivial⟩ rfl (by have:=smI_sz hb.1; have:=smI_sz hb.2; constructor <;> omega) (int_K _)
theorem lDm_ok_cIdm:Leaf1 Tryz.prog 164 lDm:=fun xs r h=>by
 unfold lDm at h
 split at h <;> try (cases h; done)
 rename_i a b
 obtain ⟨hb,rfl⟩:=bif_some h
 try simp only [Bool.and_eq_true] at hb
 exact leaf_of Vc.cIdm_ok rfl (ys:=[.g [.I a],.g [.I b]]) ⟨int_K a,int_K b,trivial⟩ rfl ⟨⟨iPos_spec hb.2.1,iZ_spec hb.2.2⟩,by have:=smI_sz hb.1.1; have:=smI_sz hb.1.2; constructor <;> omega⟩ ⟨int_K _,int_K _,val_K _,trivial⟩
theorem lMul_ok_cJmul:Leaf1 Tryz.prog 46 lMul:=fun xs r h=>by
 unfold lMul at h
 split at h <;> try (cases h; done)
 rename_i a b
 obtain ⟨hb,rfl⟩:=bif_some h
 try simp only [Bool.and_eq_true] at hb
 exact leaf_of Vc.cJmul_ok rfl (ys:=[.g [.I a],.g [.I b]]) ⟨int_K a,int_K b,trivial⟩ rfl (by have:=smI_sz hb.1; have:=smI_sz hb.2; constructor <;> omega) (int_K _)
theorem lAdd_ok_cJadd:Leaf1 Tryz.prog 122 lAdd:=fun xs r h=>by
 unfold lAdd at h
 split at h <;> try (cases h; done)
 rename_i a b
 obtain ⟨hb,rfl⟩:=bif_some h
 try simp only [Bool.and_eq_true] at hb
 exact leaf_of Vc.cJadd_ok rfl (ys:=[.g [.I a],.g [.I b]]) ⟨int_K a,int_K b,trivial⟩ rfl (by have:=smI_sz hb.1; have:=smI_sz hb.2; constructor <;> omega) (int_K _)
theorem lSub_ok_cJsub:Leaf1 Tryz.prog 125 lSub:=fun xs r h=>by
 unfold lSub at h
 split at h <;> try (cases h; done)
 rename_i a b
 obtain ⟨hb,rfl⟩:=bif_some h
 try simp only [Bool.and_eq_true] at hb
 exact leaf_of Vc.cJsub_ok rfl (ys:=[.g [.I a],.g [.I b]]) ⟨int_K a,int_K b,trivial⟩ rfl (by have:=smI_sz hb.1; have:=smI_sz hb.2; constructor <;> omega) (int_K _)
theorem lNeg_ok_cJneg:Leaf1 Tryz.prog 36 lNeg:=fun xs r h=>by
 unfold lNeg at h
 split at h <;> try (cases h; done)
 rename_i a
 obtain ⟨hb,rfl⟩:=bif_some h
 try simp only [Bool.and_eq_true] at hb
 exact leaf_of Vc.cJneg_ok rfl (ys:=[.g [.I a]]) ⟨int_K a,trivial⟩ rfl (by have:=smI_sz hb; omega) (int_K _)
theorem lFrom_ok_cJfrom:Leaf1 Tryz.prog 58 lFrom:=fun xs r h=>by
 unfold lFrom at h
 split at h <;> try (cases h; done)
 rename_i n
 obtain ⟨hb,rfl⟩:=bif_some h
 try simp only [Bool.and_eq_true] at hb
 exact leaf_of Vc.cJfrom_ok rfl (ys:=[.c (.v (.int .i64 n))]) ⟨val_K _,trivial⟩ rfl (i64B_spec hb) (int_K _)
theorem lSign_ok_cJsign:Leaf1 Tryz.prog 39 lSign:=fun xs r h=>by
 unfold lSign at h
 split at h <;> try (cases h; done)
 rename_i a
 obtain ⟨hb,rfl⟩:=bif_some h
 try simp only [Bool.and_eq_true] at hb
 exact leaf_of Vc.cJsign_ok rfl (ys:=[.g [.I a]]) ⟨int_K a,trivial⟩ rfl (trivial) (val_K _)
theorem lCmp_ok_cJcmp01:Leaf1 Tryz.prog 45 lCmp:=fun xs r h=>by
 unfold lCmp at h
 split at h <;> try (cases h; done)
 rename_i a b
 obtain ⟨hb,rfl⟩:=bif_some h
 try simp only [Bool.and_eq_true] at hb
 exact leaf_of Vc.cJcmp01_ok rfl (ys:=[.g [.I a],.g [.I b]]) ⟨int_K a,int_K b,trivial⟩ rfl (by have:=smI_sz hb.1; have:=smI_sz hb.2; constructor <;> omega) (val_K _)
theorem lGcd_ok_cJgcd:Leaf1 Tryz.prog 42 lGcd:=fun xs r h=>by
 unfold lGcd at h
 split at h <;> try (cases h; done)
 rename_i a b
 obtain ⟨hb,rfl⟩:=bif_some h
 try simp only [Bool.and_eq_true] at hb
 exact leaf_of Vc.cJgcd_ok rfl (ys:=[.g [.I a],.g [.I b]]) ⟨int_K a,int_K b,trivial⟩ rfl (by have:=smI_sz hb.1; have:=smI_sz hb.2; constructor <;> omega) (int_K _)
theorem lDm_ok_cJdm:Leaf1 Tryz.prog 82 lDm:=fun xs r h=>by
 unfold lDm at h
 split at h <;> try (cases h; done)
 rename_i a b
 obtain ⟨hb,rfl⟩:=bif_some h
 try simp only [Bool.and_eq_true] at hb
 exact leaf_of Vc.cJdm_ok rfl (ys:=[.g [.I a],.g [.I b]]) ⟨int_K a,int_K b,trivial⟩ rfl ⟨⟨iPos_spec hb.2.1,iZ_spec hb.2.2⟩,by have:=smI_sz hb.1.1; have:=smI_sz hb.1.2; constructor <;> omega⟩ ⟨int_K _,int_K _,val_K _,trivial⟩
theorem lSame_ok_cJsame:Leaf1 Tryz.prog 41 lSame:=fun xs r h=>by
 unfold lSame at h
 split at h <;> try (cases h; done)
 rename_i a b
 obtain ⟨hb,rfl⟩:=bif_some h
 try simp only [Bool.and_eq_true] at hb
 exact leaf_of Vc.cJsame_ok rfl (ys:=[.g [.I a],.g [.I b]]) ⟨int_K a,int_K b,trivial⟩ rfl (by have:=smI_sz hb.1; have:=smI_sz hb.2; constructor <;> omega) (val_K _)
theorem lValid_ok_cJvalid:Leaf1 Tryz.prog 40 lValid:=fun xs r h=>by
 unfold lValid at h
 split at h <;> try (cases h; done)
 rename_i a
 obtain ⟨hb,rfl⟩:=bif_some h
 try simp only [Bool.and_eq_true] at hb
 exact leaf_of Vc.cJvalid_ok rfl (ys:=[.g [.I a]]) ⟨int_K a,trivial⟩ rfl (by have:=smI_sz hb; omega) (val_K _)
noncomputable def lQadd:Leaf:=fun xs =>
 match xs with
 | [.g [.I n,.I d],.g [.I m,.I e]]=>bif smQ n d && smQ m e then some (.k (qN (n*e+m*d) (d*e))) else none
 | _=>none
noncomputable def lQsub:Leaf:=fun xs =>
 match xs with
 | [.g [.I n,.I d],.g [.I m,.I e]]=>bif smQ n d && smQ m e then some (.k (qN (n*e - m*d) (d*e))) else none
 | _=>none
noncomputable def lQmul:Leaf:=fun xs =>
 match xs with
 | [.g [.I n,.I d],.g [.I m,.I e]]=>bif smQ n d && smQ m e then some (.k (qN (n*m) (d*e))) else none
 | _=>none
noncomputable def lQneg:Leaf:=fun xs =>
 match xs with
 | [.g [.I n,.I d]]=>bif smQ n d then some (.k (.g [.I (-n),.I d])) else none
 | _=>none
noncomputable def lQfrom:Leaf:=fun xs =>
 match xs with
 | [.c (.v (.int .i64 n))]=>bif i64B n then some (.k (.g [.I n,.I 1])) else none
 | _=>none
noncomputable def lQsign:Leaf:=fun xs =>
 match xs with
 | [.g [.I n,.I d]]=>bif smQ n d then some (.k (.c (.v (.int .i64 n.sign)))) else none
 | _=>none
noncomputable def lQcmp:Leaf:=fun xs =>
 match xs with
 | [.g [.I n,.I d],.g [.I m,.I e]]=>bif smQ n d && smQ m e then some (.k (.c (.v (.int .i64 (n*e - m*d).sign)))) else none
 | _=>none
noncomputable def qS (n d:Int):KK:=Int.rec (fun _=>qN n d) (fun _=>qN (-n) (-d)) d
theorem qS_K {n d:Int} (hd:d ≠ 0) {r:Rat} (e:Rat.divInt n d=r):eqK (qS n d) (.g [.R r]):=by
 cases d with
 | ofNat a=>exact qN_K (by have:(Int.ofNat a) ≠ 0:=hd; have:(0:Int) <= Int.ofNat a:=Int.natCast_nonneg a; omega) e
 | negSucc a=>exact qN_K (by omega) (by rw [Rt.red_neg]; exact e)
noncomputable def iNz (d:Int):Bool:=Int.rec (fun n=>Nat.ble 1 n) (fun _=>true) d
theorem iNz_spec {d:Int} (h:iNz d=true):d ≠ 0:=by
 cases d with
 | ofNat n=>have:=Nat.le_of_ble_eq_true (show Nat.ble 1 n=true from h); intro e; have:n=0:=by simpa using e
            omega
 | negSucc n=>intro e; cases e
noncomputable def lQdiv:Leaf:=fun xs =>
 match xs with
 | [.g [.I n,.I d],.g [.I m,.I e]]=>bif (smQ n d && smQ m e) && iNz m then some (.t [qS (n*e) (d*m),.c (.v (.int .i64 0))]) else none
 | _=>none
noncomputable def lQof:Leaf:=fun xs =>
 match xs with
 | [.g [.I a],.g [.I b]]=>bif (smI a && smI b) && iNz b then some (.k (qS a b)) else none
 | _=>none
theorem lQadd_ok_cRadd:Leaf1 Tryz.prog 29 lQadd:=fun xs r h=>by
 unfold lQadd at h
 split at h <;> try (cases h; done)
 rename_i n d m e
 obtain ⟨hb,rfl⟩:=bif_some h
 try simp only [Bool.and_eq_true] at hb
 have h1:=smQ_spec hb.1
 have h2:=smQ_spec hb.2
 exact leaf_of Vc.cRadd_ok rfl (ys:=[.g [.R (qOf n d h1)],.g [.R (qOf m e h2)]]) ⟨qOf_K h1,qOf_K h2,trivial⟩ rfl (by have:=qOf_sz h1; have:=qOf_sz h2; constructor <;> omega) (qN_K (Int.mul_pos h1.p h2.p) (by rw [<- Rt.add_eq,qOf_num,qOf_num,qOf_den,qOf_den]))
theorem lQsub_ok_cRsub:Leaf1 Tryz.prog 33 lQsub:=fun xs r h=>by
 unfold lQsub at h
 split at h <;> try (cases h; done)
 rename_i n d m e
 obtain ⟨hb,rfl⟩:=bif_some h
 try simp only [Bool.and_eq_true] at hb
 have h1:=smQ_spec hb.1
 have h2:=smQ_spec hb.2
 exact leaf_of Vc.cRsub_ok rfl (ys:=[.g [.R (qOf n d h1)],.g [.R (qOf m e h2)]]) ⟨qOf_K h1,qOf_K h2,trivial⟩ rfl (by have:=qOf_sz h1; have:=qOf_sz h2; constructor <;> omega) (qN_K (Int.mul_pos h1.p h2.p) (by rw [Rat.sub_eq_add_neg,<- Rt.add_eq,Rat.neg_num,Rat.neg_den,qOf_num,qOf_num,qOf_den,qOf_den,Int.neg_mul,Int.sub_eq_add_neg]))
theorem lQmul_ok_cRmul:Leaf1 Tryz.prog 30 lQmul:=fun xs r h=>by
 unfold lQmul at h
 split at h <;> try (cases h; done)
 rename_i n d m e
 obtain ⟨hb,rfl⟩:=bif_some h
 try simp only [Bool.and_eq_true] at hb
 have h1:=smQ_spec hb.1
 have h2:=smQ_spec hb.2
 exact leaf_of Vc.cRmul_ok rfl (ys:=[.g [.R (qOf n d h1)],.g [.R (qOf m e h2)]]) ⟨qOf_K h1,qOf_K h2,trivial⟩ rfl (by have:=qOf_sz h1; have:=qOf_sz h2; constructor <;> omega) (qN_K (Int.mul_pos h1.p h2.p) (by rw [<- Rt.mul_eq,qOf_num,qOf_num,qOf_den,qOf_den]))
theorem lQneg_ok_cRneg:Leaf1 Tryz.prog 35 lQneg:=fun xs r h=>by
 unfold lQneg at h
 split at h <;> try (cases h; done)
 rename_i n d
 obtain ⟨hb,rfl⟩:=bif_some h
 try simp only [Bool.and_eq_true] at hb
 have h1:=smQ_spec hb
 exact leaf_of Vc.cRneg_ok rfl (ys:=[.g [.R (qOf n d h1)]]) ⟨qOf_K h1,trivial⟩ rfl (by have:=qOf_sz h1; omega) (rat_K (by rw [Rat.neg_num,qOf_num]) (by rw [Rat.neg_den,qOf_den]))
theorem lQfrom_ok_cRfrom:Leaf1 Tryz.prog 23 lQfrom:=fun xs r h=>by
 unfold lQfrom at h
 split at h <;> try (cases h; done)
 rename_i n
 obtain ⟨hb,rfl⟩:=bif_some h
 try simp only [Bool.and_eq_true] at hb
 exact leaf_of Vc.cRfrom_ok rfl (ys:=[.c (.v (.int .i64 n))]) ⟨val_K _,trivial⟩ rfl (i64B_spec hb) (rat_K rfl rfl)
theorem lQsign_ok_cRsign:Leaf1 Tryz.prog 24 lQsign:=fun xs r h=>by
 unfold lQsign at h
 split at h <;> try (cases h; done)
 rename_i n d
 obtain ⟨hb,rfl⟩:=bif_some h
 try simp only [Bool.and_eq_true] at hb
 have h1:=smQ_spec hb
 exact leaf_of Vc.cRsign_ok rfl (ys:=[.g [.R (qOf n d h1)]]) ⟨qOf_K h1,trivial⟩ rfl (trivial) (val_K _)
theorem lQcmp_ok_cRcmp:Leaf1 Tryz.prog 26 lQcmp:=fun xs r h=>by
 unfold lQcmp at h
 split at h <;> try (cases h; done)
 rename_i n d m e
 obtain ⟨hb,rfl⟩:=bif_some h
 try simp only [Bool.and_eq_true] at hb
 have h1:=smQ_spec hb.1
 have h2:=smQ_spec hb.2
 exact leaf_of Vc.cRcmp_ok rfl (ys:=[.g [.R (qOf n d h1)],.g [.R (qOf m e h2)]]) ⟨qOf_K h1,qOf_K h2,trivial⟩ rfl (by have:=qOf_sz h1; have:=qOf_sz h2; constructor <;> omega) (by rw [<- Rt.sg_cross,qOf_num,qOf_num,qOf_den,qOf_den]; exact val_K _)
theorem lQadd_ok_cKadd:Leaf1 Tryz.prog 74 lQadd:=fun xs r h=>by
 unfold lQadd at h
 split at h <;> try (cases h; done)
 rename_i n d m e
 obtain ⟨hb,rfl⟩:=bif_some h
 try simp only [Bool.and_eq_true] at hb
 have h1:=smQ_spec hb.1
 have h2:=smQ_spec hb.2
 exact leaf_of Vc.cKadd_ok rfl (ys:=[.g [.R (qOf n d h1)],.g [.R (qOf m e h2)]]) ⟨qOf_K h1,qOf_K h2,trivial⟩ rfl (by have:=qOf_sz h1; have:=qOf_sz h2; constructor <;> omega) (qN_K (Int.mul_pos h1.p h2.p) (by rw [<- Rt.add_eq,qOf_num,qOf_num,qOf_den,qOf_den]))
theorem lQsub_ok_cKsub:Leaf1 Tryz.prog 80 lQsub:=fun xs r h=>by
 unfold lQsub at h
 split at h <;> try (cases h; done)
 rename_i n d m e
 obtain ⟨hb,rfl⟩:=bif_some h
 try simp only [Bool.and_eq_true] at hb
 have h1:=smQ_spec hb.1
 have h2:=smQ_spec hb.2
 exact leaf_of Vc.cKsub_ok rfl (ys:=[.g [.R (qOf n d h1)],.g [.R (qOf m e h2)]]) ⟨qOf_K h1,qOf_K h2,trivial⟩ rfl (by have:=qOf_sz h1; have:=qOf_sz h2; constructor <;> omega) (qN_K (Int.mul_pos h1.p h2.p) (by rw [Rat.sub_eq_add_neg,<- Rt.add_eq,Rat.neg_num,Rat.neg_den,qOf_num,qOf_num,qOf_den,qOf_den,Int.neg_mul,Int.sub_eq_add_neg]))
theorem lQmul_ok_cKmul:Leaf1 Tryz.prog 15 lQmul:=fun xs r h=>by
 unfold lQmul at h
 split at h <;> try (cases h; done)
 rename_i n d m e
 obtain ⟨hb,rfl⟩:=bif_some h
 try simp only [Bool.and_eq_true] at hb
 have h1:=smQ_spec hb.1
 have h2:=smQ_spec hb.2
 exact leaf_of Vc.cKmul_ok rfl (ys:=[.g [.R (qOf n d h1)],.g [.R (qOf m e h2)]]) ⟨qOf_K h1,qOf_K h2,trivial⟩ rfl (by have:=qOf_sz h1; have:=qOf_sz h2; constructor <;> omega) (qN_K (Int.mul_pos h1.p h2.p) (by rw [<- Rt.mul_eq,qOf_num,qOf_num,qOf_den,qOf_den]))
theorem lQneg_ok_cKneg:Leaf1 Tryz.prog 8 lQneg:=fun xs r h=>by
 unfold lQneg at h
 split at h <;> try (cases h; done)
 rename_i n d
 obtain ⟨hb,rfl⟩:=bif_some h
 try simp only [Bool.and_eq_true] at hb
 have h1:=smQ_spec hb
 exact leaf_of Vc.cKneg_ok rfl (ys:=[.g [.R (qOf n d h1)]]) ⟨qOf_K h1,trivial⟩ rfl (by have:=qOf_sz h1; omega) (rat_K (by rw [Rat.neg_num,qOf_num]) (by rw [Rat.neg_den,qOf_den]))
theorem lQfrom_ok_cKfrom:Leaf1 Tryz.prog 47 lQfrom:=fun xs r h=>by
 unfold lQfrom at h
 split at h <;> try (cases h; done)
 rename_i n
 obtain ⟨hb,rfl⟩:=bif_some h
 try simp only [Bool.and_eq_true] at hb
 exact leaf_of Vc.cKfrom_ok rfl (ys:=[.c (.v (.int .i64 n))]) ⟨val_K _,trivial⟩ rfl (i64B_spec hb) (rat_K rfl rfl)
theorem lQsign_ok_cKsign:Leaf1 Tryz.prog 10 lQsign:=fun xs r h=>by
 unfold lQsign at h
 split at h <;> try (cases h; done)
 rename_i n d
 obtain ⟨hb,rfl⟩:=bif_some h
 try simp only [Bool.and_eq_true] at hb
 have h1:=smQ_spec hb
 exact leaf_of Vc.cKsign_ok rfl (ys:=[.g [.R (qOf n d h1)]]) ⟨qOf_K h1,trivial⟩ rfl (trivial) (val_K _)
theorem lQcmp_ok_cKcmp:Leaf1 Tryz.prog 13 lQcmp:=fun xs r h=>by
 unfold lQcmp at h
 split at h <;> try (cases h; done)
 rename_i n d m e
 obtain ⟨hb,rfl⟩:=bif_some h
 try simp only [Bool.and_eq_true] at hb
 have h1:=smQ_spec hb.1
 have h2:=smQ_spec hb.2
 exact leaf_of Vc.cKcmp_ok rfl (ys:=[.g [.R (qOf n d h1)],.g [.R (qOf m e h2)]]) ⟨qOf_K h1,qOf_K h2,trivial⟩ rfl (by have:=qOf_sz h1; have:=qOf_sz h2; constructor <;> omega) (by rw [<- Rt.sg_cross,qOf_num,qOf_num,qOf_den,qOf_den]; exact val_K _)
theorem lQdiv_ok_cRdiv:Leaf1 Tryz.prog 27 lQdiv:=fun xs r h=>by
 unfold lQdiv at h
 split at h <;> try (cases h; done)
 rename_i n d m e
 obtain ⟨hb,rfl⟩:=bif_some h
 try simp only [Bool.and_eq_true] at hb
 have h1:=smQ_spec hb.1.1
 have h2:=smQ_spec hb.1.2
 have hm:=iNz_spec hb.2
 refine leaf_of Vc.cRdiv_ok rfl (ys:=[.g [.R (qOf n d h1)],.g [.R (qOf m e h2)]]) ⟨qOf_K h1,qOf_K h2,trivial⟩ rfl ⟨?_,by have:=qOf_sz h1; have:=qOf_sz h2; constructor <;> omega⟩ ⟨qS_K ?_ ?_,val_K _,trivial⟩
 ·rw [ne_eq,<- Rat.num_eq_zero,qOf_num]
  exact hm
 ·have:=h1.p
  exact Int.mul_ne_zero (by omega) hm
 ·rw [<- Rt.div_eq,qOf_num,qOf_num,qOf_den,qOf_den]
theorem lQof_ok_cKof:Leaf1 Tryz.prog 48 lQof:=fun xs r h=>by
 unfold lQof at h
 split at h <;> try (cases h; done)
 rename_i a b
 obtain ⟨hb,rfl⟩:=bif_some h
 try simp only [Bool.and_eq_true] at hb
 have hm:=iNz_spec hb.2
 exact leaf_of Vc.cKof_ok rfl (ys:=[.g [.I a],.g [.I b]]) ⟨int_K a,int_K b,trivial⟩ rfl ⟨hm,by have:=smI_sz hb.1.1; have:=smI_sz hb.1.2; constructor <;> omega⟩ (qS_K hm rfl)
noncomputable def DZl:List (Nat × Leaf):=[(64,lMul),
 (69,lAdd),
 (217,lSub),
 (72,lNeg),
 (60,lFrom),
 (61,lSign),
 (63,lCmp),
 (110,lGcd),
 (164,lDm),
 (46,lMul),
 (122,lAdd),
 (125,lSub),
 (36,lNeg),
 (58,lFrom),
 (39,lSign),
 (45,lCmp),
 (42,lGcd),
 (82,lDm),
 (41,lSame),
 (40,lValid),
 (29,lQadd),
 (33,lQsub),
 (30,lQmul),
 (35,lQneg),
 (23,lQfrom),
 (24,lQsign),
 (26,lQcmp),
 (74,lQadd),
 (80,lQsub),
 (15,lQmul),
 (8,lQneg),
 (47,lQfrom),
 (10,lQsign),
 (13,lQcmp),
 (27,lQdiv),
 (48,lQof)]
theorem DZl_ok:∀ p ∈ DZl,Leaf1 Tryz.prog p.1 p.2:=by
 intro p hp
 simp only [DZl,List.mem_cons,List.not_mem_nil,or_false] at hp
 rcases hp with rfl | rfl | rfl | rfl | rfl | rfl | rfl | rfl | rfl | rfl | rfl | rfl | rfl | rfl | rfl | rfl | rfl | rfl | rfl | rfl | rfl | rfl | rfl | rfl | rfl | rfl | rfl | rfl | rfl | rfl | rfl | rfl | rfl | rfl | rfl | rfl
 ·exact lMul_ok_cImul
 ·exact lAdd_ok_cIadd
 ·exact lSub_ok_cIsub
 ·exact lNeg_ok_cIneg
 ·exact lFrom_ok_cIfrom
 ·exact lSign_ok_cIsign
 ·exact lCmp_ok_cIcmp
 ·exact lGcd_ok_cIgcd
 ·exact lDm_ok_cIdm
 ·exact lMul_ok_cJmul
 ·exact lAdd_ok_cJadd
 ·exact lSub_ok_cJsub
 ·exact lNeg_ok_cJneg
 ·exact lFrom_ok_cJfrom
 ·exact lSign_ok_cJsign
 ·exact lCmp_ok_cJcmp01
 ·exact lGcd_ok_cJgcd
 ·exact lDm_ok_cJdm
 ·exact lSame_ok_cJsame
 ·exact lValid_ok_cJvalid
 ·exact lQadd_ok_cRadd
 ·exact lQsub_ok_cRsub
 ·exact lQmul_ok_cRmul
 ·exact lQneg_ok_cRneg
 ·exact lQfrom_ok_cRfrom
 ·exact lQsign_ok_cRsign
 ·exact lQcmp_ok_cRcmp
 ·exact lQadd_ok_cKadd
 ·exact lQsub_ok_cKsub
 ·exact lQmul_ok_cKmul
 ·exact lQneg_ok_cKneg
 ·exact lQfrom_ok_cKfrom
 ·exact lQsign_ok_cKsign
 ·exact lQcmp_ok_cKcmp
 ·exact lQdiv_ok_cRdiv
 ·exact lQof_ok_cKof
end Zc
end Go.Proofs.YtkdjilgddbjcaaaGreat
namespace Go.Proofs.YtkdjilgddbjcaaaGreat
open Go.RowKit
namespace Zc
open Vc (szR entersB)
noncomputable def lI64:Leaf:=fun xs =>
 match xs with
 | [.g [.I a]]=>bif i64B a then some (.t [.c (.v (.int .i64 a)),.c (.v (.bool true))]) else none
 | _=>none
theorem lValid_ok_cIvalid:Leaf1 Tryz.prog 293 lValid:=fun xs r h=>by
 unfold lValid at h
 split at h <;> try (cases h; done)
 rename_i a
 obtain ⟨hb,rfl⟩:=bif_some h
 exact leaf_of Vc.cIvalid_ok rfl (ys:=[.g [.I a]]) ⟨int_K a,trivial⟩ rfl (by have:=smI_sz hb; omega) (val_K _)
theorem lI64_ok:Leaf1 Tryz.prog 401 lI64:=fun xs r h=>by
 unfold lI64 at h
 split at h <;> try (cases h; done)
 rename_i a
 obtain ⟨hb,rfl⟩:=bif_some h
 exact leaf_of Vc.cInt64_ok rfl (ys:=[.g [.I a]]) ⟨int_K a,trivial⟩ rfl (i64B_spec hb) ⟨val_K _,val_K _,trivial⟩
noncomputable def iNn (d:Int):Bool:=Int.rec (motive:=fun _=>Bool) (fun _=>true) (fun _=>false) d
theorem iNn_spec {d:Int} (h:iNn d=true):0 <= d:=by
 cases d with
 | ofNat n=>exact Int.natCast_nonneg n
 | negSucc n=>cases h
noncomputable def lDv:Leaf:=fun xs =>
 match xs with
 | [.g [.I a],.g [.I b]]=>bif (smI a && smI b) && (iPos b && (iZ (a % b) || iNn a)) then some (.t [.g [.I (a / b)],.g [.I (a % b)],.c (.v (.int .i64 0))]) else none
 | _=>none
theorem lDv_ok_I:Leaf1 Tryz.prog 164 lDv:=fun xs r h=>by
 unfold lDv at h
 split at h <;> try (cases h; done)
 rename_i a b
 obtain ⟨hb,rfl⟩:=bif_some h
 simp only [Bool.and_eq_true,Bool.or_eq_true] at hb
 rcases hb.2.2 with h0 | h0
 ·have h1:=iZ_spec h0
  rw [h1]
  exact leaf_of Vc.cIdm_ok rfl (ys:=[.g [.I a],.g [.I b]]) ⟨int_K a,int_K b,trivial⟩ rfl ⟨⟨iPos_spec hb.2.1,h1⟩,by have:=smI_sz hb.1.1; have:=smI_sz hb.1.2; constructor <;> omega⟩ ⟨int_K _,int_K _,val_K _,trivial⟩
 ·exact leaf_of Vc.cIdv_ok rfl (ys:=[.g [.I a],.g [.I b]]) ⟨int_K a,int_K b,trivial⟩ rfl ⟨⟨iNn_spec h0,iPos_spec hb.2.1⟩,by have:=smI_sz hb.1.1; have:=smI_sz hb.1.2; constructor <;> omega⟩ ⟨int_K _,int_K _,val_K _,trivial⟩
theorem lDv_ok_J:Leaf1 Tryz.prog 82 lDv:=fun xs r h=>by
 unfold lDv at h
 split at h <;> try (cases h; done)
 rename_i a b
 obtain ⟨hb,rfl⟩:=bif_some h
 simp only [Bool.and_eq_true,Bool.or_eq_true] at hb
 rcases hb.2.2 with h0 | h0
 ·have h1:=iZ_spec h0
  rw [h1]
  exact leaf_of Vc.cJdm_ok rfl (ys:=[.g [.I a],.g [.I b]]) ⟨int_K a,int_K b,trivial⟩ rfl ⟨⟨iPos_spec hb.2.1,h1⟩,by have:=smI_sz hb.1.1; have:=smI_sz hb.1.2; constructor <;> omega⟩ ⟨int_K _,int_K _,val_K _,trivial⟩
 ·exact leaf_of Vc.cJdv_ok rfl (ys:=[.g [.I a],.g [.I b]]) ⟨int_K a,int_K b,trivial⟩ rfl ⟨⟨iNn_spec h0,iPos_spec hb.2.1⟩,by have:=smI_sz hb.1.1; have:=smI_sz hb.1.2; constructor <;> omega⟩ ⟨int_K _,int_K _,val_K _,trivial⟩
noncomputable def limV (l:List Nat):Nat:=List.rec (motive:=fun _=>Nat) 0 (fun x _ ih=>Nat.add x (Nat.mul 1000000000 ih)) l
theorem limV_eq (l:List Nat):limV l=Lb.val l:=by
 induction l with
 | nil=>rfl
 | cons x l ih=>show x+1000000000*limV l=x+Lb.B*Lb.val l; rw [ih,Lb.B_eq]
noncomputable def limT (l:List Nat):Bool:=List.rec (motive:=fun _=>Bool) true (fun x _ ih=>Bool.rec (motive:=fun _=>Bool) false ih (Nat.ble (Nat.succ x) 1000000000)) l
theorem limT_spec:∀ {l:List Nat},limT l=true->Lb.Lt l
 | [],_=>fun x hx=>by cases hx
 | y :: l,h=>fun x hx=>by
   obtain ⟨h1,h2⟩:=rec_and (b:=limT l) h
   rcases List.mem_cons.1 hx with rfl | hx
   ·have:=nble_yes h1
    rw [Lb.B_eq]
    omega
   ·exact limT_spec h2 x hx
noncomputable def limU (l:List Nat):Bool:=List.rec (motive:=fun _=>Bool) true (fun x r ih=>List.rec (motive:=fun _=>Bool) (Nat.ble 1 x) (fun _ _ _=>ih) r) l
theorem limU_spec:∀ {l:List Nat},limU l=true->∀ h:l ≠ [],l.getLast h ≠ 0
 | [],_,h=>absurd rfl h
 | [x],h,_=>by
   have:=nble_yes (show Nat.ble 1 x=true from h)
   simp only [List.getLast_singleton]
   omega
 | x :: y :: l,h,_=>by
   rw [List.getLast_cons (by simp)]
   exact limU_spec (l:=y :: l) h (by simp)
theorem norm_back {l:List Nat} (h1:limT l=true) (h2:limU l=true):Lb.limbs (Lb.val l)=l:=by
 have h:=limT_spec h1
 rw [<- Lb.trim_eq h]
 exact Lb.trim_norm (limU_spec h2)
noncomputable def lSig:Leaf:=fun xs =>
 match xs with
 | [.c (.v (.bool b)),.c (.sl l)]=>bif limT l && Nat.ble (len l) 1000 then some (.k (.g [.I (Bool.rec (motive:=fun _=>Int) (Int.ofNat (limV l)) (-(Int.ofNat (limV l))) b)])) else none
 | _=>none
theorem sgn_rec (b:Bool) (l:List Nat):(Bool.rec (motive:=fun _=>Int) (Int.ofNat (limV l)) (-(Int.ofNat (limV l))) b:Int)=sgn b (Lb.val l):=by
 rw [limV_eq]
 cases b <;> simp [sgn]
theorem lSig_ok_I:Leaf1 Tryz.prog 105 lSig:=fun xs r h=>by
 unfold lSig at h
 split at h <;> try (cases h; done)
 rename_i b l
 obtain ⟨hb,rfl⟩:=bif_some h
 simp only [Bool.and_eq_true] at hb
 rw [sgn_rec]
 have h2:=nble_yes hb.2
 rw [len_eq] at h2
 exact leaf_of Vc.cIsigned_ok rfl (ys:=[.c (.v (.bool b)),.c (.sl l)]) ⟨val_K _,rfl,trivial⟩ rfl ⟨limT_spec hb.1,by omega⟩ (int_K _)
noncomputable def nrmK (x:KK):KK :=
 match x with
 | .g [.v (.bool false),.sl l]=>Bool.rec (motive:=fun _=>KK) x (Bool.rec (motive:=fun _=>KK) x (.g [.I (Int.ofNat (limV l))]) (limU l)) (limT l)
 | x=>x
noncomputable def nrmKs (l:List KK):List KK:=List.rec (motive:=fun _=>List KK) [] (fun x _ ih=>nrmK x :: ih) l
theorem nrmK_rel {bm:BM} {w:World} {x:KK} {u:Value} (h:relK bm w x u):relK bm w (nrmK x) u:=by
 unfold nrmK
 split
 ·rename_i l
  cases h1:limT l with
  | false=>exact h
  | true =>
    cases h2:limU l with
    | false=>exact h
    | true =>
      have e:flats [.I (Int.ofNat (limV l))]=flats [.v (.bool false),.sl l]:=by
       have e1:(Int.ofNat (limV l)).natAbs=Lb.val l:=by rw [limV_eq]; rfl
       have e2:decide (Int.ofNat (limV l) < 0)=false:=decide_eq_false (by have:=Int.natCast_nonneg (limV l); show ¬ ((limV l:Nat):Int) < 0; omega)
       show [LF.v (.bool (decide (Int.ofNat (limV l) < 0))),LF.sl (Lb.limbs (Int.ofNat (limV l)).natAbs)]=[.v (.bool false),.sl l]
       rw [e1,e2,norm_back h1 h2]
      obtain ⟨us,rfl,k⟩:=h
      exact ⟨us,rfl,by show relL bm w (flats [.I (Int.ofNat (limV l))]) us; rw [e]; exact k⟩
 ·exact h
theorem nrmKs_rel {bm:BM} {w:World}:∀ {l:List KK} {us:List Value},relKs bm w l us->relKs bm w (nrmKs l) us
 | [],[],_=>trivial
 | _ :: _,_ :: _,h=>⟨nrmK_rel h.1,nrmKs_rel h.2⟩
 | [],_ :: _,h=>h.elim
 | _ :: _,[],h=>h.elim
noncomputable def nz (g:Leaf):Leaf:=fun xs=>g (nrmKs xs)
theorem nz_ok {P:Program} {f:Nat} {g:Leaf} (h:Leaf1 P f g):Leaf1 P f (nz g):=fun xs r hr=>by
 obtain ⟨h1,h2⟩:=h (nrmKs xs) r hr
 exact ⟨h1,fun bm w vs hrel=>h2 bm w vs (nrmKs_rel hrel)⟩
noncomputable def DXl:List (Nat × Leaf):=[(293,lValid),(401,lI64),(164,lDv),(105,lSig),(82,nz lDv),(122,nz lAdd),(45,nz lCmp)] ++ DZl
theorem DXl_ok:∀ p ∈ DXl,Leaf1 Tryz.prog p.1 p.2:=by
 intro p hp
 rcases List.mem_append.1 hp with hp | hp
 ·simp only [List.mem_cons,List.not_mem_nil,or_false] at hp
  rcases hp with rfl | rfl | rfl | rfl | rfl | rfl | rfl
  ·exact lValid_ok_cIvalid
  ·exact lI64_ok
  ·exact lDv_ok_I
  ·exact lSig_ok_I
  ·exact nz_ok lDv_ok_J
  ·exact nz_ok lAdd_ok_cJadd
  ·exact nz_ok lCmp_ok_cJcmp01
 ·exact DZl_ok p hp
noncomputable def DX:Tr Leaf:=mkD DXl
theorem DX_ok:LeafOK Tryz.prog DX:=mkD_ok DXl_ok
end Zc
end Go.Proofs.YtkdjilgddbjcaaaGreat
namespace Go.Proofs.YtkdjilgddbjcaaaGreat
open Go.RowKit
namespace Zc
def Tr.allB {α:Type} (p:Nat->α->Bool):Tr α->Nat->Nat->Bool
 | .l,_,_=>true
 | .n v a b,s,o=>(match v with | some x=>p o x | none=>true) && (allB p a (2*s) (o+s) && allB p b (2*s) (o+2*s))
theorem Tr.allB_get {α:Type} {p:Nat->α->Bool}:∀ (t:Tr α) (s o i:Nat) (x:α),t.allB p s o=true->t.get i=some x->p (o+s*i) x=true
 | .l,_,_,_,_,_,h=>by cases h
 | .n v a b,s,o,i,x,h,hi=>by
   simp only [Tr.allB,Bool.and_eq_true] at h
   rw [Tr.get_n] at hi
   by_cases h0:i=0
   ·rw [if_pos h0] at hi
    subst h0 hi
    simpa using h.1
   ·rw [if_neg h0] at hi
    by_cases h1:i % 2=1
    ·rw [if_pos h1] at hi
     have:=Tr.allB_get a (2*s) (o+s) _ x h.2.1 hi
     have e:o+s+2*s*((i - 1) / 2)=o+s*i:=by
      have e1:i=2*((i - 1) / 2)+1:=by omega
      generalize (i - 1) / 2=j at *
      subst e1
      rw [Nat.mul_add,Nat.mul_comm 2 s,Nat.mul_assoc]
      omega
     rwa [e] at this
    ·rw [if_neg h1] at hi
     have:=Tr.allB_get b (2*s) (o+2*s) _ x h.2.2 hi
     have e:o+2*s+2*s*((i - 1) / 2)=o+s*i:=by
      have e1:i=2*((i - 1) / 2)+2:=by omega
      generalize (i - 1) / 2=j at *
      subst e1
      rw [Nat.mul_add,Nat.mul_comm 2 s,Nat.mul_assoc]
      omega
     rwa [e] at this
def LZ:Tr ZL :=
 .n (none) (.n (none) (.n (some ⟨1,false,3,0,0,0,[],[.v (.int .i64 0)],[],[]⟩) (.n (none) (.n (none) (.n (none) (.n (none) (.n (none) (.n (some ⟨1,false,10,32,4,64,[.I 0,.I 0],[.v (.slice none 0 0)],[],[]⟩) (.l) (.l)) (.l)) (.n (some ⟨1,false,10,227,22,336,[.I 0,.I 0,.I 0,.I 0,.I 0,.I 0,.I 0,.I 0,.I 0,.I 0,.v (.int .i64 0),.v (.bool false)],[.v (.slice none 0 0)],[],[]⟩) (.l) (.l))) (.l)) (.n (none) (.l) (.n (some ⟨1,false,10,34,8,128,[.I 0,.I 0,.I 0,.I 0],[.v (.slice none 0 0)],[],[]⟩) (.l) (.l)))) (.n (none) (.n (none) (.n (none) (.n (none) (.n (some ⟨5,true,0,0,0,0,[],[.v (.int .i64 0),.v (.int .i64 0),.v (.int .i64 0),.v (.int .i64 0),.v (.bool false)],[(0,1),(1,1),(2,1),(3,1),(4,1)],[2,2,2,2,4]⟩) (.l) (.l)) (.l)) (.l)) (.n (some ⟨1,false,4,0,0,0,[],[.v (.int .u64 0)],[],[]⟩) (.l) (.n (some ⟨1,false,4,0,0,0,[],[.v (.int .u64 0)],[],[]⟩) (.l) (.l)))) (.n (none) (.n (some ⟨12,true,0,0,0,0,[],[.I 0,.I 0,.I 0,.I 0,.I 0,.I 0],[(0,4),(4,4),(8,4)],[32,32,32]⟩) (.n (none) (.n (some ⟨13,true,0,0,0,0,[],[.v (.int .i64 0),.I 0,.I 0,.I 0,.I 0,.I 0,.I 0],[(0,1),(1,12)],[3,87]⟩) (.l) (.l)) (.l)) (.l)) (.l)))) (.n (none) (.n (none) (.n (none) (.n (none) (.n (none) (.n (some ⟨1,false,10,3,1,8,[.v (.int .i64 0)],[.v (.slice none 0 0)],[],[]⟩) (.l) (.l)) (.l)) (.l)) (.n (none) (.l) (.n (some ⟨22,true,0,0,0,0,[],[.I 0,.I 0,.I 0,.I 0,.I 0,.I 0,.I 0,.I 0,.I 0,.I 0,.v (.int .i64 0),.v (.bool false)],[(0,20),(20,1),(21,1)],[81,3,4]⟩) (.l) (.l)))) (.n (some ⟨1,true,0,0,0,0,[],[.v (.slice none 0 0)],[(0,1)],[49]⟩) (.l) (.l))) (.l))) (.n (some ⟨1,false,7,0,0,0,[],[.v (.int .u8 0)],[],[]⟩) (.n (some ⟨1,false,11,0,0,0,[],[.v (.string ⟨#[]⟩)],[],[]⟩) (.n (none) (.l) (.n (some ⟨1,false,10,118,66,1040,[.v (.bool false),.I 0,.I 0,.I 0,.I 0,.I 0,.I 0,.I 0,.I 0,.I 0,.I 0,.I 0,.I 0,.v (.bool false),.I 0,.I 0,.I 0,.I 0,.I 0,.I 0,.I 0,.I 0,.I 0,.I 0,.I 0,.I 0,.I 0,.I 0,.I 0,.I 0,.I 0,.I 0,.I 0,.I 0],[.v (.slice none 0 0)],[],[]⟩) (.n (some ⟨20,true,0,0,0,0,[],[.I 0,.I 0,.I 0,.I 0,.I 0,.I 0,.I 0,.I 0,.I 0,.I 0],[(0,4),(4,4),(8,4),(12,4),(16,4)],[32,32,32,32,32]⟩) (.l) (.l)) (.n (some ⟨11,true,0,0,0,0,[],[.I 0,.I 0,.I 0,.I 0,.v (.slice none 0 0),.v (.slice none 0 0),.v (.slice none 0 0)],[(0,4),(4,4),(8,1),(9,1),(10,1)],[32,32,110,109,111]⟩) (.l) (.l)))) (.n (none) (.n (none) (.n (none) (.n (none) (.n (some ⟨1,false,10,109,1,24,[.v (.slice none 0 0)],[.v (.slice none 0 0)],[],[]⟩) (.l) (.l)) (.l)) (.l)) (.l)) (.l))) (.n (none) (.n (none) (.n (none) (.n (none) (.n (none) (.n (some ⟨1,false,10,263,5,40,[.v (.int .i64 0),.v (.int .i64 0),.v (.int .i64 0),.v (.int .i64 0),.v (.bool false)],[.v (.slice none 0 0)],[],[]⟩) (.l) (.l)) (.l)) (.l)) (.l)) (.l)) (.n (none) (.n (none) (.n (none) (.n (none) (.n (some ⟨1,false,3,0,0,0,[],[.v (.int .i64 0)],[],[]⟩) (.l) (.l)) (.l)) (.l)) (.n (some ⟨1,false,10,81,20,320,[.I 0,.I 0,.I 0,.I 0,.I 0,.I 0,.I 0,.I 0,.I 0,.I 0],[.v (.slice none 0 0)],[],[]⟩) (.n (some ⟨24,true,0,0,0,0,[],[.I 0,.I 0,.I 0,.I 0,.I 0,.I 0,.I 0,.I 0,.I 0,.I 0,.I 0,.I 0],[(0,4),(4,4),(8,4),(12,4),(16,4),(20,4)],[32,32,32,32,32,32]⟩) (.l) (.l)) (.l))) (.n (none) (.n (some ⟨8,true,0,0,0,0,[],[.I 0,.I 0,.I 0,.I 0],[(0,4),(4,4)],[32,32]⟩) (.n (none) (.n (some ⟨2,true,0,0,0,0,[],[.v (.int .i64 0),.v (.int .i64 0)],[(0,1),(1,1)],[2,2]⟩) (.l) (.l)) (.l)) (.l)) (.n (none) (.n (some ⟨1,false,10,191,1,24,[.v (.slice none 0 0)],[.v (.slice none 0 0)],[],[]⟩) (.l) (.l)) (.l))))))) (.n (some ⟨1,false,3,0,0,0,[],[.v (.int .i64 0)],[],[]⟩) (.n (some ⟨1,false,1,0,0,0,[],[.v (.bool false)],[],[]⟩) (.n (none) (.n (none) (.n (some ⟨4,true,0,0,0,0,[],[.I 0,.I 0],[(0,2),(2,2)],[30,30]⟩) (.l) (.l)) (.l)) (.n (none) (.n (none) (.l) (.n (none) (.l) (.n (some ⟨1,false,10,49,1,24,[.v (.slice none 0 0)],[.v (.slice none 0 0)],[],[]⟩) (.l) (.l)))) (.l))) (.n (none) (.n (none) (.n (none) (.n (none) (.n (none) (.n (some ⟨1,false,10,4,1,1,[.v (.bool false)],[.v (.slice none 0 0)],[],[]⟩) (.l) (.l)) (.l)) (.l)) (.l)) (.n (none) (.l) (.n (some ⟨12,true,0,0,0,0,[],[.I 0,.I 0,.I 0,.I 0,.I 0,.I 0],[(0,4),(4,4),(8,4)],[32,32,32]⟩) (.l) (.n (some ⟨13,true,0,0,0,0,[],[.v (.int .i64 0),.I 0,.I 0,.I 0,.I 0,.I 0,.I 0],[(0,1),(1,12)],[3,87]⟩) (.l) (.l))))) (.n (some ⟨1,false,2,98,0,0,[],[.sl []],[],[]⟩) (.n (none) (.n (some ⟨16,true,0,0,0,0,[],[.I 0,.I 0,.I 0,.I 0,.I 0,.I 0,.I 0,.I 0],[(0,4),(4,4),(8,4),(12,4)],[32,32,32,32]⟩) (.l) (.l)) (.l)) (.l)))) (.n (none) (.n (none) (.n (none) (.n (some ⟨8,true,0,0,0,0,[],[.I 0,.I 0,.I 0,.I 0],[(0,4),(4,4)],[32,32]⟩) (.l) (.n (none) (.n (none) (.n (some ⟨1,false,10,2,1,8,[.v (.int .i64 0)],[.v (.slice none 0 0)],[],[]⟩) (.l) (.l)) (.l)) (.l))) (.n (none) (.l) (.n (some ⟨12,true,0,0,0,0,[],[.I 0,.I 0,.I 0,.I 0,.I 0,.I 0],[(0,4),(4,4),(8,4)],[32,32,32]⟩) (.l) (.l)))) (.l)) (.n (none) (.n (none) (.n (some ⟨1,false,3,0,0,0,[],[.v (.int .i64 0)],[],[]⟩) (.l) (.l)) (.n (none) (.l) (.n (some ⟨66,true,0,0,0,0,[],[.v (.bool false),.I 0,.I 0,.I 0,.I 0,.I 0,.I 0,.I 0,.I 0,.I 0,.I 0,.I 0,.I 0,.v (.bool false),.I 0,.I 0,.I 0,.I 0,.I 0,.I 0,.I 0,.I 0,.I 0,.I 0,.I 0,.I 0,.I 0,.I 0,.I 0,.I 0,.I 0,.I 0,.I 0,.I 0],[(0,1),(1,12),(13,12),(25,1),(26,20),(46,20)],[4,114,116,4,81,81]⟩) (.l) (.l)))) (.n (some ⟨2,true,0,0,0,0,[],[.I 0],[(0,1),(1,1)],[4,28]⟩) (.n (none) (.l) (.n (some ⟨1,false,10,51,1,24,[.v (.slice none 0 0)],[.v (.slice none 0 0)],[],[]⟩) (.l) (.l))) (.l)))))
theorem LZ_ok:TyOK Tryz.prog LZ:=by
 have h:LZ.allB (zlB Tryz.prog) 1 0=true:=by kernel_rfl
 intro t l ht
 have:=Tr.allB_get LZ 1 0 t l h ht
 rw [Nat.zero_add,Nat.one_mul] at this
 exact zlB_ok this
end Zc
end Go.Proofs.YtkdjilgddbjcaaaGreat
namespace Go.Proofs.YtkdjilgddbjcaaaGreat
open Go.RowKit
namespace Zc
noncomputable def WZ (f:Nat):Bool:=memN [50,83,84,130,188,228,237,276,278,296,355,358,380,383,398,415,423] f
noncomputable def UZ (f:Nat):Bool:=memN [4,7,11,14,21,25,28,31,32,34,43,49,56,57,65,66,67,70,88,90,91,97,99,100,101,102,103,104,111,112,113,114,117,120,127,133,134,137,140,141,142,143,144,145,146,147,151,152,153,154,155,156,157,158,159,160,165,166,167,172,174,175,178,179,181,182,183,189,193,196,197,198,199,200,201,202,203,204,207,208,209,210,211,212,213,220,222,223,224,230,231,232,233,234,235,236,238,239,241,244,245,246,247,248,249,252,253,254,255,256,257,259,260,261,264,265,266,267,269,270,271,272,273,274,275,277,280,281,283,284,285,286,287,288,289,294,295,305,306,307,308,312,317,318,319,320,322,324,325,327,330,331,332,333,334,335,336,337,338,339,340,342,343,344,345,346,347,348,349,350,351,352,354,359,360,364,372,373,374,375,376,378,379,382,385,386,387,389,391,392,393,394,395,396,397,402,403,407,408,409,410,411,412,413,414,416,418,421,422,425,426] f
noncomputable def FZ:Nat->Option ZF:=zfuns Tryz.prog
def fuZ:Nat:=4000
def dpZ:Nat:=64
theorem FZ_ok:FunOK Tryz.prog FZ:=zfuns_ok _
noncomputable def E0:Tr Leaf:=upD LZ WZ UZ FZ fuZ dpZ DX [167,324]
theorem E0_ok:LeafOK Tryz.prog E0:=upD_ok Vc.mixed LZ_ok FZ_ok DX_ok _
noncomputable def E1:Tr Leaf:=upD LZ WZ UZ FZ fuZ dpZ E0 [14,25,32,43,49,57,67,88,90,103,104,111,120,134,137,155,165,166,200,204,209,210,212,220,231,253,254,255,256,260,266,267,273,281,285,286,287,288,305,306,330,331,332,338,343,344,348,349,350,351,364,375,389,391,393,395,396,402,403,407,408,409,410,413,425,426]
theorem E1_ok:LeafOK Tryz.prog E1:=upD_ok Vc.mixed LZ_ok FZ_ok E0_ok _
noncomputable def E2:Tr Leaf:=upD LZ WZ UZ FZ fuZ dpZ E1 [11,21,56,65,112,113,114,154,159,172,196,197,201,208,230,233,234,238,265,294,295,322,325,333,335,337,339,347,359,360,378,387,416,418,421]
theorem E2_ok:LeafOK Tryz.prog E2:=upD_ok Vc.mixed LZ_ok FZ_ok E1_ok _
noncomputable def E3:Tr Leaf:=upD LZ WZ UZ FZ fuZ dpZ E2 [66,70,101,117,140,141,142,143,147,152,178,181,182,183,222,223,236,249,259,269,271,283,308,334,336,342,372,374,386,411]
theorem E3_ok:LeafOK Tryz.prog E3:=upD_ok Vc.mixed LZ_ok FZ_ok E2_ok _
noncomputable def E4:Tr Leaf:=upD LZ WZ UZ FZ fuZ dpZ E3 [28,31,99,153,157,202,211,261,272,320,327,345,373,397]
theorem E4_ok:LeafOK Tryz.prog E4:=upD_ok Vc.mixed LZ_ok FZ_ok E3_ok _
noncomputable def E5:Tr Leaf:=upD LZ WZ UZ FZ fuZ dpZ E4 [34,100,156,158,198,235,247,284,289,307,346,354,376,392,394]
theorem E5_ok:LeafOK Tryz.prog E5:=upD_ok Vc.mixed LZ_ok FZ_ok E4_ok _
noncomputable def E6:Tr Leaf:=upD LZ WZ UZ FZ fuZ dpZ E5 [7,127,145,232,257,270,275,340,352]
theorem E6_ok:LeafOK Tryz.prog E6:=upD_ok Vc.mixed LZ_ok FZ_ok E5_ok _
noncomputable def E7:Tr Leaf:=upD LZ WZ UZ FZ fuZ dpZ E6 [97,179,199,213,241,252,264,274,318,319]
theorem E7_ok:LeafOK Tryz.prog E7:=upD_ok Vc.mixed LZ_ok FZ_ok E6_ok _
noncomputable def E8:Tr Leaf:=upD LZ WZ UZ FZ fuZ dpZ E7 [133,146,160,207,224,246,277,422]
theorem E8_ok:LeafOK Tryz.prog E8:=upD_ok Vc.mixed LZ_ok FZ_ok E7_ok _
noncomputable def E9:Tr Leaf:=upD LZ WZ UZ FZ fuZ dpZ E8 [102,144,175,239,244,248,414]
theorem E9_ok:LeafOK Tryz.prog E9:=upD_ok Vc.mixed LZ_ok FZ_ok E8_ok _
noncomputable def E10:Tr Leaf:=upD LZ WZ UZ FZ fuZ dpZ E9 [91,151,174,189,193,245,412]
theorem E10_ok:LeafOK Tryz.prog E10:=upD_ok Vc.mixed LZ_ok FZ_ok E9_ok _
noncomputable def E11:Tr Leaf:=upD LZ WZ UZ FZ fuZ dpZ E10 [203,379]
theorem E11_ok:LeafOK Tryz.prog E11:=upD_ok Vc.mixed LZ_ok FZ_ok E10_ok _
noncomputable def E12:Tr Leaf:=upD LZ WZ UZ FZ fuZ dpZ E11 [312,382]
theorem E12_ok:LeafOK Tryz.prog E12:=upD_ok Vc.mixed LZ_ok FZ_ok E11_ok _
noncomputable def E13:Tr Leaf:=upD LZ WZ UZ FZ fuZ dpZ E12 [317]
theorem E13_ok:LeafOK Tryz.prog E13:=upD_ok Vc.mixed LZ_ok FZ_ok E12_ok _
noncomputable def E14:Tr Leaf:=upD LZ WZ UZ FZ fuZ dpZ E13 [280,385]
theorem E14_ok:LeafOK Tryz.prog E14:=upD_ok Vc.mixed LZ_ok FZ_ok E13_ok _
noncomputable def E15:Tr Leaf:=upD LZ WZ UZ FZ fuZ dpZ E14 [4]
theorem E15_ok:LeafOK Tryz.prog E15:=upD_ok Vc.mixed LZ_ok FZ_ok E14_ok _
end Zc
end Go.Proofs.YtkdjilgddbjcaaaGreat
namespace Go.Proofs.YtkdjilgddbjcaaaGreat
open Go.RowKit
namespace Zc
open Vc (entersB)
section
variable (ρ:Nat->Nat)
noncomputable def renP (ks:List (Nat × Nat)):List (Nat × Nat):=List.rec [] (fun p _ ih=>(ρ p.1,p.2) :: ih) ks
noncomputable def ren1 (x:LF):LF:=LF.rec (fun v=>.v v) (fun l=>.sl l) (fun z=>.I z) (fun k off=>.p (ρ k) off) (fun k off n c sz=>.s (ρ k) off n c sz) .e0 (fun f ks=>.fn f (renP ρ ks)) x
noncomputable def renL (l:List LF):List LF:=List.rec [] (fun x _ ih=>ren1 ρ x :: ih) l
noncomputable def renK (x:KK):KK:=KK.rec (fun x=>.c (ren1 ρ x)) (fun l=>.g (renL ρ l)) x
noncomputable def renKs (l:List KK):List KK:=List.rec [] (fun x _ ih=>renK ρ x :: ih) l
noncomputable def renV (x:KV):KV:=KV.rec .u (fun x=>.k (renK ρ x)) (fun l=>.t (renKs ρ l)) x
noncomputable def renB (b:Bx):Bx:=⟨b.T,renL ρ b.cs⟩
end
section
variable {ρ:Nat->Nat} {bm:BM} {w:World}
theorem renP_rel:∀ {ks:List (Nat × Nat)} {us:List Value},relP bm (renP ρ ks) us ↔ relP (fun k=>bm (ρ k)) ks us
 | [],[]=>Iff.rfl
 | p :: ks,u :: us=>by
   show (_/\relP bm (renP ρ ks) us) ↔ (_/\relP _ ks us)
   rw [renP_rel (ks:=ks) (us:=us)]
 | [],_ :: _=>Iff.rfl
 | _ :: _,[]=>Iff.rfl
theorem ren1_rel {x:LF} {u:Value}:rel1 bm w (ren1 ρ x) u ↔ rel1 (fun k=>bm (ρ k)) w x u:=by
 cases x with
 | fn f ks =>
   show (∃ us,relP bm (renP ρ ks) us/\_) ↔ ∃ us,relP _ ks us/\_
   simp only [renP_rel]
 | _=>exact Iff.rfl
theorem ren1_flat (x:LF):(ren1 ρ x).flat=x.flat.map (ren1 ρ):=by cases x <;> rfl
theorem renL_flats:∀ l:List LF,flats (renL ρ l)=(flats l).map (ren1 ρ)
 | []=>rfl
 | x :: l=>by
   show (ren1 ρ x).flat ++ flats (renL ρ l)=(x.flat ++ flats l).map (ren1 ρ)
   rw [renL_flats l,ren1_flat,List.map_append]
theorem map_rel:∀ {l:List LF} {us:List Value},relL bm w (l.map (ren1 ρ)) us ↔ relL (fun k=>bm (ρ k)) w l us
 | [],[]=>Iff.rfl
 | x :: l,u :: us=>by
   show (rel1 bm w (ren1 ρ x) u/\relL bm w (l.map (ren1 ρ)) us) ↔ (_/\_)
   rw [ren1_rel,map_rel]
 | [],_ :: _=>Iff.rfl
 | _ :: _,[]=>Iff.rfl
theorem renK_rel {x:KK} {u:Value}:relK bm w (renK ρ x) u ↔ relK (fun k=>bm (ρ k)) w x u:=by
 cases x with
 | c x=>exact ren1_rel
 | g l =>
   show (∃ us:List Value,_/\relL bm w (flats (renL ρ l)) us) ↔ ∃ us:List Value,_/\relL _ w (flats l) us
   simp only [renL_flats,map_rel]
theorem renKs_rel:∀ {l:List KK} {us:List Value},relKs bm w (renKs ρ l) us ↔ relKs (fun k=>bm (ρ k)) w l us
 | [],[]=>Iff.rfl
 | x :: l,u :: us=>by
   show (relK bm w (renK ρ x) u/\relKs bm w (renKs ρ l) us) ↔ (_/\_)
   rw [renK_rel,renKs_rel]
 | [],_ :: _=>Iff.rfl
 | _ :: _,[]=>Iff.rfl
theorem renV_rel {x:KV} {u:Value}:relV bm w (renV ρ x) u ↔ relV (fun k=>bm (ρ k)) w x u:=by
 cases x with
 | u=>exact Iff.rfl
 | k x=>exact renK_rel
 | t l =>
   show (∃ us:List Value,_/\relKs bm w (renKs ρ l) us) ↔ ∃ us:List Value,_/\relKs _ w l us
   simp only [renKs_rel]
theorem renB_rel {b:Nat} {x:Bx}:BoxAt bm w b (renB ρ x) ↔ BoxAt (fun k=>bm (ρ k)) w b x:=by
 show (∃ vs rs:List Value,_/\relL bm w (flats (renL ρ x.cs)) vs/\_) ↔ ∃ vs rs:List Value,_/\relL _ w (flats x.cs) vs/\_
 simp only [renL_flats,map_rel]
 exact Iff.rfl
theorem low_box {n:Nat} {bm bm':BM} (hb:∀ k,k < n->bm' k=bm k) {b:Nat} {x:Bx} (hl:lowLs n x.cs=true) (h:BoxAt bm w b x):BoxAt bm' w b x:=by
 obtain ⟨vs,rs,h1,h2,h3⟩:=h
 exact ⟨vs,rs,h1,lowLs_rel hb (lowLs_flat hl) h2,h3⟩
end
structure MP where
 n0:Nat
 xs:List KK
 B0:List Bx
 r:KV
 B1:List Bx
noncomputable def lowBs (n:Nat) (l:List Bx):Bool:=List.rec true (fun b _ ih=>Bool.rec false ih (lowLs n b.cs)) l
theorem lowBs_mem {n:Nat}:∀ {l:List Bx},lowBs n l=true->∀ x ∈ l,lowLs n x.cs=true
 | [],_,_,hx=>by cases hx
 | b :: l,h,x,hx=>by
   obtain ⟨h1,h2⟩:=rec_and h
   rcases List.mem_cons.1 hx with rfl | hx
   ·exact h1
   ·exact lowBs_mem h2 x hx
structure MPOK (P:Program) (f:Nat) (p:MP):Prop where
 ent:entersB P f=true
 len:p.B0.length=p.n0
 lx:lowKs p.n0 p.xs=true
 l0:lowBs p.n0 p.B0=true
 lr:lowV (p.n0+p.B1.length) p.r=true
 l1:lowBs (p.n0+p.B1.length) p.B1=true
 run:∀ (bm:BM) (w:World) (vs:List Value),(∀ k,p.n0 <= k->bm k=none)->(∀ k b x,bm k=some b->p.B0[k]?=some x->BoxAt bm w b x)->(∀ k b,bm k=some b->SoftAt w b)->(∀ k j b,bm k=some b->bm j=some b->k=j)->relKs bm w p.xs vs ->
  Calls P f vs.toArray w fun e w'=>∃ v bm',e=.returned v/\Frame 0 0 (fun _=>none) w w'/\(∀ k,k < p.n0->bm' k=bm k)/\(∀ k b,p.n0 <= k->k < p.n0+p.B1.length->bm' k=some b->w.heap.size <= b/\SoftAt w' b) /\
   (∀ i b x,p.B1[i]?=some x->bm' (p.n0+i)=some b->BoxAt bm' w' b x)/\(∀ k j b,p.n0 <= k->k < p.n0+p.B1.length->p.n0 <= j->j < p.n0+p.B1.length->bm' k=some b->bm' j=some b->k=j)/\relV bm' w' p.r v
noncomputable def eqNs (l:List Nat):List Nat->Bool:=List.rec (motive:=fun _=>List Nat->Bool) (fun r=>List.rec (motive:=fun _=>Bool) true (fun _ _ _=>false) r) (fun a _ ih r=>List.rec (motive:=fun _=>Bool) false (fun b r _=>Bool.rec (motive:=fun _=>Bool) false (ih r) (Nat.beq a b)) r) l
theorem eqNs_eq:∀ {l r:List Nat},eqNs l r=true->l=r
 | [],[],_=>rfl
 | [],_ :: _,h=>by cases h
 | _ :: _,[],h=>by cases h
 | a :: l,b :: r,h=>by
   obtain ⟨h1,h2⟩:=rec_and (a:=Nat.beq a b) (b:=eqNs l r) h
   rw [nbeq_yes h1,eqNs_eq h2]
noncomputable def eqVl (a b:Value):Bool :=
 match a,b with
 | .int k n,.int k' n'=>Bool.rec (motive:=fun _=>Bool) false (eqI n n') (Nat.beq (kNo k) (kNo k'))
 | .bool a,.bool b=>Bool.rec (motive:=fun _=>Bool) (Bool.rec (motive:=fun _=>Bool) true false b) b a
 | .string a,.string b=>decide (a=b)
 | .slice none n c,.slice none n' c'=>Bool.rec (motive:=fun _=>Bool) false (Nat.beq c c') (Nat.beq n n')
 | .pointer none,.pointer none=>true
 | .nilFunc,.nilFunc=>true
 | _,_=>false
theorem eqVl_eq {a b:Value} (h:eqVl a b=true):a=b:=by
 unfold eqVl at h
 split at h
 ·obtain ⟨h1,h2⟩:=rec_and h
  rw [kNo_eq] at h1
  rw [eqI_eq] at h2
  rw [of_decide_eq_true h1,of_decide_eq_true h2]
 ·rename_i a b
  cases a <;> cases b <;> first | rfl | cases h
 ·rw [of_decide_eq_true h]
 ·obtain ⟨h1,h2⟩:=rec_and h
  rw [nbeq_yes h1,nbeq_yes h2]
 ·rfl
 ·rfl
 ·cases h
noncomputable def eqPs (ρ:Nat->Nat) (l:List (Nat × Nat)):List (Nat × Nat)->Bool:=List.rec (motive:=fun _=>List (Nat × Nat)->Bool) (fun r=>List.rec (motive:=fun _=>Bool) true (fun _ _ _=>false) r) (fun a _ ih r=>List.rec (motive:=fun _=>Bool) false (fun b r _=>Bool.rec (motive:=fun _=>Bool) false (Bool.rec (motive:=fun _=>Bool) false (ih r) (Nat.beq a.2 b.2)) (Nat.beq (ρ a.1) b.1)) r) l
theorem eqPs_eq {ρ:Nat->Nat}:∀ {l r:List (Nat × Nat)},eqPs ρ l r=true->renP ρ l=r
 | [],[],_=>rfl
 | [],_ :: _,h=>by cases h
 | _ :: _,[],h=>by cases h
 | (a,c) :: l,(b,d) :: r,h=>by
   obtain ⟨h1,h2⟩:=rec_and (a:=Nat.beq (ρ a) b) (b:=Bool.rec (motive:=fun _=>Bool) false (eqPs ρ l r) (Nat.beq c d)) h
   obtain ⟨h3,h4⟩:=rec_and (a:=Nat.beq c d) (b:=eqPs ρ l r) h2
   show (ρ a,c) :: renP ρ l=_
   rw [nbeq_yes h1,nbeq_yes h3,eqPs_eq h4]
noncomputable def eq1 (ρ:Nat->Nat) (x y:LF):Bool :=
 match x,y with
 | .v a,.v b=>eqVl a b
 | .sl a,.sl b=>eqNs a b
 | .I a,.I b=>eqI a b
 | .p k o,.p k' o'=>Bool.rec (motive:=fun _=>Bool) false (Nat.beq o o') (Nat.beq (ρ k) k')
 | .s k o n c z,.s k' o' n' c' z'=>Bool.rec (motive:=fun _=>Bool) false (Bool.rec (motive:=fun _=>Bool) false (Bool.rec (motive:=fun _=>Bool) false (Bool.rec (motive:=fun _=>Bool) false (Nat.beq z z') (Nat.beq c c')) (Nat.beq n n')) (Nat.beq o o')) (Nat.beq (ρ k) k')
 | .e0,.e0=>true
 | .fn f l,.fn g r=>Bool.rec (motive:=fun _=>Bool) false (eqPs ρ l r) (Nat.beq f g)
 | _,_=>false
theorem eq1_eq {ρ:Nat->Nat} {x y:LF} (h:eq1 ρ x y=true):ren1 ρ x=y:=by
 unfold eq1 at h
 split at h
 ·rw [eqVl_eq h]; rfl
 ·rw [eqNs_eq h]; rfl
 ·rw [eqI_eq] at h; rw [of_decide_eq_true h]; rfl
 ·obtain ⟨h1,h2⟩:=rec_and h
  show LF.p (ρ _) _=_
  rw [nbeq_yes h1,nbeq_yes h2]
 ·obtain ⟨h1,h2⟩:=rec_and h
  obtain ⟨h3,h4⟩:=rec_and h2
  obtain ⟨h5,h6⟩:=rec_and h4
  obtain ⟨h7,h8⟩:=rec_and h6
  show LF.s (ρ _) _ _ _ _=_
  rw [nbeq_yes h1,nbeq_yes h3,nbeq_yes h5,nbeq_yes h7,nbeq_yes h8]
 ·rfl
 ·obtain ⟨h1,h2⟩:=rec_and h
  show LF.fn _ (renP ρ _)=_
  rw [nbeq_yes h1,eqPs_eq h2]
 ·cases h
noncomputable def eqL (ρ:Nat->Nat) (l:List LF):List LF->Bool:=List.rec (motive:=fun _=>List LF->Bool) (fun r=>List.rec (motive:=fun _=>Bool) true (fun _ _ _=>false) r) (fun a _ ih r=>List.rec (motive:=fun _=>Bool) false (fun b r _=>Bool.rec (motive:=fun _=>Bool) false (ih r) (eq1 ρ a b)) r) l
theorem eqL_eq {ρ:Nat->Nat}:∀ {l r:List LF},eqL ρ l r=true->renL ρ l=r
 | [],[],_=>rfl
 | [],_ :: _,h=>by cases h
 | _ :: _,[],h=>by cases h
 | a :: l,b :: r,h=>by
   obtain ⟨h1,h2⟩:=rec_and (a:=eq1 ρ a b) (b:=eqL ρ l r) h
   show ren1 ρ a :: renL ρ l=_
   rw [eq1_eq h1,eqL_eq h2]
noncomputable def eqK' (ρ:Nat->Nat) (x y:KK):Bool :=
 match x,y with
 | .c a,.c b=>eq1 ρ a b
 | .g a,.g b=>eqL ρ a b
 | _,_=>false
theorem eqK'_eq {ρ:Nat->Nat} {x y:KK} (h:eqK' ρ x y=true):renK ρ x=y:=by
 unfold eqK' at h
 split at h
 ·show KK.c (ren1 ρ _)=_
  rw [eq1_eq h]
 ·show KK.g (renL ρ _)=_
  rw [eqL_eq h]
 ·cases h
noncomputable def eqKs' (ρ:Nat->Nat) (l:List KK):List KK->Bool:=List.rec (motive:=fun _=>List KK->Bool) (fun r=>List.rec (motive:=fun _=>Bool) true (fun _ _ _=>false) r) (fun a _ ih r=>List.rec (motive:=fun _=>Bool) false (fun b r _=>Bool.rec (motive:=fun _=>Bool) false (ih r) (eqK' ρ a b)) r) l
theorem eqKs'_eq {ρ:Nat->Nat}:∀ {l r:List KK},eqKs' ρ l r=true->renKs ρ l=r
 | [],[],_=>rfl
 | [],_ :: _,h=>by cases h
 | _ :: _,[],h=>by cases h
 | a :: l,b :: r,h=>by
   obtain ⟨h1,h2⟩:=rec_and (a:=eqK' ρ a b) (b:=eqKs' ρ l r) h
   show renK ρ a :: renKs ρ l=_
   rw [eqK'_eq h1,eqKs'_eq h2]
noncomputable def eqV' (ρ:Nat->Nat) (x y:KV):Bool :=
 match x,y with
 | .u,.u=>true
 | .k a,.k b=>eqK' ρ a b
 | .t a,.t b=>eqKs' ρ a b
 | _,_=>false
theorem eqV'_eq {ρ:Nat->Nat} {x y:KV} (h:eqV' ρ x y=true):renV ρ x=y:=by
 unfold eqV' at h
 split at h
 ·rfl
 ·show KV.k (renK ρ _)=_
  rw [eqK'_eq h]
 ·show KV.t (renKs ρ _)=_
  rw [eqKs'_eq h]
 ·cases h
noncomputable def eqBs (ρ:Nat->Nat) (H:Hp Bx) (l:List Bx):Nat->Bool:=List.rec (motive:=fun _=>Nat->Bool) (fun _=>true) (fun b _ ih k=>Option.rec (motive:=fun _=>Bool) false (fun c=>Bool.rec (motive:=fun _=>Bool) false (Bool.rec (motive:=fun _=>Bool) false (ih (Nat.succ k)) (Nat.beq b.T c.T)) (eqL ρ b.cs c.cs)) (getH H (ρ k))) l
theorem eqBs_eq {ρ:Nat->Nat} {H:Hp Bx}:∀ {l:List Bx} {k:Nat},eqBs ρ H l k=true->∀ i x,l[i]?=some x->H.get (ρ (k+i))=some (renB ρ x)
 | [],_,_,i,x,hi=>by simp at hi
 | b :: l,k,h,i,x,hi=>by
   have h':Option.rec (motive:=fun _=>Bool) false (fun c=>Bool.rec (motive:=fun _=>Bool) false (Bool.rec (motive:=fun _=>Bool) false (eqBs ρ H l (Nat.succ k)) (Nat.beq b.T c.T)) (eqL ρ b.cs c.cs)) (getH H (ρ k))=true:=h
   rw [getH_eq] at h'
   cases hg:H.get (ρ k) with
   | none=>rw [hg] at h'; cases h'
   | some c =>
     rw [hg] at h'
     obtain ⟨h1,h2⟩:=rec_and (a:=eqL ρ b.cs c.cs) h'
     obtain ⟨h3,h4⟩:=rec_and (a:=Nat.beq b.T c.T) (b:=eqBs ρ H l (Nat.succ k)) h2
     cases i with
     | zero =>
       have e:b=x:=by simpa using hi
       subst e
       rw [Nat.add_zero,hg]
       show some c=some ⟨b.T,renL ρ b.cs⟩
       rw [eqL_eq h1,nbeq_yes h3]
     | succ i =>
       have:=eqBs_eq h4 i x (by simpa using hi)
       rwa [Nat.succ_add,<- Nat.add_succ] at this
noncomputable def injB (ρ:Nat->Nat) (a:Nat) (n:Nat) (I:Hp Nat):Bool:=Nat.rec (motive:=fun _=>Bool) true (fun k ih=>Bool.rec (motive:=fun _=>Bool) false ih (Option.rec (motive:=fun _=>Bool) false (fun j=>Nat.beq j (Nat.add a k)) (Hp.get I (ρ (Nat.add a k))))) n
theorem injB_get {ρ:Nat->Nat} {a:Nat} {I:Hp Nat}:∀ {n:Nat},injB ρ a n I=true->∀ k,k < n->Hp.get I (ρ (a+k))=some (a+k)
 | 0,_,k,hk=>by omega
 | n+1,h,k,hk=>by
   obtain ⟨h1,h2⟩:=rec_and (b:=injB ρ a n I) h
   by_cases e:k=n
   ·subst e
    have h1':Option.rec (motive:=fun _=>Bool) false (fun j=>Nat.beq j (a+k)) (Hp.get I (ρ (a+k)))=true:=h1
    cases hg:Hp.get I (ρ (a+k)) with
    | none=>rw [hg] at h1'; cases h1'
    | some j=>rw [hg] at h1'; rw [nbeq_yes h1']
   ·exact injB_get h2 k (by omega)
theorem injB_inj {ρ:Nat->Nat} {a n:Nat} {I:Hp Nat} (h:injB ρ a n I=true) {k j:Nat} (h1:a <= k) (h2:k < a+n) (h3:a <= j) (h4:j < a+n) (e:ρ k=ρ j):k=j:=by
 have g1:=injB_get h (k - a) (by omega)
 have g2:=injB_get h (j - a) (by omega)
 rw [show a+(k - a)=k by omega] at g1
 rw [show a+(j - a)=j by omega] at g2
 rw [e,g2] at g1
 simpa using g1.symm
section
variable {P:Program}
noncomputable def putL (l:List Bx):Nat->Hp Bx->Hp Bx:=List.rec (motive:=fun _=>Nat->Hp Bx->Hp Bx) (fun _ H=>H) (fun b _ ih k H=>ih (Nat.succ k) (Hp.put H k (some b))) l
theorem putL_get:∀ (l:List Bx) (k:Nat) (H:Hp Bx) (j:Nat) (x:Bx),(putL l k H).get j=some x->(k <= j/\l[j - k]?=some x) \/ (H.get j=some x/\¬ (k <= j/\j < k+l.length))
 | [],k,H,j,x,h=>.inr ⟨h,by simp⟩
 | b :: l,k,H,j,x,h=>by
   rcases putL_get l (k+1) (Hp.put H k (some b)) j x h with ⟨h1,h2⟩ | ⟨h1,h2⟩
   ·refine .inl ⟨by omega,?_⟩
    rw [show j - k=(j - (k+1))+1 by omega]
    simpa using h2
   ·by_cases e:j=k
    ·subst e
     have:=Hp.put_eq _ _ _ _ h1
     exact .inl ⟨Nat.le_refl _,by simpa using this⟩
    ·rw [Hp.put_ne _ _ _ _ e] at h1
     exact .inr ⟨h1,by simp only [List.length_cons]; omega⟩
noncomputable def mkH (l:List Bx):Hp Bx:=putL l 0 noBox
theorem mkH_get {l:List Bx} {j:Nat} {x:Bx} (h:(mkH l).get j=some x):l[j]?=some x:=by
 rcases putL_get l 0 noBox j x h with ⟨_,h2⟩ | ⟨h1,_⟩
 ·exact h2
 ·have:(noBox:Hp Bx).get j=none:=Hp.mk_none j
  rw [this] at h1
  cases h1
theorem mkH_low (l:List Bx):Low (mkH l) l.length:=fun k hk=>by
 cases h:(mkH l).get k with
 | none=>rfl
 | some x =>
   have:=mkH_get h
   rw [List.getElem?_eq_none hk] at this
   cases this
noncomputable def rho2 (n0:Nat) (E:Fr Nat) (k:Nat):Nat:=Bool.rec (motive:=fun _=>Nat) (Option.rec (motive:=fun _=>Nat) 0 (fun x=>x) (Fr.get E k)) k (Nat.ble (Nat.succ k) n0)
theorem rho2_lt {n0 k:Nat} {E:Fr Nat} (h:k < n0):rho2 n0 E k=k:=by
 unfold rho2
 rw [Nat.ble_eq_true_of_le (show Nat.succ k <= n0 from h)]
noncomputable def geB (ρ:Nat->Nat) (n0 a n:Nat):Bool:=Nat.rec (motive:=fun _=>Bool) true (fun k ih=>Bool.rec (motive:=fun _=>Bool) false ih (Nat.ble n0 (ρ (Nat.add a k)))) n
theorem geB_get {ρ:Nat->Nat} {n0 a:Nat}:∀ {n:Nat},geB ρ n0 a n=true->∀ k,k < n->n0 <= ρ (a+k)
 | 0,_,k,hk=>by omega
 | n+1,h,k,hk=>by
   obtain ⟨h1,h2⟩:=rec_and (b:=geB ρ n0 a n) h
   by_cases e:k=n
   ·subst e; exact nble_yes h1
   ·exact geB_get h2 k (by omega)
noncomputable def chk1 (p:MP) (E:Fr Nat) (I:Hp Nat) (r:KV) (H:Hp Bx):Bool :=
 Bool.rec (motive:=fun _=>Bool) false (Bool.rec (motive:=fun _=>Bool) false (Bool.rec (motive:=fun _=>Bool) false (geB (rho2 p.n0 E) p.n0 p.n0 (len p.B1)) (injB (rho2 p.n0 E) p.n0 (len p.B1) I)) (eqBs (rho2 p.n0 E) H p.B1 p.n0)) (eqV' (rho2 p.n0 E) p.r r)
noncomputable def chk0 (p:MP):Bool :=
 Bool.rec (motive:=fun _=>Bool) false (Bool.rec (motive:=fun _=>Bool) false (Bool.rec (motive:=fun _=>Bool) false (Bool.rec (motive:=fun _=>Bool) false (lowBs (Nat.add p.n0 (len p.B1)) p.B1) (lowV (Nat.add p.n0 (len p.B1)) p.r)) (lowBs p.n0 p.B0)) (lowKs p.n0 p.xs)) (Nat.beq (len p.B0) p.n0)
theorem MPOK.of {f:Nat} {p:MP} {E:Fr Nat} {I:Hp Nat} {q:Res} (h0:chk0 p=true) (hc:CallOK P p.n0 f p.xs (mkH p.B0) p.n0 q) (h1:chk1 p E I q.r q.H=true):MPOK P f p:=by
 unfold chk0 at h0
 unfold chk1 at h1
 obtain ⟨a1,h0⟩:=rec_and h0
 obtain ⟨a2,h0⟩:=rec_and h0
 obtain ⟨a3,h0⟩:=rec_and h0
 obtain ⟨a4,a5⟩:=rec_and h0
 obtain ⟨b1,h1⟩:=rec_and h1
 obtain ⟨b2,h1⟩:=rec_and h1
 obtain ⟨b3,b4⟩:=rec_and h1
 rw [len_eq] at a1 a4 a5 b3 b4
 have a1:=nbeq_yes a1
 refine ⟨hc.1,a1,a2,a3,a4,a5,fun bm w vs g1 g2 g3 g4 g5=>?_⟩
 obtain ⟨s,hrun⟩:=hc.2 (Nat.le_refl _) (by have:=mkH_low p.B0; rwa [a1] at this)
 have ok0:Ok (mkH p.B0) bm w:=⟨fun k b x k1 k2=>g2 k b x k1 (mkH_get k2),g3,fun k j b x y k1 k2 _ _=>g4 k j b k1 k2⟩
 refine (hrun bm w vs ok0 (fun k k1 k2=>g1 k k1) g5).mono ?_
 rintro e w' ⟨v,rfl,bm1,g,fr,ok,hv⟩
 have eB:=eqBs_eq b2
 have eV:=eqV'_eq b1
 generalize hρ:rho2 p.n0 E=ρ at *
 have ρlt:∀ k,k < p.n0->ρ k=k:=fun k hk=>by rw [<- hρ]; exact rho2_lt hk
 have ρge:∀ k,p.n0 <= k->k < p.n0+p.B1.length->p.n0 <= ρ k:=fun k k1 k2=>by
  have:=geB_get b4 (k - p.n0) (by omega)
  rwa [show p.n0+(k - p.n0)=k by omega] at this
 have live:∀ k,p.n0 <= k->k < p.n0+p.B1.length->∃ x,q.H.get (ρ k)=some x:=fun k k1 k2=>by
  have:=eB (k - p.n0) _ (List.getElem?_eq_getElem (show k - p.n0 < p.B1.length by omega))
  rw [show p.n0+(k - p.n0)=k by omega] at this
  exact ⟨_,this⟩
 refine ⟨v,fun k=>bm1 (ρ k),rfl,⟨fr.le,fun b hb _=>fr.same b hb (fun k k1 k2=>by omega),fr.sz,fr.soft,fr.env⟩,fun k hk=>?_,fun k b k1 k2 k3=>⟨?_,ok.soft _ _ k3⟩,fun i b x k1 k2=>?_,fun k j b k1 k2 k3 k4 k5 k6=>?_,?_⟩
 ·show bm1 (ρ k)=bm k
  rw [ρlt k hk]
  exact g.same k (by omega)
 ·have hx:=ρge k k1 k2
  obtain ⟨x,hx'⟩:=live k k1 k2
  rcases g.fresh (ρ k) b hx (s.low.lt hx') k3 with h | ⟨j,j1,j2,_⟩
  ·exact h
  ·omega
 ·have:=ok.box _ b _ k2 (eB i x k1)
  exact renB_rel.1 this
 ·obtain ⟨x,hx⟩:=live k k1 k2
  obtain ⟨y,hy⟩:=live j k3 k4
  exact injB_inj b3 k1 k2 k3 k4 (ok.inj _ _ b x y k5 k6 hx hy)
 ·rw [<- eV] at hv
  exact renV_rel.1 hv
end
noncomputable def rho1 (n0 n:Nat) (E:Fr Nat) (k:Nat):Nat:=Bool.rec (motive:=fun _=>Nat) (Option.rec (motive:=fun _=>Nat) 0 (fun x=>x) (Fr.get E k)) (Nat.add n (Nat.sub k n0)) (Nat.ble n0 k)
theorem rho1_ge {n0 n k:Nat} {E:Fr Nat} (h:n0 <= k):rho1 n0 n E k=n+(k - n0):=by
 unfold rho1
 rw [Nat.ble_eq_true_of_le h]
 rfl
noncomputable def chk2 (p:MP) (n:Nat) (E:Fr Nat) (I:Hp Nat) (xs:List KK) (H:Hp Bx):Bool :=
 Bool.rec (motive:=fun _=>Bool) false (Bool.rec (motive:=fun _=>Bool) false (injB (rho1 p.n0 n E) 0 p.n0 I) (eqBs (rho1 p.n0 n E) H p.B0 0)) (eqKs' (rho1 p.n0 n E) p.xs xs)
theorem MPOK.use {P:Program} {f m n:Nat} {p:MP} (hp:MPOK P f p) {E:Fr Nat} {I:Hp Nat} {xs:List KK} {H:Hp Bx} (h:chk2 p n E I xs H=true) :
    CallOK P m f xs H n ⟨renV (rho1 p.n0 n E) p.r,putL (p.B1.map (renB (rho1 p.n0 n E))) n H,n+p.B1.length⟩:=by
 unfold chk2 at h
 obtain ⟨b1,h⟩:=rec_and h
 obtain ⟨b2,b3⟩:=rec_and h
 have eB:=eqBs_eq b2
 have eX:=eqKs'_eq b1
 refine ⟨hp.ent,fun hm hl=>⟨⟨by show n <= n+p.B1.length; omega,fun k hk=>?_,fun k hk=>?_⟩,fun bm w vs ok hroom hrel=>?_⟩⟩
 ·show (putL _ n H).get k=none
  have hk:n+p.B1.length <= k:=hk
  cases hg:(putL (p.B1.map (renB (rho1 p.n0 n E))) n H).get k with
  | none=>rfl
  | some x =>
    rcases putL_get _ _ _ _ _ hg with ⟨_,h2⟩ | ⟨h1,_⟩
    ·rw [List.getElem?_eq_none (by rw [List.length_map]; omega)] at h2; cases h2
    ·rw [hl k (by omega)] at h1; cases h1
 ·show (putL _ n H).get k=H.get k
  have key:∀ (l:List Bx) (a:Nat) (H:Hp Bx),k < a->(putL l a H).get k=H.get k:=by
   intro l
   induction l with
   | nil=>intro a H _; rfl
   | cons b l ih =>
     intro a H ha
     show (putL l (a+1) (Hp.put H a (some b))).get k=_
     rw [ih _ _ (by omega),Hp.put_ne _ _ _ _ (by omega)]
  exact key _ _ _ (by omega)
 ·have hroom:Room bm n (n+p.B1.length):=hroom
  generalize hρ:rho1 p.n0 n E=ρ at *
  have ρge:∀ k,p.n0 <= k->ρ k=n+(k - p.n0):=fun k hk=>by rw [<- hρ]; exact rho1_ge hk
  have live:∀ k,k < p.n0->∃ x,H.get (ρ k)=some x:=fun k hk=>by
   have:=eB k _ (List.getElem?_eq_getElem (show k < p.B0.length by rw [hp.len]; exact hk))
   rw [Nat.zero_add] at this
   exact ⟨_,this⟩
  have ρlt:∀ k,k < p.n0->ρ k < n:=fun k hk=>by
   obtain ⟨x,hx⟩:=live k hk
   exact hl.lt hx
  have hb0:∀ k,k < p.n0->(if k < p.n0 then bm (ρ k) else none)=bm (ρ k):=fun k hk=>if_pos hk
  have hrel':relKs (fun k=>if k < p.n0 then bm (ρ k) else none) w p.xs vs:=by
   rw [<- eX] at hrel
   exact lowKs_rel (bm:=fun k=>bm (ρ k)) hb0 hp.lx (renKs_rel.1 hrel)
  refine (hp.run (fun k=>if k < p.n0 then bm (ρ k) else none) w vs (fun k hk=>if_neg (by omega)) (fun k b x k1 k2=>?_) (fun k b k1=>?_) (fun k j b k1 k2=>?_) hrel').mono ?_
  ·have hk:k < p.n0:=by
    rw [<- hp.len]
    exact (List.getElem?_eq_some_iff.1 k2).1
   have k1':bm (ρ k)=some b:=by rw [<- hb0 k hk]; exact k1
   have hx:=eB k x k2
   rw [Nat.zero_add] at hx
   have:=renB_rel.1 (ok.box _ b _ k1' hx)
   exact low_box (bm:=fun k=>bm (ρ k)) hb0 (lowBs_mem hp.l0 x (List.mem_of_getElem? k2)) this
  ·by_cases hk:k < p.n0
   ·simp only [hk,if_true] at k1
    exact ok.soft _ _ k1
   ·simp only [hk,if_false] at k1
    cases k1
  ·by_cases hk:k < p.n0 <;> by_cases hj:j < p.n0
   ·simp only [hk,hj,if_true] at k1 k2
    obtain ⟨x,hx⟩:=live k hk
    obtain ⟨y,hy⟩:=live j hj
    exact injB_inj b3 (Nat.zero_le _) (by omega) (Nat.zero_le _) (by omega) (ok.inj _ _ b x y k1 k2 hx hy)
   ·simp only [hj,if_false] at k2; cases k2
   ·simp only [hk,if_false] at k1; cases k1
   ·simp only [hk,if_false] at k1; cases k1
  ·rintro e w' ⟨v,bm1,rfl,fr,s0,s1,s2,s3,hv⟩
   have fr':∀ m',Frame m' n bm w w':=fun m'=>⟨fr.le,fun b hb _=>fr.same b hb (fun k _ hk=>absurd hk (Nat.not_lt_zero k)),fr.sz,fr.soft,fr.env⟩
   have hnew:∀ k,n <= k->k < n+p.B1.length->(if n <= k/\k < n+p.B1.length then bm1 (p.n0+(k - n)) else bm k)=bm1 (p.n0+(k - n)):=fun k h1 h2=>if_pos ⟨h1,h2⟩
   have hold:∀ k,¬ (n <= k/\k < n+p.B1.length)->(if n <= k/\k < n+p.B1.length then bm1 (p.n0+(k - n)) else bm k)=bm k:=fun k h1=>if_neg h1
   generalize hbm:(fun k=>if n <= k/\k < n+p.B1.length then bm1 (p.n0+(k - n)) else bm k)=bm' at *
   have hnew:∀ k,n <= k->k < n+p.B1.length->bm' k=bm1 (p.n0+(k - n)):=fun k h1 h2=>by rw [<- hbm]; exact hnew k h1 h2
   have hold:∀ k,¬ (n <= k/\k < n+p.B1.length)->bm' k=bm k:=fun k h1=>by rw [<- hbm]; exact hold k h1
   have g:Grow m n (n+p.B1.length) w bm bm':=⟨by omega,hold,fun k b k1 k2 k3=>by
    rw [hnew k k1 k2] at k3
    exact .inl (s1 _ b (by omega) (by omega) k3).1⟩
   have hk:Keep bm bm' w w':=Keep.of ok g hroom (fr' m)
   have hco:∀ k,k < p.n0+p.B1.length->bm' (ρ k)=bm1 k:=fun k hk=>by
    rcases Nat.lt_or_ge k p.n0 with h1 | h1
    ·have:=ρlt k h1
     rw [hold _ (by omega),s0 k h1,hb0 k h1]
    ·rw [ρge k h1,hnew _ (by omega) (by omega)]
     congr 1
     omega
   have hbox:∀ i b x,p.B1[i]?=some x->bm1 (p.n0+i)=some b->BoxAt bm' w' b (renB ρ x):=fun i b x k1 k2=>renB_rel.2 (low_box (n:=p.n0+p.B1.length) (bm:=bm1) hco (lowBs_mem hp.l1 x (List.mem_of_getElem? k1)) (s2 i b x k1 k2))
   refine ⟨v,rfl,bm',g,fr' m,⟨fun k b x k1 k2=>?_,fun k b k1=>?_,fun k j b x y k1 k2 k3 k4=>?_⟩,renV_rel.2 (lowV_rel (n:=p.n0+p.B1.length) (bm:=bm1) hco hp.lr hv)⟩
   ·rcases putL_get _ _ _ _ _ k2 with ⟨c1,c2⟩ | ⟨c1,c2⟩
    ·have c3:k - n < p.B1.length:=by
      have:=(List.getElem?_eq_some_iff.1 c2).1
      rwa [List.length_map] at this
     rw [hnew k c1 (by omega)] at k1
     rw [List.getElem?_map] at c2
     cases hx:p.B1[k - n]? with
     | none=>rw [hx] at c2; cases c2
     | some y =>
       rw [hx] at c2
       have e:renB ρ y=x:=by simpa using c2
       subst e
       exact hbox _ b y hx k1
    ·rw [List.length_map] at c2
     rw [hold k c2] at k1
     exact (ok.box k b x k1 c1).keep hk (fr.same b (ok.soft k b k1).lt (fun k _ hk=>absurd hk (Nat.not_lt_zero k)))
   ·by_cases c:n <= k/\k < n+p.B1.length
    ·rw [hnew k c.1 c.2] at k1
     exact (s1 _ b (by omega) (by omega) k1).2
    ·rw [hold k c] at k1
     exact fr.soft b (ok.soft k b k1)
   ·have old:∀ k x,(putL (p.B1.map (renB ρ)) n H).get k=some x->¬ (n <= k/\k < n+p.B1.length)->H.get k=some x:=fun k x h1 h2=>by
     rcases putL_get _ _ _ _ _ h1 with ⟨c1,c2⟩ | ⟨c1,_⟩
     ·have:=(List.getElem?_eq_some_iff.1 c2).1
      rw [List.length_map] at this
      exact absurd ⟨c1,by omega⟩ h2
     ·exact c1
    by_cases ck:n <= k/\k < n+p.B1.length <;> by_cases cj:n <= j/\j < n+p.B1.length
    ·rw [hnew k ck.1 ck.2] at k1
     rw [hnew j cj.1 cj.2] at k2
     have:=s3 _ _ b (by omega) (by omega) (by omega) (by omega) k1 k2
     omega
    ·rw [hnew k ck.1 ck.2] at k1
     rw [hold j cj] at k2
     have h1:=(s1 _ b (by omega) (by omega) k1).1
     have h2:=(ok.soft j b k2).lt
     omega
    ·rw [hold k ck] at k1
     rw [hnew j cj.1 cj.2] at k2
     have h1:=(s1 _ b (by omega) (by omega) k2).1
     have h2:=(ok.soft k b k1).lt
     omega
    ·rw [hold k ck] at k1
     rw [hold j cj] at k2
     exact ok.inj k j b x y k1 k2 (old k x k3 ck) (old j y k4 cj)
end Zc
end Go.Proofs.YtkdjilgddbjcaaaGreat
namespace Go.Proofs.YtkdjilgddbjcaaaGreat
open Go.RowKit
namespace Zc
open Vc (entersB)
noncomputable def mtP (l:List (Nat × Nat)):List (Nat × Nat)->Fr Nat->Fr Nat:=List.rec (motive:=fun _=>List (Nat × Nat)->Fr Nat->Fr Nat) (fun _ E=>E) (fun a _ ih r E=>List.rec (motive:=fun _=>Fr Nat->Fr Nat) (fun E=>E) (fun b r _ E=>ih r (Fr.put E a.1 (some b.1))) r E) l
noncomputable def mt1 (x y:LF) (E:Fr Nat):Fr Nat :=
 match x,y with
 | .p k _,.p k' _=>Fr.put E k (some k')
 | .s k _ _ _ _,.s k' _ _ _ _=>Fr.put E k (some k')
 | .fn _ l,.fn _ r=>mtP l r E
 | _,_=>E
noncomputable def mtL (l:List LF):List LF->Fr Nat->Fr Nat:=List.rec (motive:=fun _=>List LF->Fr Nat->Fr Nat) (fun _ E=>E) (fun a _ ih r E=>List.rec (motive:=fun _=>Fr Nat->Fr Nat) (fun E=>E) (fun b r _ E=>ih r (mt1 a b E)) r E) l
noncomputable def mtK (x y:KK) (E:Fr Nat):Fr Nat :=
 match x,y with
 | .c a,.c b=>mt1 a b E
 | .g a,.g b=>mtL a b E
 | _,_=>E
noncomputable def mtKs (l:List KK):List KK->Fr Nat->Fr Nat:=List.rec (motive:=fun _=>List KK->Fr Nat->Fr Nat) (fun _ E=>E) (fun a _ ih r E=>List.rec (motive:=fun _=>Fr Nat->Fr Nat) (fun E=>E) (fun b r _ E=>ih r (mtK a b E)) r E) l
noncomputable def mtV (x y:KV) (E:Fr Nat):Fr Nat :=
 match x,y with
 | .k a,.k b=>mtK a b E
 | .t a,.t b=>mtKs a b E
 | _,_=>E
noncomputable def mtB (H:Hp Bx) (l:List Bx):Nat->Fr Nat->Fr Nat:=List.rec (motive:=fun _=>Nat->Fr Nat->Fr Nat) (fun _ E=>E) (fun b _ ih k E=>ih (Nat.succ k) (Option.rec (motive:=fun _=>Fr Nat) E (fun j=>Option.rec (motive:=fun _=>Fr Nat) E (fun c=>mtL b.cs c.cs E) (getH H j)) (Fr.get E k))) l
noncomputable def invT (ρ:Nat->Nat) (a n:Nat):Hp Nat:=Nat.rec (motive:=fun _=>Hp Nat) Hp.mk0 (fun k ih=>Hp.put ih (ρ (Nat.add a k)) (some (Nat.add a k))) n
noncomputable def n2K (n:Nat) (r:KV) (H:Hp Bx) (K:KtA):AN:=Nat.rec (motive:=fun _=>KV->Hp Bx->KtA->AN) (fun r H K=>K r H 0) (fun p _ r H K=>K r H (Nat.succ p)) n r H K
theorem n2K_eq (n:Nat) (r:KV) (H:Hp Bx) (K:KtA):n2K n r H K=K r H n:=by cases n <;> rfl
noncomputable def mapB (ρ:Nat->Nat) (l:List Bx):List Bx:=List.rec (motive:=fun _=>List Bx) [] (fun b _ ih=>renB ρ b :: ih) l
theorem mapB_eq (ρ:Nat->Nat) (l:List Bx):mapB ρ l=l.map (renB ρ):=by
 induction l with
 | nil=>rfl
 | cons b l ih=>show renB ρ b :: mapB ρ l=_; rw [ih]; rfl
noncomputable def stepM (p:MP) (E:Fr Nat) (xs:List KK) (H:Hp Bx) (n:Nat) (K:KtA) (F:AN):AN :=
 Bool.rec (motive:=fun _=>AN) F (n2K (Nat.add n (len p.B1)) (renV (rho1 p.n0 n E) p.r) (putL (mapB (rho1 p.n0 n E) p.B1) n H) K) (chk2 p n E (invT (rho1 p.n0 n E) 0 p.n0) xs H)
noncomputable def tryM (xs:List KK) (H:Hp Bx) (n:Nat) (K:KtA) (F:AN) (ps:List MP):AN :=
 List.rec (motive:=fun _=>AN) F (fun p _ ih=>stepM p (mtB H p.B0 0 (mtKs p.xs xs Fr.mk0)) xs H n K ih) ps
noncomputable def zst (L:Tr ZL) (W U:Nat->Bool) (F:Nat->Option ZF) (D:Tr Leaf) (fuel:Nat) (C:CtA) (m f:Nat) (xs:List KK) (H:Hp Bx) (n:Nat) (K:KtA):AN :=
 Option.rec (motive:=fun _=>AN)
     (Option.rec (motive:=fun _=>AN) (.bad 25 (.ready f)) (fun z =>
      Bool.rec (motive:=fun _=>AN) (.bad 24 (.ready f))
       (Bool.rec (motive:=fun _=>AN) (zbodyF C L W m fuel f z xs H n K)
        (Bool.rec (motive:=fun _=>AN) (.bad 27 (.ready f)) (zbodyF C L W 0 fuel f z xs noBox 0 (fun r _ _=>Bool.rec (motive:=fun _=>AN) (.bad 26 (.ready f)) (K r H n) (lowV 0 r))) (lowKs 0 xs)) (U f))
       (Nat.ble (len xs) z.N)) (F f))
     (fun g=>kksA xs fun xs=>lfF' (g xs) f H n K) (D.get f)
noncomputable def zCM (L:Tr ZL) (W U:Nat->Bool) (F:Nat->Option ZF) (D:Tr Leaf) (M:Tr (List MP)) (fuel d:Nat):CtA :=
 Nat.rec (motive:=fun _=>CtA) (fun _ f _ _ _ _=>.bad 20 (.ready f)) (fun _ C m f xs H n K =>
  Option.rec (motive:=fun _=>AN) (zst L W U F D fuel C m f xs H n K) (fun ps=>kksA xs fun xs=>tryM xs H n K (zst L W U F D fuel C m f xs H n K) ps) (M.get f)) d
section
variable {P:Program} {L:Tr ZL} {W U:Nat->Bool} {F:Nat->Option ZF} {D:Tr Leaf} {fuel:Nat}
theorem zst_ok (hm:P.follows .mixedOrders=true) (hL:TyOK P L) (hF:FunOK P F) (hD:LeafOK P D) {C:CtA} (hC:CSound P C):CSound P (zst L W U F D fuel C):=fun m f xs H n K y h=>by
 unfold zst at h
 cases hg:D.get f with
 | some g =>
   rw [hg] at h
   have h1:(kksA xs fun xs=>lfF' (g xs) f H n K)=.ok y:=h
   rw [kksA_eq] at h1
   cases hr:g xs with
   | none=>unfold lfF' at h1; rw [hr] at h1; cases h1
   | some r =>
     unfold lfF' at h1
     rw [hr] at h1
     obtain ⟨he,hrun⟩:=hD f g xs r hg hr
     refine ⟨⟨r,H,n⟩,h1,he,fun _ hl=>⟨Stat.refl hl,fun bm w vs ok _ hx=>(hrun bm w vs hx).mono ?_⟩⟩
     rintro e w' ⟨v,rfl,hex,hv⟩
     have hex':∀ m,Frame m n bm w w':=fun m=>⟨hex.le,fun b hb _=>hex.same b hb (fun k _ hk=>absurd hk (Nat.not_lt_zero k)),hex.sz,hex.soft,hex.env⟩
     exact ⟨v,rfl,bm,Grow.refl ..,hex' m,ok.frame (n:=n) (hex' n),hv⟩
 | none =>
   rw [hg] at h
   cases hz:F f with
   | none=>rw [hz] at h; cases h
   | some z =>
     rw [hz] at h
     have h1:(Bool.rec (motive:=fun _=>AN) (.bad 24 (.ready f))
         (Bool.rec (motive:=fun _=>AN) (zbodyF C L W m fuel f z xs H n K)
          (Bool.rec (motive:=fun _=>AN) (.bad 27 (.ready f)) (zbodyF C L W 0 fuel f z xs noBox 0 (fun r _ _=>Bool.rec (motive:=fun _=>AN) (.bad 26 (.ready f)) (K r H n) (lowV 0 r))) (lowKs 0 xs)) (U f))
         (Nat.ble (len xs) z.N))=.ok y:=h
     cases hle:Nat.ble (len xs) z.N with
     | false=>rw [hle] at h1; cases h1
     | true =>
       rw [hle] at h1
       have hle':=nble_yes hle
       rw [len_eq] at hle'
       cases hU:U f with
       | false =>
         rw [hU] at h1
         have h2:zbodyF C L W m fuel f z xs H n K=.ok y:=h1
         rw [zbodyF_eq] at h2
         exact zbody_ok hm hL hC hF hz hle' h2
       | true =>
         rw [hU] at h1
         have h2:(Bool.rec (motive:=fun _=>AN) (.bad 27 (.ready f)) (zbodyF C L W 0 fuel f z xs noBox 0 (fun r _ _=>Bool.rec (motive:=fun _=>AN) (.bad 26 (.ready f)) (K r H n) (lowV 0 r))) (lowKs 0 xs))=.ok y:=h1
         cases hlx:lowKs 0 xs with
         | false=>rw [hlx] at h2; cases h2
         | true =>
           rw [hlx] at h2
           have h3:zbodyF C L W 0 fuel f z xs noBox 0 (fun r _ _=>Bool.rec (motive:=fun _=>AN) (.bad 26 (.ready f)) (K r H n) (lowV 0 r))=.ok y:=h2
           rw [zbodyF_eq] at h3
           obtain ⟨q,hk,hc⟩:=zbody_ok hm hL hC hF hz hle' h3
           cases hlr:lowV 0 q.r with
           | false=>rw [hlr] at hk; cases hk
           | true =>
             rw [hlr] at hk
             exact ⟨⟨q.r,H,n⟩,hk,hc.pure hlx hlr⟩
def MOK (P:Program) (M:Tr (List MP)):Prop:=∀ f ps,M.get f=some ps->∀ p ∈ ps,MPOK P f p
theorem tryM_ok {f m:Nat} {xs:List KK} {H:Hp Bx} {n:Nat} {K:KtA} {y:KV} {F:AN} (hF:F=.ok y->∃ q:Res,K q.r q.H q.n=.ok y/\CallOK P m f xs H n q):∀ {ps:List MP},(∀ p ∈ ps,MPOK P f p)->tryM xs H n K F ps=.ok y->∃ q:Res,K q.r q.H q.n=.ok y/\CallOK P m f xs H n q
 | [],_,h=>hF h
 | p :: ps,hp,h=>by
   have h1:stepM p (mtB H p.B0 0 (mtKs p.xs xs Fr.mk0)) xs H n K (tryM xs H n K F ps)=.ok y:=h
   generalize mtB H p.B0 0 (mtKs p.xs xs Fr.mk0)=E at h1
   unfold stepM at h1
   cases hc:chk2 p n E (invT (rho1 p.n0 n E) 0 p.n0) xs H with
   | false =>
     rw [hc] at h1
     exact tryM_ok hF (fun q hq=>hp q (List.mem_cons_of_mem _ hq)) h1
   | true =>
     rw [hc] at h1
     have h2:n2K (Nat.add n (len p.B1)) (renV (rho1 p.n0 n E) p.r) (putL (mapB (rho1 p.n0 n E) p.B1) n H) K=.ok y:=h1
     rw [n2K_eq,len_eq,mapB_eq] at h2
     exact ⟨_,h2,(hp p (List.mem_cons_self ..)).use hc⟩
theorem zCM_ok (hm:P.follows .mixedOrders=true) (hL:TyOK P L) (hF:FunOK P F) (hD:LeafOK P D) {M:Tr (List MP)} (hM:MOK P M):∀ d,CSound P (zCM L W U F D M fuel d)
 | 0=>fun _ _ _ _ _ _ _ h=>by cases h
 | d+1=>fun m f xs H n K y h=>by
   have hC:=zst_ok (W:=W) (U:=U) (fuel:=fuel) hm hL hF hD (zCM_ok hm hL hF hD hM d)
   have h1:Option.rec (motive:=fun _=>AN) (zst L W U F D fuel (zCM L W U F D M fuel d) m f xs H n K) (fun ps=>kksA xs fun xs=>tryM xs H n K (zst L W U F D fuel (zCM L W U F D M fuel d) m f xs H n K) ps) (M.get f)=.ok y:=h
   cases hg:M.get f with
   | none=>rw [hg] at h1; exact hC m f xs H n K y h1
   | some ps =>
     rw [hg] at h1
     have h2:(kksA xs fun xs=>tryM xs H n K (zst L W U F D fuel (zCM L W U F D M fuel d) m f xs H n K) ps)=.ok y:=h1
     rw [kksA_eq] at h2
     exact tryM_ok (hC m f xs H n K y) (hM f ps hg) h2
noncomputable def kM (p:MP):KtA:=fun r H _=>(fun E=>Bool.rec (motive:=fun _=>AN) (.bad 30 (.ready 0)) (.ok .u) (chk1 p E (invT (rho2 p.n0 E) p.n0 (len p.B1)) r H)) (mtB H p.B1 p.n0 (mtV p.r r Fr.mk0))
noncomputable def runM (L:Tr ZL) (W U:Nat->Bool) (F:Nat->Option ZF) (D:Tr Leaf) (M:Tr (List MP)) (fuel d f:Nat) (p:MP):AN :=
 Bool.rec (motive:=fun _=>AN) (.bad 31 (.ready 0)) (zCM L W U F D M fuel d p.n0 f p.xs (mkH p.B0) p.n0 (kM p)) (chk0 p)
theorem MPOK.run_of (hm:P.follows .mixedOrders=true) (hL:TyOK P L) (hF:FunOK P F) (hD:LeafOK P D) {M:Tr (List MP)} (hM:MOK P M) {d f:Nat} {p:MP} (h:runM L W U F D M fuel d f p=.ok .u):MPOK P f p:=by
 unfold runM at h
 cases h0:chk0 p with
 | false=>rw [h0] at h; cases h
 | true =>
   rw [h0] at h
   have h1:zCM L W U F D M fuel d p.n0 f p.xs (mkH p.B0) p.n0 (kM p)=.ok .u:=h
   obtain ⟨q,hk,hc⟩:=zCM_ok hm hL hF hD hM d _ _ _ _ _ _ _ h1
   unfold kM at hk
   dsimp only at hk
   generalize mtB q.H p.B1 p.n0 (mtV p.r q.r Fr.mk0)=E at hk
   cases hc1:chk1 p E (invT (rho2 p.n0 E) p.n0 (Zc.len p.B1)) q.r q.H with
   | false=>rw [hc1] at hk; cases hk
   | true=>exact MPOK.of h0 hc hc1
noncomputable def addM (M:Tr (List MP)) (f:Nat) (p:MP):Tr (List MP):=M.put f (some (p :: Option.rec (motive:=fun _=>List MP) [] (fun l=>l) (M.get f)))
theorem MOK.add {M:Tr (List MP)} (hM:MOK P M) {f:Nat} {p:MP} (hp:MPOK P f p):MOK P (addM M f p):=fun g ps hg q hq=>by
 unfold addM at hg
 by_cases e:g=f
 ·subst e
  have:=Tr.put_eq _ _ _ _ hg
  have e:p :: Option.rec (motive:=fun _=>List MP) [] (fun l=>l) (M.get g)=ps:=by simpa using this
  subst e
  rcases List.mem_cons.1 hq with rfl | hq
  ·exact hp
  ·cases hx:M.get g with
   | none=>rw [hx] at hq; cases hq
   | some l=>rw [hx] at hq; exact hM g l hx q hq
 ·rw [Tr.put_ne _ _ _ _ e] at hg
  exact hM g ps hg q hq
theorem MOK.nil:MOK P (Tr.mk none 10):=fun g ps hg=>by
 rw [Tr.mk_none] at hg
 cases hg
end
end Zc
end Go.Proofs.YtkdjilgddbjcaaaGreat
