import Derived.Test.YtbohkigffejhoaaGreatR06
import Derived.Test.YtbohkigffejhoaaGreatR07
import Derived.Outline
namespace Go.Proofs.YtbohkigffejhoaaGreat
open Go.RowKit
set_option maxRecDepth 8000
theorem a9Y {x y:Int} (h:decide (x < 0)=decide (y < 0)):sgn (decide (x < 0)) (x.natAbs+y.natAbs)=x+y:=by
 unfold sgn
 by_cases hx:x < 0 <;> by_cases hy:y < 0 <;> simp [hx,hy] at h ⊢ <;> omega
theorem a7l {x y:Int} (h:decide (x < 0) ≠ decide (y < 0)) (hge:y.natAbs <= x.natAbs):sgn (decide (x < 0)) (x.natAbs - y.natAbs)=x+y:=by
 unfold sgn
 by_cases hx:x < 0 <;> by_cases hy:y < 0 <;> simp [hx,hy] at h ⊢ <;> omega
theorem aBr (x y:Int):sgn (decide (x < 0) != decide (y < 0)) (x.natAbs*y.natAbs)=x*y:=by
 unfold sgn
 rw [Int.natCast_mul]
 by_cases hx:x < 0 <;> by_cases hy:y < 0
 ·rw [show (x.natAbs:Int)=-x by omega,show (y.natAbs:Int)=-y by omega,decide_eq_true hx,decide_eq_true hy,if_neg (by decide)]; grind
 ·rw [show (x.natAbs:Int)=-x by omega,show (y.natAbs:Int)=y by omega,decide_eq_true hx,decide_eq_false hy,if_pos (by decide)]; grind
 ·rw [show (x.natAbs:Int)=x by omega,show (y.natAbs:Int)=-y by omega,decide_eq_false hx,decide_eq_true hy,if_pos (by decide)]; grind
 ·rw [show (x.natAbs:Int)=x by omega,show (y.natAbs:Int)=y by omega,decide_eq_false hx,decide_eq_false hy,if_neg (by decide)]
def szI (z:Int):Nat:=(Lb.limbs z.natAbs).length
theorem a4D {z:Int} {k:Nat} (h:z.natAbs < Lb.B ^ k):szI z <= k:=Lb.a0X h
theorem aUV (z:Int):z.natAbs < Lb.B ^ szI z:=Lb.a01 _
theorem a5P {z:Int} {k:Nat} (h:szI z <= k):z.natAbs < Lb.B ^ k:=Nat.lt_of_lt_of_le (aUV z) (Nat.pow_le_pow_right Lb.a3r h)
theorem aWw {x y:Int} {m n:Nat} (hx:szI x <= m) (hy:szI y <= n):szI (x*y) <= m+n:=by
 refine a4D ?_
 rw [Int.natAbs_mul,Nat.pow_add]
 exact Nat.mul_lt_mul'' (a5P hx) (a5P hy)
theorem aHU {x:Int} {m:Nat} (hx:szI x <= m):szI (-x) <= m:=by unfold szI at *; rwa [Int.natAbs_neg]
theorem a2I {x y:Int} {m:Nat} (hy:szI y <= m) (h:x.natAbs <= y.natAbs):szI x <= m:=a4D (Nat.lt_of_le_of_lt h (a5P hy))
theorem IsI.lt (z:Int):Lb.Lt (Lb.limbs z.natAbs):=(Lb.a0f _).1
theorem a1j {W:World} {b:Nat} {cs:Array Value} {t:TypeId} {fz:Nat × Nat} {x y:Value} (h:W.heap[b]?=some (.cells cs t fz)) (h0:cs[0]?=some x) (h1:cs[1]?=some y) :
    (∀ z:Later W,z.w.cell? ⟨b,0,none⟩=some x)/\(∀ z:Later W,z.w.cell? ⟨b,1,none⟩=some y):=⟨Later.block h 0 h0,Later.block h 1 h1⟩
theorem a00 {W:World} {b:Nat} {cs:Array Value} {t:TypeId} {fz:Nat × Nat} {x y:Value} (h:W.heap[b]?=some (.cells cs t fz)) (h0:cs[0]?=some x) (h1:cs[1]?=some y) :
    W.cell? ⟨b,0,none⟩=some x/\W.cell? ⟨b,1,none⟩=some y:=⟨by simp [World.cell?,h,h0],by simp [World.cell?,h,h1]⟩
set_option maxHeartbeats 4000000 in
theorem aTs (b1 b2:Bool) (s1 s2:Value) (x y:Int) (w:World) (h1:IsI w b1 s1 x) (h2:IsI w b2 s2 y) (n1:szI x <= 10000000) (n2:szI y <= 10000000) :
    Calls Tryz.prog 95 #[.agg #[.bool b1,s1],.agg #[.bool b2,s2]] w (aEt w (x*y)):=by
 unfold szI at n1 n2
 obtain ⟨p1,q1,rfl⟩:=h1.form
 obtain ⟨p2,q2,rfl⟩:=h2.form
 generalize hz1:(Lb.limbs x.natAbs).length=m1 at *
 generalize hz2:(Lb.limbs y.natAbs).length=m2 at *
 obtain ⟨W1,hW1,hb1,hE1,-⟩:=a0y w #[.bool b1,.slice p1 m1 q1] 33
 obtain ⟨W2,hW2,hb2,hE2,-⟩:=a0y W1 #[.bool b2,.slice p2 m2 q2] 33
 obtain ⟨W3,hW3,hb3,hE3,-⟩:=a0y W2 #[.bool false,.slice none 0 0] 33
 have hE:=((hE1).trans hE2).trans hE3
 have hbx1:=a0P hb1 ((hE2).trans hE3)
 obtain ⟨f0,f1⟩:=a1j hbx1 rfl rfl
 obtain ⟨d0,d1⟩:=a00 hbx1 rfl rfl
 have hbx2:=a0P hb2 (hE3)
 obtain ⟨f2,f3⟩:=a1j hbx2 rfl rfl
 obtain ⟨d2,d3⟩:=a00 hbx2 rfl rfl
 have HB:=Lib.hid hb3
 have HSZ:Hid (w.heap.size <= W2.heap.size):=Lib.hid ((hE1.trans hE2)).size
 have HS1:=Lib.hid (h1.2.later hE); have HG1:=Lib.hid h1.1; have HZ1:=Lib.hid hz1; have HBX1:=Lib.hid hbx1
 have HS2:=Lib.hid (h2.2.later hE); have HG2:=Lib.hid h2.1; have HZ2:=Lib.hid hz2; have HBX2:=Lib.hid hbx2
 have HWE:=Lib.hid hE
 clear hE hbx1 h1 hz1 hbx2 h2 hz2 hb1 hE1 hb2 hE2 hb3 hE3
 have HT:=Lib.hid (fun (w':World) (k:Ext W3 w')=>aMe _ _ _ _ w' (HS1.out.later k) (HS2.out.later k) (IsI.lt x) (IsI.lt y) (by have:=HZ1.out; omega) (by have:=HZ2.out; omega))
 go_enter Tryz.func95,Tryz.ntmps95
 go_wp2_with fail
 refine a2h (fun w'=>∃ x:Later W3,w'=x.w) 11 (.one [0,1,2,3,4,5,6,7,8] 9 (.one [] 10 (.leaf []))) (by kernel_rfl) (by kernel_rfl) (by kernel_rfl) ⟨⟨_,(Ext.refl _).drew⟩,rfl⟩ ?_
 simp only [List.take_succ_cons,List.take_zero]
 refine a4B fun K hK=>?_
 simp only [List.map_cons,List.map_nil,a1W,List.getElem?_cons_zero,List.getElem?_cons_succ,Option.getD_some]
 repeat (go_big_quiet_step (fail))
 refine wpQuiet_nil ?_
 go_wp2_with ((go_at_call 178; with_reducible refine (HT.out _ (Ext.refl _).drew).mono ?_); rintro e w4 ⟨l4,k4,v4,c4,a4,n4,q4,rfl,s4,x4⟩)
 refine a1t (hK _ _ ⟨⟨_,(Ext.refl _).drew.trans x4⟩,rfl⟩ ?_); clear hK K
 refine a4X fun K hK=>?_
 simp only [a1W,List.getElem?_cons_zero,List.getElem?_cons_succ,Option.getD_some]
 go_wp2_with ((go_at_call 173; with_reducible refine (a3m _ _ _ _ s4 k4 (by have:=HZ1.out; have:=HZ2.out; omega)).mono ?_); rintro e w5 ⟨b5,a5,n5,c5,rfl,s5,x5⟩)
 refine a1t (hK _ _ ⟨⟨_,((Ext.refl _).drew.trans x4).trans x5⟩,rfl⟩ ?_); clear hK K
 refine a4d ?_
 simp only [List.drop_succ_cons,List.drop_zero]
 have HK:=Lib.hid (a0P HB.out (((Ext.refl _).drew.trans x4).trans x5))
 have hsg:sgn (!(b1 == b2)) (Lb.val l4)=x*y:=by rw [v4,Lb.a0a,Lb.a0a,HG1.out,HG2.out]; exact aBr x y
 rw [hsg] at s5
 clear hsg
 obtain ⟨r0,r1,r2,r3⟩:=a2B HK.out
 go_wp2_with fail
 exact bodyPost_ret (v:=.agg #[.bool b5,.slice a5 n5 c5]) (by simp [results,Tryz.results95,go_sem,r0,r1]) rfl (a3U (HWE.out.trans (((Ext.refl _).drew.trans x4).trans x5)) (by have:=HSZ.out; omega) HK.out s5)
set_option maxHeartbeats 4000000 in
theorem aPU (b1:Bool) (s1:Value) (x:Int) (w:World) (h1:IsI w b1 s1 x) :
    Calls Tryz.prog 134 #[.agg #[.bool b1,s1]] w fun e w'=>e=.returned (.int .i64 x.sign)/\Ext w w':=by
 have hm:0 < (Lb.limbs x.natAbs).length ↔ x ≠ 0:=by
  constructor
  ·intro h e; subst e; simp [Lb.a1b] at h
  ·intro h
   rcases Nat.eq_zero_or_pos (Lb.limbs x.natAbs).length with h0 | h0
   ·have:=aUV x
    unfold szI at this
    rw [h0,Nat.pow_zero] at this
    omega
   ·exact h0
 rcases Int.lt_trichotomy x 0 with hx | hx | hx
 ·have hb:b1=true:=by rw [h1.1]; simp [hx]
  subst hb
  rw [Int.sign_eq_neg_one_of_neg hx]
  clear hm
  obtain ⟨p1,q1,rfl⟩:=h1.form
  generalize hz1:(Lb.limbs x.natAbs).length=m1 at *
  obtain ⟨W1,hW1,hb1,hE1,-⟩:=a0y w #[.bool true,.slice p1 m1 q1] 33
  have hE:=hE1
  have hbx1:=hb1
  obtain ⟨f0,f1⟩:=a1j hbx1 rfl rfl
  obtain ⟨d0,d1⟩:=a00 hbx1 rfl rfl
  have HS1:=Lib.hid (h1.2.later hE); have HG1:=Lib.hid h1.1; have HZ1:=Lib.hid hz1; have HBX1:=Lib.hid hbx1
  have HWE:=Lib.hid hE
  clear hE hbx1 h1 hz1 hb1 hE1
  go_enter Tryz.func134,Tryz.ntmps134
  go_wp2_with fail
  go_ret
  exact ⟨rfl,HWE.out⟩
 ·subst hx
  have hb:b1=false:=by rw [h1.1]; simp
  subst hb
  have h0:(Lb.limbs (0:Int).natAbs).length=0:=by simp [Lb.a1b]
  obtain ⟨p1,q1,rfl⟩:=h1.form
  rw [h0]
  obtain ⟨W1,hW1,hb1,hE1,-⟩:=a0y w #[.bool false,.slice p1 0 q1] 33
  obtain ⟨f0,f1⟩:=a00 hb1 rfl rfl
  clear h0 hm hb1 h1
  go_enter Tryz.func134,Tryz.ntmps134
  go_wp2_with fail
  go_ret
  exact ⟨rfl,hE1⟩
 ·have hb:b1=false:=by rw [h1.1]; simp; omega
  subst hb
  rw [Int.sign_eq_one_of_pos hx]
  have hmp:=hm.2 (by omega)
  clear hm
  obtain ⟨p1,q1,rfl⟩:=h1.form
  generalize hz1:(Lb.limbs x.natAbs).length=m1 at *
  obtain ⟨W1,hW1,hb1,hE1,-⟩:=a0y w #[.bool false,.slice p1 m1 q1] 33
  have hE:=hE1
  have hbx1:=hb1
  obtain ⟨f0,f1⟩:=a1j hbx1 rfl rfl
  obtain ⟨d0,d1⟩:=a00 hbx1 rfl rfl
  have HS1:=Lib.hid (h1.2.later hE); have HG1:=Lib.hid h1.1; have HZ1:=Lib.hid hz1; have HBX1:=Lib.hid hbx1
  have HWE:=Lib.hid hE
  clear hE hbx1 h1 hz1 hb1 hE1
  have hq:decide (0 < m1)=true:=by simp [hmp]
  have hq2:decide ((m1:Int) > 0)=true:=by simp [hmp]
  go_enter Tryz.func134,Tryz.ntmps134
  go_wp2_with fail
  go_ret
  exact ⟨rfl,HWE.out⟩
end Go.Proofs.YtbohkigffejhoaaGreat
namespace Go.Proofs.YtbohkigffejhoaaGreat
open Go.RowKit
set_option maxRecDepth 8000
theorem aXM {x y:Int} (hx:¬ x < 0) (hy:¬ y < 0):a3L (Lb.val (Lb.limbs x.natAbs)) (Lb.val (Lb.limbs y.natAbs))=(x - y).sign:=by
 rw [Lb.a0a,Lb.a0a]
 rcases Int.lt_trichotomy x y with h | h | h
 ·rw [a3k (by omega),Int.sign_eq_neg_one_of_neg (by omega)]
 ·subst h; rw [a3V rfl]; simp
 ·rw [a3x (by omega),Int.sign_eq_one_of_pos (by omega)]
theorem aXN {x y:Int} (hx:x < 0) (hy:y < 0):a3L (Lb.val (Lb.limbs y.natAbs)) (Lb.val (Lb.limbs x.natAbs))=(x - y).sign:=by
 rw [Lb.a0a,Lb.a0a]
 rcases Int.lt_trichotomy x y with h | h | h
 ·rw [a3k (by omega),Int.sign_eq_neg_one_of_neg (by omega)]
 ·subst h; rw [a3V rfl]; simp
 ·rw [a3x (by omega),Int.sign_eq_one_of_pos (by omega)]
set_option maxHeartbeats 4000000 in
theorem aXB (b1 b2:Bool) (s1 s2:Value) (x y:Int) (w:World) (h1:IsI w b1 s1 x) (h2:IsI w b2 s2 y) (n1:szI x <= 100000000) (n2:szI y <= 100000000) (hx:x < 0) (hy:y < 0) :
    Calls Tryz.prog 93 #[.agg #[.bool b1,s1],.agg #[.bool b2,s2]] w fun e w'=>e=.returned (.int .i64 (x - y).sign)/\Ext w w':=by
 unfold szI at n1 n2
 have hb1:b1=true:=by rw [h1.1]; simp; omega
 have hb2:b2=true:=by rw [h2.1]; simp; omega
 subst hb1 hb2
 have HR:=Lib.hid (aXN hx hy)
 obtain ⟨p1,q1,rfl⟩:=h1.form
 obtain ⟨p2,q2,rfl⟩:=h2.form
 generalize hz1:(Lb.limbs x.natAbs).length=m1 at *
 generalize hz2:(Lb.limbs y.natAbs).length=m2 at *
 obtain ⟨W1,hW1,hb1,hE1,-⟩:=a0y w #[.bool true,.slice p1 m1 q1] 33
 obtain ⟨W2,hW2,hb2,hE2,-⟩:=a0y W1 #[.bool true,.slice p2 m2 q2] 33
 have hE:=(hE1).trans hE2
 have hbx1:=a0P hb1 (hE2)
 obtain ⟨f0,f1⟩:=a1j hbx1 rfl rfl
 obtain ⟨d0,d1⟩:=a00 hbx1 rfl rfl
 have hbx2:=hb2
 obtain ⟨f2,f3⟩:=a1j hbx2 rfl rfl
 obtain ⟨d2,d3⟩:=a00 hbx2 rfl rfl
 have HS1:=Lib.hid (h1.2.later hE); have HG1:=Lib.hid h1.1; have HZ1:=Lib.hid hz1; have HBX1:=Lib.hid hbx1
 have HS2:=Lib.hid (h2.2.later hE); have HG2:=Lib.hid h2.1; have HZ2:=Lib.hid hz2; have HBX2:=Lib.hid hbx2
 have HWE:=Lib.hid hE
 clear hE hbx1 h1 hz1 hbx2 h2 hz2 hb1 hE1 hb2 hE2
 have HT:=Lib.hid (fun (w':World) (k:Ext W2 w')=>a6f _ _ _ _ w' (HS2.out.later k) (HS1.out.later k) (IsI.lt y) (IsI.lt x) (by have:=HZ2.out; omega) (by have:=HZ1.out; omega))
 clear hx hy
 go_enter Tryz.func93,Tryz.ntmps93
 go_wp2_with fail
 refine (HT.out _ (Ext.refl _)).mono ?_
 rintro e w4 ⟨rfl,x4⟩
 go_wp2_with fail
 go_ret
 exact ⟨a4H HR.out,HWE.out.trans x4⟩
set_option maxHeartbeats 4000000 in
theorem aXA (b1 b2:Bool) (s1 s2:Value) (x y:Int) (w:World) (h1:IsI w b1 s1 x) (h2:IsI w b2 s2 y) (hx:x < 0) (hy:¬ y < 0) :
    Calls Tryz.prog 93 #[.agg #[.bool b1,s1],.agg #[.bool b2,s2]] w fun e w'=>e=.returned (.int .i64 (x - y).sign)/\Ext w w':=by
 have hb1:b1=true:=by rw [h1.1]; simp; omega
 have hb2:b2=false:=by rw [h2.1]; simp; omega
 subst hb1 hb2
 have hr:(x - y).sign=-1:=Int.sign_eq_neg_one_of_neg (by omega)
 rw [hr]
 clear hr
 obtain ⟨p1,q1,rfl⟩:=h1.form
 obtain ⟨p2,q2,rfl⟩:=h2.form
 generalize hz1:(Lb.limbs x.natAbs).length=m1 at *
 generalize hz2:(Lb.limbs y.natAbs).length=m2 at *
 obtain ⟨W1,hW1,hb1,hE1,-⟩:=a0y w #[.bool true,.slice p1 m1 q1] 33
 obtain ⟨W2,hW2,hb2,hE2,-⟩:=a0y W1 #[.bool false,.slice p2 m2 q2] 33
 have hE:=(hE1).trans hE2
 have hbx1:=a0P hb1 (hE2)
 obtain ⟨f0,f1⟩:=a1j hbx1 rfl rfl
 obtain ⟨d0,d1⟩:=a00 hbx1 rfl rfl
 have hbx2:=hb2
 obtain ⟨f2,f3⟩:=a1j hbx2 rfl rfl
 obtain ⟨d2,d3⟩:=a00 hbx2 rfl rfl
 have HS1:=Lib.hid (h1.2.later hE); have HG1:=Lib.hid h1.1; have HZ1:=Lib.hid hz1; have HBX1:=Lib.hid hbx1
 have HS2:=Lib.hid (h2.2.later hE); have HG2:=Lib.hid h2.1; have HZ2:=Lib.hid hz2; have HBX2:=Lib.hid hbx2
 have HWE:=Lib.hid hE
 clear hE hbx1 h1 hz1 hbx2 h2 hz2 hb1 hE1 hb2 hE2
 clear hx hy
 go_enter Tryz.func93,Tryz.ntmps93
 go_wp2_with fail
 go_ret
 exact ⟨rfl,HWE.out⟩
set_option maxHeartbeats 4000000 in
theorem aXz (b1 b2:Bool) (s1 s2:Value) (x y:Int) (w:World) (h1:IsI w b1 s1 x) (h2:IsI w b2 s2 y) (hx:¬ x < 0) (hy:y < 0) :
    Calls Tryz.prog 93 #[.agg #[.bool b1,s1],.agg #[.bool b2,s2]] w fun e w'=>e=.returned (.int .i64 (x - y).sign)/\Ext w w':=by
 have hb1:b1=false:=by rw [h1.1]; simp; omega
 have hb2:b2=true:=by rw [h2.1]; simp; omega
 subst hb1 hb2
 have hr:(x - y).sign=1:=Int.sign_eq_one_of_pos (by omega)
 rw [hr]
 clear hr
 obtain ⟨p1,q1,rfl⟩:=h1.form
 obtain ⟨p2,q2,rfl⟩:=h2.form
 generalize hz1:(Lb.limbs x.natAbs).length=m1 at *
 generalize hz2:(Lb.limbs y.natAbs).length=m2 at *
 obtain ⟨W1,hW1,hb1,hE1,-⟩:=a0y w #[.bool false,.slice p1 m1 q1] 33
 obtain ⟨W2,hW2,hb2,hE2,-⟩:=a0y W1 #[.bool true,.slice p2 m2 q2] 33
 have hE:=(hE1).trans hE2
 have hbx1:=a0P hb1 (hE2)
 obtain ⟨f0,f1⟩:=a1j hbx1 rfl rfl
 obtain ⟨d0,d1⟩:=a00 hbx1 rfl rfl
 have hbx2:=hb2
 obtain ⟨f2,f3⟩:=a1j hbx2 rfl rfl
 obtain ⟨d2,d3⟩:=a00 hbx2 rfl rfl
 have HS1:=Lib.hid (h1.2.later hE); have HG1:=Lib.hid h1.1; have HZ1:=Lib.hid hz1; have HBX1:=Lib.hid hbx1
 have HS2:=Lib.hid (h2.2.later hE); have HG2:=Lib.hid h2.1; have HZ2:=Lib.hid hz2; have HBX2:=Lib.hid hbx2
 have HWE:=Lib.hid hE
 clear hE hbx1 h1 hz1 hbx2 h2 hz2 hb1 hE1 hb2 hE2
 clear hx hy
 go_enter Tryz.func93,Tryz.ntmps93
 go_wp2_with fail
 go_ret
 exact ⟨rfl,HWE.out⟩
set_option maxHeartbeats 4000000 in
theorem aXy (b1 b2:Bool) (s1 s2:Value) (x y:Int) (w:World) (h1:IsI w b1 s1 x) (h2:IsI w b2 s2 y) (n1:szI x <= 100000000) (n2:szI y <= 100000000) (hx:¬ x < 0) (hy:¬ y < 0) :
    Calls Tryz.prog 93 #[.agg #[.bool b1,s1],.agg #[.bool b2,s2]] w fun e w'=>e=.returned (.int .i64 (x - y).sign)/\Ext w w':=by
 unfold szI at n1 n2
 have hb1:b1=false:=by rw [h1.1]; simp; omega
 have hb2:b2=false:=by rw [h2.1]; simp; omega
 subst hb1 hb2
 have HR:=Lib.hid (aXM hx hy)
 obtain ⟨p1,q1,rfl⟩:=h1.form
 obtain ⟨p2,q2,rfl⟩:=h2.form
 generalize hz1:(Lb.limbs x.natAbs).length=m1 at *
 generalize hz2:(Lb.limbs y.natAbs).length=m2 at *
 obtain ⟨W1,hW1,hb1,hE1,-⟩:=a0y w #[.bool false,.slice p1 m1 q1] 33
 obtain ⟨W2,hW2,hb2,hE2,-⟩:=a0y W1 #[.bool false,.slice p2 m2 q2] 33
 have hE:=(hE1).trans hE2
 have hbx1:=a0P hb1 (hE2)
 obtain ⟨f0,f1⟩:=a1j hbx1 rfl rfl
 obtain ⟨d0,d1⟩:=a00 hbx1 rfl rfl
 have hbx2:=hb2
 obtain ⟨f2,f3⟩:=a1j hbx2 rfl rfl
 obtain ⟨d2,d3⟩:=a00 hbx2 rfl rfl
 have HS1:=Lib.hid (h1.2.later hE); have HG1:=Lib.hid h1.1; have HZ1:=Lib.hid hz1; have HBX1:=Lib.hid hbx1
 have HS2:=Lib.hid (h2.2.later hE); have HG2:=Lib.hid h2.1; have HZ2:=Lib.hid hz2; have HBX2:=Lib.hid hbx2
 have HWE:=Lib.hid hE
 clear hE hbx1 h1 hz1 hbx2 h2 hz2 hb1 hE1 hb2 hE2
 have HT:=Lib.hid (fun (w':World) (k:Ext W2 w')=>a6f _ _ _ _ w' (HS1.out.later k) (HS2.out.later k) (IsI.lt x) (IsI.lt y) (by have:=HZ1.out; omega) (by have:=HZ2.out; omega))
 clear hx hy
 go_enter Tryz.func93,Tryz.ntmps93
 go_wp2_with fail
 refine (HT.out _ (Ext.refl _)).mono ?_
 rintro e w4 ⟨rfl,x4⟩
 go_wp2_with fail
 go_ret
 exact ⟨a4H HR.out,HWE.out.trans x4⟩
theorem aTt (b1 b2:Bool) (s1 s2:Value) (x y:Int) (w:World) (h1:IsI w b1 s1 x) (h2:IsI w b2 s2 y) (n1:szI x <= 100000000) (n2:szI y <= 100000000) :
    Calls Tryz.prog 93 #[.agg #[.bool b1,s1],.agg #[.bool b2,s2]] w fun e w'=>e=.returned (.int .i64 (x - y).sign)/\Ext w w':=by
 by_cases hx:x < 0 <;> by_cases hy:y < 0
 ·exact aXB b1 b2 s1 s2 x y w h1 h2 n1 n2 hx hy
 ·exact aXA b1 b2 s1 s2 x y w h1 h2 hx hy
 ·exact aXz b1 b2 s1 s2 x y w h1 h2 hx hy
 ·exact aXy b1 b2 s1 s2 x y w h1 h2 n1 n2 hx hy
theorem aW0 (x:Int):sgn (!decide (x < 0)) x.natAbs=-x:=by
 unfold sgn
 by_cases hx:x < 0
 ·rw [decide_eq_true hx,if_neg (by decide)]; omega
 ·rw [decide_eq_false hx,if_pos (by decide)]; omega
set_option maxHeartbeats 4000000 in
theorem aTr (b1:Bool) (s1:Value) (x:Int) (w:World) (h1:IsI w b1 s1 x) (n1:szI x <= 100000000) :
    Calls Tryz.prog 169 #[.agg #[.bool b1,s1]] w (aEt w (-x)):=by
 unfold szI at n1
 obtain ⟨p1,q1,rfl⟩:=h1.form
 generalize hz1:(Lb.limbs x.natAbs).length=m1 at *
 obtain ⟨W1,hW1,hb1,hE1,-⟩:=a0y w #[.bool b1,.slice p1 m1 q1] 33
 obtain ⟨W2,hW2,hb2,hE2,-⟩:=a0y W1 #[.bool false,.slice none 0 0] 33
 have hE:=(hE1).trans hE2
 have hbx1:=a0P hb1 (hE2)
 obtain ⟨f0,f1⟩:=a1j hbx1 rfl rfl
 obtain ⟨d0,d1⟩:=a00 hbx1 rfl rfl
 have HB:=Lib.hid hb2
 have HSZ:Hid (w.heap.size <= W1.heap.size):=Lib.hid (hE1).size
 have HS1:=Lib.hid (h1.2.later hE); have HG1:=Lib.hid h1.1; have HZ1:=Lib.hid hz1; have HBX1:=Lib.hid hbx1
 have HWE:=Lib.hid hE
 clear hE hbx1 h1 hz1 hb1 hE1 hb2 hE2
 have HL1:Hid (([]:List Nat).length+(Lb.limbs x.natAbs).length <= maxLen):=Lib.hid (by have:=HZ1.out; unfold maxLen; simp; omega)
 have HL2:Hid ((([]:List Nat).length+(Lb.limbs x.natAbs).length)*4 <= 140737488355328):=Lib.hid (by have:=HZ1.out; simp; omega)
 go_enter Tryz.func169,Tryz.ntmps169
 go_wp2_with fail
 refine a2h (fun w'=>∃ x:Later W2,w'=x.w) 7 (.one [0,1,2,3,4] 5 (.one [] 6 (.leaf []))) (by kernel_rfl) (by kernel_rfl) (by kernel_rfl) ⟨⟨_,(Ext.refl _).drew⟩,rfl⟩ ?_
 simp only [List.take_succ_cons,List.take_zero]
 refine a4B fun K hK=>?_
 simp only [List.map_cons,List.map_nil,a1W,List.getElem?_cons_zero,List.getElem?_cons_succ,Option.getD_some]
 repeat (go_big_quiet_step (fail))
 refine wpQuiet_nil ?_
 go_wp2_with ((at_builtin; refine a2G rfl _ _ rfl Tryz.underlying31 Tryz.info_u32 rfl (by decide) a15 a3X W2.heap.size _ _ [] (Lb.limbs x.natAbs) rfl rfl (OwnG.nil _ _ _) (HS1.out.later (Ext.refl _).drew) HL1.out HL2.out (Nat.le_refl _) ?_; intro v4 w4 own4 hg4 hloc4))
 have x4:Ext W2 w4:=Ext.grown (Ext.refl _).drew hg4 (fun i hi=>by cases hi)
 have s4:SlU w4 v4 (Lb.limbs x.natAbs):=by have h:=own4.sl a15; rwa [List.nil_append] at h
 refine a1t (hK _ _ ⟨⟨_,x4⟩,rfl⟩ ?_); clear hK K
 refine a4X fun K hK=>?_
 simp only [a1W,List.getElem?_cons_zero,List.getElem?_cons_succ,Option.getD_some]
 go_wp2_with ((go_at_call 173; with_reducible refine (a3m _ _ _ _ s4 (IsI.lt x) (by have:=HZ1.out; omega)).mono ?_); rintro e w5 ⟨b5,a5,n5,c5,rfl,s5,x5⟩)
 refine a1t (hK _ _ ⟨⟨_,x4.trans x5⟩,rfl⟩ ?_); clear hK K
 refine a4d ?_
 simp only [List.drop_succ_cons,List.drop_zero]
 have HK:=Lib.hid (a0P HB.out (x4.trans x5))
 have hsg:sgn (!b1) (Lb.val (Lb.limbs x.natAbs))=-x:=by rw [Lb.a0a,HG1.out]; exact aW0 x
 rw [hsg] at s5
 clear hsg own4 hg4 hloc4
 obtain ⟨r0,r1,r2,r3⟩:=a2B HK.out
 go_wp2_with fail
 exact bodyPost_ret (v:=.agg #[.bool b5,.slice a5 n5 c5]) (by simp [results,Tryz.results169,go_sem,r0,r1]) rfl (a3U (HWE.out.trans (x4.trans x5)) (by have:=HSZ.out; omega) HK.out s5)
end Go.Proofs.YtbohkigffejhoaaGreat
