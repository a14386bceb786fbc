import Derived.Test.YtbohkigffejhoaaGreatR08
import Derived.Laws.Tables
import Derived.Great.BuildSlice
import Derived.Test.YtbohkigffejhoaaGreatR04
import Derived.Test.YtbohkigffejhoaaGreatR03
import Derived.Test.YtbohkigffejhoaaGreatR07
namespace Go.Proofs.YtbohkigffejhoaaGreat
open Go.RowKit
set_option maxRecDepth 8000
theorem a8N {w:World} {b:Nat} {t:TypeId} {fz:Nat × Nat} {x:Bool} {a:Option Addr} {n c:Nat} (h:w.heap[b]?=some (.cells #[.bool x,.slice a n c] t fz)):NoU w b:=by
 intro i y hc
 have:i=0 \/ i=1 \/ 2 <= i:=by omega
 rcases this with rfl | rfl | h2
 ·simp [World.cell?,h] at hc
 ·simp [World.cell?,h] at hc
 ·obtain ⟨k,rfl⟩:∃ k,i=k+2:=⟨i - 2,by omega⟩
  simp [World.cell?,h] at hc
set_option maxHeartbeats 4000000 in
theorem aPW (b1 b2:Bool) (s1 s2:Value) (x y:Int) (w:World) (h1:IsI w b1 s1 x) (h2:IsI w b2 s2 y) (n1:szI x <= 10000000) (n2:szI y <= 10000000) (hb:b1=b2) :
    Calls Tryz.prog 94 #[.agg #[.bool b1,s1],.agg #[.bool b2,s2]] w (aEt w (x+y)):=by
 unfold szI at n1 n2
 subst hb
 obtain ⟨p1,q1,rfl⟩:=h1.form
 obtain ⟨p2,q2,rfl⟩:=h2.form
 generalize hz1:(Lb.limbs x.natAbs).length=m1 at *
 generalize hz2:(Lb.limbs y.natAbs).length=m2 at *
 obtain ⟨W1,hW1,hb1,hE1,-⟩:=a0y w #[.bool b1,.slice p1 m1 q1] 33
 obtain ⟨W2,hW2,hb2,hE2,-⟩:=a0y W1 #[.bool b1,.slice p2 m2 q2] 33
 obtain ⟨W3,hW3,hb3,hE3,-⟩:=a0y W2 #[.bool false,.slice none 0 0] 33
 have hE:=((hE1).trans hE2).trans hE3
 have hbx1:=a0P hb1 ((hE2).trans hE3)
 obtain ⟨f0,f1⟩:=a1j hbx1 rfl rfl
 obtain ⟨d0,d1⟩:=a00 hbx1 rfl rfl
 have hbx2:=a0P hb2 (hE3)
 obtain ⟨f2,f3⟩:=a1j hbx2 rfl rfl
 obtain ⟨d2,d3⟩:=a00 hbx2 rfl rfl
 have HB:=Lib.hid hb3
 have HSZ:Hid (w.heap.size <= W2.heap.size):=Lib.hid ((hE1.trans hE2)).size
 have HS1:=Lib.hid (h1.2.later hE); have HG1:=Lib.hid h1.1; have HZ1:=Lib.hid hz1; have HBX1:=Lib.hid hbx1
 have HS2:=Lib.hid (h2.2.later hE); have HG2:=Lib.hid h2.1; have HZ2:=Lib.hid hz2; have HBX2:=Lib.hid hbx2
 have HWE:=Lib.hid hE
 clear hE hbx1 h1 hz1 hbx2 h2 hz2 hb1 hE1 hb2 hE2 hb3 hE3
 have HT:=Lib.hid (fun (w':World) (k:Ext W3 w')=>aOa _ _ _ _ w' (HS1.out.later k) (HS2.out.later k) (IsI.lt x) (IsI.lt y) (by have:=HZ1.out; omega) (by have:=HZ2.out; omega))
 have hq:(b1 == b1)=true:=by simp
 go_enter Tryz.func94,Tryz.ntmps94
 go_wp2_with fail
 refine a2h (fun w'=>∃ x:Later W3,w'=x.w) 8 (.one [0,1,2,3,4,5] 6 (.one [] 7 (.leaf []))) (by kernel_rfl) (by kernel_rfl) (by kernel_rfl) ⟨⟨_,(Ext.refl _).drew⟩,rfl⟩ ?_
 simp only [List.take_succ_cons,List.take_zero]
 refine a4B fun K hK=>?_
 simp only [List.map_cons,List.map_nil,a1W,List.getElem?_cons_zero,List.getElem?_cons_succ,Option.getD_some]
 repeat (go_big_quiet_step (fail))
 refine wpQuiet_nil ?_
 go_wp2_with ((go_at_call 176; with_reducible refine (HT.out _ (Ext.refl _).drew).mono ?_); rintro e w4 ⟨l4,k4,v4,c4,a4,n4,q4,rfl,s4,x4⟩)
 refine a1t (hK _ _ ⟨⟨_,(Ext.refl _).drew.trans x4⟩,rfl⟩ ?_); clear hK K
 refine a4X fun K hK=>?_
 simp only [a1W,List.getElem?_cons_zero,List.getElem?_cons_succ,Option.getD_some]
 go_wp2_with ((go_at_call 173; with_reducible refine (a3m _ _ _ _ s4 k4 (by have:=HZ1.out; have:=HZ2.out; omega)).mono ?_); rintro e w5 ⟨b5,a5,n5,c5,rfl,s5,x5⟩)
 refine a1t (hK _ _ ⟨⟨_,((Ext.refl _).drew.trans x4).trans x5⟩,rfl⟩ ?_); clear hK K
 refine a4d ?_
 simp only [List.drop_succ_cons,List.drop_zero]
 have HK:=Lib.hid (a0P HB.out (((Ext.refl _).drew.trans x4).trans x5))
 have hsg:sgn b1 (Lb.val l4)=x+y:=by rw [v4,Lb.a0a,Lb.a0a,HG1.out]; exact a9Y (HG1.out.symm.trans HG2.out)
 rw [hsg] at s5
 clear hsg
 obtain ⟨r0,r1,r2,r3⟩:=a2B HK.out
 go_wp2_with fail
 exact bodyPost_ret (v:=.agg #[.bool b5,.slice a5 n5 c5]) (by simp [results,Tryz.results94,go_sem,r0,r1]) rfl (a3U (HWE.out.trans (((Ext.refl _).drew.trans x4).trans x5)) (by have:=HSZ.out; omega) HK.out s5)
theorem a8O {m n:Nat} (h:m <= n):(Lb.limbs m).length <= (Lb.limbs n).length:=Lb.a0X (Nat.lt_of_le_of_lt h (Lb.a01 n))
theorem aLp {a b:Nat} (h:b <= a):decide (a3L a b < 0)=false:=by
 unfold a3L
 rw [if_neg (by omega)]
 split <;> decide
theorem aLq {a b:Nat} (h:a < b):decide (a3L a b < 0)=true:=by rw [a3k h]; decide
set_option maxHeartbeats 4000000 in
theorem aXD (b1 b2:Bool) (s1 s2:Value) (x y:Int) (w:World) (h1:IsI w b1 s1 x) (h2:IsI w b2 s2 y) (n1:szI x <= 10000000) (n2:szI y <= 10000000) (hb:b1 ≠ b2) (hge:y.natAbs <= x.natAbs) :
    Calls Tryz.prog 94 #[.agg #[.bool b1,s1],.agg #[.bool b2,s2]] w (aEt w (x+y)):=by
 unfold szI at n1 n2
 have hll:=a8O hge
 obtain ⟨p1,q1,rfl⟩:=h1.form
 obtain ⟨p2,q2,rfl⟩:=h2.form
 generalize hz1:(Lb.limbs x.natAbs).length=m1 at *
 generalize hz2:(Lb.limbs y.natAbs).length=m2 at *
 obtain ⟨W1,hW1,hb1,hE1,-⟩:=a0y w #[.bool b1,.slice p1 m1 q1] 33
 obtain ⟨W2,hW2,hb2,hE2,-⟩:=a0y W1 #[.bool b2,.slice p2 m2 q2] 33
 obtain ⟨W3,hW3,hb3,hE3,-⟩:=a0y W2 #[.bool false,.slice none 0 0] 33
 have hE:=((hE1).trans hE2).trans hE3
 have hbx1:=a0P hb1 ((hE2).trans hE3)
 obtain ⟨f0,f1⟩:=a1j hbx1 rfl rfl
 obtain ⟨d0,d1⟩:=a00 hbx1 rfl rfl
 have hbx2:=a0P hb2 (hE3)
 obtain ⟨f2,f3⟩:=a1j hbx2 rfl rfl
 obtain ⟨d2,d3⟩:=a00 hbx2 rfl rfl
 have HB:=Lib.hid hb3
 have HSZ:Hid (w.heap.size <= W2.heap.size):=Lib.hid ((hE1.trans hE2)).size
 have HS1:=Lib.hid (h1.2.later hE); have HG1:=Lib.hid h1.1; have HZ1:=Lib.hid hz1; have HBX1:=Lib.hid hbx1
 have HS2:=Lib.hid (h2.2.later hE); have HG2:=Lib.hid h2.1; have HZ2:=Lib.hid hz2; have HBX2:=Lib.hid hbx2
 have HWE:=Lib.hid hE
 clear hE hbx1 h1 hz1 hbx2 h2 hz2 hb1 hE1 hb2 hE2 hb3 hE3
 have HT0:=Lib.hid (fun (w':World) (k:Ext W3 w')=>a6f _ _ _ _ w' (HS1.out.later k) (HS2.out.later k) (IsI.lt x) (IsI.lt y) (by have:=HZ1.out; omega) (by have:=HZ2.out; omega))
 have hcv:decide (a3L (Lb.val (Lb.limbs x.natAbs)) (Lb.val (Lb.limbs y.natAbs)) < 0)=false:=aLp (by rw [Lb.a0a,Lb.a0a]; exact hge)
 have HT:=Lib.hid (fun (w':World) (k:Ext W3 w')=>aBT _ _ _ _ w' (HS1.out.later k) (HS2.out.later k) (IsI.lt x) (IsI.lt y) (by have:=HZ1.out; omega) (by rw [HZ1.out,HZ2.out]; exact hll) (by rw [Lb.a0a,Lb.a0a]; exact hge))
 generalize a3L (Lb.val (Lb.limbs x.natAbs)) (Lb.val (Lb.limbs y.natAbs))=cv at *
 have hq:(b1 == b2)=false:=by cases b1 <;> cases b2 <;> simp at hb ⊢
 have HGE:=Lib.hid hge; have HNB:=Lib.hid hb
 clear hge hb hll
 go_enter Tryz.func94,Tryz.ntmps94
 go_wp2_with ((go_at_call 175; with_reducible refine (HT0.out _ (Ext.refl _)).mono ?_); rintro e w9 ⟨rfl,x9⟩)
 have fx0:=fun z:Later w9=>f0 (Later.mk z.w (x9.trans z.ext)); have fx1:=fun z:Later w9=>f1 (Later.mk z.w (x9.trans z.ext)); have fx2:=fun z:Later w9=>f2 (Later.mk z.w (x9.trans z.ext)); have fx3:=fun z:Later w9=>f3 (Later.mk z.w (x9.trans z.ext))
 simp only [Later.w_mk] at fx0 fx1 fx2 fx3
 clear f0 f1 f2 f3
 refine a2h (fun w'=>∃ x:Later w9,w'=x.w) 8 (.one [0,1,2,3,4,5] 6 (.one [] 7 (.leaf []))) (by kernel_rfl) (by kernel_rfl) (by kernel_rfl) ⟨⟨_,(Ext.refl _).drew⟩,rfl⟩ ?_
 simp only [List.take_succ_cons,List.take_zero]
 refine a4B fun K hK=>?_
 simp only [List.map_cons,List.map_nil,a1W,List.getElem?_cons_zero,List.getElem?_cons_succ,Option.getD_some]
 repeat (go_big_quiet_step (fail))
 refine wpQuiet_nil ?_
 go_wp2_with ((go_at_call 177; with_reducible refine (HT.out _ x9.drew).mono ?_); rintro e w4 ⟨l4,k4,v4,c4,a4,n4,q4,rfl,s4,x4⟩)
 refine a1t (hK _ _ ⟨⟨_,(Ext.refl _).drew.trans x4⟩,rfl⟩ ?_); clear hK K
 refine a4X fun K hK=>?_
 simp only [a1W,List.getElem?_cons_zero,List.getElem?_cons_succ,Option.getD_some]
 go_wp2_with ((go_at_call 173; with_reducible refine (a3m _ _ _ _ s4 k4 (by have:=HZ1.out; omega)).mono ?_); rintro e w5 ⟨b5,a5,n5,c5,rfl,s5,x5⟩)
 refine a1t (hK _ _ ⟨⟨_,((Ext.refl _).drew.trans x4).trans x5⟩,rfl⟩ ?_); clear hK K
 refine a4d ?_
 simp only [List.drop_succ_cons,List.drop_zero]
 have HK:=Lib.hid (a0P HB.out (x9.trans (((Ext.refl _).drew.trans x4).trans x5)))
 have hsg:sgn b1 (Lb.val l4)=x+y:=by rw [v4,Lb.a0a,Lb.a0a,HG1.out]; exact a7l (by rw [<- HG1.out,<- HG2.out]; exact HNB.out) HGE.out
 rw [hsg] at s5
 clear hsg
 obtain ⟨r0,r1,r2,r3⟩:=a2B HK.out
 go_wp2_with fail
 exact bodyPost_ret (v:=.agg #[.bool b5,.slice a5 n5 c5]) (by simp [results,Tryz.results94,go_sem,r0,r1]) rfl (a3U (HWE.out.trans (x9.trans (((Ext.refl _).drew.trans x4).trans x5))) (by have:=HSZ.out; omega) HK.out s5)
end Go.Proofs.YtbohkigffejhoaaGreat
namespace Go.Proofs.YtbohkigffejhoaaGreat
open Go.RowKit
set_option maxRecDepth 8000
theorem a5w {w:World} {b:Nat} {cs:Array Value} {t:TypeId} (h:w.heap[b]?=some (.cells cs t (0,0))) (i:Nat):w.frozen? ⟨b,i,none⟩=false:=by
 simp [World.frozen?,h]
theorem aOb {w:World} {b:Nat} {t:TypeId} {x0 x1:Value} (h:w.heap[b]?=some (.cells #[x0,x1] t (0,0))) (y0 y1:Value):((w.setCell ⟨b,0,none⟩ y0).setCell ⟨b,1,none⟩ y1).heap[b]?=some (.cells #[y0,y1] t (0,0)):=by
 have h1:=heap_setCell_same w b 0 _ _ y0 h
 have h2:=heap_setCell_same (w.setCell ⟨b,0,none⟩ y0) b 1 _ _ y1 h1
 rw [h2]; rfl
theorem aMh {w w9:World} {A B:Nat} {t u:TypeId} {b1 b2:Bool} {p1 p2:Option Addr} {m1 m2 q1 q2:Nat} (hA:w9.heap[A]?=some (.cells #[.bool b1,.slice p1 m1 q1] t (0,0))) (hB:w9.heap[B]?=some (.cells #[.bool b2,.slice p2 m2 q2] u (0,0))) (hne:A ≠ B) (hwA:w.heap.size <= A) (hwB:w.heap.size <= B) (hx:Ext w w9) :
    ∃ V,(((w9.setCell ⟨A,0,none⟩ (.bool b2)).setCell ⟨A,1,none⟩ (.slice p2 m2 q2)).setCell ⟨B,0,none⟩ (.bool b1)).setCell ⟨B,1,none⟩ (.slice p1 m1 q1)=V /\
      V.heap[A]?=some (.cells #[.bool b2,.slice p2 m2 q2] t (0,0))/\V.heap[B]?=some (.cells #[.bool b1,.slice p1 m1 q1] u (0,0))/\Ext w V/\(∀ s l,SlU w9 s l->SlU V s l)/\(∀ k,k ≠ A->k ≠ B->V.heap[k]?=w9.heap[k]?):=by
 have h1:=aOb hA (.bool b2) (.slice p2 m2 q2)
 have hB':((w9.setCell ⟨A,0,none⟩ (.bool b2)).setCell ⟨A,1,none⟩ (.slice p2 m2 q2)).heap[B]?=some (.cells #[.bool b2,.slice p2 m2 q2] u (0,0)):=by
  rw [Below.heap_setCell _ _ _ _ (by exact fun e=>hne e.symm),Below.heap_setCell _ _ _ _ (by exact fun e=>hne e.symm)]; exact hB
 have h2:=aOb hB' (.bool b1) (.slice p1 m1 q1)
 refine ⟨_,rfl,?_,h2,(((hx.setCell hwA _).setCell hwA _).setCell hwB _).setCell hwB _,fun s l h=>?_,fun k k1 k2=>?_⟩
 ·rw [Below.heap_setCell _ _ _ _ (by exact hne),Below.heap_setCell _ _ _ _ (by exact hne)]; exact h1
 ·have nA:=a8N hA
  have nA1:=nA.set (i:=0) (.bool b2) (by simp)
  have s1:=h.set nA (i:=0) (.bool b2)
  have s2:=s1.set nA1 (i:=1) (.slice p2 m2 q2)
  have nB:=a8N hB'
  have s3:=s2.set nB (i:=0) (.bool b1)
  exact s3.set (nB.set (i:=0) (.bool b1) (by simp)) _
 ·rw [Below.heap_setCell _ _ _ _ (by exact k2),Below.heap_setCell _ _ _ _ (by exact k2),Below.heap_setCell _ _ _ _ (by exact k1),Below.heap_setCell _ _ _ _ (by exact k1)]
set_option maxHeartbeats 4000000 in
theorem aXC (b1 b2:Bool) (s1 s2:Value) (x y:Int) (w:World) (h1:IsI w b1 s1 x) (h2:IsI w b2 s2 y) (n1:szI x <= 10000000) (n2:szI y <= 10000000) (hb:b1 ≠ b2) (hlt:x.natAbs < y.natAbs) :
    Calls Tryz.prog 94 #[.agg #[.bool b1,s1],.agg #[.bool b2,s2]] w (aEt w (x+y)):=by
 unfold szI at n1 n2
 have hll:=a8O (Nat.le_of_lt hlt)
 obtain ⟨p1,q1,rfl⟩:=h1.form
 obtain ⟨p2,q2,rfl⟩:=h2.form
 generalize hz1:(Lb.limbs x.natAbs).length=m1 at *
 generalize hz2:(Lb.limbs y.natAbs).length=m2 at *
 obtain ⟨W1,hW1,hb1,hE1,-⟩:=a0y w #[.bool b1,.slice p1 m1 q1] 33
 obtain ⟨W2,hW2,hb2,hE2,-⟩:=a0y W1 #[.bool b2,.slice p2 m2 q2] 33
 obtain ⟨W3,hW3,hb3,hE3,-⟩:=a0y W2 #[.bool false,.slice none 0 0] 33
 have hE:=((hE1).trans hE2).trans hE3
 have hbx1:=a0P hb1 ((hE2).trans hE3)
 obtain ⟨f0,f1⟩:=a1j hbx1 rfl rfl
 obtain ⟨d0,d1⟩:=a00 hbx1 rfl rfl
 have hbx2:=a0P hb2 (hE3)
 obtain ⟨f2,f3⟩:=a1j hbx2 rfl rfl
 obtain ⟨d2,d3⟩:=a00 hbx2 rfl rfl
 have HB:=Lib.hid hb3
 have HSZ:Hid (w.heap.size <= W2.heap.size):=Lib.hid ((hE1.trans hE2)).size
 have HS1:=Lib.hid (h1.2.later hE); have HG1:=Lib.hid h1.1; have HZ1:=Lib.hid hz1; have HBX1:=Lib.hid hbx1
 have HS2:=Lib.hid (h2.2.later hE); have HG2:=Lib.hid h2.1; have HZ2:=Lib.hid hz2; have HBX2:=Lib.hid hbx2
 have HWE:=Lib.hid hE
 clear hE hbx1 h1 hz1 hbx2 h2 hz2 hb1 hE1 hb2 hE2 hb3 hE3
 have HT0:=Lib.hid (fun (w':World) (k:Ext W3 w')=>a6f _ _ _ _ w' (HS1.out.later k) (HS2.out.later k) (IsI.lt x) (IsI.lt y) (by have:=HZ1.out; omega) (by have:=HZ2.out; omega))
 have hcv:decide (a3L (Lb.val (Lb.limbs x.natAbs)) (Lb.val (Lb.limbs y.natAbs)) < 0)=true:=aLq (by rw [Lb.a0a,Lb.a0a]; exact hlt)
 generalize a3L (Lb.val (Lb.limbs x.natAbs)) (Lb.val (Lb.limbs y.natAbs))=cv at *
 have hq:(b1 == b2)=false:=by cases b1 <;> cases b2 <;> simp at hb ⊢
 have HLT:=Lib.hid hlt; have HNB:=Lib.hid hb; have HLL:=Lib.hid hll
 have hn1:w.heap.size < W1.heap.size:=by
  have:=HSZ.out
  have h3:W1.heap.size=w.heap.size+1:=by rw [<- hW1]; simp
  omega
 have hn2:W1.heap.size < W2.heap.size:=by rw [<- hW2]; simp
 have hne:w.heap.size ≠ W1.heap.size:=by omega
 have hne':W1.heap.size ≠ w.heap.size:=by omega
 have HN1:=Lib.hid hn1; have HN2:=Lib.hid hn2
 clear hlt hb hll hn1 hn2
 go_enter Tryz.func94,Tryz.ntmps94
 go_wp2_with fail
 refine (HT0.out _ (Ext.refl _)).mono ?_
 rintro e w9 ⟨rfl,x9⟩
 have hA:=a0P HBX1.out x9; have hB:=a0P HBX2.out x9
 obtain ⟨V,hV,hVA,hVB,hVx,hVs,hVo⟩:=aMh hA hB hne (Nat.le_refl _) (by have:=HN1.out; omega) (HWE.out.trans x9)
 obtain ⟨c0,c1⟩:=a00 hA rfl rfl; obtain ⟨c2,c3⟩:=a00 hB rfl rfl
 have g0:=a5w hA 0; have g1:=a5w hA 1; have g2:=a5w hB 0; have g3:=a5w hB 1
 have HVX:=Lib.hid hVx; have HVS:=Lib.hid hVs; have HVO:=Lib.hid (hVo W2.heap.size (by have:=HN1.out; have:=HN2.out; omega) (by have:=HN2.out; omega)); have HVA:=Lib.hid hVA; have HVB:=Lib.hid hVB; have HX9:=Lib.hid x9
 clear hA hB hVA hVB hVx hVs hVo f0 f1 f2 f3 d0 d1 d2 d3 HT0
 go_wp2_with fail
 clear c0 c1 c2 c3 g0 g1 g2 g3 hV hcv hq
 obtain ⟨f0,f1⟩:=a1j HVA.out rfl rfl
 obtain ⟨f2,f3⟩:=a1j HVB.out rfl rfl
 have HT:=Lib.hid (fun (w':World) (k:Ext V w')=>aBT _ _ _ _ w' ((HVS.out _ _ (HS2.out.later HX9.out)).later k) ((HVS.out _ _ (HS1.out.later HX9.out)).later k) (IsI.lt y) (IsI.lt x) (by have:=HZ2.out; omega) (by have:=HLL.out; have:=HZ1.out; have:=HZ2.out; omega) (by rw [Lb.a0a,Lb.a0a]; have:=HLT.out; omega))
 refine a2h (fun w'=>∃ x:Later V,w'=x.w) 8 (.one [0,1,2,3,4,5] 6 (.one [] 7 (.leaf []))) (by kernel_rfl) (by kernel_rfl) (by kernel_rfl) ⟨⟨_,(Ext.refl _).drew⟩,rfl⟩ ?_
 simp only [List.take_succ_cons,List.take_zero]
 refine a4B fun K hK=>?_
 simp only [List.map_cons,List.map_nil,a1W,List.getElem?_cons_zero,List.getElem?_cons_succ,Option.getD_some]
 repeat (go_big_quiet_step (fail))
 refine wpQuiet_nil ?_
 go_wp2_with ((go_at_call 177; with_reducible refine (HT.out _ (Ext.refl _).drew).mono ?_); rintro e w4 ⟨l4,k4,v4,c4,a4,n4,q4,rfl,s4,x4⟩)
 refine a1t (hK _ _ ⟨⟨_,(Ext.refl _).drew.trans x4⟩,rfl⟩ ?_); clear hK K
 refine a4X fun K hK=>?_
 simp only [a1W,List.getElem?_cons_zero,List.getElem?_cons_succ,Option.getD_some]
 go_wp2_with ((go_at_call 173; with_reducible refine (a3m _ _ _ _ s4 k4 (by have:=HZ2.out; omega)).mono ?_); rintro e w5 ⟨b5,a5,n5,c5,rfl,s5,x5⟩)
 refine a1t (hK _ _ ⟨⟨_,((Ext.refl _).drew.trans x4).trans x5⟩,rfl⟩ ?_); clear hK K
 refine a4d ?_
 simp only [List.drop_succ_cons,List.drop_zero]
 have HK:=Lib.hid (a0P (HVO.out.trans (a0P HB.out HX9.out)) (((Ext.refl _).drew.trans x4).trans x5))
 have hsg:sgn b2 (Lb.val l4)=x+y:=by
  rw [v4,Lb.a0a,Lb.a0a,HG2.out,Int.add_comm x y]
  exact a7l (by rw [<- HG1.out,<- HG2.out]; exact HNB.out.symm) (Nat.le_of_lt HLT.out)
 rw [hsg] at s5
 clear hsg
 obtain ⟨r0,r1,r2,r3⟩:=a2B HK.out
 go_wp2_with fail
 exact bodyPost_ret (v:=.agg #[.bool b5,.slice a5 n5 c5]) (by simp [results,Tryz.results94,go_sem,r0,r1]) rfl (a3U (HVX.out.trans (((Ext.refl _).drew.trans x4).trans x5)) (by have:=HSZ.out; omega) HK.out s5)
theorem a9u (b1 b2:Bool) (s1 s2:Value) (x y:Int) (w:World) (h1:IsI w b1 s1 x) (h2:IsI w b2 s2 y) (n1:szI x <= 10000000) (n2:szI y <= 10000000) :
    Calls Tryz.prog 94 #[.agg #[.bool b1,s1],.agg #[.bool b2,s2]] w (aEt w (x+y)):=by
 by_cases hb:b1=b2
 ·exact aPW b1 b2 s1 s2 x y w h1 h2 n1 n2 hb
 ·rcases Nat.lt_or_ge x.natAbs y.natAbs with h | h
  ·exact aXC b1 b2 s1 s2 x y w h1 h2 n1 n2 hb h
  ·exact aXD b1 b2 s1 s2 x y w h1 h2 n1 n2 hb h
end Go.Proofs.YtbohkigffejhoaaGreat
namespace Go.Proofs.YtbohkigffejhoaaGreat
open Go.RowKit
set_option maxRecDepth 8000
theorem aDa {n:Nat} (h:0 < n):0 < (Lb.limbs n).length:=by
 rcases Nat.eq_zero_or_pos (Lb.limbs n).length with h0 | h0
 ·have:=Lb.a01 n
  rw [h0,Nat.pow_zero] at this
  omega
 ·exact h0
theorem aIC {w:World} {s:Value} {b nb:Bool} {y:Int} (h:IsI w b s y) (hn:nb=decide (-y < 0)):IsI w nb s (-y):=⟨hn,by rw [Int.natAbs_neg]; exact h.2⟩
set_option maxHeartbeats 4000000 in
theorem aTp (b1 b2:Bool) (s1 s2:Value) (x y:Int) (w:World) (h1:IsI w b1 s1 x) (h2:IsI w b2 s2 y) (n1:szI x <= 10000000) (n2:szI y <= 10000000) (hy:y < 0) :
    Calls Tryz.prog 383 #[.agg #[.bool b1,s1],.agg #[.bool b2,s2]] w (aEt w (x - y)):=by
 have hb2:b2=true:=by rw [h2.1]; simp; omega
 have hnb:false=decide (-y < 0):=by simp; omega
 subst hb2
 have HM:Hid ((Lb.limbs y.natAbs).length=(Lb.limbs y.natAbs).length):=Lib.hid (rfl)
 have HNY:=Lib.hid (aHU n2)
 have HNX:=Lib.hid n1
 have HY2:=Lib.hid (fun w' (h:IsI w' true s2 y)=>aIC (nb:=false) h hnb)
 have HX2:=Lib.hid h1.1
 unfold szI at n1 n2
 clear hnb
 obtain ⟨p1,q1,rfl⟩:=h1.form
 obtain ⟨p2,q2,rfl⟩:=h2.form
 generalize hz1:(Lb.limbs x.natAbs).length=m1 at *
 generalize hz2:(Lb.limbs y.natAbs).length=m2 at *
 obtain ⟨W1,hW1,hb1,hE1,-⟩:=a0y w #[.bool b1,.slice p1 m1 q1] 33
 obtain ⟨W2,hW2,hb2,hE2,-⟩:=a0y W1 #[.bool true,.slice p2 m2 q2] 33
 obtain ⟨W3,hW3,hb3,hE3,-⟩:=a0y W2 #[.bool false,.slice none 0 0] 33
 have hE:=((hE1).trans hE2).trans hE3
 have hbx1:=a0P hb1 ((hE2).trans hE3)
 obtain ⟨f0,f1⟩:=a1j hbx1 rfl rfl
 obtain ⟨d0,d1⟩:=a00 hbx1 rfl rfl
 have hbx2:=a0P hb2 (hE3)
 obtain ⟨f2,f3⟩:=a1j hbx2 rfl rfl
 obtain ⟨d2,d3⟩:=a00 hbx2 rfl rfl
 have HB:=Lib.hid hb3
 have HSZ:Hid (w.heap.size <= W2.heap.size):=Lib.hid ((hE1.trans hE2)).size
 have HS1:=Lib.hid (h1.2.later hE); have HG1:=Lib.hid h1.1; have HZ1:=Lib.hid hz1; have HBX1:=Lib.hid hbx1
 have HS2:=Lib.hid (h2.2.later hE); have HG2:=Lib.hid h2.1; have HZ2:=Lib.hid hz2; have HBX2:=Lib.hid hbx2
 have HWE:=Lib.hid hE
 clear hE hbx1 h1 hz1 hbx2 h2 hz2 hb1 hE1 hb2 hE2 hb3 hE3
 have hmm:=HM.out
 clear hmm
 have hmm:=True.intro
 have hne:w.heap.size ≠ W1.heap.size:=by
  have h3:W1.heap.size=w.heap.size+1:=by rw [<- hW1]; simp
  omega
 have hne':W1.heap.size ≠ w.heap.size:=fun e=>hne e.symm
 have hne2:W2.heap.size ≠ W1.heap.size:=by
  have h3:W2.heap.size=W1.heap.size+1:=by rw [<- hW2]; simp
  omega
 have g2:=a5w HBX2.out 0
 obtain ⟨V,hV⟩:∃ V,W3.setCell ⟨W1.heap.size,0,none⟩ (.bool false)=V:=⟨_,rfl⟩
 have hVx:Ext w V:=by rw [<- hV]; exact HWE.out.setCell (show w.heap.size <= W1.heap.size by have h3:W1.heap.size=w.heap.size+1:=(by rw [<- hW1]; simp); omega) _
 have hVA:V.heap[w.heap.size]?=some (.cells #[.bool b1,.slice p1 m1 q1] 33 (0,0)):=by rw [<- hV,Below.heap_setCell _ _ _ _ (by exact hne)]; exact HBX1.out
 have hVB:V.heap[W1.heap.size]?=some (.cells #[.bool false,.slice p2 m2 q2] 33 (0,0)):=by rw [<- hV,heap_setCell_same _ _ _ _ _ _ HBX2.out]; rfl
 have hVC:V.heap[W2.heap.size]?=some (.cells #[.bool false,.slice none 0 0] 33 (0,0)):=by rw [<- hV,Below.heap_setCell _ _ _ _ (by exact hne2)]; exact HB.out
 have hS1:SlU V (.slice p1 m1 q1) (Lb.limbs x.natAbs):=by rw [<- hV]; exact HS1.out.set (a8N HBX2.out) _
 have hS2:SlU V (.slice p2 m2 q2) (Lb.limbs y.natAbs):=by rw [<- hV]; exact HS2.out.set (a8N HBX2.out) _
 have HC:=Lib.hid (a9u b1 false _ _ x (-y) V ⟨HX2.out,hS1⟩ (HY2.out V ⟨HG2.out,hS2⟩) HNX.out HNY.out)
 have HVX:=Lib.hid hVx; have HVC:=Lib.hid hVC
 obtain ⟨c0,c1⟩:=a00 hVA rfl rfl; obtain ⟨c2,c3⟩:=a00 hVB rfl rfl
 clear hVA hVB hVC hVx hS1 hS2 hne hne' hne2 f0 f1 f2 f3 hmm
 go_enter Tryz.func383,Tryz.ntmps383
 go_wp2_with fail
 refine HC.out.mono ?_
 rintro e w5 ⟨b5,a5,n5,c5,rfl,s5,x5⟩
 have HK:=Lib.hid (a0P HVC.out x5)
 rw [<- Int.sub_eq_add_neg] at s5
 obtain ⟨r0,r1,r2,r3⟩:=a2B HK.out
 go_wp2_with fail
 exact bodyPost_ret (v:=.agg #[.bool b5,.slice a5 n5 c5]) (by simp [results,Tryz.results383,go_sem,r0,r1]) rfl (a3U (HVX.out.trans x5) (by have:=HSZ.out; omega) HK.out s5)
set_option maxHeartbeats 4000000 in
theorem aPT (b1 b2:Bool) (s1 s2:Value) (x y:Int) (w:World) (h1:IsI w b1 s1 x) (h2:IsI w b2 s2 y) (n1:szI x <= 10000000) (n2:szI y <= 10000000) (hy:y=0) :
    Calls Tryz.prog 383 #[.agg #[.bool b1,s1],.agg #[.bool b2,s2]] w (aEt w (x - y)):=by
 have hb2:b2=false:=by rw [h2.1]; simp; omega
 have hnb:false=decide (-y < 0):=by simp; omega
 subst hb2
 have HM:Hid ((Lb.limbs y.natAbs).length=0):=Lib.hid (by rw [hy]; simp [Lb.a1b])
 have HNY:=Lib.hid (aHU n2)
 have HNX:=Lib.hid n1
 have HY2:=Lib.hid (fun w' (h:IsI w' false s2 y)=>aIC (nb:=false) h hnb)
 have HX2:=Lib.hid h1.1
 unfold szI at n1 n2
 clear hnb
 obtain ⟨p1,q1,rfl⟩:=h1.form
 obtain ⟨p2,q2,rfl⟩:=h2.form
 generalize hz1:(Lb.limbs x.natAbs).length=m1 at *
 generalize hz2:(Lb.limbs y.natAbs).length=m2 at *
 obtain ⟨W1,hW1,hb1,hE1,-⟩:=a0y w #[.bool b1,.slice p1 m1 q1] 33
 obtain ⟨W2,hW2,hb2,hE2,-⟩:=a0y W1 #[.bool false,.slice p2 m2 q2] 33
 obtain ⟨W3,hW3,hb3,hE3,-⟩:=a0y W2 #[.bool false,.slice none 0 0] 33
 have hE:=((hE1).trans hE2).trans hE3
 have hbx1:=a0P hb1 ((hE2).trans hE3)
 obtain ⟨f0,f1⟩:=a1j hbx1 rfl rfl
 obtain ⟨d0,d1⟩:=a00 hbx1 rfl rfl
 have hbx2:=a0P hb2 (hE3)
 obtain ⟨f2,f3⟩:=a1j hbx2 rfl rfl
 obtain ⟨d2,d3⟩:=a00 hbx2 rfl rfl
 have HB:=Lib.hid hb3
 have HSZ:Hid (w.heap.size <= W2.heap.size):=Lib.hid ((hE1.trans hE2)).size
 have HS1:=Lib.hid (h1.2.later hE); have HG1:=Lib.hid h1.1; have HZ1:=Lib.hid hz1; have HBX1:=Lib.hid hbx1
 have HS2:=Lib.hid (h2.2.later hE); have HG2:=Lib.hid h2.1; have HZ2:=Lib.hid hz2; have HBX2:=Lib.hid hbx2
 have HWE:=Lib.hid hE
 clear hE hbx1 h1 hz1 hbx2 h2 hz2 hb1 hE1 hb2 hE2 hb3 hE3
 have hmm:=HM.out
 subst hmm
 have hne:w.heap.size ≠ W1.heap.size:=by
  have h3:W1.heap.size=w.heap.size+1:=by rw [<- hW1]; simp
  omega
 have hne':W1.heap.size ≠ w.heap.size:=fun e=>hne e.symm
 have hne2:W2.heap.size ≠ W1.heap.size:=by
  have h3:W2.heap.size=W1.heap.size+1:=by rw [<- hW2]; simp
  omega
 have g2:=a5w HBX2.out 0
 obtain ⟨V,hV⟩:∃ V,W3.setCell ⟨W1.heap.size,0,none⟩ (.bool false)=V:=⟨_,rfl⟩
 have hVx:Ext w V:=by rw [<- hV]; exact HWE.out.setCell (show w.heap.size <= W1.heap.size by have h3:W1.heap.size=w.heap.size+1:=(by rw [<- hW1]; simp); omega) _
 have hVA:V.heap[w.heap.size]?=some (.cells #[.bool b1,.slice p1 m1 q1] 33 (0,0)):=by rw [<- hV,Below.heap_setCell _ _ _ _ (by exact hne)]; exact HBX1.out
 have hVB:V.heap[W1.heap.size]?=some (.cells #[.bool false,.slice p2 0 q2] 33 (0,0)):=by rw [<- hV,heap_setCell_same _ _ _ _ _ _ HBX2.out]; rfl
 have hVC:V.heap[W2.heap.size]?=some (.cells #[.bool false,.slice none 0 0] 33 (0,0)):=by rw [<- hV,Below.heap_setCell _ _ _ _ (by exact hne2)]; exact HB.out
 have hS1:SlU V (.slice p1 m1 q1) (Lb.limbs x.natAbs):=by rw [<- hV]; exact HS1.out.set (a8N HBX2.out) _
 have hS2:SlU V (.slice p2 0 q2) (Lb.limbs y.natAbs):=by rw [<- hV]; exact HS2.out.set (a8N HBX2.out) _
 have HC:=Lib.hid (a9u b1 false _ _ x (-y) V ⟨HX2.out,hS1⟩ (HY2.out V ⟨HG2.out,hS2⟩) HNX.out HNY.out)
 have HVX:=Lib.hid hVx; have HVC:=Lib.hid hVC
 obtain ⟨c0,c1⟩:=a00 hVA rfl rfl; obtain ⟨c2,c3⟩:=a00 hVB rfl rfl
 clear hVA hVB hVC hVx hS1 hS2 hne hne' hne2 f0 f1 f2 f3
 go_enter Tryz.func383,Tryz.ntmps383
 go_wp2_with fail
 refine HC.out.mono ?_
 rintro e w5 ⟨b5,a5,n5,c5,rfl,s5,x5⟩
 have HK:=Lib.hid (a0P HVC.out x5)
 rw [<- Int.sub_eq_add_neg] at s5
 obtain ⟨r0,r1,r2,r3⟩:=a2B HK.out
 go_wp2_with fail
 exact bodyPost_ret (v:=.agg #[.bool b5,.slice a5 n5 c5]) (by simp [results,Tryz.results383,go_sem,r0,r1]) rfl (a3U (HVX.out.trans x5) (by have:=HSZ.out; omega) HK.out s5)
set_option maxHeartbeats 4000000 in
theorem aTo (b1 b2:Bool) (s1 s2:Value) (x y:Int) (w:World) (h1:IsI w b1 s1 x) (h2:IsI w b2 s2 y) (n1:szI x <= 10000000) (n2:szI y <= 10000000) (hy:0 < y) :
    Calls Tryz.prog 383 #[.agg #[.bool b1,s1],.agg #[.bool b2,s2]] w (aEt w (x - y)):=by
 have hb2:b2=false:=by rw [h2.1]; simp; omega
 have hnb:true=decide (-y < 0):=by simp; omega
 subst hb2
 have HM:Hid (0 < (Lb.limbs y.natAbs).length):=Lib.hid (aDa (by omega))
 have HNY:=Lib.hid (aHU n2)
 have HNX:=Lib.hid n1
 have HY2:=Lib.hid (fun w' (h:IsI w' false s2 y)=>aIC (nb:=true) h hnb)
 have HX2:=Lib.hid h1.1
 unfold szI at n1 n2
 clear hnb
 obtain ⟨p1,q1,rfl⟩:=h1.form
 obtain ⟨p2,q2,rfl⟩:=h2.form
 generalize hz1:(Lb.limbs x.natAbs).length=m1 at *
 generalize hz2:(Lb.limbs y.natAbs).length=m2 at *
 obtain ⟨W1,hW1,hb1,hE1,-⟩:=a0y w #[.bool b1,.slice p1 m1 q1] 33
 obtain ⟨W2,hW2,hb2,hE2,-⟩:=a0y W1 #[.bool false,.slice p2 m2 q2] 33
 obtain ⟨W3,hW3,hb3,hE3,-⟩:=a0y W2 #[.bool false,.slice none 0 0] 33
 have hE:=((hE1).trans hE2).trans hE3
 have hbx1:=a0P hb1 ((hE2).trans hE3)
 obtain ⟨f0,f1⟩:=a1j hbx1 rfl rfl
 obtain ⟨d0,d1⟩:=a00 hbx1 rfl rfl
 have hbx2:=a0P hb2 (hE3)
 obtain ⟨f2,f3⟩:=a1j hbx2 rfl rfl
 obtain ⟨d2,d3⟩:=a00 hbx2 rfl rfl
 have HB:=Lib.hid hb3
 have HSZ:Hid (w.heap.size <= W2.heap.size):=Lib.hid ((hE1.trans hE2)).size
 have HS1:=Lib.hid (h1.2.later hE); have HG1:=Lib.hid h1.1; have HZ1:=Lib.hid hz1; have HBX1:=Lib.hid hbx1
 have HS2:=Lib.hid (h2.2.later hE); have HG2:=Lib.hid h2.1; have HZ2:=Lib.hid hz2; have HBX2:=Lib.hid hbx2
 have HWE:=Lib.hid hE
 clear hE hbx1 h1 hz1 hbx2 h2 hz2 hb1 hE1 hb2 hE2 hb3 hE3
 have hmm:=HM.out
 have hq1:decide (0 < m2)=true:=by simp [hmm]
 have hq2:decide ((m2:Int) > 0)=true:=by simp [hmm]
 have hne:w.heap.size ≠ W1.heap.size:=by
  have h3:W1.heap.size=w.heap.size+1:=by rw [<- hW1]; simp
  omega
 have hne':W1.heap.size ≠ w.heap.size:=fun e=>hne e.symm
 have hne2:W2.heap.size ≠ W1.heap.size:=by
  have h3:W2.heap.size=W1.heap.size+1:=by rw [<- hW2]; simp
  omega
 have g2:=a5w HBX2.out 0
 obtain ⟨V,hV⟩:∃ V,W3.setCell ⟨W1.heap.size,0,none⟩ (.bool true)=V:=⟨_,rfl⟩
 have hVx:Ext w V:=by rw [<- hV]; exact HWE.out.setCell (show w.heap.size <= W1.heap.size by have h3:W1.heap.size=w.heap.size+1:=(by rw [<- hW1]; simp); omega) _
 have hVA:V.heap[w.heap.size]?=some (.cells #[.bool b1,.slice p1 m1 q1] 33 (0,0)):=by rw [<- hV,Below.heap_setCell _ _ _ _ (by exact hne)]; exact HBX1.out
 have hVB:V.heap[W1.heap.size]?=some (.cells #[.bool true,.slice p2 m2 q2] 33 (0,0)):=by rw [<- hV,heap_setCell_same _ _ _ _ _ _ HBX2.out]; rfl
 have hVC:V.heap[W2.heap.size]?=some (.cells #[.bool false,.slice none 0 0] 33 (0,0)):=by rw [<- hV,Below.heap_setCell _ _ _ _ (by exact hne2)]; exact HB.out
 have hS1:SlU V (.slice p1 m1 q1) (Lb.limbs x.natAbs):=by rw [<- hV]; exact HS1.out.set (a8N HBX2.out) _
 have hS2:SlU V (.slice p2 m2 q2) (Lb.limbs y.natAbs):=by rw [<- hV]; exact HS2.out.set (a8N HBX2.out) _
 have HC:=Lib.hid (a9u b1 true _ _ x (-y) V ⟨HX2.out,hS1⟩ (HY2.out V ⟨HG2.out,hS2⟩) HNX.out HNY.out)
 have HVX:=Lib.hid hVx; have HVC:=Lib.hid hVC
 obtain ⟨c0,c1⟩:=a00 hVA rfl rfl; obtain ⟨c2,c3⟩:=a00 hVB rfl rfl
 clear hVA hVB hVC hVx hS1 hS2 hne hne' hne2 f0 f1 f2 f3 hmm
 go_enter Tryz.func383,Tryz.ntmps383
 go_wp2_with fail
 refine HC.out.mono ?_
 rintro e w5 ⟨b5,a5,n5,c5,rfl,s5,x5⟩
 have HK:=Lib.hid (a0P HVC.out x5)
 rw [<- Int.sub_eq_add_neg] at s5
 obtain ⟨r0,r1,r2,r3⟩:=a2B HK.out
 go_wp2_with fail
 exact bodyPost_ret (v:=.agg #[.bool b5,.slice a5 n5 c5]) (by simp [results,Tryz.results383,go_sem,r0,r1]) rfl (a3U (HVX.out.trans x5) (by have:=HSZ.out; omega) HK.out s5)
theorem aTq (b1 b2:Bool) (s1 s2:Value) (x y:Int) (w:World) (h1:IsI w b1 s1 x) (h2:IsI w b2 s2 y) (n1:szI x <= 10000000) (n2:szI y <= 10000000) :
    Calls Tryz.prog 383 #[.agg #[.bool b1,s1],.agg #[.bool b2,s2]] w (aEt w (x - y)):=by
 rcases Int.lt_trichotomy y 0 with hy | hy | hy
 ·exact aTp b1 b2 s1 s2 x y w h1 h2 n1 n2 hy
 ·exact aPT b1 b2 s1 s2 x y w h1 h2 n1 n2 hy
 ·exact aTo b1 b2 s1 s2 x y w h1 h2 n1 n2 hy
end Go.Proofs.YtbohkigffejhoaaGreat
namespace Go.Proofs.YtbohkigffejhoaaGreat
open Go.RowKit
set_option maxRecDepth 8000
def ArrP (w:World) (b:Nat) (l:List Nat):Prop:=∃ cur,w.heap[b]?=some (.cells cur 189 (0,0))/\l.length <= cur.size/\∀ i (hi:i < l.length),cur[i]?=some (uV l[i])
theorem ArrP.lt {w:World} {b:Nat} {l:List Nat} (h:ArrP w b l):b < w.heap.size:=by
 obtain ⟨cur,h1,_⟩:=h
 rcases Nat.lt_or_ge b w.heap.size with h' | h'
 ·exact h'
 ·rw [Array.getElem?_eq_none h'] at h1; cases h1
theorem ArrP.cell {w:World} {b:Nat} {l:List Nat} (h:ArrP w b l) (i:Nat) (hi:i < l.length):w.cell? ⟨b,i,none⟩=some (.int .u32 (l[i]:Int)):=by
 obtain ⟨cur,h1,h2,h3⟩:=h
 have:=h3 i hi
 simp [World.cell?,h1,this,uV]
theorem ArrP.free {w:World} {b:Nat} {l:List Nat} (h:ArrP w b l) (i:Nat):w.frozen? ⟨b,i,none⟩=false:=by
 obtain ⟨cur,h1,_⟩:=h
 simp [World.frozen?,h1]
theorem ArrP.set {w:World} {b:Nat} {l:List Nat} (h:ArrP w b l) (i x:Nat) (hi:i < l.length):ArrP (w.setCell ⟨b,i,none⟩ (.int .u32 (x:Int))) b (l.set i x):=by
 obtain ⟨cur,h1,h2,h3⟩:=h
 refine ⟨_,heap_setCell_same w b i _ _ _ h1,by simpa using h2,fun j hj=>?_⟩
 have hj':j < l.length:=by simpa using hj
 by_cases e:i=j
 ·subst e
  have:i < cur.size:=by omega
  simp [this,uV]
 ·have:=h3 j hj'
  rw [Array.getElem?_setIfInBounds_ne e,this]
  simp [List.getElem_set_ne e]
theorem ArrP.ext {w w':World} {b:Nat} {l:List Nat} (h:ArrP w b l) (he:Ext w w'):ArrP w' b l:=by
 have:=h.lt
 obtain ⟨cur,h1,h2,h3⟩:=h
 exact ⟨cur,by rw [he.out.block b this]; exact h1,h2,h3⟩
theorem ArrP.other {w:World} {b:Nat} {l:List Nat} (h:ArrP w b l) {a:Addr} (hne:b ≠ a.block) (v:Value):ArrP (w.setCell a v) b l:=by
 obtain ⟨cur,h1,h2,h3⟩:=h
 exact ⟨cur,by rw [Below.heap_setCell _ _ _ _ hne]; exact h1,h2,h3⟩
theorem ArrP.sl {w:World} {b n cap:Nat} {l:List Nat} (h:ArrP w b l) (k:Nat) (hn:k+n <= l.length) (hc:n <= cap):SlU w (.slice (some ⟨b,k,none⟩) n cap) ((l.drop k).take n) :=
 SlU.mk (by simp; omega) hc (fun _=>h.lt) (fun i hi=>by
  have hi':i < n:=by simp at hi; omega
  rw [h.cell (k+i) (by omega)]
  simp)
theorem ArrU.pre {w:World} {b:Nat} {l:List Nat} (h:ArrU w b l):ArrP w b l:=⟨_,h,by simp,fun i hi=>by simp [hi]⟩
theorem aWL {B:Nat} {w:World} {v:Value} {l:List Nat} (h:OwnG B 189 1 uC w v l) (h0:0 < l.length):∃ b cap,v=.slice (some ⟨b,0,none⟩) l.length cap/\l.length <= cap/\B <= b/\ArrP w b l:=by
 obtain ⟨h1,h2⟩:=h
 rcases h2 with ⟨rfl,h3⟩ | ⟨g,cap,cur,rfl,h3,h4,h5,h6,h7,h8⟩
 ·omega
 ·refine ⟨g,cap,rfl,h5,h3,cur,h4,by omega,fun i hi=>?_⟩
  have h9:(cur.toList.take (l.length*1))[i]?=(cat uC l)[i]?:=by rw [h8]
  rw [List.getElem?_take_of_lt (by omega)] at h9
  have h10:=a8w (f:=uC) (k:=1) a15 l i 0 l[i] (by simp [hi]) (by decide)
  rw [Nat.mul_one,Nat.add_zero] at h10
  rw [h10] at h9
  simpa [uC,uV] using h9
structure aHx (a:List Nat) (d j r:Nat) (o:List Nat):Prop where
 len:o.length=a.length
 lt:Lb.Lt o
 rlt:r < d
 sum:Lb.val (a.drop j)=Lb.val (o.drop j)*d+r
theorem aEB (a:List Nat) (d:Nat) (hd:0 < d):aHx a d a.length 0 (List.replicate a.length 0) :=
 ⟨by simp,Lb.aC7 _,hd,by rw [List.drop_of_length_le (Nat.le_refl _),List.drop_of_length_le (by simp)]; simp [Lb.val]⟩
theorem aHL {a o:List Nat} {d i r:Nat} (h:aHx a d (i+1) r o) (hi:i < a.length) (ha:Lb.Lt a) (hd:0 < d) :
    aHx a d i ((r*1000000000+a[i]) % d) (o.set i ((r*1000000000+a[i]) / d))/\(r*1000000000+a[i]) / d < 1000000000:=by
 have hx:a[i] < Lb.B:=Lb.a1s ha i hi
 have hq:(r*1000000000+a[i]) / d < Lb.B:=Lb.aMc h.rlt hx
 exact ⟨⟨by simpa using h.len,Lb.aKF h.lt _ _ hq,Nat.mod_lt _ hd,Lb.aN5 hi h.len h.sum rfl⟩,hq⟩
theorem aMd {a o:List Nat} {d r:Nat} (h:aHx a d 0 r o):Lb.val o=Lb.val a / d/\r=Lb.val a % d:=by
 have:=h.sum
 rw [List.drop_zero,List.drop_zero] at this
 have hd:0 < d:=by have:=h.rlt; omega
 constructor
 ·rw [this,Nat.mul_comm,Nat.mul_add_div hd,Nat.div_eq_of_lt h.rlt]; rfl
 ·rw [this,Nat.mul_comm,Nat.mul_add_mod,Nat.mod_eq_of_lt h.rlt]
def aHC (w:World) (q r:Nat) (m:Nat) (e:Ending) (w':World):Prop :=
 ∃ l1 l2 a1 n1 c1 a2 n2 c2,e=.returned (.tuple #[.slice a1 n1 c1,.slice a2 n2 c2])/\SlU w' (.slice a1 n1 c1) l1/\SlU w' (.slice a2 n2 c2) l2/\Lb.Lt l1/\Lb.Lt l2/\Lb.val l1=q/\Lb.val l2=r/\l1.length <= m/\l2.length <= m/\Ext w w'
def AnyW:Type:=World
def AnyW.w (x:AnyW):World:=x
instance:Nonempty AnyW:=⟨(default:World)⟩
set_option maxHeartbeats 8000000 in
theorem aCC (v1:Value) (a:List Nat) (d:Nat) (w:World) (h1:SlU w v1 a) (k1:Lb.Lt a) (n1:a.length <= 100000000) (hd:0 < d) (hd9:d < 1000000000) :
    Calls Tryz.prog 380 #[v1,.int .u32 d] w (aHC w (Lb.val a / d) (Lb.val a % d) (a.length+1)):=by
 obtain ⟨p1,q1,rfl⟩:=h1.form
 have hmk:=a3K a.length (by omega)
 obtain ⟨W,hW,hA,hE,hz⟩:=a1P w a.length
 have HA0:=Lib.hid hA
 have HE:=Lib.hid hE
 have H1:=Lib.hid h1; have HK1:=Lib.hid k1
 have hdi:((d:Int) == 0)=false:=by simp; omega
 have hdn:¬ ((d:Int)=0):=by omega
 clear hA hE hz h1 k1
 go_enter Tryz.func380,Tryz.ntmps380
 go_wp2_with fail
 clear hmk
 go_loopw [7,8] (fun r i wr=>∃ (j rn:Nat) (o:List Nat),j <= a.length/\i=.int .i64 ((j:Int) - 1)/\r=.int .u64 rn/\Hid (aHx a d j rn o)/\Hid (ArrU wr w.heap.size o)/\Hid (Ext w wr)) (fun _ i _=>(intOf i+1).toNat)
 case atStart=>exact ⟨a.length,0,_,Nat.le_refl _,rfl,rfl,Lib.hid (aEB a d hd),HA0,HE⟩
 case round =>
  clear hW HA0 HE
  obtain ⟨j,rn,o,hj,rfl,rfl,HP,HA,HE⟩:=hrel
  cases j with
  | zero =>
    obtain ⟨X,hX,hAX,heX,hzX⟩:=a1L wr [rn]
    have HQ:=Lib.hid (aMd HP.out)
    have HSX:=Lib.hid (hAX.all (n:=1) (cap:=1) rfl (Nat.le_refl _)); have HEX:=Lib.hid (HE.out.trans heX)
    have HOX:=Lib.hid ((HA.out.all (cap:=a.length) HP.out.len.symm (Nat.le_refl _)).later heX)
    have hr9:rn < 1000000000:=by have:=HP.out.rlt; omega
    simp only [List.map_cons,List.map_nil,uV] at hX
    clear hAX heX hzX hdi hdn
    go_wp2_with fail
    go_ret2
    refine ⟨o,[rn],_,_,_,_,_,_,rfl,HOX.out,HSX.out,HP.out.lt,Lb.a2R hr9 Lb.a2Q,HQ.out.1,?_,by have:=HP.out.len; omega,by simp,HEX.out⟩
    rw [<- HQ.out.2]; simp [Lb.val]
  | succ i =>
    have hi:i < a.length:=by omega
    have hx:a[i] < 1000000000:=Lb.a1s HK1.out i hi
    obtain ⟨st,hq9⟩:=aHL HP.out hi HK1.out hd
    have hr9:rn < 1000000000:=by have:=HP.out.rlt; omega
    have hrd:rn < d:=HP.out.rlt
    obtain ⟨g1,o1,rfl,cell1⟩:=(H1.out.later HE.out).at i hi
    have hlen:i < o.length:=by have:=HP.out.len; omega
    have cs:=HA.out.cell i hlen
    have fs:=HA.out.free i
    generalize (o[i]:Int)=old at cs
    generalize a[i]=x at *
    have hii:((i+1:Nat):Int) - 1=i:=by omega
    rw [hii]
    have HST:=Lib.hid st
    have hm9:(rn*1000000000+x) % d < d:=st.rlt
    have HAX:Hid (∀ u:Int,u=((rn:Int)*1000000000+x) / d->ArrU (wr.drew.setCell ⟨w.heap.size,i,none⟩ (.int .u32 u)) w.heap.size (o.set i ((rn*1000000000+x) / d))):=Lib.hid (fun u hu=>by
     have e:u=(((rn*1000000000+x) / d:Nat):Int):=by rw [hu]; simp
     subst e; exact (HA.out.ext (Ext.refl wr).drew).set i _)
    have HRN:Hid (((rn:Int)*1000000000+x) % d=(((rn*1000000000+x) % d:Nat):Int)):=Lib.hid (by simp)
    have b0:0 <= ((rn:Int)*1000000000+x) / d:=Int.ediv_nonneg (by omega) (by omega)
    have b1:((rn:Int)*1000000000+x) / d < 1000000000:=by
     have e:((rn:Int)*1000000000+x) / d=(((rn*1000000000+x) / d:Nat):Int):=by simp
     rw [e]; omega
    have b2:0 <= ((rn:Int)*1000000000+x) % d:=Int.emod_nonneg _ (by omega)
    have b3:((rn:Int)*1000000000+x) % d < 1000000000:=by
     have:=Int.emod_lt_of_pos ((rn:Int)*1000000000+x) (show (0:Int) < d by omega)
     omega
    have HCS:=Lib.hid cs; have HFS:=Lib.hid fs
    clear st hq9 hm9 hlen hii cs fs
    go_wp2_with fail
    have cs:=HCS.out; have fs:=HFS.out
    refine a2h (fun w'=>∃ x:AnyW,w'=x.w) 13 (.one [0,1,2,3,4,5,6,7,8,9,10,11] 12 (.leaf [])) (by kernel_rfl) (by kernel_rfl) (by kernel_rfl) ⟨_,rfl⟩ ?_
    simp only [List.take_succ_cons,List.take_zero]
    refine a4B fun K hK=>?_
    simp only [List.map_cons,List.map_nil,a1W,List.getElem?_cons_zero,List.getElem?_cons_succ,Option.getD_some]
    repeat (go_big_quiet_step (fail))
    refine wpQuiet_nil ?_
    go_wp2_with fail
    refine a1t (hK _ _ ⟨_,rfl⟩ ?_); clear hK K
    refine a4d ?_
    simp only [List.drop_succ_cons,List.drop_zero]
    go_wp2_with fail
    go_roundw
    case rel=>exact ⟨i,_,_,by omega,rfl,by rw [HRN.out],HST,Lib.hid (HAX.out _ rfl),Lib.hid (HE.out.drew.setCell (Nat.le_refl _) _)⟩
    case measure=>simp [intOf]
end Go.Proofs.YtbohkigffejhoaaGreat
namespace Go.Proofs.YtbohkigffejhoaaGreat
open Go.RowKit
set_option maxRecDepth 8000
structure Only1 (g:Nat) (w w':World):Prop where
 os:w'.os=w.os
 tape:w'.tape=w.tape
 output:w'.output=w.output
 size:w'.heap.size=w.heap.size
 block:∀ j,j ≠ g->w'.heap[j]?=w.heap[j]?
theorem Only1.refl (g:Nat) (w:World):Only1 g w w:=⟨rfl,rfl,rfl,rfl,fun _ _=>rfl⟩
theorem Only1.trans {g:Nat} {a b c:World} (h:Only1 g a b) (k:Only1 g b c):Only1 g a c :=
 ⟨k.os.trans h.os,k.tape.trans h.tape,k.output.trans h.output,k.size.trans h.size,fun j hj=>(k.block j hj).trans (h.block j hj)⟩
theorem Only1.set {g:Nat} {a w:World} (h:Only1 g a w) (i:Nat) (u:Value):Only1 g a (w.setCell ⟨g,i,none⟩ u) :=
 ⟨h.os,h.tape,h.output,by rw [<- h.size]; simp [World.setCell],fun j hj=>by rw [Below.heap_setCell _ _ _ _ (by exact hj)]; exact h.block j hj⟩
theorem Only1.ext {g:Nat} {a w w':World} (h:Ext a w) (k:Only1 g w w') (hg:a.heap.size <= g):Ext a w' :=
 Ext.of ⟨k.os.trans h.out.os,k.tape.trans h.out.tape,k.output.trans h.out.output,by rw [k.size]; exact h.size,fun j hj=>(k.block j (by omega)).trans (h.out.block j hj)⟩
theorem SlU.only1 {g:Nat} {w w':World} {v:Value} {l:List Nat} (h:SlU w v l) (k:Only1 g w w') (hv:v.ownBlock ≠ some g):SlU w' v l:=by
 obtain ⟨a,n,cap,b,off,rfl,h2,h3,h4,h5,h6⟩:=h
 refine ⟨a,n,cap,b,off,rfl,h2,h3,h4,h5,fun i x hx=>?_⟩
 obtain ⟨p,q⟩:=h6 i x hx
 have hn:n ≠ 0:=by
  intro e
  rw [e] at h2
  have:=List.length_eq_zero_iff.1 h2.symm
  subst this
  simp at hx
 have ha:=h3.resolve_left hn
 subst ha
 have hbg:b ≠ g:=fun e=>hv (by rw [<- e]; rfl)
 refine ⟨by rw [k.size]; exact p,fun r u hu=>?_⟩
 have:=q r u hu
 unfold World.cell? at *
 simp only at *
 rw [k.block b hbg]
 exact this
theorem ArrP.only1 {g b:Nat} {w w':World} {l:List Nat} (h:ArrP w b l) (k:Only1 g w w') (hb:b ≠ g):ArrP w' b l:=by
 obtain ⟨cur,h1,h2,h3⟩:=h
 exact ⟨cur,by rw [k.block b hb]; exact h1,h2,h3⟩
theorem set_mid {U O:List Nat} {k i x:Nat} (hO:O.length=i) (hk:k+i < U.length):(U.take k ++ O ++ U.drop (k+i)).set (k+i) x=U.take k ++ (O ++ [x]) ++ U.drop (k+(i+1)):=by
 subst hO
 have h1:(U.take k ++ O).length=k+O.length:=by simp; omega
 rw [List.set_append_right _ _ (by omega),h1,Nat.sub_self,List.drop_eq_getElem_cons hk,List.set_cons_zero,show k+(O.length+1)=k+O.length+1 by omega]
 simp
theorem aO8 {U O:List Nat} {k i:Nat} (hO:O.length=i) (hk:k+i < U.length) (h:k+i < (U.take k ++ O ++ U.drop (k+i)).length):(U.take k ++ O ++ U.drop (k+i))[k+i]=U[k+i]:=by
 subst hO
 have h1:(U.take k ++ O).length=k+O.length:=by simp; omega
 rw [List.getElem_append_right (by omega)]
 simp [h1]
theorem a4s {U O:List Nat} {k i:Nat} (hO:O.length=i) (hk:k+i <= U.length):(U.take k ++ O ++ U.drop (k+i)).length=U.length:=by
 subst hO
 simp; omega
theorem aKa {U:List Nat} {k m i:Nat} (hi:i < m) (hk:k+m <= U.length):((U.drop k).take m).getD i 0=U[k+i]'(by omega):=by
 rw [List.getD_eq_getElem?_getD,List.getElem?_take_of_lt hi,List.getElem?_drop]
 have:k+i < U.length:=by omega
 simp [this]
structure aNV (win V:List Nat) (q i c d:Nat) (O:List Nat):Prop where
 len:O.length=i
 lt:Lb.Lt O
 c9:c < 1000000000
 d1:d <= 1
 sum:Lb.val O+Lb.val (V.take i)*q=Lb.val (win.take i)+Lb.B ^ i*(c+d)
theorem aHV (win V:List Nat) (q:Nat):aNV win V q 0 0 0 []:=⟨rfl,Lb.a2Q,by omega,by omega,by simp [Lb.val]⟩
theorem a6h {win V O:List Nat} {q i c d s t d' x:Nat} (h:aNV win V q i c d O) (ht:t=c+V.getD i 0*q) (htb:t < 1000000000*1000000000) (hx:win.getD i 0=x) (hs:s+(t % 1000000000+d)=x+1000000000*d') (hlt:s < 1000000000) (hd:d' <= 1) :
    aNV win V q (i+1) (t / 1000000000) d' (O ++ [s]) :=
 ⟨by simp [h.len],Lb.a2p h.lt (Lb.a2R hlt Lb.a2Q),Nat.div_lt_of_lt_mul htb,hd,Lb.aSp h.len h.sum ht (by rw [hx]; exact hs)⟩
def aYe (g k m:Nat) (U V:List Nat) (q:Nat) (w:World) (e:Ending) (w':World):Prop :=
 ∃ O c d,e=.returned (.bool (decide (0 < d) || decide (0 < c)))/\aNV ((U.drop k).take m) V q m c d O/\ArrP w' g (U.take k ++ O ++ U.drop (k+m))/\Only1 g w w'
set_option maxHeartbeats 16000000 in
theorem aSg (g k m cap:Nat) (v2:Value) (U V:List Nat) (q:Nat) (w:World) (hU:ArrP w g U) (h2:SlU w v2 V) (hv:v2.ownBlock ≠ some g) (k1:Lb.Lt U) (k2:Lb.Lt V) (n1:U.length <= 300000000) (hkm:k+m <= U.length) (hVm:V.length <= m) (hq:q < 1000000000) :
    Calls Tryz.prog 381 #[.slice (some ⟨g,k,none⟩) m cap,v2,.int .u64 q] w (aYe g k m U V q w):=by
 obtain ⟨p2,q2,rfl⟩:=h2.form
 have HU:=Lib.hid hU; have H2:=Lib.hid h2; have HK1:=Lib.hid k1; have HK2:=Lib.hid k2; have HV:=Lib.hid hv; have HKM:=Lib.hid hkm
 clear hU h2 hv k1 k2
 go_enter Tryz.func381,Tryz.ntmps381
 go_wp2_with fail
 go_loopw [7,8,15] (fun c d i wr=>∃ (j cn dn:Nat) (o:List Nat),j <= m/\i=.int .i64 j/\c=.int .u64 cn/\d=.int .u64 dn/\Hid (aNV ((U.drop k).take m) V q j cn dn o)/\Hid (ArrP wr g (U.take k ++ o ++ U.drop (k+j)))/\Hid (Only1 g w wr)) (fun _ _ i _=>m - (intOf i).toNat)
 case atStart=>exact ⟨0,0,0,[],Nat.zero_le _,rfl,rfl,rfl,Lib.hid (aHV _ _ _),Lib.hid (by simpa using HU.out),Lib.hid (Only1.refl _ _)⟩
 case round =>
  obtain ⟨j,cn,dn,o,hj,rfl,rfl,rfl,HP,HA,HE⟩:=hrel
  have hcn:cn < 1000000000:=HP.out.c9
  have hdn:dn <= 1:=HP.out.d1
  by_cases hjm:j < m
  ·have hkj:k+j < U.length:=by omega
   have hx:U[k+j] < 1000000000:=Lb.a1s HK1.out (k+j) hkj
   have HX:Hid (((U.drop k).take m).getD j 0=U[k+j]):=Lib.hid (aKa hjm hkm)
   have HL:Hid (o.length=j):=Lib.hid HP.out.len
   have hlen:k+j < (U.take k ++ o ++ U.drop (k+j)).length:=by rw [a4s HL.out (by omega)]; exact hkj
   have cs:=HA.out.cell (k+j) hlen
   rw [aO8 HL.out hkj hlen] at cs
   have fs:=HA.out.free (k+j)
   clear hlen
   generalize U[k+j]=x at *
   by_cases hjb:j < V.length
   ·have hy:V[j] < 1000000000:=Lb.a1s HK2.out j hjb
    have HY:Hid (V.getD j 0=V[j]):=Lib.hid (by simp [hjb])
    obtain ⟨g2,o2,rfl,cell2⟩:=(H2.out.only1 HE.out HV.out).at j hjb
    generalize V[j]=y at *
    have hxy0:0 <= (y:Int)*q:=Int.mul_nonneg (by omega) (by omega)
    have hxyn:y*q <= 999999999*999999999:=Nat.mul_le_mul (by omega) (by omega)
    have hxy:(y:Int)*q <= 999999998000000001:=by
     have h2:((y*q:Nat):Int) <= ((999999999*999999999:Nat):Int):=Int.ofNat_le.2 hxyn
     rw [Int.natCast_mul] at h2
     exact h2
    obtain ⟨t,ht⟩:∃ t,t=cn+y*q:=⟨_,rfl⟩
    have hti:(cn:Int)+(y:Int)*q=(t:Int):=by rw [ht]; simp
    have htb:t < 1000000000*1000000000:=by omega
    by_cases hge:x < t % 1000000000+dn
    ·obtain ⟨s,hs⟩:∃ s,x+1000000000=s+(t % 1000000000+dn):=⟨x+1000000000 - (t % 1000000000+dn),by omega⟩
     have HP2:=Lib.hid (a6h (s:=s) (d':=1) HP.out (by rw [HY.out]; exact ht) htb HX.out (by omega) (by omega) (by omega))
     have hsi:(x:Int)+1000000000 - (((cn:Int)+(y:Int)*q) % 1000000000+dn)=(s:Int):=by rw [hti]; omega
     have hge2:0 <= (x:Int)+1000000000 - (((cn:Int)+(y:Int)*q) % 1000000000+dn):=by rw [hti]; omega
     have hge3:(x:Int)+1000000000 - (((cn:Int)+(y:Int)*q) % 1000000000+dn) < 1000000000:=by rw [hti]; omega
     have hq1:decide ((x:Int) < ((cn:Int)+(y:Int)*q) % 1000000000+dn)=true:=by rw [hti]; simp; omega
     have HAX:Hid (∀ u:Int,u=(s:Int)->ArrP (wr.setCell ⟨g,k+j,none⟩ (.int .u32 u)) g (U.take k ++ (o ++ [s]) ++ U.drop (k+(j+1)))):=Lib.hid (fun u hu=>by subst hu; have:=HA.out.set (k+j) s (by rw [a4s HL.out (by omega)]; exact hkj); rwa [set_mid HL.out hkj] at this)
     have HSI:=Lib.hid hsi; have HKJ:=Lib.hid hkj; have HTB:=Lib.hid htb
     have HCN:Hid (((cn:Int)+(y:Int)*q) / 1000000000=((t / 1000000000:Nat):Int)):=Lib.hid (by rw [hti]; simp)
     have b0:0 <= ((cn:Int)+(y:Int)*q) / 1000000000:=by rw [hti]; omega
     have b1:0 <= ((cn:Int)+(y:Int)*q) % 1000000000:=by rw [hti]; omega
     have b2:((cn:Int)+(y:Int)*q) % 1000000000 < 1000000000:=by rw [hti]; omega
     clear hsi hs hge HX HY HP HA HL ht hti hkj htb
     go_wp2_with fail
     go_roundw
     case rel=>exact ⟨j+1,_,1,o ++ [s],by omega,by go_num,by rw [HCN.out],rfl,HP2,Lib.hid (HAX.out _ HSI.out),Lib.hid (HE.out.set _ _)⟩
     case measure=>simp [intOf]; omega
    ·obtain ⟨s,hs⟩:∃ s,x=s+(t % 1000000000+dn):=⟨x - (t % 1000000000+dn),by omega⟩
     have HP2:=Lib.hid (a6h (s:=s) (d':=0) HP.out (by rw [HY.out]; exact ht) htb HX.out (by omega) (by omega) (by omega))
     have hsi:(x:Int) - (((cn:Int)+(y:Int)*q) % 1000000000+dn)=(s:Int):=by rw [hti]; omega
     have hge2:0 <= (x:Int) - (((cn:Int)+(y:Int)*q) % 1000000000+dn):=by rw [hti]; omega
     have hge3:(x:Int) - (((cn:Int)+(y:Int)*q) % 1000000000+dn) < 1000000000:=by rw [hti]; omega
     have hq1:decide ((x:Int) < ((cn:Int)+(y:Int)*q) % 1000000000+dn)=false:=by rw [hti]; simp; omega
     have HAX:Hid (∀ u:Int,u=(s:Int)->ArrP (wr.setCell ⟨g,k+j,none⟩ (.int .u32 u)) g (U.take k ++ (o ++ [s]) ++ U.drop (k+(j+1)))):=Lib.hid (fun u hu=>by subst hu; have:=HA.out.set (k+j) s (by rw [a4s HL.out (by omega)]; exact hkj); rwa [set_mid HL.out hkj] at this)
     have HSI:=Lib.hid hsi; have HKJ:=Lib.hid hkj; have HTB:=Lib.hid htb
     have HCN:Hid (((cn:Int)+(y:Int)*q) / 1000000000=((t / 1000000000:Nat):Int)):=Lib.hid (by rw [hti]; simp)
     have b0:0 <= ((cn:Int)+(y:Int)*q) / 1000000000:=by rw [hti]; omega
     have b1:0 <= ((cn:Int)+(y:Int)*q) % 1000000000:=by rw [hti]; omega
     have b2:((cn:Int)+(y:Int)*q) % 1000000000 < 1000000000:=by rw [hti]; omega
     clear hsi hs hge HX HY HP HA HL ht hti hkj htb
     go_wp2_with fail
     go_roundw
     case rel=>exact ⟨j+1,_,0,o ++ [s],by omega,by go_num,by rw [HCN.out],rfl,HP2,Lib.hid (HAX.out _ HSI.out),Lib.hid (HE.out.set _ _)⟩
     case measure=>simp [intOf]; omega
   ·have HY:Hid (V.getD j 0=0):=Lib.hid (by simp [Nat.le_of_not_lt hjb])
    obtain ⟨t,ht⟩:∃ t,t=cn:=⟨_,rfl⟩
    have hti:(cn:Int)=(t:Int):=by rw [ht]
    have htb:t < 1000000000*1000000000:=by omega
    by_cases hge:x < t % 1000000000+dn
    ·obtain ⟨s,hs⟩:∃ s,x+1000000000=s+(t % 1000000000+dn):=⟨x+1000000000 - (t % 1000000000+dn),by omega⟩
     have HP2:=Lib.hid (a6h (s:=s) (d':=1) HP.out (by rw [HY.out]; omega) htb HX.out (by omega) (by omega) (by omega))
     have hsi:(x:Int)+1000000000 - ((cn:Int) % 1000000000+dn)=(s:Int):=by rw [hti]; omega
     have hge2:0 <= (x:Int)+1000000000 - ((cn:Int) % 1000000000+dn):=by rw [hti]; omega
     have hge3:(x:Int)+1000000000 - ((cn:Int) % 1000000000+dn) < 1000000000:=by rw [hti]; omega
     have hq1:decide ((x:Int) < (cn:Int) % 1000000000+dn)=true:=by rw [hti]; simp; omega
     have HAX:Hid (∀ u:Int,u=(s:Int)->ArrP (wr.setCell ⟨g,k+j,none⟩ (.int .u32 u)) g (U.take k ++ (o ++ [s]) ++ U.drop (k+(j+1)))):=Lib.hid (fun u hu=>by subst hu; have:=HA.out.set (k+j) s (by rw [a4s HL.out (by omega)]; exact hkj); rwa [set_mid HL.out hkj] at this)
     have HSI:=Lib.hid hsi; have HKJ:=Lib.hid hkj; have HTB:=Lib.hid htb
     have HCN:Hid ((cn:Int) / 1000000000=((t / 1000000000:Nat):Int)):=Lib.hid (by rw [hti]; simp)
     have b0:0 <= (cn:Int) / 1000000000:=by rw [hti]; omega
     have b1:0 <= (cn:Int) % 1000000000:=by rw [hti]; omega
     have b2:(cn:Int) % 1000000000 < 1000000000:=by rw [hti]; omega
     clear hsi hs hge HX HY HP HA HL ht hti hkj htb
     go_wp2_with fail
     go_roundw
     case rel=>exact ⟨j+1,_,1,o ++ [s],by omega,by go_num,by rw [HCN.out],rfl,HP2,Lib.hid (HAX.out _ HSI.out),Lib.hid (HE.out.set _ _)⟩
     case measure=>simp [intOf]; omega
    ·obtain ⟨s,hs⟩:∃ s,x=s+(t % 1000000000+dn):=⟨x - (t % 1000000000+dn),by omega⟩
     have HP2:=Lib.hid (a6h (s:=s) (d':=0) HP.out (by rw [HY.out]; omega) htb HX.out (by omega) (by omega) (by omega))
     have hsi:(x:Int) - ((cn:Int) % 1000000000+dn)=(s:Int):=by rw [hti]; omega
     have hge2:0 <= (x:Int) - ((cn:Int) % 1000000000+dn):=by rw [hti]; omega
     have hge3:(x:Int) - ((cn:Int) % 1000000000+dn) < 1000000000:=by rw [hti]; omega
     have hq1:decide ((x:Int) < (cn:Int) % 1000000000+dn)=false:=by rw [hti]; simp; omega
     have HAX:Hid (∀ u:Int,u=(s:Int)->ArrP (wr.setCell ⟨g,k+j,none⟩ (.int .u32 u)) g (U.take k ++ (o ++ [s]) ++ U.drop (k+(j+1)))):=Lib.hid (fun u hu=>by subst hu; have:=HA.out.set (k+j) s (by rw [a4s HL.out (by omega)]; exact hkj); rwa [set_mid HL.out hkj] at this)
     have HSI:=Lib.hid hsi; have HKJ:=Lib.hid hkj; have HTB:=Lib.hid htb
     have HCN:Hid ((cn:Int) / 1000000000=((t / 1000000000:Nat):Int)):=Lib.hid (by rw [hti]; simp)
     have b0:0 <= (cn:Int) / 1000000000:=by rw [hti]; omega
     have b1:0 <= (cn:Int) % 1000000000:=by rw [hti]; omega
     have b2:(cn:Int) % 1000000000 < 1000000000:=by rw [hti]; omega
     clear hsi hs hge HX HY HP HA HL ht hti hkj htb
     go_wp2_with fail
     go_roundw
     case rel=>exact ⟨j+1,_,0,o ++ [s],by omega,by go_num,by rw [HCN.out],rfl,HP2,Lib.hid (HAX.out _ HSI.out),Lib.hid (HE.out.set _ _)⟩
     case measure=>simp [intOf]; omega
  ·obtain rfl:j=m:=by omega
   clear hjm
   rcases Nat.eq_zero_or_pos dn with hd0 | hd0
   ·rcases Nat.eq_zero_or_pos cn with hc0 | hc0
    ·have HR:Hid ((decide (0 < dn) || decide (0 < cn))=false):=Lib.hid (by simp; omega)
     have e1:decide (0 < dn)=false:=by simp; omega
     have e2:decide (0 < cn)=false:=by simp; omega
     have e3:decide ((dn:Int) > 0)=false:=by simp; omega
     have e4:decide ((cn:Int) > 0)=false:=by simp; omega
     clear hd0 hc0
     go_wp2_with fail
     go_ret
     exact ⟨o,cn,dn,(by rw [HR.out]; rfl),HP.out,HA.out,HE.out⟩
    ·have HR:Hid ((decide (0 < dn) || decide (0 < cn))=true):=Lib.hid (by simp; omega)
     have e1:decide (0 < dn)=false:=by simp; omega
     have e2:decide (0 < cn)=true:=by simp; omega
     have e3:decide ((dn:Int) > 0)=false:=by simp; omega
     have e4:decide ((cn:Int) > 0)=true:=by simp; omega
     clear hd0 hc0
     go_wp2_with fail
     go_ret
     exact ⟨o,cn,dn,(by rw [HR.out]; rfl),HP.out,HA.out,HE.out⟩
   ·have HR:Hid ((decide (0 < dn) || decide (0 < cn))=true):=Lib.hid (by simp; omega)
    have e1:decide (0 < dn)=true:=by simp; omega
    have e3:decide ((dn:Int) > 0)=true:=by simp; omega
    clear hd0
    go_wp2_with fail
    go_ret
    exact ⟨o,cn,dn,(by rw [HR.out]; rfl),HP.out,HA.out,HE.out⟩
end Go.Proofs.YtbohkigffejhoaaGreat
namespace Go.Proofs.YtbohkigffejhoaaGreat
open Go.RowKit
set_option maxRecDepth 8000
def aYh (g k m:Nat) (U V:List Nat) (w:World) (e:Ending) (w':World):Prop :=
 ∃ O c,e=.returned (.tuple #[])/\c <= 1/\a4w ((U.drop k).take m) V m c O/\ArrP w' g (U.take k ++ O ++ U.drop (k+m))/\Only1 g w w'
set_option maxHeartbeats 16000000 in
theorem aEH (g k m cap:Nat) (v2:Value) (U V:List Nat) (w:World) (hU:ArrP w g U) (h2:SlU w v2 V) (hv:v2.ownBlock ≠ some g) (k1:Lb.Lt U) (k2:Lb.Lt V) (n1:U.length <= 300000000) (hkm:k+m <= U.length) (hVm:V.length <= m) :
    Calls Tryz.prog 382 #[.slice (some ⟨g,k,none⟩) m cap,v2] w (aYh g k m U V w):=by
 obtain ⟨p2,q2,rfl⟩:=h2.form
 have HU:=Lib.hid hU; have H2:=Lib.hid h2; have HK1:=Lib.hid k1; have HK2:=Lib.hid k2; have HV:=Lib.hid hv; have HKM:=Lib.hid hkm
 clear hU h2 hv k1 k2
 go_enter Tryz.func382,Tryz.ntmps382
 go_wp2_with fail
 go_loopw [4,9] (fun c i wr=>∃ (j cn:Nat) (o:List Nat),j <= m/\i=.int .i64 j/\c=.int .u32 cn/\cn <= 1/\Hid (a4w ((U.drop k).take m) V j cn o)/\Hid (ArrP wr g (U.take k ++ o ++ U.drop (k+j)))/\Hid (Only1 g w wr)) (fun _ i _=>m - (intOf i).toNat)
 case atStart=>exact ⟨0,0,[],Nat.zero_le _,rfl,rfl,by omega,Lib.hid (a3O _ _),Lib.hid (by simpa using HU.out),Lib.hid (Only1.refl _ _)⟩
 case round =>
  obtain ⟨j,cn,o,hj,rfl,rfl,hcn,HP,HA,HE⟩:=hrel
  by_cases hjm:j < m
  ·have hkj:k+j < U.length:=by omega
   have hx:U[k+j] < 1000000000:=Lb.a1s HK1.out (k+j) hkj
   have HX:Hid (((U.drop k).take m).getD j 0=U[k+j]):=Lib.hid (aKa hjm hkm)
   have HL:Hid (o.length=j):=Lib.hid HP.out.len
   have hlen:k+j < (U.take k ++ o ++ U.drop (k+j)).length:=by rw [a4s HL.out (by omega)]; exact hkj
   have cs:=HA.out.cell (k+j) hlen
   rw [aO8 HL.out hkj hlen] at cs
   have fs:=HA.out.free (k+j)
   clear hlen
   generalize U[k+j]=x at *
   by_cases hjb:j < V.length
   ·have hy:V[j] < 1000000000:=Lb.a1s HK2.out j hjb
    have HY:Hid (V.getD j 0=V[j]):=Lib.hid (by simp [hjb])
    obtain ⟨g2,o2,rfl,cell2⟩:=(H2.out.only1 HE.out HV.out).at j hjb
    generalize V[j]=y at *
    by_cases hge:1000000000 <= x+cn+y
    ·have hq:decide (1000000000 <= (x:Int)+cn+y)=true:=by simp; omega
     have hge2:(1000000000:Int) <= (x:Int)+cn+y:=by omega
     obtain ⟨s,hs⟩:∃ s,x+cn+y=s+1000000000:=⟨x+cn+y - 1000000000,by omega⟩
     have hsi:(x:Int)+cn+y - 1000000000=(s:Int):=by omega
     have HP2:=Lib.hid (a3F (s:=s) HP.out (by rw [HX.out,HY.out]; omega) (by omega))
     have HAX:Hid (∀ u:Int,u=(s:Int)->ArrP (wr.setCell ⟨g,k+j,none⟩ (.int .u32 u)) g (U.take k ++ (o ++ [s]) ++ U.drop (k+(j+1)))):=Lib.hid (fun u hu=>by subst hu; have:=HA.out.set (k+j) s (by rw [a4s HL.out (by omega)]; exact hkj); rwa [set_mid HL.out hkj] at this)
     have HSI:=Lib.hid hsi; have HKJ:=Lib.hid hkj
     clear hsi hs hge HX HY HP HA HL hkj
     go_wp2_with fail
     go_roundw
     case rel=>exact ⟨j+1,1,o ++ [s],by omega,by go_num,rfl,by omega,HP2,Lib.hid (HAX.out _ HSI.out),Lib.hid (HE.out.set _ _)⟩
     case measure=>simp [intOf]; omega
    ·have hq:decide (1000000000 <= (x:Int)+cn+y)=false:=by simp; omega
     obtain ⟨s,hs⟩:∃ s,x+cn+y=s:=⟨_,rfl⟩
     have hsi:(x:Int)+cn+y=(s:Int):=by omega
     have HP2:=Lib.hid (a4g (s:=s) HP.out (by rw [HX.out,HY.out]; omega) (by omega))
     have HAX:Hid (∀ u:Int,u=(s:Int)->ArrP (wr.setCell ⟨g,k+j,none⟩ (.int .u32 u)) g (U.take k ++ (o ++ [s]) ++ U.drop (k+(j+1)))):=Lib.hid (fun u hu=>by subst hu; have:=HA.out.set (k+j) s (by rw [a4s HL.out (by omega)]; exact hkj); rwa [set_mid HL.out hkj] at this)
     have HSI:=Lib.hid hsi; have HKJ:=Lib.hid hkj
     clear hsi hs hge HX HY HP HA HL hkj
     go_wp2_with fail
     go_roundw
     case rel=>exact ⟨j+1,0,o ++ [s],by omega,by go_num,rfl,by omega,HP2,Lib.hid (HAX.out _ HSI.out),Lib.hid (HE.out.set _ _)⟩
     case measure=>simp [intOf]; omega
   ·have HY:Hid (V.getD j 0=0):=Lib.hid (by simp [Nat.le_of_not_lt hjb])
    by_cases hge:1000000000 <= x+cn
    ·have hq:decide (1000000000 <= (x:Int)+cn)=true:=by simp; omega
     have hge2:(1000000000:Int) <= (x:Int)+cn:=by omega
     obtain ⟨s,hs⟩:∃ s,x+cn=s+1000000000:=⟨x+cn - 1000000000,by omega⟩
     have hsi:(x:Int)+cn - 1000000000=(s:Int):=by omega
     have HP2:=Lib.hid (a3F (s:=s) HP.out (by rw [HX.out,HY.out]; omega) (by omega))
     have HAX:Hid (∀ u:Int,u=(s:Int)->ArrP (wr.setCell ⟨g,k+j,none⟩ (.int .u32 u)) g (U.take k ++ (o ++ [s]) ++ U.drop (k+(j+1)))):=Lib.hid (fun u hu=>by subst hu; have:=HA.out.set (k+j) s (by rw [a4s HL.out (by omega)]; exact hkj); rwa [set_mid HL.out hkj] at this)
     have HSI:=Lib.hid hsi; have HKJ:=Lib.hid hkj
     clear hsi hs hge HX HY HP HA HL hkj
     go_wp2_with fail
     go_roundw
     case rel=>exact ⟨j+1,1,o ++ [s],by omega,by go_num,rfl,by omega,HP2,Lib.hid (HAX.out _ HSI.out),Lib.hid (HE.out.set _ _)⟩
     case measure=>simp [intOf]; omega
    ·have hq:decide (1000000000 <= (x:Int)+cn)=false:=by simp; omega
     obtain ⟨s,hs⟩:∃ s,x+cn=s:=⟨_,rfl⟩
     have hsi:(x:Int)+cn=(s:Int):=by omega
     have HP2:=Lib.hid (a4g (s:=s) HP.out (by rw [HX.out,HY.out]; omega) (by omega))
     have HAX:Hid (∀ u:Int,u=(s:Int)->ArrP (wr.setCell ⟨g,k+j,none⟩ (.int .u32 u)) g (U.take k ++ (o ++ [s]) ++ U.drop (k+(j+1)))):=Lib.hid (fun u hu=>by subst hu; have:=HA.out.set (k+j) s (by rw [a4s HL.out (by omega)]; exact hkj); rwa [set_mid HL.out hkj] at this)
     have HSI:=Lib.hid hsi; have HKJ:=Lib.hid hkj
     clear hsi hs hge HX HY HP HA HL hkj
     go_wp2_with fail
     go_roundw
     case rel=>exact ⟨j+1,0,o ++ [s],by omega,by go_num,rfl,by omega,HP2,Lib.hid (HAX.out _ HSI.out),Lib.hid (HE.out.set _ _)⟩
     case measure=>simp [intOf]; omega
  ·obtain rfl:j=m:=by omega
   clear hjm
   go_wp2_with fail
   go_end0
   exact ⟨o,cn,rfl,hcn,HP.out,HA.out,HE.out⟩
end Go.Proofs.YtbohkigffejhoaaGreat
namespace Go.Proofs.YtbohkigffejhoaaGreat
namespace Lb
theorem b1r (l:List Nat) (m:Nat) (h:l.length=m+3):val l=((l[m+2]*B+l[m+1])*B+l[m])*B ^ m+val (l.take m):=by
 rw [a1F l m (by omega),a1R l m (by omega),a1R l (m+1) (by omega),a1R l (m+1+1) (by omega),List.drop_of_length_le (by omega),a7X]
 generalize l[m+1+1]=a
 generalize l[m+1]=b
 generalize l[m]=c
 generalize B ^ m=P
 generalize B=β
 grind
theorem b1s (l:List Nat) (m:Nat) (h:l.length=m+2):val l=(l[m+1]*B+l[m])*B ^ m+val (l.take m):=by
 rw [a1F l m (by omega),a1R l m (by omega),a1R l (m+1) (by omega),List.drop_of_length_le (by omega),a7X]
 generalize l[m+1]=b
 generalize l[m]=c
 generalize B ^ m=P
 generalize B=β
 grind
theorem a9H {l:List Nat} (hl:Lt l) (m:Nat) (h:m <= l.length):val (l.take m) < B ^ m:=by
 have:=a3l (a8l hl m)
 rwa [List.length_take,Nat.min_eq_left h] at this
structure DivAt (A V n L j:Nat) (U Q:List Nat):Prop where
 len:U.length=L+n
 qlen:Q.length=L
 lt:Lt U
 qlt:Lt Q
 sum:val U+V*(B ^ j*val (Q.drop j))=A
 low:val (U.drop j) < V
theorem aIS {A V n L:Nat} {U0:List Nat} (hU:(U0 ++ [0]).length=L+n) (hlt:Lt U0) (hA:val U0=A) (hV:B ^ (n - 1) <= V) (hn:1 <= n):DivAt A V n L L (U0 ++ [0]) (List.replicate L 0):=by
 refine ⟨hU,by simp,a2p hlt (a2R a3r a2Q),aC7 _,?_,?_⟩
 ·rw [List.drop_of_length_le (by simp),a7X,Nat.mul_zero,Nat.mul_zero,Nat.add_zero,a4A,Nat.mul_zero,Nat.add_zero]; exact hA
 ·have hL:L <= U0.length:=by simp at hU; omega
  rw [List.drop_append_of_le_length hL,a4A,Nat.mul_zero,Nat.add_zero]
  have h1:=a3l (a9Z hlt L)
  rw [List.length_drop] at h1
  have:U0.length - L=n - 1:=by simp at hU; omega
  rw [this] at h1
  omega
section
variable {A V n L k:Nat} {U Q:List Nat}
theorem DivAt.window (h:DivAt A V n L (k+1) U Q) (hk:k < L) (hV:V < B ^ n) :
    val (U.drop k) < B*V/\val (U.drop (k+n+1))=0/\val (U.drop k)=val ((U.drop k).take (n+1)):=by
 have hl:=h.len
 have h1:val (U.drop k)=U[k]'(by omega)+B*val (U.drop (k+1)):=a1R U k (by omega)
 have h2:=aN6 (a1s h.lt k (by omega)) h.low
 rw [<- h1] at h2
 have h3:val (U.drop k) < B ^ (n+1):=by
  have:B*V < B*B ^ n:=Nat.mul_lt_mul_of_pos_left hV a3r
  rw [Nat.pow_succ,Nat.mul_comm]
  omega
 have h4:=aFP (l:=U.drop k) (m:=n+1) (by simp; omega) h3
 rw [List.drop_drop] at h4
 exact ⟨h2,by rw [show k+n+1=k+(n+1) by omega]; exact h4.1,h4.2⟩
theorem DivAt.step {O:List Nat} {q:Nat} (h:DivAt A V n L (k+1) U Q) (hk:k < L) (hV:V < B ^ n) (hV0:0 < V) (hO:O.length=n+1) (hOl:Lt O) (hq:q=val (U.drop k) / V) (hv:val O=val (U.drop k) - V*q) :
    DivAt A V n L k (U.take k ++ O ++ U.drop (k+(n+1))) (Q.set k q)/\q < B:=by
 obtain ⟨w1,w2,w3⟩:=h.window hk hV
 have hl:=h.len
 have hql:=h.qlen
 have hqB:q < B:=by rw [hq]; exact Nat.div_lt_of_lt_mul (by rw [Nat.mul_comm]; exact w1)
 have htl:(U.take k).length=k:=by simp; omega
 have e1:val (U.take k ++ O ++ U.drop (k+(n+1)))=val (U.take k)+B ^ k*val O:=by
  rw [val_append,val_append,htl,show k+(n+1)=k+n+1 by omega,w2,Nat.mul_zero,Nat.add_zero]
 have hle:V*q <= val (U.drop k):=by rw [hq]; exact Nat.mul_div_le _ _
 refine ⟨⟨?_,by simpa using hql,a2p (a2p (a8l h.lt _) hOl) (a9Z h.lt _),aKF h.qlt _ _ hqB,?_,?_⟩,hqB⟩
 ·simp; omega
 ·rw [e1,a1R _ k (by simp; omega),List.getElem_set_self,List.drop_set_of_lt (by omega)]
  have h1:=h.sum
  have h2:=a1F U k (by omega)
  have h3:val O+V*q=val (U.drop k):=by omega
  rw [h2,<- h3,Nat.pow_succ] at h1
  rw [<- h1]
  generalize val (Q.drop (k+1))=D
  generalize val O=o
  generalize val (U.take k)=u
  generalize B ^ k=P
  generalize B=β
  grind
 ·have e2:(U.take k ++ O ++ U.drop (k+(n+1))).drop k=O ++ U.drop (k+(n+1)):=by
   rw [List.append_assoc,List.drop_append_of_le_length (by omega),List.drop_of_length_le (by omega),List.nil_append]
  rw [e2,val_append,show k+(n+1)=k+n+1 by omega,w2,Nat.mul_zero,Nat.add_zero,hv,hq]
  have:=Nat.div_add_mod (val (U.drop k)) V
  have:=Nat.mod_lt (val (U.drop k)) hV0
  omega
theorem DivAt.done {a b s:Nat} (h:DivAt (a*s) (b*s) n L 0 U Q) (hV:b*s < B ^ n):val Q=a / b/\val (U.take n)=a % b*s:=by
 have h1:=h.sum
 have h2:=h.low
 rw [List.drop_zero] at h1 h2
 rw [Nat.pow_zero,Nat.one_mul] at h1
 have h3:=aBY (a:=a) (b:=b) (s:=s) (Q:=val Q) (R:=val U) (by rw [<- h1,Nat.mul_comm (val Q)]; omega) h2
 have h4:=aFP (l:=U) (m:=n) (by rw [h.len]; omega) (by omega)
 exact ⟨h3.1,by rw [<- h4.2]; exact h3.2⟩
end
structure Est (W V v1 v2 T u2 P g r:Nat):Prop where
 ge:W / V <= g
 sum:g*v1+r=T
structure EstData (W V v1 v2 T u2 P:Nat):Prop where
 hP:0 < P
 hW:∃ W0,W=(T*B+u2)*P+W0/\W0 < P
 hV:∃ V0,V=(v1*B+v2)*P+V0/\V0 < P
 hv1:0 < v1
 hv2:v2 < B
 hu2:u2 < B
 hWV:W < B*V
variable {W V v1 v2 T u2 P g r:Nat}
theorem EstData.first (h:EstData W V v1 v2 T u2 P):Est W V v1 v2 T u2 P (T / v1) (T % v1):=by
 obtain ⟨W0,hW,hW0⟩:=h.hW
 obtain ⟨V0,hV,hV0⟩:=h.hV
 exact ⟨aIG hW hW0 h.hu2 hV h.hv1,by rw [Nat.mul_comm]; exact Nat.div_add_mod _ _⟩
theorem EstData.down (h:EstData W V v1 v2 T u2 P) (e:Est W V v1 v2 T u2 P g r) (ht:B <= g \/ r*B+u2 < g*v2):0 < g/\Est W V v1 v2 T u2 P (g - 1) (r+v1):=by
 obtain ⟨W0,hW,hW0⟩:=h.hW
 obtain ⟨V0,hV,hV0⟩:=h.hV
 have hlt:W / V < g:=by
  rcases ht with ht | ht
  ·have:W / V < B:=Nat.div_lt_of_lt_mul (by rw [Nat.mul_comm]; exact h.hWV)
   omega
  ·exact aMG hW hW0 hV e.sum ht
 have hg:0 < g:=Nat.lt_of_le_of_lt (Nat.zero_le _) hlt
 refine ⟨hg,Nat.le_sub_one_of_lt hlt,?_⟩
 have h1:=e.sum
 obtain ⟨g',rfl⟩:∃ g',g=g'+1:=⟨g - 1,by omega⟩
 rw [Nat.add_sub_cancel]
 rw [Nat.succ_mul] at h1
 omega
theorem EstData.last (h:EstData W V v1 v2 T u2 P) (e:Est W V v1 v2 T u2 P g r) (hb:g < B) (ht:g*v2 <= r*B+u2):W / V <= g/\g <= W / V+1/\g < B:=by
 obtain ⟨W0,hW,hW0⟩:=h.hW
 obtain ⟨V0,hV,hV0⟩:=h.hV
 exact ⟨e.ge,aMH h.hP hW hV hV0 h.hv1 e.sum ht hb,hb⟩
theorem EstData.brk (h:EstData W V v1 v2 T u2 P) (e:Est W V v1 v2 T u2 P g r) (hr:B <= r):W / V <= g/\g <= W / V+1/\g < B:=by
 obtain ⟨W0,hW,hW0⟩:=h.hW
 obtain ⟨V0,hV,hV0⟩:=h.hV
 have h1:=aIH hW hV hV0 h.hv2 h.hWV e.sum hr
 exact h.last e h1.1 h1.2
end Lb
end Go.Proofs.YtbohkigffejhoaaGreat
namespace Go.Proofs.YtbohkigffejhoaaGreat
namespace Rt
def sg (q:Rat):Int:=q.num.sign
theorem aBX {q:Rat}:0 < sg q ↔ 0 < q:=by
 unfold sg
 rw [Int.sign_pos_iff,Rat.lt_iff]; simp
theorem aEM {q:Rat}:sg q < 0 ↔ q < 0:=by
 unfold sg
 rw [Int.sign_neg_iff,Rat.lt_iff]; simp
theorem a2F {q:Rat}:sg q=0 ↔ q=0:=by
 unfold sg
 rw [Int.sign_eq_zero_iff_zero,Rat.num_eq_zero]
theorem aOp {q:Rat}:sg q <= 0 ↔ q <= 0:=by rw [<- Rat.not_lt,<- aBX]; omega
theorem a81 {q:Rat}:0 <= sg q ↔ 0 <= q:=by rw [<- Rat.not_lt,<- aEM]; omega
theorem a4a (q:Rat):sg q=-1 \/ sg q=0 \/ sg q=1:=by
 unfold sg
 rcases Int.lt_trichotomy q.num 0 with h | h | h
 ·exact .inl (Int.sign_eq_neg_one_of_neg h)
 ·rw [h]; exact .inr (.inl rfl)
 ·exact .inr (.inr (Int.sign_eq_one_of_pos h))
theorem a5K {p q:Rat}:sg (p - q) < 0 ↔ p < q:=by rw [aEM]; grind
theorem aEJ {p q:Rat}:0 < sg (p - q) ↔ q < p:=by rw [aBX]; grind
theorem a4Y {p q:Rat}:sg (p - q) <= 0 ↔ p <= q:=by rw [aOp]; grind
theorem a7c {p q:Rat}:0 <= sg (p - q) ↔ q <= p:=by rw [a81]; grind
theorem aOj {p q:Rat}:sg (p - q)=0 ↔ p=q:=by rw [a2F]; grind
theorem aKh (p q:Rat):(p.num*q.den - q.num*p.den).sign=sg (p - q):=by
 rcases Int.lt_trichotomy (p.num*q.den) (q.num*p.den) with h | h | h
 ·have h1:p < q:=(Rat.lt_iff p q).2 h
  have h2:=a5K.2 h1
  rw [Int.sign_eq_neg_one_of_neg (by omega)]
  rcases a4a (p - q) with e | e | e <;> omega
 ·have h1:p=q:=Rat.eq_iff_mul_eq_mul.2 h
  rw [h1]
  simp [sg,Rat.sub_self]
 ·have h1:q < p:=(Rat.lt_iff q p).2 h
  have h2:=aEJ.2 h1
  rw [Int.sign_eq_one_of_pos (by omega)]
  rcases a4a (p - q) with e | e | e <;> omega
theorem aCT {n d:Int} (hd:0 < d):(Rat.divInt n d).num=n / (Int.gcd n d:Int):=by
 rw [Rat.num_divInt,Int.sign_eq_one_of_pos hd,Int.one_mul,Int.gcd_comm]
theorem aCV {n d:Int} (hd:0 < d):((Rat.divInt n d).den:Int)=d / (Int.gcd n d:Int):=by
 rw [Rat.den_divInt,if_neg (by omega),Int.gcd_comm]
 rw [Int.natCast_ediv]
 congr 1
 omega
theorem aCU (n d:Int):Rat.divInt (-n) (-d)=Rat.divInt n d:=Rat.neg_divInt_neg n d
theorem aH6 {n d:Int} (hd:0 < d) (h:(Int.gcd n d:Int)=1):(Rat.divInt n d).num=n/\((Rat.divInt n d).den:Int)=d:=by
 rw [aCT hd,aCV hd,h,Int.ediv_one,Int.ediv_one]
 exact ⟨rfl,rfl⟩
theorem aIR (q:Rat):Rat.divInt q.num (q.den:Int)=q:=by rw [Rat.num_divInt_den]
theorem aHu (p q:Rat):Rat.divInt (p.num*q.den+q.num*p.den) (p.den*q.den)=p+q:=by
 rw [Rat.add_def',<- Rat.divInt_ofNat,Int.natCast_mul]
theorem aUv (p q:Rat) (h:(p.den:Int)=q.den):Rat.divInt (p.num+q.num) p.den=p+q:=by
 rw [<- aHu,<- h,<- Int.add_mul]
 have:=p.den_pos
 rw [Rat.divInt_mul_right (by omega)]
theorem aE9 (p q:Rat):Rat.divInt (p.num*q.num) (p.den*q.den)=p*q:=by
 rw [Rat.mul_def',<- Rat.divInt_ofNat,Int.natCast_mul]
theorem aLk (p q:Rat):Rat.divInt (p.num*q.den) (p.den*q.num)=p / q:=by
 have h1:p / q=Rat.divInt p.num p.den*(Rat.divInt q.den q.num):=by
  rw [Rat.num_divInt_den,Rat.div_def,Rat.inv_def]
 rw [h1,Rat.divInt_mul_divInt]
theorem a6u (n g:Int) (hg:0 < g) (hdvd:g ∣ n):(n / g).natAbs <= n.natAbs:=by
 obtain ⟨k,rfl⟩:=hdvd
 rw [Int.mul_ediv_cancel_left _ (by omega),Int.natAbs_mul]
 exact Nat.le_mul_of_pos_left _ (by omega)
theorem a8d {n d:Int} (hd:0 < d):(Rat.divInt n d).num.natAbs <= n.natAbs:=by
 rw [aCT hd]
 exact a6u _ _ (by have:0 < Int.gcd n d:=Int.gcd_pos_of_ne_zero_right _ (by omega)
                   omega) (Int.gcd_dvd_left ..)
theorem a8e {n d:Int} (hd:0 < d):(Rat.divInt n d).den <= d.natAbs:=by
 have h:=aCV (n:=n) hd
 have h2:=a6u d _ (by have:0 < Int.gcd n d:=Int.gcd_pos_of_ne_zero_right n (by omega)
                      omega:0 < (Int.gcd n d:Int)) (Int.gcd_dvd_right ..)
 omega
end Rt
end Go.Proofs.YtbohkigffejhoaaGreat
namespace Go.Proofs.YtbohkigffejhoaaGreat
open Go.RowKit
section
variable {P:Program} {Q:Exit->Act->World->Prop} {l:List Oper} {w0:World} {a0:Act} {R:Nat->Value->World->Prop}
def a4t (l:List Oper) (n:Nat):Bool:=l.all fun o=>match o.dst with | some d=>decide (d < n) | none=>true
theorem a3t:∀ (l:List Oper) (vals:Nat->Value) (i:Nat) (a:Act) (x:Operand),(∀ o ∈ l,∀ d,o.dst=some d->x ≠ .tmp d)->(a0W l vals i a).eval x=a.eval x
 | [],_,_,_,_,_=>rfl
 | o :: r,vals,i,a,x,h=>by
   unfold a0W
   rw [a3t r vals (i+1) _ x (fun o' ho'=>h o' (List.mem_cons_of_mem _ ho')),Act.eval_put (h o (List.mem_cons_self ..))]
theorem aSH (a:Act) (x:Option Tmp) (v:Value):(a.put x v).tmps.size=a.tmps.size:=by
 cases x <;> simp [Act.put]
theorem a3d:∀ (l:List Oper) (vals:Nat->Value) (i k:Nat) (a:Act) (o:Oper) (d:Tmp),a3g l=true->a4t l a.tmps.size=true->l[k]?=some o->o.dst=some d->(a0W l vals i a).eval (.tmp d)=vals (i+k)
 | [],_,_,_,_,_,_,_,_,h,_=>by simp at h
 | o' :: r,vals,i,0,a,o,d,hA,hI,h,hd=>by
   obtain rfl:o'=o:=by simpa using h
   obtain ⟨h1,_⟩:=a3J hA
   unfold a0W
   rw [a3t r vals (i+1) _ _ (fun x hx e he=>by
    intro hc
    cases hc
    exact h1 x hx d hd he)]
   have hlt:d < a.tmps.size:=by
    simp only [a4t,List.all_cons,Bool.and_eq_true] at hI
    have:=hI.1
    rw [hd] at this
    simpa using this
   simp [Act.eval,Act.put,hd,hlt]
 | o' :: r,vals,i,k+1,a,o,d,hA,hI,h,hd=>by
   obtain ⟨_,h2⟩:=a3J hA
   unfold a0W
   rw [a3d r vals (i+1) k _ o d h2 (by
    rw [aSH]
    simp only [a4t,List.all_cons,Bool.and_eq_true] at hI ⊢
    exact hI.2) (by simpa using h) hd,show i+1+k=i+(k+1) by omega]
end
end Go.Proofs.YtbohkigffejhoaaGreat
