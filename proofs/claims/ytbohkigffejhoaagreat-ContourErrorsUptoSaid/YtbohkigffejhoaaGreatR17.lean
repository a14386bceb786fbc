import Derived.Test.YtbohkigffejhoaaGreatR09
import Derived.Deep.DeepCutAuto
import Derived.Outline
namespace Go.Proofs.YtbohkigffejhoaaGreat
open Go.RowKit
set_option maxRecDepth 8000
theorem SlU.form' {w:World} {s:Value} {l:List Nat} (h:SlU w s l):∃ a n c,s=.slice a n c/\n=l.length:=by
 obtain ⟨a,n,cap,b,off,rfl,h2,_⟩:=h
 exact ⟨a,n,cap,rfl,h2⟩
set_option maxHeartbeats 4000000 in
theorem aTG (v1 v2:Value) (l1 l2:List Nat) (w:World) (h1:SlU w v1 l1) (h2:SlU w v2 l2) (k1:Lb.Lt l1) (k2:Lb.Lt l2) (n1:l1.length <= 100000000) (n2:l2.length <= 100000000) (hb:(Lb.trim l2).length=1) :
    Calls Tryz.prog 279 #[v1,v2] w (aHC w (Lb.val l1 / Lb.val l2) (Lb.val l1 % Lb.val l2) (l1.length+2)):=by
 have C1:=Lib.hid (a3s v1 l1 w h1 (by omega)); have C2:=Lib.hid (a3s v2 l2 w h2 (by omega))
 have HV1:=Lib.hid (Lb.a2t l1); have HV2:=Lib.hid (Lb.a2t l2)
 have HM1:=Lib.hid (Lb.a2P k1); have HM2:=Lib.hid (Lb.a2P k2)
 have HT1:=Lib.hid (Lb.a2i l1)
 clear h1 h2 k1 k2
 go_enter Tryz.func279,Tryz.ntmps279
 go_wp2_with fail
 refine C1.out.mono ?_
 rintro e w1 ⟨x1,rfl,s1,rfl⟩
 go_wp2_with fail
 refine C2.out.mono ?_
 rintro e w1 ⟨x2,rfl,s2,rfl⟩
 clear C1 C2
 generalize Lb.trim l1=a at *
 generalize Lb.trim l2=b at *
 obtain ⟨y,rfl⟩:∃ y,b=[y]:=by
  match b,hb with
  | [y],_=>exact ⟨y,rfl⟩
 obtain ⟨g,off,cap,rfl,hg,cell⟩:=a3f s2 0 (by simp)
 have hy:y < 1000000000:=HM2.out.1 y (List.mem_cons_self ..)
 have hy0:0 < y:=by
  have:=HM2.out.2 (by simp)
  simp at this
  omega
 have HVY:Hid (Lb.val [y]=Lb.val l2):=HV2
 have hvy:Lb.val l2=y:=by rw [<- HV2.out]; simp [Lb.val]
 have HVY2:=Lib.hid hvy
 have HS1:=Lib.hid s1
 simp only [Nat.add_zero,List.getElem_cons_zero] at cell
 clear hb s1 s2 hvy
 go_wp2_with fail
 refine (aCC x1 a y w HS1.out HM1.out.1 (by have:=HT1.out; omega) hy0 hy).mono ?_
 rintro e w4 ⟨q1,q2,a1,m1,c1,a2,m2,c2,rfl,t1,t2,t3,t4,t5,t6,t7,t8,t9⟩
 go_wp2_with fail
 go_ret2
 exact ⟨q1,q2,a1,m1,c1,a2,m2,c2,rfl,t1,t2,t3,t4,by rw [t5,HVY2.out,HV1.out],by rw [t6,HVY2.out,HV1.out],by have:=HT1.out; omega,by have:=HT1.out; omega,t9⟩
set_option maxHeartbeats 4000000 in
theorem aQb (v1 v2:Value) (l1 l2:List Nat) (w:World) (h1:SlU w v1 l1) (h2:SlU w v2 l2) (k1:Lb.Lt l1) (k2:Lb.Lt l2) (n1:l1.length <= 100000000) (n2:l2.length <= 100000000) (hb:(Lb.trim l2).length ≠ 1) (hlt:Lb.val l1 < Lb.val l2) :
    Calls Tryz.prog 279 #[v1,v2] w (aHC w (Lb.val l1 / Lb.val l2) (Lb.val l1 % Lb.val l2) (l1.length+2)):=by
 have C1:=Lib.hid (a3s v1 l1 w h1 (by omega)); have C2:=Lib.hid (a3s v2 l2 w h2 (by omega))
 have HV1:=Lib.hid (Lb.a2t l1); have HV2:=Lib.hid (Lb.a2t l2)
 have HM1:=Lib.hid (Lb.a2P k1); have HM2:=Lib.hid (Lb.a2P k2)
 have HT1:=Lib.hid (Lb.a2i l1); have HT2:=Lib.hid (Lb.a2i l2)
 have HQ:=Lib.hid (Nat.div_eq_of_lt hlt); have HR:=Lib.hid (Nat.mod_eq_of_lt hlt); have HLT:=Lib.hid hlt
 clear h1 h2 k1 k2 hlt
 go_enter Tryz.func279,Tryz.ntmps279
 go_wp2_with fail
 refine C1.out.mono ?_
 rintro e w1 ⟨x1,rfl,s1,rfl⟩
 go_wp2_with fail
 refine C2.out.mono ?_
 rintro e w1 ⟨x2,rfl,s2,rfl⟩
 clear C1 C2
 generalize Lb.trim l1=a at *
 generalize Lb.trim l2=b at *
 obtain ⟨p2,q2,rfl⟩:=s2.form
 obtain ⟨p1,q1,rfl⟩:=s1.form
 have hne:((b.length:Int) == 1)=false:=by simp; omega
 have hne2:¬ b.length=1:=hb
 have hcv:decide (a3L (Lb.val a) (Lb.val b) < 0)=true:=aLq (by rw [HV1.out,HV2.out]; exact HLT.out)
 have HC:=Lib.hid (a6f _ _ _ _ w s1 s2 HM1.out.1 HM2.out.1 (by have:=HT1.out; omega) (by have:=HT2.out; omega))
 generalize a3L (Lb.val a) (Lb.val b)=cv at *
 have HS1:=Lib.hid s1
 have HL1:Hid (([]:List Nat).length+a.length <= maxLen):=Lib.hid (by have:=HT1.out; unfold maxLen; simp; omega)
 have HL2:Hid ((([]:List Nat).length+a.length)*4 <= 140737488355328):=Lib.hid (by have:=HT1.out; simp; omega)
 clear hb s1 s2
 go_wp2_with fail
 refine HC.out.mono ?_
 rintro e w4 ⟨rfl,x4⟩
 go_wp2_with ((at_builtin; refine a2G rfl _ _ rfl Tryz.underlying31 Tryz.info_u32 rfl (by decide) a15 a3X w4.heap.size _ _ [] a rfl rfl (OwnG.nil _ _ _) (HS1.out.later x4) HL1.out HL2.out (Nat.le_refl _) ?_; intro v6 w6 own6 hg6 hloc6))
 have s6:=own6.sl a15
 rw [List.nil_append] at s6
 obtain ⟨a6,n6,c6,rfl,-⟩:=SlU.form' s6
 go_ret2
 exact ⟨[],a,_,_,_,_,_,_,rfl,SlU.nil _,s6,Lb.a2Q,HM1.out.1,by rw [HQ.out]; rfl,by rw [HR.out,HV1.out],by simp,by have:=HT1.out; omega,x4.grown hg6 (fun i hi=>by cases hi)⟩
end Go.Proofs.YtbohkigffejhoaaGreat
namespace Go.Proofs.YtbohkigffejhoaaGreat
open Go.RowKit
theorem aSs {win V O:List Nat} {g m c d W:Nat} (h:aNV win V g m c d O) (hV:V.length <= m) (hw:win.length=m) (hW:Lb.val win=W) (hV0:0 < Lb.val V) (hVm:Lb.val V < Lb.B ^ m) :
    (g=W / Lb.val V->(decide (0 < d) || decide (0 < c))=false/\Lb.val O=W - Lb.val V*(W / Lb.val V)) /\
    (g=W / Lb.val V+1->(decide (0 < d) || decide (0 < c))=true/\Lb.val O+Lb.val V=W - Lb.val V*(W / Lb.val V)+Lb.B ^ m):=by
 have h1:=h.sum
 have h2:=Lb.a3l h.lt
 rw [List.take_of_length_le hV,List.take_of_length_le (by omega),hW] at h1
 rw [h.len] at h2
 have hle:Lb.val V*(W / Lb.val V) <= W:=Nat.mul_div_le _ _
 constructor
 ·intro hg
  rw [hg] at h1
  obtain ⟨e1,e2⟩:=Lb.aSr h2 h1 hle
  refine ⟨?_,e2⟩
  have:c=0/\d=0:=by omega
  simp [this.1,this.2]
 ·intro hg
  rw [hg] at h1
  have hlt:W < Lb.val V*(W / Lb.val V+1):=by
   have e1:=Nat.div_add_mod W (Lb.val V)
   have e2:=Nat.mod_lt W hV0
   rw [Nat.mul_succ]
   omega
  obtain ⟨e1,e2⟩:=Lb.aSq h2 h1 hlt hle hVm
  refine ⟨?_,e2⟩
  have:0 < d \/ 0 < c:=by omega
  simpa using this
theorem aSG {O V O2:List Nat} {m c R:Nat} (h:a4w O V m c O2) (hV:V.length <= m) (hO:O.length=m) (hs:Lb.val O+Lb.val V=R+Lb.B ^ m) (hc:c <= 1):Lb.val O2=R:=by
 have h1:=h.sum
 have h2:=Lb.a3l h.lt
 rw [List.take_of_length_le hV,List.take_of_length_le (by omega),hs] at h1
 rw [h.len] at h2
 rcases Nat.eq_zero_or_pos c with h0 | h0
 ·subst h0; omega
 ·have:c=1:=by omega
  subst this; omega
theorem aH1 {b:List Nat} {n1 y:Nat} (hb:Lb.a5G b) (hn:b.length=n1+1) (hy:b[n1]?=some y) :
    0 < y/\1 <= 1000000000 / (y+1)/\1000000000 / (y+1) < 1000000000/\Lb.val b*(1000000000 / (y+1)) < Lb.B ^ (n1+1)/\Lb.B ^ n1 <= Lb.val b*(1000000000 / (y+1)):=by
 have hlt:n1 < b.length:=by omega
 have hy':b[n1]=y:=by simpa [hlt] using hy
 have hne:b ≠ []:=by intro e; rw [e] at hn; simp at hn
 have hlast:b.getLast hne=y:=by
  rw [List.getLast_eq_getElem]
  simp only [hn,Nat.add_sub_cancel]
  exact hy'
 have hy0:0 < y:=by
  have:=hb.2 hne
  rw [hlast] at this
  omega
 have hy9:y < 1000000000:=by rw [<- hy']; exact Lb.a1s hb.1 n1 hlt
 have hs1:1 <= 1000000000 / (y+1):=Nat.div_pos (by omega) (by omega)
 have hs2:1000000000 / (y+1) < 1000000000:=Nat.div_lt_self (by decide) (by omega)
 have hvb:Lb.val b < (y+1)*Lb.B ^ n1:=by
  have e:=Lb.a1F b n1 (by omega)
  rw [Lb.a1R b n1 hlt,List.drop_of_length_le (by omega),Lb.a7X,hy',Nat.mul_zero,Nat.add_zero] at e
  have h2:=Lb.a9H hb.1 n1 (by omega)
  rw [Nat.succ_mul,e,Nat.mul_comm]
  omega
 refine ⟨hy0,hs1,hs2,Lb.aBZ hvb,?_⟩
 have h1:=Lb.aC5 hb hne
 rw [hn,Nat.add_sub_cancel] at h1
 have h2:Lb.val b*1 <= Lb.val b*(1000000000 / (y+1)):=Nat.mul_le_mul_left _ hs1
 omega
theorem aSP {l:List Nat} {n1:Nat} (h:Lb.a5G l) (h1:Lb.val l < Lb.B ^ (n1+1)) (h2:Lb.B ^ n1 <= Lb.val l):l.length=n1+1:=by
 have e:=Lb.aWW h
 have h3:l.length <= n1+1:=by rw [e]; exact Lb.a0X h1
 have h4:=Lb.a3l h.1
 have h5:Lb.B ^ n1 < Lb.B ^ l.length:=by omega
 have h6:=(Nat.pow_lt_pow_iff_right (a:=Lb.B) (n:=n1) (m:=l.length) (by decide)).1 h5
 omega
theorem aTC {A Vv n2 L k:Nat} {U Q V:List Nat} {x2 x1 x0 y1 y0:Nat} (h:Lb.DivAt A Vv (n2+2) L (k+1) U Q) (hk:k < L) (hV:Lb.val V=Vv) (hVl:V.length=n2+2) (hVn:Lb.a5G V)
    (e2:U[k+(n2+2)]?=some x2) (e1:U[k+(n2+1)]?=some x1) (e0:U[k+n2]?=some x0) (f1:V[n2+1]?=some y1) (f0:V[n2]?=some y0) :
    Lb.EstData (Lb.val (U.drop k)) Vv y1 y0 (x2*1000000000+x1) x0 (Lb.B ^ n2):=by
 have hlt:=Lb.a3l hVn.1
 rw [hV,hVl] at hlt
 obtain ⟨w1,w2,w3⟩:=h.window hk hlt
 have hl:=h.len
 have g2:((U.drop k).take (n2+2+1))[n2+2]'(by simp; omega)=x2:=by
  have:k+(n2+2) < U.length:=by omega
  simp [this] at e2 ⊢; exact e2
 have g1:((U.drop k).take (n2+2+1))[n2+1]'(by simp; omega)=x1:=by
  have:k+(n2+1) < U.length:=by omega
  simp [this] at e1 ⊢; exact e1
 have g0:((U.drop k).take (n2+2+1))[n2]'(by simp; omega)=x0:=by
  have:k+n2 < U.length:=by omega
  simp [this] at e0 ⊢; exact e0
 have h3:=Lb.b1r ((U.drop k).take (n2+2+1)) n2 (by simp; omega)
 rw [g2,g1,g0,<- w3] at h3
 have p1:V[n2+1]'(by omega)=y1:=by have:n2+1 < V.length:=by omega
                                   simpa [this] using f1
 have p0:V[n2]'(by omega)=y0:=by have:n2 < V.length:=by omega
                                 simpa [this] using f0
 have h2:=Lb.b1s V n2 hVl
 rw [p1,p0,hV] at h2
 have hwl:=Lb.a8l (Lb.a9Z h.lt k) (n2+2+1)
 refine ⟨Nat.pow_pos Lb.a3r,⟨_,h3,Lb.a9H hwl n2 (by simp; omega)⟩,⟨_,h2,Lb.a9H hVn.1 n2 (by omega)⟩,?_,by rw [<- p0]; exact Lb.a1s hVn.1 _ _,by rw [<- g0]; exact Lb.a1s hwl _ _,w1⟩
 have hne:V ≠ []:=by intro e; rw [e] at hVl; simp at hVl
 have:=hVn.2 hne
 rw [List.getLast_eq_getElem] at this
 simp only [hVl] at this
 have e:V[n2+2 - 1]'(by omega)=y1:=p1
 rw [e] at this
 omega
end Go.Proofs.YtbohkigffejhoaaGreat
