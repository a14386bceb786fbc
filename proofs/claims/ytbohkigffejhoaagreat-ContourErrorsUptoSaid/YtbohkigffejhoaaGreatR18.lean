import Derived.Test.YtbohkigffejhoaaGreatR17
import Derived.Deep.DeepCutAuto
import Derived.Deep.CutBlock
import Derived.Test.YtbohkigffejhoaaGreatR16
import Derived.Test.YtbohkigffejhoaaGreatR09
namespace Go.Proofs.YtbohkigffejhoaaGreat
open Go.RowKit
set_option maxRecDepth 100000
structure DivMem (A V n L gu gq:Nat) (vs:Value) (Vl:List Nat) (j:Nat) (U Q:List Nat) (w wr:World):Prop where
 st:Lb.DivAt A V n L j U Q
 u:ArrP wr gu U
 q:ArrU wr gq Q
 v:SlU wr vs Vl
 e:Ext w wr
theorem aH9 {B N:Nat} {w:World} {v:Value} {l:List Nat} (h:OwnG B 189 1 uC w v l) (hN:l.length=N) (h0:0 < N):∃ b cap,v=.slice (some ⟨b,0,none⟩) N cap/\N <= cap/\B <= b/\ArrP w b l:=by
 subst hN
 exact aWL h h0
theorem DivMem.later {A V n L gu gq:Nat} {vs:Value} {Vl:List Nat} {j:Nat} {U Q:List Nat} {w wr wx:World} (h:DivMem A V n L gu gq vs Vl j U Q w wr) (he:Ext wr wx):DivMem A V n L gu gq vs Vl j U Q w wx :=
 ⟨h.st,h.u.ext he,a0P h.q he,h.v.later he,h.e.trans he⟩
theorem DivMem.next {A V n L gu gq:Nat} {vs:Value} {Vl:List Nat} {k q:Nat} {U U2 Q:List Nat} {w wc wx:World} (h:DivMem A V n L gu gq vs Vl (k+1) U Q w wc) (ho:Only1 gu wc wx) (hu:ArrP wx gu U2) (hst:Lb.DivAt A V n L k U2 (Q.set k q))
    (hne:gu ≠ gq) (hvu:vs.ownBlock ≠ some gu) (hvq:vs.ownBlock ≠ some gq) (hgu:w.heap.size <= gu) (hgq:w.heap.size <= gq):DivMem A V n L gu gq vs Vl k U2 (Q.set k q) w (wx.setCell ⟨gq,k,none⟩ (.int .u32 (q:Int))):=by
 have hq:ArrU wx gq Q:=by unfold ArrU; rw [ho.block gq (fun e=>hne e.symm)]; exact h.q
 have h1:Only1 gq wx (wx.setCell ⟨gq,k,none⟩ (.int .u32 (q:Int))):=(Only1.refl gq wx).set k _
 exact ⟨hst,hu.other (by exact hne) _,hq.set k q,(h.v.only1 ho hvu).only1 h1 hvq,h1.ext (ho.ext h.e hgu) hgq⟩
theorem aSf {A O D O2:List Nat} {k m:Nat} (hA:A.length=k) (hO:O.length=m):(A ++ O ++ D).take k ++ O2 ++ (A ++ O ++ D).drop (k+m)=A ++ O2 ++ D:=by
 subst hA hO
 have h1:(A ++ O ++ D).take A.length=A:=by rw [List.append_assoc,List.take_left]
 have h2:(A ++ O ++ D).drop (A.length+O.length)=D:=by rw [<- List.length_append,List.drop_left]
 rw [h1,h2]
theorem aRC {w:World} {b:Nat} {l:List Nat} (h:ArrP w b l) {i x:Nat} (hi:l[i]?=some x):∀ y:Later w,y.w.cell? ⟨b,i,none⟩=some (.int .u32 (x:Int)):=fun y=>by
 have hl:i < l.length:=(List.getElem?_eq_some_iff.1 hi).1
 have:=(h.ext y.ext).cell i hl
 rw [this]
 have:l[i]=x:=by simpa [hl] using hi
 rw [this]
theorem b0A {w:World} {p:Option Addr} {n q:Nat} {l:List Nat} (h:SlU w (.slice p n q) l) (h0:0 < l.length):∃ b off,p=some ⟨b,off,none⟩/\∀ (i x:Nat),l[i]?=some x->∀ y:Later w,y.w.cell? ⟨b,off+i,none⟩=some (.int .u32 (x:Int)):=by
 rcases h.cases with ⟨e,_⟩ | ⟨_,b,off,cap,e,_,_,hc⟩
 ·rw [e] at h0; simp at h0
 ·cases e
  refine ⟨b,off,rfl,fun i x hi y=>?_⟩
  have hl:i < l.length:=(List.getElem?_eq_some_iff.1 hi).1
  rcases (h.later y.ext).cases with ⟨e',_⟩ | ⟨_,b',off',cap',e',_,_,hc'⟩
  ·rw [e'] at h0; simp at h0
  ·cases e'
   rw [hc' i hl]
   have:l[i]=x:=by simpa [hl] using hi
   rw [this]
set_option maxHeartbeats 40000000 in
theorem aTH (v1 v2:Value) (l1 l2:List Nat) (w:World) (h1:SlU w v1 l1) (h2:SlU w v2 l2) (k1:Lb.Lt l1) (k2:Lb.Lt l2) (n1:l1.length <= 100000000) (n2:l2.length <= 100000000) (hb:2 <= (Lb.trim l2).length) (hge:Lb.val l2 <= Lb.val l1) :
    Calls Tryz.prog 279 #[v1,v2] w (aHC w (Lb.val l1 / Lb.val l2) (Lb.val l1 % Lb.val l2) (l1.length+2)):=by
 have C1:=Lib.hid (a3s v1 l1 w h1 (by omega)); have C2:=Lib.hid (a3s v2 l2 w h2 (by omega))
 have HV1:=Lib.hid (Lb.a2t l1); have HV2:=Lib.hid (Lb.a2t l2)
 have HM1:=Lib.hid (Lb.a2P k1); have HM2:=Lib.hid (Lb.a2P k2)
 have HT1:=Lib.hid (Lb.a2i l1); have HT2:=Lib.hid (Lb.a2i l2)
 have HGE:=Lib.hid hge
 clear h1 h2 k1 k2 hge
 go_enter Tryz.func279,Tryz.ntmps279
 go_wp2_with fail
 refine C1.out.mono ?_
 rintro e w1 ⟨x1,rfl,s1,rfl⟩
 go_wp2_with fail
 refine C2.out.mono ?_
 rintro e w1 ⟨x2,rfl,s2,rfl⟩
 clear C1 C2
 generalize Lb.trim l1=a at *
 generalize Lb.trim l2=b at *
 obtain ⟨p2,q2,rfl⟩:=s2.form
 obtain ⟨p1,q1,rfl⟩:=s1.form
 have hcv:decide (a3L (Lb.val a) (Lb.val b) < 0)=false:=aLp (by rw [HV1.out,HV2.out]; exact HGE.out)
 have HC:=Lib.hid (a6f _ _ _ _ w s1 s2 HM1.out.1 HM2.out.1 (by have:=HT1.out; omega) (by have:=HT2.out; omega))
 generalize a3L (Lb.val a) (Lb.val b)=cv at *
 have HS1:=Lib.hid s1; have HS2:=Lib.hid s2
 obtain ⟨m,hm⟩:∃ m,b.length=m+2:=⟨b.length - 2,by omega⟩
 have hab:m+2 <= a.length:=by
  have h1:Lb.val b <= Lb.val a:=by rw [HV1.out,HV2.out]; exact HGE.out
  rcases Nat.lt_or_ge a.length b.length with h | h
  ·have:=Lb.a5e HM1.out HM2.out h; omega
  ·omega
 obtain ⟨L,hL⟩:∃ L,a.length+2=L+(m+2):=⟨a.length+2 - (m+2),by omega⟩
 obtain ⟨y,hy⟩:∃ y,b[m+1]?=some y:=⟨b[m+1],by simp [hm]⟩
 obtain ⟨hy0,hs1,hs2,hsV,hsG⟩:=aH1 (n1:=m+1) HM2.out (by omega) hy
 have hyb:y < 1000000000:=by
  have h:m+1 < b.length:=by omega
  have:=Lb.a1s HM2.out.1 (m+1) h
  have e:b[m+1]=y:=by simpa [h] using hy
  rw [e] at this
  exact this
 have HSV:=Lib.hid hsV; have HSG:=Lib.hid hsG
 obtain ⟨bb,bo,bc,hbe,hbb,hcell⟩:=a3f s2 (m+1) (by omega)
 have hbm:b[m+1]'(by omega)=y:=by have h:m+1 < b.length:=by omega
                                  simpa [h] using hy
 rw [hbm] at hcell
 cases hbe
 have hne:((b.length:Int) == 1)=false:=by simp; omega
 have hne2:¬ b.length=1:=by omega
 have HM:=Lib.hid hm; have HLL:=Lib.hid hL; have HAB:=Lib.hid hab
 clear hbm
 generalize hn:b.length=n at *
 obtain ⟨m1,hm1⟩:∃ m1,m+1=m1:=⟨_,rfl⟩
 rw [hm1] at hcell hsV hsG HSV HSG
 have E1:(n:Int) - 1=(m1:Int):=by omega
 have E2:(n:Int) - 2=(m:Int):=by omega
 have hm1n:m1 < n:=by omega
 have hmn:m < n:=by omega
 have hn9:n <= 100000000:=by have:=HT2.out; omega
 have HM1':=Lib.hid hm1
 have hsd:(1000000000:Int) / ((y:Int)+1)=((1000000000 / (y+1):Nat):Int):=by simp
 have hy1:(((y:Int)+1) == 0)=false:=by simp; omega
 have hy2:¬ ((y:Int)+1=0):=by omega
 generalize hsc:1000000000 / (y+1)=s at *
 have HN:=Lib.hid hn; have HHM:=Lib.hid hm
 have HCL:=Lib.hid hcell
 clear hb s1 s2 hm hm1 hab hL hy hsV hsG hsc hn
 go_wp2_with fail
 refine HC.out.mono ?_
 rintro e w4 ⟨rfl,x4⟩
 have cellb:=(x4.cell (p:=⟨bb,bo+m1,none⟩) hbb).trans HCL.out
 obtain ⟨X8,hX8,hA8,hE8,-⟩:=a1L w4 [s]
 simp only [List.map_cons,List.map_nil,uV] at hX8
 have HT8:=Lib.hid (a7Z _ _ a [s] X8 (HS1.out.later (x4.trans hE8)) (hA8.all (n:=1) (cap:=1) rfl (Nat.le_refl _)) HM1.out.1 (Lb.a2R hs2 Lb.a2Q) (by have:=HT1.out; omega) (by simp))
 have HE8:=Lib.hid (x4.trans hE8)
 clear hA8 hE8
 go_wp2_with fail
 refine HT8.out.mono ?_
 rintro e w9 ⟨U0,us,rfl,ul,ult,uval,uown,x9⟩
 have HX9:=Lib.hid (HE8.out.trans x9)
 obtain ⟨Y9,hY9,hA9',hE9,-⟩:=a0y w9 #[.int .u32 0] 189
 have hA9:ArrU Y9 w9.heap.size [0]:=hA9'
 have HO9:=Lib.hid (uown.later hE9); have HS9:=Lib.hid (hA9.all (n:=1) (cap:=1) rfl (Nat.le_refl _)); have HE9:=Lib.hid (HX9.out.trans hE9)
 have HB9:Hid (X8.heap.size <= Y9.heap.size):=Lib.hid (x9.trans hE9).size
 have HXB:Hid (w.heap.size <= X8.heap.size):=Lib.hid HE8.out.size
 have HM9:Hid (U0.length+[0].length <= maxLen):=Lib.hid (by rw [ul]; have:=HT1.out; unfold maxLen; simp; omega)
 have HN9:Hid ((U0.length+[0].length)*4 <= 140737488355328):=Lib.hid (by rw [ul]; have:=HT1.out; simp; omega)
 have HUL:Hid ((U0 ++ [0]).length=L+n):=Lib.hid (by have:=HLL.out; have:=HM.out; simp at ul ⊢; omega)
 have HULT:=Lib.hid ult; have HUV:=Lib.hid uval
 clear ul ult uval uown x9 hA9 hA9' hE9 hX8
 go_wp2_with ((at_builtin; refine a2G rfl _ _ rfl Tryz.underlying31 Tryz.info_u32 rfl (by decide) a15 a3X X8.heap.size _ _ U0 [0] rfl rfl HO9.out HS9.out HM9.out HN9.out HB9.out ?_; intro v10 w10 own10 hg10 hloc10; obtain ⟨gu,cu,rfl,hcu,hgu,hau⟩:=aH9 own10 HUL.out (by omega); have hx10:=HE9.out.grown hg10 (fun i hi=>Nat.le_trans HXB.out (HO9.out.base hi).1); obtain ⟨Y10,hY10,hA10,hE10,-⟩:=a1L w10 [s]; simp only [List.map_cons,List.map_nil,uV] at hY10))
 have HT11:=Lib.hid (a7Z _ _ b [s] Y10 (HS2.out.later (hx10.trans hE10)) (hA10.all (n:=1) (cap:=1) rfl (Nat.le_refl _)) HM2.out.1 (Lb.a2R hs2 Lb.a2Q) (by have:=HN.out; omega) (by simp))
 have HX10:=Lib.hid hx10; have HE10:=Lib.hid hE10; have HAU:=Lib.hid hau; have HGU:=Lib.hid hgu; have HCU:=Lib.hid hcu
 have HGL:=Lib.hid hau.lt
 clear hA10 hE10 hx10 own10 hg10 hloc10 hau hgu hcu hY9
 refine HT11.out.mono ?_
 rintro e w11 ⟨V0,vs0,rfl,vl,vlt,vval,vown,x11⟩
 have HVL:=Lib.hid vl
 have HX11:=Lib.hid ((HX10.out.trans HE10.out).trans x11)
 have HTR:=Lib.hid (aEG vs0 V0 w11 (vown.sl a15) (by rw [vl]; simp; have:=HT2.out; have:=HN.out; omega))
 have HVO:=Lib.hid (fun k (hk:vs0.ownBlock=some k)=>(vown.base hk).1)
 have HVV:Hid (Lb.val (Lb.trim V0)=Lb.val b*s):=Lib.hid (by rw [Lb.a2t,vval]; simp [Lb.val])
 have HVN:=Lib.hid (Lb.a2P vlt)
 have HAU11:=Lib.hid (HAU.out.ext (HE10.out.trans x11))
 have HYB:Hid (gu < Y10.heap.size):=Lib.hid (by have:=HGL.out; have:=HE10.out.size; omega)
 clear vl vlt vval vown x11 hY10
 go_wp2_with fail
 refine HTR.out.mono ?_
 rintro e w12 ⟨vs,rfl,vsl,vblk,rfl⟩
 have hvgu:vs.ownBlock ≠ some gu:=by
  rw [vblk]; intro e; have:=HVO.out gu e; have:=HYB.out; omega
 have HVG:=Lib.hid hvgu; have HVS:=Lib.hid vsl
 have HVLEN:Hid ((Lb.trim V0).length=n):=Lib.hid (by
  have:=aSP (n1:=m1) HVN.out (by rw [HVV.out]; have:=HSV.out; rwa [<- HM1'.out] at this ⊢) (by rw [HVV.out]; exact HSG.out)
  have:=HM.out; have:=HM1'.out; omega)
 generalize Lb.trim V0=Vl at *
 obtain ⟨pv,nv,cv9,rfl,hnv⟩:=vsl.form'
 have hnv':nv=n:=hnv.trans HVLEN.out
 subst hnv'
 clear hvgu vblk vsl hnv HVO HTR HT11 HT8 HC
 have hmk:=a3K L (by have:=HLL.out; have:=HT1.out; omega)
 obtain ⟨W,hW,hAq,hEq,-⟩:=a1P w11 L
 have hL9:L <= 200000000:=by have:=HLL.out; have:=HT1.out; omega
 have hL1:1 <= L:=by have:=HLL.out; have:=HAB.out; omega
 have HD:Hid (DivMem (Lb.val a*s) (Lb.val b*s) nv L gu w11.heap.size (.slice pv nv cv9) Vl L (U0 ++ [0]) (List.replicate L 0) w W):=Lib.hid {
  st:=Lb.aIS HUL.out HULT.out (by rw [HUV.out]; simp [Lb.val]) (by have:=HSG.out; have:=HM.out; have:=HM1'.out; rwa [show nv - 1=m1 by omega]) (by have:=HM.out; omega)
  u:=HAU11.out.ext hEq
  q:=hAq
  v:=HVS.out.later hEq
  e:=HX11.out.trans hEq }
 have HGQ:Hid (gu < w11.heap.size):=Lib.hid (by have:=HAU11.out.lt; omega)
 have HGUW:Hid (w.heap.size <= gu):=Lib.hid (by have:=HGU.out; have:=HXB.out; omega)
 have HGQW:Hid (w.heap.size <= w11.heap.size):=Lib.hid HX11.out.size
 have HVBK:Hid (∀ vb vo,pv=some ⟨vb,vo,none⟩->vb < w11.heap.size):=Lib.hid (fun vb vo e=>by
  subst e
  rcases HVS.out.cases with ⟨e,_⟩ | ⟨_,b',off',cap',e',_,hb',_⟩
  ·have h1:=HVLEN.out; have h2:=HM.out; rw [e] at h1; simp at h1; omega
  ·cases e'; exact hb')
 clear hAq hEq
 go_wp2_with fail
 clear hmk hW
 go_loopw [11] (fun kv wr=>∃ (j:Nat) (U Q:List Nat),j <= L/\kv=.int .i64 ((j:Int) - 1)/\Hid (DivMem (Lb.val a*s) (Lb.val b*s) nv L gu w11.heap.size (.slice pv nv cv9) Vl j U Q w wr)) (fun kv _=>(intOf kv+1).toNat)
 case atStart=>exact ⟨L,_,_,Nat.le_refl _,rfl,HD⟩
 case round =>
  clear HD
  obtain ⟨j,U,Q,hj,rfl,HM0⟩:=hrel
  rename World=>WR
  cases j with
  | zero =>
    have hj1:((0:Nat):Int) - 1=-1:=rfl
    rw [hj1]
    have HDN:=Lib.hid (HM0.out.st.done (by have:=Lb.a3l HVN.out.1; rw [HVV.out,HVLEN.out] at this; exact this))
    have hcap:nv <= L+nv:=by omega
    have hcapu:nv <= cu:=by have:=HCU.out; omega
    have HSU:=Lib.hid (HM0.out.u.sl (cap:=cu) 0 (n:=nv) (by have:=HM0.out.st.len; omega) hcapu)
    rw [List.drop_zero] at HSU
    have HTRU:=Lib.hid (a3s _ _ _ HSU.out (by simp; omega))
    have HLN:=Lib.hid (Lb.a2i (U.take nv))
    clear hcap hj1
    go_wp2_with fail
    refine HTRU.out.mono ?_
    rintro e wt ⟨xt,rfl,st,rfl⟩
    have hs0:0 < s:=by omega
    have HBW:=Lib.hid (aCC xt (Lb.trim (U.take nv)) s WR st (Lb.aC8 (Lb.a8l HM0.out.st.lt _)) (by have:=HLN.out; simp at this; omega) hs0 hs2)
    have HRV:Hid (Lb.val (Lb.trim (U.take nv)) / s=Lb.val l1 % Lb.val l2):=Lib.hid (by rw [Lb.a2t,HDN.out.2,Nat.mul_div_cancel _ hs0,HV1.out,HV2.out])
    have HLT:Hid ((Lb.trim (U.take nv)).length <= l1.length):=Lib.hid (Nat.le_trans (Lb.a2i _) (by rw [List.length_take]; have:=HT1.out; have:=HAB.out; have:=HM.out; omega))
    clear st HTRU HSU
    generalize Lb.trim (U.take nv)=tu at *
    go_wp2_with fail
    refine HBW.out.mono ?_
    rintro e wu ⟨l3,l4,a3,m3,c3,a4,m4,c4,rfl,s3,s4,k3,k4,v3,v4,t3,t4,x5⟩
    go_wp2_with fail
    go_ret2
    have HMU:=HM0.out.later x5
    exact ⟨Q,l3,_,_,_,_,_,_,rfl,HMU.q.all HMU.st.qlen.symm (Nat.le_refl _),s3,HMU.st.qlt,k3,by rw [HDN.out.1,HV1.out,HV2.out],by rw [v3]; exact HRV.out,by rw [HMU.st.qlen]; have:=HLL.out; have:=HT1.out; omega,by have:=HLT.out; omega,HMU.e⟩
  | succ k =>
    have hk1:((k+1:Nat):Int) - 1=(k:Int):=by omega
    rw [hk1]
    have hk:k < L:=by omega
    have hUl:=HM0.out.st.len
    have hnm:nv=m+2:=HM.out
    have hm1m:m1=m+1:=HM1'.out.symm
    obtain ⟨x2,hx2⟩:∃ x,U[k+nv]?=some x:=⟨U[k+nv]'(by omega),by simp⟩
    obtain ⟨x1,hx1⟩:∃ x,U[k+m1]?=some x:=⟨U[k+m1]'(by omega),by simp⟩
    obtain ⟨x0,hx0⟩:∃ x,U[k+m]?=some x:=⟨U[k+m]'(by omega),by simp⟩
    have hVl:=HVLEN.out
    obtain ⟨y1,hy1'⟩:∃ x,Vl[m1]?=some x:=⟨Vl[m1]'(by omega),by simp⟩
    obtain ⟨y0,hy0'⟩:∃ x,Vl[m]?=some x:=⟨Vl[m]'(by omega),by simp⟩
    have HEST:=Lib.hid (aTC (n2:=m) (by have:=HM0.out.st; rwa [hnm] at this) hk HVV.out (by rw [hVl,hnm]) HVN.out (by rw [<- hnm]; exact hx2) (by rw [<- hm1m]; exact hx1) hx0 (by rw [<- hm1m]; exact hy1') hy0')
    have b2:x2 < 1000000000:=by have h:=(List.getElem?_eq_some_iff.1 hx2).2; rw [<- h]; exact Lb.a1s HM0.out.st.lt _ _
    have b1:x1 < 1000000000:=by have h:=(List.getElem?_eq_some_iff.1 hx1).2; rw [<- h]; exact Lb.a1s HM0.out.st.lt _ _
    have b0:x0 < 1000000000:=HEST.out.hu2
    have c1:y1 < 1000000000:=by have h:=(List.getElem?_eq_some_iff.1 hy1').2; rw [<- h]; exact Lb.a1s HVN.out.1 _ _
    have c0:y0 < 1000000000:=HEST.out.hv2
    have d1:0 < y1:=HEST.out.hv1
    obtain ⟨vb,vo,rfl,vcell⟩:=b0A HM0.out.v (by omega)
    have HVBL:=Lib.hid (HVBK.out vb vo rfl)
    have ku2:=aRC HM0.out.u hx2; have ku1:=aRC HM0.out.u hx1; have ku0:=aRC HM0.out.u hx0
    have kv1:=vcell m1 y1 hy1'; have kv0:=vcell m y0 hy0'
    have E3:(k:Int)+nv - 1=((k+m1:Nat):Int):=by omega
    have E4:(k:Int)+nv - 2=((k+m:Nat):Int):=by omega
    obtain ⟨T,hT⟩:∃ T:Nat,T=x2*1000000000+x1:=⟨_,rfl⟩
    have hTi:(x2:Int)*1000000000+x1=(T:Int):=by omega
    have hT9:T < 1000000000000000000:=by omega
    obtain ⟨g0,hg0⟩:∃ g:Nat,g=T / y1:=⟨_,rfl⟩
    obtain ⟨r0,hr0⟩:∃ g:Nat,g=T % y1:=⟨_,rfl⟩
    have hgi:(T:Int) / (y1:Int)=(g0:Int):=by rw [hg0]; simp
    have hri:(T:Int) % (y1:Int)=(r0:Int):=by rw [hr0]; simp
    have hy1n:((y1:Int) == 0)=false:=by simp; omega
    have hy1z:¬ ((y1:Int)=0):=by omega
    have hgle:g0 <= T:=by rw [hg0]; exact Nat.div_le_self _ _
    have hrlt:r0 < y1:=by rw [hr0]; exact Nat.mod_lt _ d1
    have HFST:=Lib.hid (HEST.out.first)
    rw [<- hT] at HFST
    rw [<- hg0,<- hr0] at HFST
    have HTT:=Lib.hid hT
    rw [<- hT] at HEST
    have Hx2:=Lib.hid hx2; have Hx1:=Lib.hid hx1; have Hx0:=Lib.hid hx0; have Hy1:=Lib.hid hy1'; have Hy0:=Lib.hid hy0'; have HUl:=Lib.hid hUl; have HVl:=Lib.hid hVl; have Hnm:=Lib.hid hnm; have Hm1m:=Lib.hid hm1m
    clear hk1 hx2 hx1 hx0 hy1' hy0' hUl hVl hnm hm1m hT hg0 hr0 vcell
    go_upto_block 2 with fail
    refine a2K (by kernel_rfl) (by kernel_rfl) ?_
    repeat (go_big_quiet_step (fail))
    refine wpQuiet_nil ?_
    rintro _ ⟨z1,rfl⟩
    go_upto_block 2 with fail
    refine a1M z1 (by kernel_rfl) (by kernel_rfl) ?_
    repeat (go_big_quiet_step (fail))
    refine wpQuiet_nil ?_
    rintro _ ⟨z2,rfl⟩
    go_upto_block 2 with fail
    go_cut [13,14] (fun g r wc=>∃ gn rn:Nat,g=.int .u64 gn/\r=.int .u64 rn/\Hid (Lb.val (U.drop k) / (Lb.val b*s) <= gn/\gn <= Lb.val (U.drop k) / (Lb.val b*s)+1/\gn < Lb.B)/\Hid (Ext WR wc))
    case first =>
     go_wp2_with fail
     go_loopw [13,14] (fun g r wi=>∃ gn rn:Nat,g=.int .u64 gn/\r=.int .u64 rn/\gn < 1000000000000000000/\rn < 1000000000/\Hid (Lb.Est (Lb.val (U.drop k)) (Lb.val b*s) y1 y0 T x0 (Lb.B ^ m) gn rn)/\Hid (Ext WR wi)) (fun g _ _=>(intOf g).toNat)
     case atStart=>exact ⟨g0,r0,rfl,by rw [hri],by omega,by omega,HFST,Lib.hid z2.ext⟩
     case round =>
      obtain ⟨gn,rn,rfl,rfl,hg9,hr9,HE0,HX⟩:=hrel
      obtain ⟨z,rfl⟩:∃ z:Later WR,wr=z.w:=⟨Later.mk _ HX.out,rfl⟩
      by_cases hge:1000000000 <= gn
      ·have hgt:decide (1000000000 <= (gn:Int))=true:=by simp; omega
       have hgi2:(1000000000:Int) <= (gn:Int):=by omega
       go_wp2_with fail
       refine a1M z (by kernel_rfl) (by kernel_rfl) ?_
       repeat (go_big_quiet_step (fail))
       refine wpQuiet_nil ?_
       rintro _ ⟨z3,rfl⟩
       obtain ⟨g1,hg1⟩:∃ g1,gn=g1+1:=⟨gn - 1,by have:=(HEST.out.down HE0.out (Or.inl (by rw [Lb.a4R]; exact hge))).1; omega⟩
       have HDN:Hid (Lb.Est (Lb.val (U.drop k)) (Lb.val b*s) y1 y0 T x0 (Lb.B ^ m) g1 (rn+y1)):=Lib.hid (by have h:=(HEST.out.down HE0.out (Or.inl (by rw [Lb.a4R]; exact hge))).2; rwa [hg1,Nat.add_sub_cancel] at h)
       have hgm:(gn:Int) - 1=(g1:Int):=by omega
       have hg19:g1 < 1000000000000000000:=by omega
       have HG1:=Lib.hid hg1
       have hrs:((rn+y1:Nat):Int)=(rn:Int)+(y1:Int):=by omega
       have HRS:=Lib.hid hrs
       clear ku2 ku1 ku0 kv0 E3 E4 hTi hT9 hgi hri hgle hrlt b2 b1 b0 c0 hg1 hg9 hk hj d1 hy1n hy1z hrs hge hgt hgi2
       by_cases hbr:1000000000 <= rn+y1
       ·have hbr1:decide (1000000000 <= (rn:Int)+(y1:Int))=true:=decide_eq_true (by omega)
        have hbr2:(1000000000:Int) <= (rn:Int)+(y1:Int):=by omega
        have HBR:=Lib.hid hbr
        clear hbr
        go_wp2_with fail
        go_meet
        case rel=>exact ⟨g1,rn+y1,rfl,by rw [HRS.out],Lib.hid (HEST.out.brk HDN.out (by rw [Lb.a4R]; exact HBR.out)),Lib.hid z3.ext⟩
       ·have hbr1:decide (1000000000 <= (rn:Int)+(y1:Int))=false:=decide_eq_false (by omega)
        have HBR:=Lib.hid hbr
        clear hbr
        go_wp2_with fail
        go_roundw
        case rel=>exact ⟨g1,rn+y1,rfl,by rw [HRS.out],hg19,by have:=HBR.out; omega,HDN,Lib.hid z3.ext⟩
        case measure=>exact show ((g1:Int)).toNat < ((gn:Int)).toNat by (have:=HG1.out; rw [Int.toNat_natCast,Int.toNat_natCast]; omega)
      ·have hgt:decide (1000000000 <= (gn:Int))=false:=by simp; omega
       obtain ⟨pp,hpp⟩:∃ pp,pp=gn*y0:=⟨_,rfl⟩
       have hppi:(gn:Int)*(y0:Int)=(pp:Int):=by rw [hpp]; simp
       have hpp9:pp < 1000000000000000000:=by
        rw [hpp]
        have:=Nat.mul_lt_mul'' (show gn < 1000000000 by omega) c0
        omega
       obtain ⟨ss,hss⟩:∃ ss,ss=rn*1000000000+x0:=⟨_,rfl⟩
       have hssi:(rn:Int)*1000000000+(x0:Int)=(ss:Int):=by omega
       have hss9:ss < 1000000000000000000:=by omega
       have hr19:(rn:Int)*1000000000 < 1000000000000000000:=by omega
       have HPP:=Lib.hid hpp; have HSS:=Lib.hid hss
       clear hpp hss
       by_cases hcm:ss < pp
       ·have hcm1:decide ((ss:Int) < (pp:Int))=true:=by simp; omega
        have hcm2:(ss:Int) < (pp:Int):=by omega
        go_wp2_with fail
        refine a1M z (by kernel_rfl) (by kernel_rfl) ?_
        repeat (go_big_quiet_step (fail))
        refine wpQuiet_nil ?_
        rintro _ ⟨z3,rfl⟩
        obtain ⟨g1,hg1⟩:∃ g1,gn=g1+1:=⟨gn - 1,by have:=(HEST.out.down HE0.out (Or.inr (by rw [Lb.a4R,<- HPP.out,<- HSS.out]; exact hcm))).1; omega⟩
        have HDN:Hid (Lb.Est (Lb.val (U.drop k)) (Lb.val b*s) y1 y0 T x0 (Lb.B ^ m) g1 (rn+y1)):=Lib.hid (by have h:=(HEST.out.down HE0.out (Or.inr (by rw [Lb.a4R,<- HPP.out,<- HSS.out]; exact hcm))).2; rwa [hg1,Nat.add_sub_cancel] at h)
        have hgm:(gn:Int) - 1=(g1:Int):=by omega
        have hg19:g1 < 1000000000000000000:=by omega
        have HG1:=Lib.hid hg1
        have hrs:((rn+y1:Nat):Int)=(rn:Int)+(y1:Int):=by omega
        have HRS:=Lib.hid hrs
        clear ku2 ku1 ku0 kv0 E3 E4 hTi hT9 hgi hri hgle hrlt b2 b1 b0 c0 hg1 hg9 hk hj d1 hy1n hy1z hrs hge hgt hppi hpp9 hssi hss9 hr19 hcm hcm1 hcm2
        by_cases hbr:1000000000 <= rn+y1
        ·have hbr1:decide (1000000000 <= (rn:Int)+(y1:Int))=true:=decide_eq_true (by omega)
         have hbr2:(1000000000:Int) <= (rn:Int)+(y1:Int):=by omega
         have HBR:=Lib.hid hbr
         clear hbr
         go_wp2_with fail
         go_meet
         case rel=>exact ⟨g1,rn+y1,rfl,by rw [HRS.out],Lib.hid (HEST.out.brk HDN.out (by rw [Lb.a4R]; exact HBR.out)),Lib.hid z3.ext⟩
        ·have hbr1:decide (1000000000 <= (rn:Int)+(y1:Int))=false:=decide_eq_false (by omega)
         have HBR:=Lib.hid hbr
         clear hbr
         go_wp2_with fail
         go_roundw
         case rel=>exact ⟨g1,rn+y1,rfl,by rw [HRS.out],hg19,by have:=HBR.out; omega,HDN,Lib.hid z3.ext⟩
         case measure=>exact show ((g1:Int)).toNat < ((gn:Int)).toNat by (have:=HG1.out; rw [Int.toNat_natCast,Int.toNat_natCast]; omega)
       ·have hcm1:decide ((ss:Int) < (pp:Int))=false:=by simp; omega
        have HL:=Lib.hid (HEST.out.last HE0.out (by rw [Lb.a4R]; omega) (by rw [Lb.a4R,<- HPP.out,<- HSS.out]; omega))
        go_wp2_with fail
        refine a1M z (by kernel_rfl) (by kernel_rfl) ?_
        repeat (go_big_quiet_step (fail))
        refine wpQuiet_nil ?_
        rintro _ ⟨z3,rfl⟩
        clear ku2 ku1 ku0 kv0 kv1 E3 E4 hTi hT9 hgi hri hgle hrlt b2 b1 b0 c0 hk hj d1 hy1n hy1z hge hgt hppi hpp9 hssi hss9 hr19 hcm hcm1
        go_wp2_with fail
        go_meet
        case rel=>exact ⟨gn,rn,rfl,rfl,HL,Lib.hid z3.ext⟩
    case rest =>
     obtain ⟨gn,rn,rfl,rfl,HG,HX⟩:=hcut
     have HMX:=Lib.hid (HM0.out.later HX.out)
     clear ku2 ku1 ku0 kv1 kv0 hTi hT9 hgi hri hgle hrlt b2 b1 b0 c0 c1 d1 hy1n hy1z HFST E3 E4
     have hgn9:gn < 1000000000:=by have:=HG.out.2.2; rwa [Lb.a4R] at this
     have HSB:=Lib.hid (aSg gu k (nv+1) (cu - k) (.slice (some ⟨vb,vo,none⟩) nv cv9) U Vl gn wc HMX.out.u HMX.out.v HVG.out HMX.out.st.lt HVN.out.1 (by have:=HUl.out; omega) (by have:=HUl.out; omega) (by have:=HVl.out; omega) hgn9)
     have hcu2:k+nv+1 <= cu:=by have:=HCU.out; omega
     have hkn:k+nv+1 - k=nv+1:=by omega
     go_wp2_with fail
     refine HSB.out.mono ?_
     rintro e wd ⟨O,cd,dd,rfl,hsub,harr,honly⟩
     have hwin:=HMX.out.st.window hk (by have:=Lb.a3l HVN.out.1; rw [HVV.out,HVl.out] at this; exact this)
     have hV0:0 < Lb.val Vl:=by
      rcases Nat.eq_zero_or_pos (Lb.val Vl) with h0 | h0
      ·have:=Lb.a9T HVN.out h0
       have:=HVl.out; have:=Hnm.out; simp_all
      ·exact h0
     have hVB:Lb.val Vl < Lb.B ^ (nv+1):=by
      have h1:=Lb.a3l HVN.out.1
      rw [HVl.out] at h1
      exact Nat.lt_of_lt_of_le h1 (Nat.pow_le_pow_right Lb.a3r (by omega))
     have hdone:=aSs hsub (by have:=HVl.out; omega) (by rw [List.length_take,List.length_drop,HUl.out]; omega) hwin.2.2.symm hV0 hVB
     rw [HVV.out] at hdone
     have HDONE:=Lib.hid hdone; have HARR:=Lib.hid harr; have HONLY:=Lib.hid honly; have HSUBL:=Lib.hid hsub.len; have HSUBT:=Lib.hid hsub.lt
     have HV0:=Lib.hid hV0; have HVB:=Lib.hid hVB
     have hqf:ArrU wd w11.heap.size Q:=by unfold ArrU; rw [HONLY.out.block _ (by have:=HGQ.out; omega)]; exact HMX.out.q
     have hkq:k < Q.length:=by rw [HMX.out.st.qlen]; exact hk
     have cq:=hqf.cell k hkq; have fq:=hqf.free k
     have HVq:Hid ((Value.slice (some ⟨vb,vo,none⟩) nv cv9).ownBlock ≠ some w11.heap.size):=Lib.hid (fun e=>by have e':vb=w11.heap.size:=Option.some.inj e; have:=HVBL.out; omega)
     clear hdone harr honly hsub hV0 hVB hwin hqf
     by_cases hcase:gn=Lb.val (U.drop k) / (Lb.val b*s)
     ·have ht:=(HDONE.out.1 hcase).1
      have HVAL:=Lib.hid (HDONE.out.1 hcase).2
      have HST:=Lib.hid (HMX.out.st.step hk (by have:=Lb.a3l HVN.out.1; rw [HVV.out,HVl.out] at this; exact this) (by have:=HV0.out; rwa [HVV.out] at this) HSUBL.out HSUBT.out hcase (by rw [HVAL.out,hcase]))
      have HNX:=Lib.hid (HMX.out.next HONLY.out HARR.out HST.out.1 (by have:=HGQ.out; omega) HVG.out HVq.out HGUW.out HGQW.out)
      clear hcase
      go_wp2_with fail
      go_roundw
      case rel=>exact ⟨k,_,_,by omega,rfl,HNX⟩
      case measure=>exact show ((k:Int) - 1+1).toNat < ((k:Int)+1).toNat by omega
     ·have hcase1:gn=Lb.val (U.drop k) / (Lb.val b*s)+1:=by have:=HG.out; omega
      have ht:=(HDONE.out.2 hcase1).1
      have HVAL:=Lib.hid (HDONE.out.2 hcase1).2
      obtain ⟨q0,hq0⟩:∃ q0,q0=Lb.val (U.drop k) / (Lb.val b*s):=⟨_,rfl⟩
      rw [<- hq0] at HVAL
      have hgq:(gn:Int) - 1=(q0:Int):=by omega
      have hq09:q0 < 1000000000:=by omega
      have HQ0:=Lib.hid hq0
      have hl1:(U.take k ++ O ++ U.drop (k+(nv+1))).length=L+nv:=by rw [a4s HSUBL.out (by rw [HUl.out]; omega),HUl.out]
      have HRE:=Lib.hid (aEH gu k (nv+1) (cu - k) (.slice (some ⟨vb,vo,none⟩) nv cv9) (U.take k ++ O ++ U.drop (k+(nv+1))) Vl wd HARR.out (HMX.out.v.only1 HONLY.out HVG.out) HVG.out (Lb.a2p (Lb.a2p (Lb.a8l HMX.out.st.lt _) HSUBT.out) (Lb.a9Z HMX.out.st.lt _)) HVN.out.1 (by rw [hl1]; have:=HLL.out; have:=HT1.out; omega) (by rw [hl1]; omega) (by have:=HVl.out; omega))
      clear hcase hcase1 hq0 hl1
      go_wp2_with fail
      refine HRE.out.mono ?_
      rintro e we ⟨O2,c2,rfl,hc2,hpl,harr2,honly2⟩
      have hwe:((U.take k ++ O ++ U.drop (k+(nv+1))).drop k).take (nv+1)=O:=by
       have h1:(U.take k).length=k:=by rw [List.length_take,HUl.out]; omega
       rw [List.append_assoc,List.drop_append,h1,Nat.sub_self,List.drop_zero,List.drop_of_length_le (by omega),List.nil_append,List.take_append,HSUBL.out,Nat.sub_self,List.take_zero,List.append_nil,List.take_of_length_le (by rw [HSUBL.out]; omega)]
      rw [hwe] at hpl
      have hO2:Lb.val O2=Lb.val (U.drop k) - Lb.val b*s*q0:=aSG hpl (by have:=HVl.out; omega) HSUBL.out (by rw [HVV.out]; exact HVAL.out) hc2
      have hU2:(U.take k ++ O ++ U.drop (k+(nv+1))).take k ++ O2 ++ (U.take k ++ O ++ U.drop (k+(nv+1))).drop (k+(nv+1))=U.take k ++ O2 ++ U.drop (k+(nv+1)):=by
       exact aSf (by rw [List.length_take,HUl.out]; omega) HSUBL.out
      rw [hU2] at harr2
      have HST:=Lib.hid (HMX.out.st.step hk (by have:=Lb.a3l HVN.out.1; rw [HVV.out,HVl.out] at this; exact this) (by have:=HV0.out; rwa [HVV.out] at this) hpl.len hpl.lt HQ0.out hO2)
      have HNX:=Lib.hid (HMX.out.next (HONLY.out.trans honly2) harr2 HST.out.1 (by have:=HGQ.out; omega) HVG.out HVq.out HGUW.out HGQW.out)
      have hqf2:ArrU we w11.heap.size Q:=by unfold ArrU; rw [(HONLY.out.trans honly2).block _ (by have:=HGQ.out; omega)]; exact HMX.out.q
      have cq2:=hqf2.cell k hkq; have fq2:=hqf2.free k
      clear hwe hpl hO2 hU2 harr2 honly2 hqf2 cq fq
      go_wp2_with fail
      go_roundw
      case rel=>exact ⟨k,_,_,by omega,rfl,HNX⟩
      case measure=>exact show ((k:Int) - 1+1).toNat < ((k:Int)+1).toNat by omega
end Go.Proofs.YtbohkigffejhoaaGreat
namespace Go.Proofs.YtbohkigffejhoaaGreat
open Go.RowKit
namespace Vc
theorem a0O {P:Program} {a b:List Ctr} (ha:∀ c ∈ a,CtrOK P c) (hb:∀ c ∈ b,CtrOK P c):∀ c ∈ a ++ b,CtrOK P c:=fun c hc=>(List.mem_append.1 hc).elim (ha c) (hb c)
theorem aHP (v1 v2:Value) (l1 l2:List Nat) (w:World) (h1:SlU w v1 l1) (h2:SlU w v2 l2) (k1:Lb.Lt l1) (k2:Lb.Lt l2) (n1:l1.length <= 100000000) (n2:l2.length <= 100000000) (h0:Lb.val l2 ≠ 0) :
    Calls Tryz.prog 279 #[v1,v2] w (aHC w (Lb.val l1 / Lb.val l2) (Lb.val l1 % Lb.val l2) (l1.length+2)):=by
 by_cases hb:(Lb.trim l2).length=1
 ·exact aTG v1 v2 l1 l2 w h1 h2 k1 k2 n1 n2 hb
 ·rcases Nat.lt_or_ge (Lb.val l1) (Lb.val l2) with h | h
  ·exact aQb v1 v2 l1 l2 w h1 h2 k1 k2 n1 n2 hb h
  ·refine aTH v1 v2 l1 l2 w h1 h2 k1 k2 n1 n2 ?_ h
   rcases Nat.lt_or_ge 1 (Lb.trim l2).length with h' | h'
   ·exact h'
   ·exfalso
    have:(Lb.trim l2).length=0:=by omega
    have e:=Lb.a2t l2
    rw [List.length_eq_zero_iff.1 this] at e
    exact h0 e.symm
theorem aOo (x y:Int) (hy:0 < y) (h:x % y=0):sgn (decide (x < 0) != decide (y < 0)) (x.natAbs / y.natAbs)=x / y:=by
 obtain ⟨k,rfl⟩:=Int.dvd_of_emod_eq_zero h
 have hn:y.natAbs ≠ 0:=by omega
 rw [Int.natAbs_mul,Nat.mul_div_cancel_left _ (by omega),Int.mul_ediv_cancel_left _ (by omega)]
 have e1:decide (y < 0)=false:=by simp; omega
 have e2:(y*k < 0) ↔ k < 0:=by
  constructor
  ·intro h'
   rcases Int.lt_or_le k 0 with h2 | h2
   ·exact h2
   ·have:=Int.mul_nonneg (Int.le_of_lt hy) h2
    omega
  ·intro h'
   exact Int.mul_neg_of_pos_of_neg hy h'
 have e3:decide (y*k < 0)=decide (k < 0):=by simp only [decide_eq_decide]; exact e2
 rw [e1,e3]
 unfold sgn
 rcases Int.lt_or_le k 0 with h2 | h2
 ·simp [h2]; omega
 ·have:¬ k < 0:=by omega
  simp [this]; omega
def a9y:Ctr:=⟨173,fun | [.c (.v (.bool b)),.c (.sl l)]=>.yes (Lb.Lt l/\l.length <= 1000000000) (.k (.g [.I (sgn b (Lb.val l))])) | _=>.no⟩
theorem aJa:CtrOK Tryz.prog a9y:=.of (by kernel_rfl) (fun bs w xs vs pre r hr hA hG h hp=>by
 simp only [a9y] at h
 split at h
 ·cases h
  obtain ⟨u,v,rfl,h1,h2⟩:=a3c hr
  obtain ⟨rfl,_⟩:=h1
  exact (a3m _ v _ w h2.1 hp.1 hp.2).mono fun e w' h=>aH5 hA hG h
 ·cases h) (fun xs α pre φ r=>by simp only [a9y]; split <;> (intro h; cases h))
def aDK:Ctr:=⟨174,fun | [.c (.v (.int .u64 u))]=>.yes (0 <= u/\u < 18446744073709551616) (.k (.c (.sl ([u.toNat % 1000000000,u.toNat / 1000000000 % 1000000000,u.toNat / 1000000000 / 1000000000]:List Nat)))) | _=>.no⟩
theorem aNe:CtrOK Tryz.prog aDK:=.of (by kernel_rfl) (fun bs w xs vs pre r hr hA hG h hp=>by
 simp only [aDK] at h
 split at h
 ·cases h
  rename_i u
  obtain ⟨v,rfl,h1,_⟩:=a5b hr
  subst h1
  have hu:((u.toNat:Nat):Int)=u:=Int.toNat_of_nonneg hp.1
  have:=a9L u.toNat w (by omega)
  rw [hu] at this
  refine this.mono fun e w' h=>?_
  obtain ⟨a,n,c,rfl,hs,hx⟩:=h
  exact ⟨_,rfl,hx,hs,trivial⟩
 ·cases h) (fun xs α pre φ r=>by simp only [aDK]; split <;> (intro h; cases h))
def a9z:Ctr:=⟨279,fun | [.c (.sl a),.c (.sl b)]=>.ex (List Nat × List Nat) ((Lb.Lt a/\Lb.Lt b)/\(a.length <= 100000000/\b.length <= 100000000)/\Lb.val b ≠ 0) (fun x=>(Lb.Lt x.1/\Lb.Lt x.2)/\(x.1.length <= a.length+2/\x.2.length <= a.length+2)/\Lb.val x.1=Lb.val a / Lb.val b/\Lb.val x.2=Lb.val a % Lb.val b) (fun x=>.t [.c (.sl x.1),.c (.sl x.2)]) | _=>.no⟩
theorem aJb:CtrOK Tryz.prog a9z:=⟨by kernel_rfl,fun bs w xs vs pre r hr hA hG h hp=>(by
 simp only [a9z] at h
 split at h <;> cases h),fun bs w xs vs α pre φ r hr hA hG h hp=>(by
 simp only [a9z] at h
 split at h
 ·cases h
  obtain ⟨u,v,rfl,h1,h2⟩:=a3c hr
  refine (aHP u v _ _ w h1.1 h2.1 hp.1.1 hp.1.2 hp.2.1.1 hp.2.1.2 hp.2.2).mono fun e w' h=>?_
  obtain ⟨l1,l2,a1,n1,c1,a2,n2,c2,rfl,k1,k2,k3,k4,k5,k6,k7,k8,k9⟩:=h
  exact ⟨_,rfl,k9,(l1,l2),⟨⟨k3,k4⟩,⟨k7,k8⟩,k5,k6⟩,_,rfl,⟨k1,trivial⟩,⟨k2,trivial⟩,trivial⟩
 ·cases h),fun _ h=>(by cases h)⟩
def CT1:List Ctr:=CT0 ++ [a9y,aDK,a9z]
theorem aWb:∀ c ∈ CT1,CtrOK Tryz.prog c:=a0O aR4 (a03 aJa (a03 aNe (a03 aJb (a2L))))
def aVs:Ctr:=⟨278,spY (gI.c r0) (fun _=>True) (fun (z,_)=>.t [.c (.v (.int .u64 ((if szI z <= 2 then (z.natAbs:Int) else 0)))),.c (.v (.bool (decide (szI z <= 2))))])⟩
def aMy (z:Int):=(((Lb.limbs z.natAbs).getD (0:Int).toNat 0:Nat):Int)
def aBu (z:Int):=((Lb.limbs z.natAbs).length:Int)
def aPH (z:Int):=(((Lb.limbs z.natAbs).getD (1:Int).toNat 0:Nat):Int)
def aPG (z:Int):Value:=(.int .u64 (if szI z <= 2 then (z.natAbs:Int) else 0))
def aTf (z:Int):=((Value.bool true=(.bool (decide (szI z <= 2))))/\True)
theorem aI9 (z:Int):owes LT CT1 [] Tryz.f278 (bd Tryz.f278) [.g [.I (z)]] (.t [.c (.v (.int .u64 ((if szI z <= 2 then (z.natAbs:Int) else 0)))),.c (.v (.bool (decide (szI z <= 2))))]):=by
 refine Eq.mp (show ((((aBu z) == (0:Int))=true->((Value.int .u64 (0:Int)=(aPG z))/\(aTf z)))/\(((aBu z) == (0:Int))=false->((((aBu z) == (1:Int))=true->((0 <= (0:Int)/\(0:Int) < (aBu z))/\((inR .u64 (aMy z))/\((Value.int .u64 (aMy z)=(aPG z))/\(aTf z)))))/\(((aBu z) == (1:Int))=false->((((aBu z) == (2:Int))=true->((0 <= (1:Int)/\(1:Int) < (aBu z))/\((inR .u64 (aPH z))/\((inR .u64 ((aPH z)*(1000000000:Int)))/\((0 <= (0:Int)/\(0:Int) < (aBu z))/\((inR .u64 (aMy z))/\((inR .u64 (((aPH z)*(1000000000:Int))+(aMy z)))/\((Value.int .u64 (((aPH z)*(1000000000:Int))+(aMy z))=(aPG z))/\(aTf z)))))))))/\(((aBu z) == (2:Int))=false->((Value.int .u64 (0:Int)=(aPG z))/\((Value.bool false=(.bool (decide (szI z <= 2))))/\True))))))))=_ by kernel_rfl) ?_
 delta aTf aPG aPH aBu aMy
 have hv:=Lb.a0a z.natAbs
 have hL:=(Lb.a0f z.natAbs).1
 unfold szI
 generalize Lb.limbs z.natAbs=l at hv hL ⊢
 rcases l with _ | ⟨a,_ | ⟨b,_ | ⟨c,l⟩⟩⟩
 ·simp [Lb.val] at hv ⊢
  omega
 ·have ha:=hL a (by simp)
  simp [Lb.val,Lb.B] at hv ha ⊢
  simp [inR]
  omega
 ·have ha:=hL a (by simp)
  have hb:=hL b (by simp)
  simp [Lb.val,Lb.B] at hv ha hb ⊢
  simp [inR]
  omega
 ·simp
  omega
theorem aQL:CtrOK Tryz.prog aVs:=yOK a1w aWb Tryz.func278 fun _ _=>aI9 _
def CT2:List Ctr:=CT1 ++ [aVs]
theorem aWa:∀ c ∈ CT2,CtrOK Tryz.prog c:=a0O aWb (a03 aQL (a2L))
def b1i:Ctr:=⟨280,spY (gI.c (gI.c r0)) (fun (x,y,_)=>(0 < y/\x % y=0)/\(szI x <= 5000000/\szI y <= 5000000)) (fun (x,y,_)=>.t [.g [.I ((x / y))],.g [.I ((0:Int))],.c (.v (.int .i64 ((0:Int))))])⟩
def aTe (x:Int) (y:Int) (e1:List Nat × List Nat):=((((((((sgn ((decide (x < 0)) != (decide (y < 0))) (Lb.val e1.1)) - (1:Int))=(x / y))/\True)/\(((((sgn (decide (x < 0)) (Lb.val e1.2))+y)=(0:Int))/\True)/\((Value.int .i64 (0:Int)=(.int .i64 (0:Int)))/\True)))/\True)/\True)/\True)
def aTd (x:Int) (y:Int) (e1:List Nat × List Nat):=(((((((sgn ((decide (x < 0)) != (decide (y < 0))) (Lb.val e1.1))=(x / y))/\True)/\((((sgn (decide (x < 0)) (Lb.val e1.2))=(0:Int))/\True)/\((Value.int .i64 (0:Int)=(.int .i64 (0:Int)))/\True)))/\True)/\True)/\True)
def aXg (x:Int) (e1:List Nat × List Nat) (y:Int):=(bif (decide (((Lb.limbs (sgn (decide (x < 0)) (Lb.val e1.2)).natAbs).length:Int) > (0:Int))) then ((decide ((sgn (decide (x < 0)) (Lb.val e1.2)) < 0)) != (decide (y < 0))) else false)
theorem aQO (x y:Int) (hp:(0 < y/\x % y=0)/\(szI x <= 5000000/\szI y <= 5000000)):owes LT CT2 [] Tryz.f280 (bd Tryz.f280) [.g [.I (x)],.g [.I (y)]] (.t [.g [.I ((x / y))],.g [.I ((0:Int))],.c (.v (.int .i64 ((0:Int))))]):=by
 refine Eq.mp (show (((((Lb.limbs y.natAbs).length:Int) == (0:Int))=true->(((Value.bool false=.bool (decide ((x / y) < 0)))/\((([]:List Nat)=Lb.limbs (x / y).natAbs)/\True))/\(((Value.bool false=.bool (decide ((0:Int) < 0)))/\((([]:List Nat)=Lb.limbs (0:Int).natAbs)/\True))/\((Value.int .i64 (6:Int)=(.int .i64 (0:Int)))/\True))))/\((((Lb.limbs y.natAbs).length:Int) == (0:Int))=false->(((Lb.Lt (Lb.limbs x.natAbs)/\Lb.Lt (Lb.limbs y.natAbs))/\((Lb.limbs x.natAbs).length <= 100000000/\(Lb.limbs y.natAbs).length <= 100000000)/\Lb.val (Lb.limbs y.natAbs) ≠ 0)/\(∀ e1:List Nat × List Nat,((Lb.Lt e1.1/\Lb.Lt e1.2)/\(e1.1.length <= (Lb.limbs x.natAbs).length+2/\e1.2.length <= (Lb.limbs x.natAbs).length+2)/\Lb.val e1.1=Lb.val (Lb.limbs x.natAbs) / Lb.val (Lb.limbs y.natAbs)/\Lb.val e1.2=Lb.val (Lb.limbs x.natAbs) % Lb.val (Lb.limbs y.natAbs)->((Lb.Lt e1.1/\e1.1.length <= 1000000000)/\((Lb.Lt e1.2/\e1.2.length <= 1000000000)/\(((aXg x e1 y)=true->((-9223372036854775808 <= (1:Int)/\(1:Int) <= 9223372036854775807)/\((szI (sgn ((decide (x < 0)) != (decide (y < 0))) (Lb.val e1.1)) <= 10000000/\szI (1:Int) <= 10000000)/\((szI (sgn (decide (x < 0)) (Lb.val e1.2)) <= 10000000/\szI y <= 10000000)/\(((aTe x y e1)/\((aTe x y e1)/\True))/\(((aTe x y e1)/\True)/\True))))))/\((aXg x e1 y)=false->(((aTd x y e1)/\((aTd x y e1)/\True))/\(((aTd x y e1)/\True)/\True)))))))))))=_ by kernel_rfl) ?_
 delta aXg aTd aTe
 obtain ⟨⟨hy,hxy⟩,hx5,hy5⟩:=hp
 unfold szI at hx5 hy5
 have hny:y.natAbs ≠ 0:=by omega
 have hly:(Lb.limbs y.natAbs).length ≠ 0:=by rw [Lb.a2q hny]; simp
 refine ⟨fun h=>absurd h (by simpa using hly),fun _=>⟨⟨⟨(Lb.a0f _).1,(Lb.a0f _).1⟩,⟨by omega,by omega⟩,by rw [Lb.a0a]; exact hny⟩,?_⟩⟩
 rintro ⟨q,r⟩ ⟨⟨l1,l2⟩,⟨n1,n2⟩,v1,v2⟩
 simp only at *
 rw [Lb.a0a,Lb.a0a] at v1 v2
 have hr:Lb.val r=0:=by rw [v2]; exact Nat.mod_eq_zero_of_dvd (Int.natAbs_dvd_natAbs.2 (Int.dvd_of_emod_eq_zero hxy))
 have hq:sgn (decide (x < 0) != decide (y < 0)) (Lb.val q)=x / y:=by rw [v1]; exact aOo x y hy hxy
 refine ⟨⟨l1,by omega⟩,⟨l2,by omega⟩,fun h=>?_,fun _=>?_⟩
 ·exfalso
  rw [hr] at h
  simp [sgn,Lb.a1b] at h
 ·rw [hr,hq]
  simp [sgn]
theorem aXX:CtrOK Tryz.prog b1i:=yOK a1w aWa Tryz.func280 fun _ hp=>aQO _ _ hp
def CT3:List Ctr:=CT2 ++ [b1i]
theorem aV9:∀ c ∈ CT3,CtrOK Tryz.prog c:=a0O aWa (a03 aXX (a2L))
def aZJ:Ctr:=⟨170,spY (gI.c (gI.c r0)) (fun (x,y,_)=>szI x <= 5000000/\szI y <= 5000000) (fun (x,y,_)=>.k (.g [.I ((Int.gcd x y:Int))]))⟩
def aPF:=((Value.bool false=(.bool false))/\((([]:List Nat)=([]:List Nat))/\True))
def aTc (x2:Nat × Nat):=([(x2.1:Int).toNat % 1000000000,(x2.1:Int).toNat / 1000000000 % 1000000000,(x2.1:Int).toNat / 1000000000 / 1000000000]:List Nat)
def aAB (x1:Nat × Nat):=(Lb.limbs (x1.1:Int).natAbs)
def aFL (x1:Nat × Nat):=(Lb.limbs (x1.2:Int).natAbs)
theorem aNf (x y:Int) (hp:szI x <= 5000000/\szI y <= 5000000):owes LT CT3 [.inv 2 (Nat × Nat) (fun ξ=>⟨[.u,.u,.k (.c (.bx 0 0)),.k (.c (.bx 1 0)),.k (.c (.bx 2 0)),.k (.c (.bx 3 0)),.k (.c (.bx 4 0)),.u,.u,.u,.u,.u,.u,.u,.u,.u,.u,.u,.u,.u,.u,.u,.u,.u,.u,.u,.u,.u,.u,.u,.u,.u,.u,.u,.u,.u,.u,.u,.u,.u,.u,.u,.u,.u,.u,.u,.u,.u,.u,.u,.u,.u,.u,.u,.u,.u,.u,.u,.u,.u,.u],[⟨33,[.I (x)]⟩,⟨33,[.I (y)]⟩,⟨33,[.v (.bool (false)),.sl (([]:List Nat))]⟩,⟨33,[.I ((ξ.1:Int))]⟩,⟨33,[.I ((ξ.2:Int))]⟩]⟩) (fun _ ξ=>(Nat.gcd ξ.1 ξ.2=Int.gcd x y/\szI (ξ.1:Int) <= 5000000/\szI (ξ.2:Int) <= 5000000)) (fun ξ=>ξ.2),.inv 6 (Nat × Nat) (fun ξ=>⟨[.u,.u,.u,.u,.k (.c (.bx 2 0)),.u,.u,.k (.c (.v (.int .u64 ((ξ.1:Int))))),.u,.k (.c (.v (.int .u64 ((ξ.2:Int))))),.u,.u,.u,.u,.u,.u,.u,.u,.u,.u,.u,.u,.u,.u,.u,.u,.u,.u,.u,.u,.u,.u,.u,.u,.u,.u,.u,.u,.u,.u,.u,.u,.u,.u,.u,.u,.u,.u,.u,.u,.u,.u,.u,.u,.u,.u,.u,.u,.u,.u,.u],[⟨33,[.I (x)]⟩,⟨33,[.I (y)]⟩,⟨33,[.v (.bool (false)),.sl (([]:List Nat))]⟩]⟩) (fun _ ξ=>(Nat.gcd ξ.1 ξ.2=Int.gcd x y/\ξ.1 < 18446744073709551616/\ξ.2 < 18446744073709551616)) (fun ξ=>ξ.2)] Tryz.f170 (bd Tryz.f170) [.g [.I (x)],.g [.I (y)]] (.k (.g [.I ((Int.gcd x y:Int))])):=by
 refine Eq.mp (show ((Lb.Lt (Lb.limbs x.natAbs)/\(Lb.limbs x.natAbs).length <= 1000000000)/\((Lb.Lt (Lb.limbs y.natAbs)/\(Lb.limbs y.natAbs).length <= 1000000000)/\((∃ x1:Nat × Nat,((Nat.gcd x1.1 x1.2=Int.gcd x y/\szI (x1.1:Int) <= 5000000/\szI (x1.2:Int) <= 5000000)/\((True/\(True/\(True/\(True/\(True/\True)))))/\(((x=x)/\True)/\(((y=y)/\True)/\(aPF/\((((sgn false (Lb.val (Lb.limbs x.natAbs)))=(x1.1:Int))/\True)/\((((sgn false (Lb.val (Lb.limbs y.natAbs)))=(x1.2:Int))/\True)/\True))))))))/\(∀ x1:Nat × Nat,((Nat.gcd x1.1 x1.2=Int.gcd x y/\szI (x1.1:Int) <= 5000000/\szI (x1.2:Int) <= 5000000)->(((decide (((aFL x1).length:Int) > (0:Int)))=true->(True/\(True/\(((bif (decide (szI (x1.1:Int) <= 2)) then (decide (szI (x1.2:Int) <= 2)) else false)=true->((∃ x2:Nat × Nat,((Nat.gcd x2.1 x2.2=Int.gcd x y/\x2.1 < 18446744073709551616/\x2.2 < 18446744073709551616)/\((True/\((Value.int .u64 (if szI (x1.1:Int) <= 2 then ((x1.1:Int).natAbs:Int) else 0)=(.int .u64 (x2.1:Int)))/\((Value.int .u64 (if szI (x1.2:Int) <= 2 then ((x1.2:Int).natAbs:Int) else 0)=(.int .u64 (x2.2:Int)))/\True)))/\(((x=x)/\True)/\(((y=y)/\True)/\(aPF/\True))))))/\(∀ x2:Nat × Nat,((Nat.gcd x2.1 x2.2=Int.gcd x y/\x2.1 < 18446744073709551616/\x2.2 < 18446744073709551616)->(((decide ((x2.2:Int) > (0:Int)))=true->((0 <= (x2.1:Int)/\0 < (x2.2:Int))/\(∃ y2:Nat × Nat,((Nat.gcd y2.1 y2.2=Int.gcd x y/\y2.1 < 18446744073709551616/\y2.2 < 18446744073709551616)/\((y2.2 < x2.2)/\((True/\((Value.int .u64 (x2.2:Int)=(.int .u64 (y2.1:Int)))/\((Value.int .u64 ((x2.1:Int) % (x2.2:Int))=(.int .u64 (y2.2:Int)))/\True)))/\(((x=x)/\True)/\(((y=y)/\True)/\(aPF/\True)))))))))/\((decide ((x2.2:Int) > (0:Int)))=false->((0 <= (x2.1:Int)/\(x2.1:Int) < 18446744073709551616)/\((Lb.Lt (aTc x2)/\(aTc x2).length <= 1000000000)/\(((sgn false (Lb.val (aTc x2)))=(Int.gcd x y:Int))/\True)))))))))/\((bif (decide (szI (x1.1:Int) <= 2)) then (decide (szI (x1.2:Int) <= 2)) else false)=false->(((Lb.Lt (aAB x1)/\Lb.Lt (aFL x1))/\((aAB x1).length <= 100000000/\(aFL x1).length <= 100000000)/\Lb.val (aFL x1) ≠ 0)/\(∀ e3:List Nat × List Nat,((Lb.Lt e3.1/\Lb.Lt e3.2)/\(e3.1.length <= (aAB x1).length+2/\e3.2.length <= (aAB x1).length+2)/\Lb.val e3.1=Lb.val (aAB x1) / Lb.val (aFL x1)/\Lb.val e3.2=Lb.val (aAB x1) % Lb.val (aFL x1)->((Lb.Lt e3.2/\e3.2.length <= 1000000000)/\(∃ y1:Nat × Nat,((Nat.gcd y1.1 y1.2=Int.gcd x y/\szI (y1.1:Int) <= 5000000/\szI (y1.2:Int) <= 5000000)/\((y1.2 < x1.2)/\((True/\(True/\(True/\(True/\(True/\True)))))/\(((x=x)/\True)/\(((y=y)/\True)/\(aPF/\((((x1.2:Int)=(y1.1:Int))/\True)/\((((sgn false (Lb.val e3.2))=(y1.2:Int))/\True)/\True))))))))))))))))))/\((decide (((aFL x1).length:Int) > (0:Int)))=false->(((aAB x1).length <= 1000000000)/\((Lb.Lt (aAB x1)/\(aAB x1).length <= 1000000000)/\(((sgn false (Lb.val (aAB x1)))=(Int.gcd x y:Int))/\True))))))))))=_ by kernel_rfl) ?_
 delta aFL aAB aTc aPF
 obtain ⟨hx5,hy5⟩:=hp
 have hgcd:Int.gcd x y=Nat.gcd x.natAbs y.natAbs:=rfl
 generalize hg:Int.gcd x y=g at *
 have sz0:∀ n:Nat,szI (n:Int)=(Lb.limbs n).length:=fun n=>by unfold szI; rw [Int.natAbs_natCast]
 have sgn0:∀ n:Nat,sgn false n=(n:Int):=fun n=>by simp [sgn]
 unfold szI at hx5 hy5
 refine ⟨⟨(Lb.a0f _).1,by omega⟩,⟨(Lb.a0f _).1,by omega⟩,⟨(x.natAbs,y.natAbs),⟨hgcd.symm,by rw [sz0]; exact hx5,by rw [sz0]; exact hy5⟩,by simp,⟨rfl,trivial⟩,⟨rfl,trivial⟩,⟨rfl,rfl,trivial⟩,⟨by rw [Lb.a0a,sgn0],trivial⟩,⟨by rw [Lb.a0a,sgn0],trivial⟩,trivial⟩,?_⟩
 rintro ⟨a,b⟩ ⟨hab,ha,hb⟩
 simp only at *
 rw [sz0] at ha hb
 simp only [Int.natAbs_natCast,sz0]
 refine ⟨fun h0=>⟨trivial,trivial,fun hw=>?_,fun _=>?_⟩,fun h0=>?_⟩
 ·have hww:(Lb.limbs a).length <= 2/\(Lb.limbs b).length <= 2:=by
   cases h1:decide ((Lb.limbs a).length <= 2) <;> simp_all
  have ka:=Lb.a01 a
  have kb:=Lb.a01 b
  have k2:∀ n,n <= 2->Lb.B ^ n <= 1000000000000000000:=fun n hn=>Nat.le_trans (Nat.pow_le_pow_right Lb.a3r hn) (by decide)
  have ka2:=k2 _ hww.1
  have kb2:=k2 _ hww.2
  refine ⟨⟨(a,b),⟨hab,by omega,by omega⟩,⟨trivial,by rw [if_pos hww.1],by rw [if_pos hww.2],trivial⟩,by simp,by simp,by simp,trivial⟩,?_⟩
  rintro ⟨u,v⟩ ⟨huv,hu,hv⟩
  simp only at *
  refine ⟨fun h1=>⟨⟨by omega,by simpa using h1⟩,(v,u % v),⟨?_,hv,?_⟩,?_,⟨trivial,rfl,by simp,trivial⟩,by simp,by simp,by simp,trivial⟩,fun h1=>?_⟩
  ·rw [<- huv,Nat.gcd_comm u v,Nat.gcd_rec v u,Nat.gcd_comm]
  ·have:=Nat.mod_lt u (show 0 < v by simpa using h1)
   simp only
   omega
  ·exact Nat.mod_lt u (show 0 < v by simpa using h1)
  ·have hv0:v=0:=by simpa using h1
   subst hv0
   rw [Nat.gcd_zero_right] at huv
   subst huv
   refine ⟨⟨by omega,by omega⟩,⟨?_,by simp⟩,?_,trivial⟩
   ·intro z hz
    simp only [Int.toNat_natCast,List.mem_cons,List.not_mem_nil,or_false] at hz
    simp only [Lb.B]
    omega
   ·simp only [Int.toNat_natCast,Lb.val,Lb.B,sgn0]
    omega
 ·have hb0:b ≠ 0:=by
   rintro rfl
   simp [Lb.a1b] at h0
  refine ⟨⟨⟨(Lb.a0f _).1,(Lb.a0f _).1⟩,⟨by omega,by omega⟩,by rw [Lb.a0a]; exact hb0⟩,?_⟩
  rintro ⟨q,r⟩ ⟨⟨l1,l2⟩,⟨n1,n2⟩,v1,v2⟩
  simp only at *
  rw [Lb.a0a,Lb.a0a] at v2
  have hlt:a % b < b:=Nat.mod_lt a (by omega)
  refine ⟨⟨l2,by omega⟩,(b,a % b),⟨?_,hb,?_⟩,hlt,by simp,by simp,by simp,by simp,by simp,⟨by rw [v2,sgn0],trivial⟩,trivial⟩
  ·rw [<- hab,Nat.gcd_comm a b,Nat.gcd_rec b a,Nat.gcd_comm]
  ·exact Nat.le_trans (Lb.a0X (Nat.lt_trans hlt (Lb.a01 b))) hb
 ·have hb0:b=0:=by
   rcases Nat.eq_zero_or_pos b with h | h
   ·exact h
   ·simp [Lb.a2q (show b ≠ 0 by omega)] at h0
  subst hb0
  rw [Nat.gcd_zero_right] at hab
  subst hab
  exact ⟨by omega,⟨(Lb.a0f _).1,by omega⟩,by rw [Lb.a0a,sgn0],trivial⟩
theorem aT3:CtrOK Tryz.prog aZJ:=yOK a1w aV9 Tryz.func170 fun _ hp=>aNf _ _ hp
def CT4:List Ctr:=CT3 ++ [aZJ]
theorem aV8:∀ c ∈ CT4,CtrOK Tryz.prog c:=a0O aV9 (a03 aT3 (a2L))
end Vc
end Go.Proofs.YtbohkigffejhoaaGreat
namespace Go.Proofs.YtbohkigffejhoaaGreat
open Go.RowKit
namespace Vc
theorem a2I {a b:Int} (h:a.natAbs <= b.natAbs):szI a <= szI b:=Lb.a0X (Nat.lt_of_le_of_lt h (Lb.a01 _))
theorem a02 (x y:Int):szI (x*y) <= szI x+szI y:=aWw (Nat.le_refl _) (Nat.le_refl _)
theorem a2W (x:Int):szI (-x) <= szI x:=a2I (by omega)
theorem a7b (x y:Int):szI (x+y) <= szI x+szI y+1:=by
 rcases Nat.le_total x.natAbs y.natAbs with h | h
 ·have:=Lb.a01 y.natAbs
  refine Nat.le_trans (a4D (k:=szI y+1) ?_) (by omega)
  have h2:y.natAbs < Lb.B ^ szI y:=this
  have h3:0 < Lb.B ^ szI y:=Nat.pow_pos Lb.a3r
  rw [Nat.pow_succ]
  have:2 <= Lb.B:=by decide
  have:=Nat.mul_le_mul_left (Lb.B ^ szI y) this
  omega
 ·have:=Lb.a01 x.natAbs
  refine Nat.le_trans (a4D (k:=szI x+1) ?_) (by omega)
  have h2:x.natAbs < Lb.B ^ szI x:=this
  have h3:0 < Lb.B ^ szI x:=Nat.pow_pos Lb.a3r
  rw [Nat.pow_succ]
  have:2 <= Lb.B:=by decide
  have:=Nat.mul_le_mul_left (Lb.B ^ szI x) this
  omega
def szR (q:Rat):Nat:=max (szI q.num) (szI (q.den:Int))
theorem a1f (q:Rat):szI q.num <= szR q:=Nat.le_max_left ..
theorem a1p (q:Rat):szI (q.den:Int) <= szR q:=Nat.le_max_right ..
theorem aOf {n d:Int} (hd:0 < d):szR (Rat.divInt n d) <= szI n+szI d:=by
 have h1:=a2I (Rt.a8d (n:=n) hd)
 have h2:=a2I (a:=((Rat.divInt n d).den:Int)) (b:=d) (by have:=Rt.a8e (n:=n) hd; omega)
 unfold szR
 omega
theorem a8a {n d:Int} (hd:d ≠ 0):szR (Rat.divInt n d) <= szI n+szI d:=by
 rcases Int.lt_or_gt_of_ne hd with h | h
 ·rw [<- Rt.aCU]
  have:=aOf (n:=-n) (d:=-d) (by omega)
  have:=a2W n
  have:=a2W d
  omega
 ·exact aOf h
theorem a3p (q:Rat):(q.den:Int) ≠ 0:=by have:=q.den_pos; omega
theorem aWu (p q:Rat):szR (p*q) <= 2*szR p+2*szR q:=by
 rw [<- Rt.aE9]
 have:=a8a (n:=p.num*q.num) (d:=p.den*q.den) (Int.mul_ne_zero (a3p p) (a3p q))
 have:=a02 p.num q.num
 have:=a02 p.den q.den
 have:=a1f p; have:=a1f q; have:=a1p p; have:=a1p q
 omega
theorem aOi (p q:Rat):szR (p+q) <= 3*szR p+3*szR q+1:=by
 rw [<- Rt.aHu]
 have:=a8a (n:=p.num*q.den+q.num*p.den) (d:=p.den*q.den) (Int.mul_ne_zero (a3p p) (a3p q))
 have:=a7b (p.num*q.den) (q.num*p.den)
 have:=a02 p.num q.den
 have:=a02 q.num p.den
 have:=a02 p.den q.den
 have:=a1f p; have:=a1f q; have:=a1p p; have:=a1p q
 omega
theorem a18 (q:Rat):szR (-q) <= szR q:=by
 unfold szR
 have:=a2W q.num
 simp only [Rat.neg_num,Rat.neg_den]
 omega
theorem aWt (p q:Rat):szR (p - q) <= 3*szR p+3*szR q+1:=by
 have:=aOi p (-q)
 have:=a18 q
 rw [Rat.sub_eq_add_neg]
 omega
theorem aWv (p q:Rat) (hq:q ≠ 0):szR (p / q) <= 2*szR p+2*szR q:=by
 rw [<- Rt.aLk]
 have:=a8a (n:=p.num*q.den) (d:=p.den*q.num) (Int.mul_ne_zero (a3p p) (by rwa [ne_eq,Rat.num_eq_zero]))
 have:=a02 p.num q.den
 have:=a02 p.den q.num
 have:=a1f p; have:=a1f q; have:=a1p p; have:=a1p q
 omega
theorem aKm (n d:Int) (hd:0 < d) (h1:szI n <= 5000000) (h2:szI d <= 5000000) :
    (szI ((Int.gcd n d:Nat):Int) <= 10000000/\szI 1 <= 10000000) /\
    ((((((Int.gcd n d:Nat):Int) - 1).sign != 0)=true->((0 < ((Int.gcd n d:Nat):Int)/\n % ((Int.gcd n d:Nat):Int)=0)/\szI n <= 5000000/\szI ((Int.gcd n d:Nat):Int) <= 5000000) /\
      ((0 < ((Int.gcd n d:Nat):Int)/\d % ((Int.gcd n d:Nat):Int)=0)/\szI d <= 5000000/\szI ((Int.gcd n d:Nat):Int) <= 5000000)/\n / ((Int.gcd n d:Nat):Int)=(Rat.divInt n d).num/\d / ((Int.gcd n d:Nat):Int)=((Rat.divInt n d).den:Int)/\True) /\
    (((((Int.gcd n d:Nat):Int) - 1).sign != 0)=false->n=(Rat.divInt n d).num/\d=((Rat.divInt n d).den:Int)/\True)):=by
 have hg:0 < Int.gcd n d:=Int.gcd_pos_of_ne_zero_right _ (by omega)
 have hgd:szI ((Int.gcd n d:Nat):Int) <= szI d:=a2I (by rw [Int.natAbs_natCast]; exact Nat.le_of_dvd (by omega) (Nat.gcd_dvd_right n.natAbs d.natAbs))
 have d1:n % ((Int.gcd n d:Nat):Int)=0:=Int.emod_eq_zero_of_dvd (Int.gcd_dvd_left ..)
 have d2:d % ((Int.gcd n d:Nat):Int)=0:=Int.emod_eq_zero_of_dvd (Int.gcd_dvd_right ..)
 have o1:szI 1 <= 1:=a4D (by decide)
 refine ⟨⟨by omega,by omega⟩,fun _=>⟨⟨⟨by omega,d1⟩,h1,by omega⟩,⟨⟨by omega,d2⟩,h2,by omega⟩,(Rt.aCT hd).symm,(Rt.aCV hd).symm,trivial⟩,fun h=>?_⟩
 have e:((Int.gcd n d:Nat):Int)=1:=by
  have:(((Int.gcd n d:Nat):Int) - 1).sign=0:=by simpa using h
  have:=Int.sign_eq_zero_iff_zero.1 this
  omega
 exact ⟨(Rt.aH6 hd e).1.symm,(Rt.aH6 hd e).2.symm,trivial⟩
theorem aYN {p q:Rat} (h:Rt.sg p ≠ Rt.sg q):(Rt.sg p - Rt.sg q).sign=Rt.sg (p - q):=by
 have p1:=@Rt.aBX p; have p2:=@Rt.aEM p; have p3:=@Rt.a2F p
 have q1:=@Rt.aBX q; have q2:=@Rt.aEM q; have q3:=@Rt.a2F q
 have r1:=@Rt.a5K p q; have r2:=@Rt.aEJ p q; have r3:=@Rt.aOj p q
 rcases Rt.a4a p with e1 | e1 | e1 <;> rcases Rt.a4a q with e2 | e2 | e2 <;> rcases Rt.a4a (p - q) with e3 | e3 | e3 <;> rw [e1,e2,e3] <;> first | rfl | (exfalso; clear p3 q3 r3; grind) | (exfalso; grind)
theorem aCO:szI 1 <= 1:=a4D (by decide)
theorem aWx {n:Int} (h0:-9223372036854775808 <= n) (h1:n <= 9223372036854775807):szI n <= 3:=by
 refine a4D ?_
 have:Lb.B ^ 3=1000000000000000000000000000:=by decide
 omega
def aVf:Ctr:=⟨277,spY (rI.c r0) (fun _=>True) (fun _=>.k (.c (.v (.bool (false)))))⟩
theorem aIU (_n:Int):owes LT CT4 [] Tryz.f277 (bd Tryz.f277) [.c (.v (.int .i64 (_n)))] (.k (.c (.v (.bool (false))))):=by
 refine Eq.mp (show (Value.bool (_n != _n)=(.bool false))=_ by kernel_rfl) ?_
 simp
theorem aQj:CtrOK Tryz.prog aVf:=yOK a1w aV8 Tryz.func277 fun _ _=>aIU _
def CT5:List Ctr:=CT4 ++ [aVf]
theorem aRY:∀ c ∈ CT5,CtrOK Tryz.prog c:=a0O aV8 (a03 aQj (a2L))
def b1e:Ctr:=⟨167,spY (rI.c (rI.c r0)) (fun _=>True) (fun (m,n,_)=>.k (.c (.v (.int .i64 ((m - n).sign)))))⟩
theorem aQl (m n:Int):owes LT CT5 [] Tryz.f167 (bd Tryz.f167) [.c (.v (.int .i64 (m))),.c (.v (.int .i64 (n)))] (.k (.c (.v (.int .i64 ((m - n).sign))))):=by
 refine Eq.mp (show (True/\(True/\((false=true->((false=true->(Value.int .i64 (0:Int)=(.int .i64 ((m - n).sign))))/\(false=false->(Value.int .i64 (-1:Int)=(.int .i64 ((m - n).sign))))))/\(false=false->((false=true->(Value.int .i64 (1:Int)=(.int .i64 ((m - n).sign))))/\(false=false->(((decide (m < n))=true->(Value.int .i64 (-1:Int)=(.int .i64 ((m - n).sign))))/\((decide (m < n))=false->(((decide (m > n))=true->(Value.int .i64 (1:Int)=(.int .i64 ((m - n).sign))))/\((decide (m > n))=false->(Value.int .i64 (0:Int)=(.int .i64 ((m - n).sign)))))))))))))=_ by kernel_rfl) ?_
 rcases Int.lt_trichotomy m n with h | h | h
 ·have e:(m - n).sign=-1:=Int.sign_eq_neg_one_of_neg (by omega)
  simp [e,h]
 ·subst h
  simp
 ·have e:(m - n).sign=1:=Int.sign_eq_one_of_pos (by omega)
  have h':¬ m < n:=by omega
  simp [e,h,h']
theorem aXO:CtrOK Tryz.prog b1e:=yOK a1w aRY Tryz.func167 fun _ _=>aQl _ _
def aVi:Ctr:=⟨171,spY r0 (fun _=>True) (fun _=>.k (.g [.I ((1:Int))]))⟩
theorem aIX :owes LT CT5 [] Tryz.f171 (bd Tryz.f171) [] (.k (.g [.I ((1:Int))])):=by
 refine Eq.mp (show ((-9223372036854775808 <= (1:Int)/\(1:Int) <= 9223372036854775807)/\(((1:Int)=(1:Int))/\True))=_ by kernel_rfl) ?_
 simp
theorem aQo:CtrOK Tryz.prog aVi:=yOK a1w aRY Tryz.func171 fun _ _=>aIX
def CT6:List Ctr:=CT5 ++ [b1e,aVi]
theorem aRX:∀ c ∈ CT6,CtrOK Tryz.prog c:=a0O aRY (a03 aXO (a03 aQo (a2L)))
def aQn:Ctr:=⟨168,spY (gI.c r0) (fun _=>True) (fun (n,_)=>.k (.g [.R ((n:Rat))]))⟩
theorem aF9 (n:Int):owes LT CT6 [] Tryz.f168 (bd Tryz.f168) [.g [.I (n)]] (.k (.g [.R ((n:Rat))])):=by
 refine Eq.mp (show (True/\((n=(n:Rat).num)/\(((1:Int)=((n:Rat).den:Int))/\True)))=_ by kernel_rfl) ?_
 simp
theorem aMM:CtrOK Tryz.prog aQn:=yOK a1w aRX Tryz.func168 fun _ _=>aF9 _
def aVh:Ctr:=⟨172,spY (gI.c (gI.c r0)) (fun (x,y,_)=>(0 < y/\x % y=0)/\(szI x <= 5000000/\szI y <= 5000000)) (fun (x,y,_)=>.k (.g [.I ((x / y))]))⟩
theorem aIV (x y:Int) (hp:(0 < y/\x % y=0)/\(szI x <= 5000000/\szI y <= 5000000)):owes LT CT6 [] Tryz.f172 (bd Tryz.f172) [.g [.I (x)],.g [.I (y)]] (.k (.g [.I ((x / y))])):=by
 refine Eq.mp (show (((0 < y/\x % y=0)/\(szI x <= 5000000/\szI y <= 5000000))/\(((x / y)=(x / y))/\True))=_ by kernel_rfl) ?_
 exact ⟨hp,by simp⟩
theorem aQk:CtrOK Tryz.prog aVh:=yOK a1w aRX Tryz.func172 fun _ hp=>aIV _ _ hp
def CT7:List Ctr:=CT6 ++ [aQn,aVh]
theorem aHF:∀ c ∈ CT7,CtrOK Tryz.prog c:=a0O aRX (a03 aMM (a03 aQk (a2L)))
def aVk:Ctr:=⟨90,spY (rI.c r0) (fun (n,_)=>-9223372036854775808 <= n/\n <= 9223372036854775807) (fun (n,_)=>.k (.g [.R ((n:Rat))]))⟩
theorem aIZ (n:Int) (hp:-9223372036854775808 <= n/\n <= 9223372036854775807):owes LT CT7 [] Tryz.f90 (bd Tryz.f90) [.c (.v (.int .i64 (n)))] (.k (.g [.R ((n:Rat))])):=by
 refine Eq.mp (show ((-9223372036854775808 <= n/\n <= 9223372036854775807)/\(True/\(((n:Rat)=(n:Rat))/\True)))=_ by kernel_rfl) ?_
 exact ⟨hp,trivial,by simp⟩
theorem aQq:CtrOK Tryz.prog aVk:=yOK a1w aHF Tryz.func90 fun _ hp=>aIZ _ hp
def aQf:Ctr:=⟨91,spY (gI.c (gI.c r0)) (fun (n,d,_)=>d ≠ 0/\szI n <= 5000000/\szI d <= 5000000) (fun (n,d,_)=>.k (.g [.R ((Rat.divInt n d))]))⟩
def a9f (n:Int) (d:Int):=((Int.gcd (-n) (-d):Nat):Int)
def a9e (n:Int) (d:Int):=((Int.gcd n d:Nat):Int)
theorem aF5 (n d:Int) (hp:d ≠ 0/\szI n <= 5000000/\szI d <= 5000000):owes LT CT7 [] Tryz.f91 (bd Tryz.f91) [.g [.I (n)],.g [.I (d)]] (.k (.g [.R ((Rat.divInt n d))])):=by
 refine Eq.mp (show (True/\(((decide (d.sign < (0:Int)))=true->((szI n <= 10000000)/\((szI d <= 10000000)/\((szI (-n) <= 5000000/\szI (-d) <= 5000000)/\(True/\((szI (a9f n d) <= 10000000/\szI (1:Int) <= 10000000)/\((((((a9f n d) - (1:Int)).sign) != (0:Int))=true->(((0 < (a9f n d)/\(-n) % (a9f n d)=0)/\(szI (-n) <= 5000000/\szI (a9f n d) <= 5000000))/\(((0 < (a9f n d)/\(-d) % (a9f n d)=0)/\(szI (-d) <= 5000000/\szI (a9f n d) <= 5000000))/\((((-n) / (a9f n d))=(Rat.divInt n d).num)/\((((-d) / (a9f n d))=((Rat.divInt n d).den:Int))/\True)))))/\(((((a9f n d) - (1:Int)).sign) != (0:Int))=false->(((-n)=(Rat.divInt n d).num)/\(((-d)=((Rat.divInt n d).den:Int))/\True))))))))))/\((decide (d.sign < (0:Int)))=false->((szI n <= 5000000/\szI d <= 5000000)/\(True/\((szI (a9e n d) <= 10000000/\szI (1:Int) <= 10000000)/\((((((a9e n d) - (1:Int)).sign) != (0:Int))=true->(((0 < (a9e n d)/\n % (a9e n d)=0)/\(szI n <= 5000000/\szI (a9e n d) <= 5000000))/\(((0 < (a9e n d)/\d % (a9e n d)=0)/\(szI d <= 5000000/\szI (a9e n d) <= 5000000))/\(((n / (a9e n d))=(Rat.divInt n d).num)/\(((d / (a9e n d))=((Rat.divInt n d).den:Int))/\True)))))/\(((((a9e n d) - (1:Int)).sign) != (0:Int))=false->((n=(Rat.divInt n d).num)/\((d=((Rat.divInt n d).den:Int))/\True))))))))))=_ by kernel_rfl) ?_
 delta a9e a9f
 obtain ⟨h0,h1,h2⟩:=hp
 have o1:=aCO
 refine ⟨trivial,fun h=>?_,fun h=>?_⟩
 ·have hd:d < 0:=by simpa using h
  have:=aKm (-n) (-d) (by omega) (Nat.le_trans (a2W n) h1) (Nat.le_trans (a2W d) h2)
  rw [Rt.aCU] at this
  exact ⟨by omega,by omega,⟨Nat.le_trans (a2W n) h1,Nat.le_trans (a2W d) h2⟩,trivial,this⟩
 ·have hd:¬ d < 0:=by simpa using h
  exact ⟨⟨h1,h2⟩,trivial,aKm n d (by omega) h1 h2⟩
theorem aMK:CtrOK Tryz.prog aQf:=yOK a1w aHF Tryz.func91 fun _ hp=>aF5 _ _ hp
def aZz:Ctr:=⟨105,spY (gR.c r0) (fun (p,_)=>szR p <= 5000000) (fun (p,_)=>.k (.g [.R ((-p))]))⟩
theorem aMO (p:Rat) (hp:szR p <= 5000000):owes LT CT7 [] Tryz.f105 (bd Tryz.f105) [.g [.R (p)]] (.k (.g [.R ((-p))])):=by
 refine Eq.mp (show ((szI p.num <= 10000000)/\(((-p.num)=(-p).num)/\(((p.den:Int)=((-p).den:Int))/\True)))=_ by kernel_rfl) ?_
 have a1:=a1f p
 refine ⟨by omega,?_⟩
 simp
theorem aTL:CtrOK Tryz.prog aZz:=yOK a1w aHF Tryz.func105 fun _ hp=>aMO _ hp
def aVj:Ctr:=⟨64,spY (gR.c r0) (fun _=>True) (fun (p,_)=>.k (.c (.v (.int .i64 ((Rt.sg p))))))⟩
theorem aIY (p:Rat):owes LT CT7 [] Tryz.f64 (bd Tryz.f64) [.g [.R (p)]] (.k (.c (.v (.int .i64 ((Rt.sg p)))))):=by
 refine Eq.mp (show (True/\(Value.int .i64 p.num.sign=(.int .i64 (Rt.sg p))))=_ by kernel_rfl) ?_
 simp [Rt.sg]
theorem aQp:CtrOK Tryz.prog aVj:=yOK a1w aHF Tryz.func64 fun _ _=>aIY _
def CT8:List Ctr:=CT7 ++ [aVk,aQf,aZz,aVj]
theorem aHE:∀ c ∈ CT8,CtrOK Tryz.prog c:=a0O aHF (a03 aQq (a03 aMK (a03 aTL (a03 aQp (a2L)))))
def aZD:Ctr:=⟨41,spY (gR.c (gR.c r0)) (fun (p,q,_)=>szR p <= 1000000/\szR q <= 1000000) (fun (p,q,_)=>.k (.g [.R ((p+q))]))⟩
theorem aMS (p q:Rat) (hp:szR p <= 1000000/\szR q <= 1000000):owes LT CT8 [] Tryz.f41 (bd Tryz.f41) [.g [.R (p)],.g [.R (q)]] (.k (.g [.R ((p+q))])):=by
 refine Eq.mp (show ((szI (p.den:Int) <= 10000000/\szI (q.den:Int) <= 10000000)/\((((((p.den:Int) - (q.den:Int)).sign) == (0:Int))=true->((szI p.num <= 10000000/\szI q.num <= 10000000)/\(((p.den:Int) ≠ 0/\szI (p.num+q.num) <= 5000000/\szI (p.den:Int) <= 5000000)/\(((Rat.divInt (p.num+q.num) (p.den:Int))=(p+q))/\True))))/\(((((p.den:Int) - (q.den:Int)).sign) == (0:Int))=false->((szI p.num <= 10000000/\szI (q.den:Int) <= 10000000)/\((szI q.num <= 10000000/\szI (p.den:Int) <= 10000000)/\((szI (p.num*(q.den:Int)) <= 10000000/\szI (q.num*(p.den:Int)) <= 10000000)/\((szI (p.den:Int) <= 10000000/\szI (q.den:Int) <= 10000000)/\((((p.den:Int)*(q.den:Int)) ≠ 0/\szI ((p.num*(q.den:Int))+(q.num*(p.den:Int))) <= 5000000/\szI ((p.den:Int)*(q.den:Int)) <= 5000000)/\(((Rat.divInt ((p.num*(q.den:Int))+(q.num*(p.den:Int))) ((p.den:Int)*(q.den:Int)))=(p+q))/\True)))))))))=_ by kernel_rfl) ?_
 obtain ⟨hp,hq⟩:=hp
 have a1:=a1f p; have a2:=a1p p; have a3:=a1f q; have a4:=a1p q
 have m1:=a02 p.num q.den; have m2:=a02 q.num p.den; have m3:=a02 p.den q.den
 have m4:=a7b p.num q.num; have m5:=a7b (p.num*q.den) (q.num*p.den)
 refine ⟨⟨by omega,by omega⟩,fun h=>⟨⟨by omega,by omega⟩,⟨a3p p,by omega,by omega⟩,?_,trivial⟩,fun _=>⟨⟨by omega,by omega⟩,⟨by omega,by omega⟩,⟨by omega,by omega⟩,⟨by omega,by omega⟩,⟨Int.mul_ne_zero (a3p p) (a3p q),by omega,by omega⟩,Rt.aHu p q,trivial⟩⟩
 refine Rt.aUv p q ?_
 have:=Int.sign_eq_zero_iff_zero.1 (beq_iff_eq.1 h)
 omega
theorem aTP:CtrOK Tryz.prog aZD:=yOK a1w aHE Tryz.func41 fun _ hp=>aMS _ _ hp
def aZA:Ctr:=⟨89,spY (gR.c (gR.c r0)) (fun (p,q,_)=>szR p <= 1000000/\szR q <= 1000000) (fun (p,q,_)=>.k (.g [.R ((p*q))]))⟩
theorem aMP (p q:Rat) (hp:szR p <= 1000000/\szR q <= 1000000):owes LT CT8 [] Tryz.f89 (bd Tryz.f89) [.g [.R (p)],.g [.R (q)]] (.k (.g [.R ((p*q))])):=by
 refine Eq.mp (show ((szI p.num <= 10000000/\szI q.num <= 10000000)/\((szI (p.den:Int) <= 10000000/\szI (q.den:Int) <= 10000000)/\((((p.den:Int)*(q.den:Int)) ≠ 0/\szI (p.num*q.num) <= 5000000/\szI ((p.den:Int)*(q.den:Int)) <= 5000000)/\(((Rat.divInt (p.num*q.num) ((p.den:Int)*(q.den:Int)))=(p*q))/\True))))=_ by kernel_rfl) ?_
 obtain ⟨hp,hq⟩:=hp
 have a1:=a1f p; have a2:=a1p p; have a3:=a1f q; have a4:=a1p q
 have m1:=a02 p.num q.num; have m3:=a02 p.den q.den
 exact ⟨⟨by omega,by omega⟩,⟨by omega,by omega⟩,⟨Int.mul_ne_zero (a3p p) (a3p q),by omega,by omega⟩,Rt.aE9 p q,trivial⟩
theorem aTM:CtrOK Tryz.prog aZA:=yOK a1w aHE Tryz.func89 fun _ hp=>aMP _ _ hp
def aZB:Ctr:=⟨230,spY (gR.c (gR.c r0)) (fun (p,q,_)=>q ≠ 0/\szR p <= 1000000/\szR q <= 1000000) (fun (p,q,_)=>.t [.g [.R ((p / q))],.c (.v (.int .i64 ((0:Int))))])⟩
theorem aMQ (p q:Rat) (hp:q ≠ 0/\szR p <= 1000000/\szR q <= 1000000):owes LT CT8 [] Tryz.f230 (bd Tryz.f230) [.g [.R (p)],.g [.R (q)]] (.t [.g [.R ((p / q))],.c (.v (.int .i64 ((0:Int))))]):=by
 refine Eq.mp (show (True/\((((Rt.sg q) == (0:Int))=true->(False/\((Value.int .i64 (6:Int)=(.int .i64 (0:Int)))/\True)))/\(((Rt.sg q) == (0:Int))=false->((szI p.num <= 10000000/\szI (q.den:Int) <= 10000000)/\((szI (p.den:Int) <= 10000000/\szI q.num <= 10000000)/\((((p.den:Int)*q.num) ≠ 0/\szI (p.num*(q.den:Int)) <= 5000000/\szI ((p.den:Int)*q.num) <= 5000000)/\((((Rat.divInt (p.num*(q.den:Int)) ((p.den:Int)*q.num))=(p / q))/\True)/\((Value.int .i64 (0:Int)=(.int .i64 (0:Int)))/\True))))))))=_ by kernel_rfl) ?_
 obtain ⟨h0,hp,hq⟩:=hp
 have a1:=a1f p; have a2:=a1p p; have a3:=a1f q; have a4:=a1p q
 have m1:=a02 p.num q.den; have m3:=a02 p.den q.num
 refine ⟨trivial,fun h=>absurd (Rt.a2F.1 (beq_iff_eq.1 h)) h0,fun _=>⟨⟨by omega,by omega⟩,⟨by omega,by omega⟩,⟨Int.mul_ne_zero (a3p p) (by rwa [ne_eq,Rat.num_eq_zero]),by omega,by omega⟩,⟨Rt.aLk p q,trivial⟩,rfl,trivial⟩⟩
theorem aTN:CtrOK Tryz.prog aZB:=yOK a1w aHE Tryz.func230 fun _ hp=>aMQ _ _ hp
def aZC:Ctr:=⟨88,spY (gR.c (gR.c r0)) (fun (p,q,_)=>szR p <= 1000000/\szR q <= 1000000) (fun (p,q,_)=>.k (.c (.v (.int .i64 ((Rt.sg (p - q)))))))⟩
theorem aMR (p q:Rat) (hp:szR p <= 1000000/\szR q <= 1000000):owes LT CT8 [] Tryz.f88 (bd Tryz.f88) [.g [.R (p)],.g [.R (q)]] (.k (.c (.v (.int .i64 ((Rt.sg (p - q))))))):=by
 refine Eq.mp (show (True/\(True/\(True/\((((((Rt.sg p) - (Rt.sg q)).sign) != (0:Int))=true->(Value.int .i64 (((Rt.sg p) - (Rt.sg q)).sign)=(.int .i64 (Rt.sg (p - q)))))/\(((((Rt.sg p) - (Rt.sg q)).sign) != (0:Int))=false->((szI p.num <= 10000000/\szI (q.den:Int) <= 10000000)/\((szI q.num <= 10000000/\szI (p.den:Int) <= 10000000)/\((szI (p.num*(q.den:Int)) <= 10000000/\szI (q.num*(p.den:Int)) <= 10000000)/\(Value.int .i64 (((p.num*(q.den:Int)) - (q.num*(p.den:Int))).sign)=(.int .i64 (Rt.sg (p - q))))))))))))=_ by kernel_rfl) ?_
 obtain ⟨hp,hq⟩:=hp
 have a1:=a1f p; have a2:=a1p p; have a3:=a1f q; have a4:=a1p q
 have m1:=a02 p.num q.den; have m3:=a02 q.num p.den
 refine ⟨trivial,trivial,trivial,fun h=>?_,fun _=>⟨⟨by omega,by omega⟩,⟨by omega,by omega⟩,⟨by omega,by omega⟩,by rw [Rt.aKh]⟩⟩
 rw [aYN (fun e=>by rw [e] at h; simp at h)]
theorem aTO:CtrOK Tryz.prog aZC:=yOK a1w aHE Tryz.func88 fun _ hp=>aMR _ _ hp
def CT9:List Ctr:=CT8 ++ [aZD,aZA,aZB,aZC]
theorem aV7:∀ c ∈ CT9,CtrOK Tryz.prog c:=a0O aHE (a03 aTP (a03 aTM (a03 aTN (a03 aTO (a2L)))))
def aZy:Ctr:=⟨45,spY (gR.c (gR.c r0)) (fun (p,q,_)=>szR p <= 1000000/\szR q <= 1000000) (fun (p,q,_)=>.k (.g [.R ((p - q))]))⟩
theorem aMN (p q:Rat) (hp:szR p <= 1000000/\szR q <= 1000000):owes LT CT9 [] Tryz.f45 (bd Tryz.f45) [.g [.R (p)],.g [.R (q)]] (.k (.g [.R ((p - q))])):=by
 refine Eq.mp (show ((szR q <= 5000000)/\((szR p <= 1000000/\szR (-q) <= 1000000)/\(((p+(-q))=(p - q))/\True)))=_ by kernel_rfl) ?_
 obtain ⟨hp,hq⟩:=hp
 exact ⟨by omega,⟨hp,Nat.le_trans (a18 q) hq⟩,(Rat.sub_eq_add_neg p q).symm,trivial⟩
theorem aTK:CtrOK Tryz.prog aZy:=yOK a1w aV7 Tryz.func45 fun _ hp=>aMN _ _ hp
def aSa:List Ctr:=CT9 ++ [aZy]
theorem aBl:∀ c ∈ aSa,CtrOK Tryz.prog c:=a0O aV7 (a03 aTK (a2L))
end Vc
end Go.Proofs.YtbohkigffejhoaaGreat
namespace Go.Proofs.YtbohkigffejhoaaGreat
namespace Rt
structure V2 where
 x:Rat
 y:Rat
def V2.sub (a b:V2):V2:=⟨a.x - b.x,a.y - b.y⟩
def dot (a b:V2):Rat:=a.x*b.x+a.y*b.y
def crs (a b:V2):Rat:=a.x*b.y - a.y*b.x
def seg (a b p:V2):Rat :=
 if dot (b.sub a) (p.sub a) <= 0 then dot (p.sub a) (p.sub a)
 else if dot (b.sub a) (b.sub a) <= dot (b.sub a) (p.sub a) then dot (p.sub b) (p.sub b)
 else crs (b.sub a) (p.sub a)*crs (b.sub a) (p.sub a) / dot (b.sub a) (b.sub a)
theorem a7d (x:Rat):0 <= x*x:=by
 rcases Rat.le_total (a:=0) (b:=x) with h | h
 ·exact Rat.mul_nonneg h h
 ·have h2:0 <= -x:=by grind
  have:=Rat.mul_nonneg h2 h2
  grind
theorem aCo (a:V2):0 <= dot a a:=by
 unfold dot
 have h1:=a7d a.x
 have h2:=a7d a.y
 grind
theorem aUX {a b c:Rat} (hc:0 < c):a / c <= b ↔ a <= b*c:=by
 rw [<- Rat.not_lt,<- Rat.not_lt,Rat.lt_div_iff hc]
theorem aSw (a b p:V2):seg a b p <= dot (p.sub a) (p.sub a):=by
 unfold seg
 split
 ·exact Rat.le_refl
 ·rename_i h1
  split
  ·rename_i h2
   have h3:=aCo (b.sub a)
   simp only [dot,V2.sub] at *
   grind
  ·rename_i h2
   have h0:0 < dot (b.sub a) (b.sub a):=by grind
   rw [aUX h0]
   have h4:=a7d (dot (b.sub a) (p.sub a))
   simp only [dot,crs,V2.sub] at *
   grind
theorem aSv (a b p:V2):seg a b p <= dot (p.sub b) (p.sub b):=by
 unfold seg
 split
 ·rename_i h1
  have h3:=aCo (b.sub a)
  simp only [dot,V2.sub] at *
  grind
 ·rename_i h1
  split
  ·exact Rat.le_refl
  ·rename_i h2
   have h0:0 < dot (b.sub a) (b.sub a):=by grind
   rw [aUX h0]
   have h4:=a7d (dot (b.sub a) (p.sub b))
   simp only [dot,crs,V2.sub] at *
   grind
theorem a9M (p a:V2):seg p p a=dot (a.sub p) (a.sub p):=by
 unfold seg
 rw [if_pos]
 simp only [dot,V2.sub]
 grind
end Rt
end Go.Proofs.YtbohkigffejhoaaGreat
