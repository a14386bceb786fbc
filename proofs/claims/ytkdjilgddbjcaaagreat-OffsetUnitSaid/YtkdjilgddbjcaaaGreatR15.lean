import Derived.Test.YtkdjilgddbjcaaaGreatR14
import Derived.Deep.DeepCutAuto
import Derived.Deep.CutBlock
import Derived.Test.YtkdjilgddbjcaaaGreatR13
import Derived.Test.YtkdjilgddbjcaaaGreatR08
namespace Go.Proofs.YtkdjilgddbjcaaaGreat
open Go.RowKit
set_option maxRecDepth 100000
structure DivMem (A V n L gu gq:Nat) (vs:Value) (Vl:List Nat) (j:Nat) (U Q:List Nat) (w wr:World):Prop where
 st:Lb.DivAt A V n L j U Q
 u:ArrP wr gu U
 q:ArrU wr gq Q
 v:SlU wr vs Vl
 e:Ext w wr
theorem own_arr_len {B N:Nat} {w:World} {v:Value} {l:List Nat} (h:OwnG B 98 1 uC w v l) (hN:l.length=N) (h0:0 < N):∃ b cap,v=.slice (some ⟨b,0,none⟩) N cap/\N <= cap/\B <= b/\ArrP w b l:=by
 subst hN
 exact own_arr h h0
theorem DivMem.later {A V n L gu gq:Nat} {vs:Value} {Vl:List Nat} {j:Nat} {U Q:List Nat} {w wr wx:World} (h:DivMem A V n L gu gq vs Vl j U Q w wr) (he:Ext wr wx):DivMem A V n L gu gq vs Vl j U Q w wx :=
 ⟨h.st,h.u.ext he,heap_keep h.q he,h.v.later he,h.e.trans he⟩
theorem DivMem.next {A V n L gu gq:Nat} {vs:Value} {Vl:List Nat} {k q:Nat} {U U2 Q:List Nat} {w wc wx:World} (h:DivMem A V n L gu gq vs Vl (k+1) U Q w wc) (ho:Only1 gu wc wx) (hu:ArrP wx gu U2) (hst:Lb.DivAt A V n L k U2 (Q.set k q))
    (hne:gu ≠ gq) (hvu:vs.ownBlock ≠ some gu) (hvq:vs.ownBlock ≠ some gq) (hgu:w.heap.size <= gu) (hgq:w.heap.size <= gq):DivMem A V n L gu gq vs Vl k U2 (Q.set k q) w (wx.setCell ⟨gq,k,none⟩ (.int .u32 (q:Int))):=by
 have hq:ArrU wx gq Q:=by unfold ArrU; rw [ho.block gq (fun e=>hne e.symm)]; exact h.q
 have h1:Only1 gq wx (wx.setCell ⟨gq,k,none⟩ (.int .u32 (q:Int))):=(Only1.refl gq wx).set k _
 exact ⟨hst,hu.other (by exact hne) _,hq.set k q,(h.v.only1 ho hvu).only1 h1 hvq,h1.ext (ho.ext h.e hgu) hgq⟩
theorem win_repl {A O D O2:List Nat} {k m:Nat} (hA:A.length=k) (hO:O.length=m):(A ++ O ++ D).take k ++ O2 ++ (A ++ O ++ D).drop (k+m)=A ++ O2 ++ D:=by
 subst hA hO
 have h1:(A ++ O ++ D).take A.length=A:=by rw [List.append_assoc,List.take_left]
 have h2:(A ++ O ++ D).drop (A.length+O.length)=D:=by rw [<- List.length_append,List.drop_left]
 rw [h1,h2]
theorem arr_at {w:World} {b:Nat} {l:List Nat} (h:ArrP w b l) {i x:Nat} (hi:l[i]?=some x):∀ y:Later w,y.w.cell? ⟨b,i,none⟩=some (.int .u32 (x:Int)):=fun y=>by
 have hl:i < l.length:=(List.getElem?_eq_some_iff.1 hi).1
 have:=(h.ext y.ext).cell i hl
 rw [this]
 have:l[i]=x:=by simpa [hl] using hi
 rw [this]
theorem sl_at {w:World} {p:Option Addr} {n q:Nat} {l:List Nat} (h:SlU w (.slice p n q) l) (h0:0 < l.length):∃ b off,p=some ⟨b,off,none⟩/\∀ (i x:Nat),l[i]?=some x->∀ y:Later w,y.w.cell? ⟨b,off+i,none⟩=some (.int .u32 (x:Int)):=by
 rcases h.cases with ⟨e,_⟩ | ⟨_,b,off,cap,e,_,_,hc⟩
 ·rw [e] at h0; simp at h0
 ·cases e
  refine ⟨b,off,rfl,fun i x hi y=>?_⟩
  have hl:i < l.length:=(List.getElem?_eq_some_iff.1 hi).1
  rcases (h.later y.ext).cases with ⟨e',_⟩ | ⟨_,b',off',cap',e',_,_,hc'⟩
  ·rw [e'] at h0; simp at h0
  ·cases e'
   rw [hc' i hl]
   have:l[i]=x:=by simpa [hl] using hi
   rw [this]
set_option maxHeartbeats 40000000 in
theorem div_long (v1 v2:Value) (l1 l2:List Nat) (w:World) (h1:SlU w v1 l1) (h2:SlU w v2 l2) (k1:Lb.Lt l1) (k2:Lb.Lt l2) (n1:l1.length <= 100000000) (n2:l2.length <= 100000000) (hb:2 <= (Lb.trim l2).length) (hge:Lb.val l2 <= Lb.val l1) :
    Calls Tryz.prog 163 #[v1,v2] w (RetDiv w (Lb.val l1 / Lb.val l2) (Lb.val l1 % Lb.val l2) (l1.length+2)):=by
 have C1:=Lib.hid (utrim_any v1 l1 w h1 (by omega)); have C2:=Lib.hid (utrim_any v2 l2 w h2 (by omega))
 have HV1:=Lib.hid (Lb.val_trim l1); have HV2:=Lib.hid (Lb.val_trim l2)
 have HM1:=Lib.hid (Lb.norm_trim k1); have HM2:=Lib.hid (Lb.norm_trim k2)
 have HT1:=Lib.hid (Lb.trim_length l1); have HT2:=Lib.hid (Lb.trim_length l2)
 have HGE:=Lib.hid hge
 clear h1 h2 k1 k2 hge
 go_enter Tryz.func163,Tryz.ntmps163
 go_wp2_with fail
 refine C1.out.mono ?_
 rintro e w1 ⟨x1,rfl,s1,rfl⟩
 go_wp2_with fail
 refine C2.out.mono ?_
 rintro e w1 ⟨x2,rfl,s2,rfl⟩
 clear C1 C2
 generalize Lb.trim l1=a at *
 generalize Lb.trim l2=b at *
 obtain ⟨p2,q2,rfl⟩:=s2.form
 obtain ⟨p1,q1,rfl⟩:=s1.form
 have hcv:decide (cmpN (Lb.val a) (Lb.val b) < 0)=false:=cmpN_nlt (by rw [HV1.out,HV2.out]; exact HGE.out)
 have HC:=Lib.hid (ucmp_any _ _ _ _ w s1 s2 HM1.out.1 HM2.out.1 (by have:=HT1.out; omega) (by have:=HT2.out; omega))
 generalize cmpN (Lb.val a) (Lb.val b)=cv at *
 have HS1:=Lib.hid s1; have HS2:=Lib.hid s2
 obtain ⟨m,hm⟩:∃ m,b.length=m+2:=⟨b.length - 2,by omega⟩
 have hab:m+2 <= a.length:=by
  have h1:Lb.val b <= Lb.val a:=by rw [HV1.out,HV2.out]; exact HGE.out
  rcases Nat.lt_or_ge a.length b.length with h | h
  ·have:=Lb.lt_of_len HM1.out HM2.out h; omega
  ·omega
 obtain ⟨L,hL⟩:∃ L,a.length+2=L+(m+2):=⟨a.length+2 - (m+2),by omega⟩
 obtain ⟨y,hy⟩:∃ y,b[m+1]?=some y:=⟨b[m+1],by simp [hm]⟩
 obtain ⟨hy0,hs1,hs2,hsV,hsG⟩:=scale_facts (n1:=m+1) HM2.out (by omega) hy
 have hyb:y < 1000000000:=by
  have h:m+1 < b.length:=by omega
  have:=Lb.lt_get HM2.out.1 (m+1) h
  have e:b[m+1]=y:=by simpa [h] using hy
  rw [e] at this
  exact this
 have HSV:=Lib.hid hsV; have HSG:=Lib.hid hsG
 obtain ⟨bb,bo,bc,hbe,hbb,hcell⟩:=getD_cell s2 (m+1) (by omega)
 have hbm:b[m+1]'(by omega)=y:=by have h:m+1 < b.length:=by omega
                                  simpa [h] using hy
 rw [hbm] at hcell
 cases hbe
 have hne:((b.length:Int) == 1)=false:=by simp; omega
 have hne2:¬ b.length=1:=by omega
 have HM:=Lib.hid hm; have HLL:=Lib.hid hL; have HAB:=Lib.hid hab
 clear hbm
 generalize hn:b.length=n at *
 obtain ⟨m1,hm1⟩:∃ m1,m+1=m1:=⟨_,rfl⟩
 rw [hm1] at hcell hsV hsG HSV HSG
 have E1:(n:Int) - 1=(m1:Int):=by omega
 have E2:(n:Int) - 2=(m:Int):=by omega
 have hm1n:m1 < n:=by omega
 have hmn:m < n:=by omega
 have hn9:n <= 100000000:=by have:=HT2.out; omega
 have HM1':=Lib.hid hm1
 have hsd:(1000000000:Int) / ((y:Int)+1)=((1000000000 / (y+1):Nat):Int):=by simp
 have hy1:(((y:Int)+1) == 0)=false:=by simp; omega
 have hy2:¬ ((y:Int)+1=0):=by omega
 generalize hsc:1000000000 / (y+1)=s at *
 have HN:=Lib.hid hn; have HHM:=Lib.hid hm
 have HCL:=Lib.hid hcell
 clear hb s1 s2 hm hm1 hab hL hy hsV hsG hsc hn
 go_wp2_with fail
 refine HC.out.mono ?_
 rintro e w4 ⟨rfl,x4⟩
 have cellb:=(x4.cell (p:=⟨bb,bo+m1,none⟩) hbb).trans HCL.out
 obtain ⟨X8,hX8,hA8,hE8,-⟩:=arr_alloc w4 [s]
 simp only [List.map_cons,List.map_nil,uV] at hX8
 have HT8:=Lib.hid (utimes_own _ _ a [s] X8 (HS1.out.later (x4.trans hE8)) (hA8.all (n:=1) (cap:=1) rfl (Nat.le_refl _)) HM1.out.1 (Lb.lt_cons hs2 Lb.lt_nil) (by have:=HT1.out; omega) (by simp))
 have HE8:=Lib.hid (x4.trans hE8)
 clear hA8 hE8
 go_wp2_with fail
 refine HT8.out.mono ?_
 rintro e w9 ⟨U0,us,rfl,ul,ult,uval,uown,x9⟩
 have HX9:=Lib.hid (HE8.out.trans x9)
 obtain ⟨Y9,hY9,hA9',hE9,-⟩:=row_alloc w9 #[.int .u32 0] 98
 have hA9:ArrU Y9 w9.heap.size [0]:=hA9'
 have HO9:=Lib.hid (uown.later hE9); have HS9:=Lib.hid (hA9.all (n:=1) (cap:=1) rfl (Nat.le_refl _)); have HE9:=Lib.hid (HX9.out.trans hE9)
 have HB9:Hid (X8.heap.size <= Y9.heap.size):=Lib.hid (x9.trans hE9).size
 have HXB:Hid (w.heap.size <= X8.heap.size):=Lib.hid HE8.out.size
 have HM9:Hid (U0.length+[0].length <= maxLen):=Lib.hid (by rw [ul]; have:=HT1.out; unfold maxLen; simp; omega)
 have HN9:Hid ((U0.length+[0].length)*4 <= 140737488355328):=Lib.hid (by rw [ul]; have:=HT1.out; simp; omega)
 have HUL:Hid ((U0 ++ [0]).length=L+n):=Lib.hid (by have:=HLL.out; have:=HM.out; simp at ul ⊢; omega)
 have HULT:=Lib.hid ult; have HUV:=Lib.hid uval
 clear ul ult uval uown x9 hA9 hA9' hE9 hX8
 go_wp2_with ((at_builtin; refine appG_at rfl _ _ rfl Tryz.underlying28 Tryz.info_u32 rfl (by decide) uC_len uC_one X8.heap.size _ _ U0 [0] rfl rfl HO9.out HS9.out HM9.out HN9.out HB9.out ?_; intro v10 w10 own10 hg10 hloc10; obtain ⟨gu,cu,rfl,hcu,hgu,hau⟩:=own_arr_len own10 HUL.out (by omega); have hx10:=HE9.out.grown hg10 (fun i hi=>Nat.le_trans HXB.out (HO9.out.base hi).1); obtain ⟨Y10,hY10,hA10,hE10,-⟩:=arr_alloc w10 [s]; simp only [List.map_cons,List.map_nil,uV] at hY10))
 have HT11:=Lib.hid (utimes_own _ _ b [s] Y10 (HS2.out.later (hx10.trans hE10)) (hA10.all (n:=1) (cap:=1) rfl (Nat.le_refl _)) HM2.out.1 (Lb.lt_cons hs2 Lb.lt_nil) (by have:=HN.out; omega) (by simp))
 have HX10:=Lib.hid hx10; have HE10:=Lib.hid hE10; have HAU:=Lib.hid hau; have HGU:=Lib.hid hgu; have HCU:=Lib.hid hcu
 have HGL:=Lib.hid hau.lt
 clear hA10 hE10 hx10 own10 hg10 hloc10 hau hgu hcu hY9
 refine HT11.out.mono ?_
 rintro e w11 ⟨V0,vs0,rfl,vl,vlt,vval,vown,x11⟩
 have HVL:=Lib.hid vl
 have HX11:=Lib.hid ((HX10.out.trans HE10.out).trans x11)
 have HTR:=Lib.hid (utrim_blk vs0 V0 w11 (vown.sl uC_len) (by rw [vl]; simp; have:=HT2.out; have:=HN.out; omega))
 have HVO:=Lib.hid (fun k (hk:vs0.ownBlock=some k)=>(vown.base hk).1)
 have HVV:Hid (Lb.val (Lb.trim V0)=Lb.val b*s):=Lib.hid (by rw [Lb.val_trim,vval]; simp [Lb.val])
 have HVN:=Lib.hid (Lb.norm_trim vlt)
 have HAU11:=Lib.hid (HAU.out.ext (HE10.out.trans x11))
 have HYB:Hid (gu < Y10.heap.size):=Lib.hid (by have:=HGL.out; have:=HE10.out.size; omega)
 clear vl vlt vval vown x11 hY10
 go_wp2_with fail
 refine HTR.out.mono ?_
 rintro e w12 ⟨vs,rfl,vsl,vblk,rfl⟩
 have hvgu:vs.ownBlock ≠ some gu:=by
  rw [vblk]; intro e; have:=HVO.out gu e; have:=HYB.out; omega
 have HVG:=Lib.hid hvgu; have HVS:=Lib.hid vsl
 have HVLEN:Hid ((Lb.trim V0).length=n):=Lib.hid (by
  have:=norm_len (n1:=m1) HVN.out (by rw [HVV.out]; have:=HSV.out; rwa [<- HM1'.out] at this ⊢) (by rw [HVV.out]; exact HSG.out)
  have:=HM.out; have:=HM1'.out; omega)
 generalize Lb.trim V0=Vl at *
 obtain ⟨pv,nv,cv9,rfl,hnv⟩:=vsl.form'
 have hnv':nv=n:=hnv.trans HVLEN.out
 subst hnv'
 clear hvgu vblk vsl hnv HVO HTR HT11 HT8 HC
 have hmk:=make_run L (by have:=HLL.out; have:=HT1.out; omega)
 obtain ⟨W,hW,hAq,hEq,-⟩:=zeros_alloc w11 L
 have hL9:L <= 200000000:=by have:=HLL.out; have:=HT1.out; omega
 have hL1:1 <= L:=by have:=HLL.out; have:=HAB.out; omega
 have HD:Hid (DivMem (Lb.val a*s) (Lb.val b*s) nv L gu w11.heap.size (.slice pv nv cv9) Vl L (U0 ++ [0]) (List.replicate L 0) w W):=Lib.hid {
  st:=Lb.divAt_start HUL.out HULT.out (by rw [HUV.out]; simp [Lb.val]) (by have:=HSG.out; have:=HM.out; have:=HM1'.out; rwa [show nv - 1=m1 by omega]) (by have:=HM.out; omega)
  u:=HAU11.out.ext hEq
  q:=hAq
  v:=HVS.out.later hEq
  e:=HX11.out.trans hEq }
 have HGQ:Hid (gu < w11.heap.size):=Lib.hid (by have:=HAU11.out.lt; omega)
 have HGUW:Hid (w.heap.size <= gu):=Lib.hid (by have:=HGU.out; have:=HXB.out; omega)
 have HGQW:Hid (w.heap.size <= w11.heap.size):=Lib.hid HX11.out.size
 have HVBK:Hid (∀ vb vo,pv=some ⟨vb,vo,none⟩->vb < w11.heap.size):=Lib.hid (fun vb vo e=>by
  subst e
  rcases HVS.out.cases with ⟨e,_⟩ | ⟨_,b',off',cap',e',_,hb',_⟩
  ·have h1:=HVLEN.out; have h2:=HM.out; rw [e] at h1; simp at h1; omega
  ·cases e'; exact hb')
 clear hAq hEq
 go_wp2_with fail
 clear hmk hW
 go_loopw [11] (fun kv wr=>∃ (j:Nat) (U Q:List Nat),j <= L/\kv=.int .i64 ((j:Int) - 1)/\Hid (DivMem (Lb.val a*s) (Lb.val b*s) nv L gu w11.heap.size (.slice pv nv cv9) Vl j U Q w wr)) (fun kv _=>(intOf kv+1).toNat)
 case atStart=>exact ⟨L,_,_,Nat.le_refl _,rfl,HD⟩
 case round =>
  clear HD
  obtain ⟨j,U,Q,hj,rfl,HM0⟩:=hrel
  rename World=>WR
  cases j with
  | zero =>
    have hj1:((0:Nat):Int) - 1=-1:=rfl
    rw [hj1]
    have HDN:=Lib.hid (HM0.out.st.done (by have:=Lb.val_lt HVN.out.1; rw [HVV.out,HVLEN.out] at this; exact this))
    have hcap:nv <= L+nv:=by omega
    have hcapu:nv <= cu:=by have:=HCU.out; omega
    have HSU:=Lib.hid (HM0.out.u.sl (cap:=cu) 0 (n:=nv) (by have:=HM0.out.st.len; omega) hcapu)
    rw [List.drop_zero] at HSU
    have HTRU:=Lib.hid (utrim_any _ _ _ HSU.out (by simp; omega))
    have HLN:=Lib.hid (Lb.trim_length (U.take nv))
    clear hcap hj1
    go_wp2_with fail
    refine HTRU.out.mono ?_
    rintro e wt ⟨xt,rfl,st,rfl⟩
    have hs0:0 < s:=by omega
    have HBW:=Lib.hid (byWord_any xt (Lb.trim (U.take nv)) s WR st (Lb.lt_trim (Lb.lt_take HM0.out.st.lt _)) (by have:=HLN.out; simp at this; omega) hs0 hs2)
    have HRV:Hid (Lb.val (Lb.trim (U.take nv)) / s=Lb.val l1 % Lb.val l2):=Lib.hid (by rw [Lb.val_trim,HDN.out.2,Nat.mul_div_cancel _ hs0,HV1.out,HV2.out])
    have HLT:Hid ((Lb.trim (U.take nv)).length <= l1.length):=Lib.hid (Nat.le_trans (Lb.trim_length _) (by rw [List.length_take]; have:=HT1.out; have:=HAB.out; have:=HM.out; omega))
    clear st HTRU HSU
    generalize Lb.trim (U.take nv)=tu at *
    go_wp2_with fail
    refine HBW.out.mono ?_
    rintro e wu ⟨l3,l4,a3,m3,c3,a4,m4,c4,rfl,s3,s4,k3,k4,v3,v4,t3,t4,x5⟩
    go_wp2_with fail
    go_ret2
    have HMU:=HM0.out.later x5
    exact ⟨Q,l3,_,_,_,_,_,_,rfl,HMU.q.all HMU.st.qlen.symm (Nat.le_refl _),s3,HMU.st.qlt,k3,by rw [HDN.out.1,HV1.out,HV2.out],by rw [v3]; exact HRV.out,by rw [HMU.st.qlen]; have:=HLL.out; have:=HT1.out; omega,by have:=HLT.out; omega,HMU.e⟩
  | succ k =>
    have hk1:((k+1:Nat):Int) - 1=(k:Int):=by omega
    rw [hk1]
    have hk:k < L:=by omega
    have hUl:=HM0.out.st.len
    have hnm:nv=m+2:=HM.out
    have hm1m:m1=m+1:=HM1'.out.symm
    obtain ⟨x2,hx2⟩:∃ x,U[k+nv]?=some x:=⟨U[k+nv]'(by omega),by simp⟩
    obtain ⟨x1,hx1⟩:∃ x,U[k+m1]?=some x:=⟨U[k+m1]'(by omega),by simp⟩
    obtain ⟨x0,hx0⟩:∃ x,U[k+m]?=some x:=⟨U[k+m]'(by omega),by simp⟩
    have hVl:=HVLEN.out
    obtain ⟨y1,hy1'⟩:∃ x,Vl[m1]?=some x:=⟨Vl[m1]'(by omega),by simp⟩
    obtain ⟨y0,hy0'⟩:∃ x,Vl[m]?=some x:=⟨Vl[m]'(by omega),by simp⟩
    have HEST:=Lib.hid (est_data (n2:=m) (by have:=HM0.out.st; rwa [hnm] at this) hk HVV.out (by rw [hVl,hnm]) HVN.out (by rw [<- hnm]; exact hx2) (by rw [<- hm1m]; exact hx1) hx0 (by rw [<- hm1m]; exact hy1') hy0')
    have b2:x2 < 1000000000:=by have h:=(List.getElem?_eq_some_iff.1 hx2).2; rw [<- h]; exact Lb.lt_get HM0.out.st.lt _ _
    have b1:x1 < 1000000000:=by have h:=(List.getElem?_eq_some_iff.1 hx1).2; rw [<- h]; exact Lb.lt_get HM0.out.st.lt _ _
    have b0:x0 < 1000000000:=HEST.out.hu2
    have c1:y1 < 1000000000:=by have h:=(List.getElem?_eq_some_iff.1 hy1').2; rw [<- h]; exact Lb.lt_get HVN.out.1 _ _
    have c0:y0 < 1000000000:=HEST.out.hv2
    have d1:0 < y1:=HEST.out.hv1
    obtain ⟨vb,vo,rfl,vcell⟩:=sl_at HM0.out.v (by omega)
    have HVBL:=Lib.hid (HVBK.out vb vo rfl)
    have ku2:=arr_at HM0.out.u hx2; have ku1:=arr_at HM0.out.u hx1; have ku0:=arr_at HM0.out.u hx0
    have kv1:=vcell m1 y1 hy1'; have kv0:=vcell m y0 hy0'
    have E3:(k:Int)+nv - 1=((k+m1:Nat):Int):=by omega
    have E4:(k:Int)+nv - 2=((k+m:Nat):Int):=by omega
    obtain ⟨T,hT⟩:∃ T:Nat,T=x2*1000000000+x1:=⟨_,rfl⟩
    have hTi:(x2:Int)*1000000000+x1=(T:Int):=by omega
    have hT9:T < 1000000000000000000:=by omega
    obtain ⟨g0,hg0⟩:∃ g:Nat,g=T / y1:=⟨_,rfl⟩
    obtain ⟨r0,hr0⟩:∃ g:Nat,g=T % y1:=⟨_,rfl⟩
    have hgi:(T:Int) / (y1:Int)=(g0:Int):=by rw [hg0]; simp
    have hri:(T:Int) % (y1:Int)=(r0:Int):=by rw [hr0]; simp
    have hy1n:((y1:Int) == 0)=false:=by simp; omega
    have hy1z:¬ ((y1:Int)=0):=by omega
    have hgle:g0 <= T:=by rw [hg0]; exact Nat.div_le_self _ _
    have hrlt:r0 < y1:=by rw [hr0]; exact Nat.mod_lt _ d1
    have HFST:=Lib.hid (HEST.out.first)
    rw [<- hT] at HFST
    rw [<- hg0,<- hr0] at HFST
    have HTT:=Lib.hid hT
    rw [<- hT] at HEST
    have Hx2:=Lib.hid hx2; have Hx1:=Lib.hid hx1; have Hx0:=Lib.hid hx0; have Hy1:=Lib.hid hy1'; have Hy0:=Lib.hid hy0'; have HUl:=Lib.hid hUl; have HVl:=Lib.hid hVl; have Hnm:=Lib.hid hnm; have Hm1m:=Lib.hid hm1m
    clear hk1 hx2 hx1 hx0 hy1' hy0' hUl hVl hnm hm1m hT hg0 hr0 vcell
    go_upto_block 2 with fail
    refine wp_region_later (by kernel_rfl) (by kernel_rfl) ?_
    repeat (go_big_quiet_step (fail))
    refine wpQuiet_nil ?_
    rintro _ ⟨z1,rfl⟩
    go_upto_block 2 with fail
    refine wp_region_later_at z1 (by kernel_rfl) (by kernel_rfl) ?_
    repeat (go_big_quiet_step (fail))
    refine wpQuiet_nil ?_
    rintro _ ⟨z2,rfl⟩
    go_upto_block 2 with fail
    go_cut [13,14] (fun g r wc=>∃ gn rn:Nat,g=.int .u64 gn/\r=.int .u64 rn/\Hid (Lb.val (U.drop k) / (Lb.val b*s) <= gn/\gn <= Lb.val (U.drop k) / (Lb.val b*s)+1/\gn < Lb.B)/\Hid (Ext WR wc))
    case first =>
     go_wp2_with fail
     go_loopw [13,14] (fun g r wi=>∃ gn rn:Nat,g=.int .u64 gn/\r=.int .u64 rn/\gn < 1000000000000000000/\rn < 1000000000/\Hid (Lb.Est (Lb.val (U.drop k)) (Lb.val b*s) y1 y0 T x0 (Lb.B ^ m) gn rn)/\Hid (Ext WR wi)) (fun g _ _=>(intOf g).toNat)
     case atStart=>exact ⟨g0,r0,rfl,by rw [hri],by omega,by omega,HFST,Lib.hid z2.ext⟩
     case round =>
      obtain ⟨gn,rn,rfl,rfl,hg9,hr9,HE0,HX⟩:=hrel
      obtain ⟨z,rfl⟩:∃ z:Later WR,wr=z.w:=⟨Later.mk _ HX.out,rfl⟩
      by_cases hge:1000000000 <= gn
      ·have hgt:decide (1000000000 <= (gn:Int))=true:=by simp; omega
       have hgi2:(1000000000:Int) <= (gn:Int):=by omega
       go_wp2_with fail
       refine wp_region_later_at z (by kernel_rfl) (by kernel_rfl) ?_
       repeat (go_big_quiet_step (fail))
       refine wpQuiet_nil ?_
       rintro _ ⟨z3,rfl⟩
       obtain ⟨g1,hg1⟩:∃ g1,gn=g1+1:=⟨gn - 1,by have:=(HEST.out.down HE0.out (Or.inl (by rw [Lb.B_eq]; exact hge))).1; omega⟩
       have HDN:Hid (Lb.Est (Lb.val (U.drop k)) (Lb.val b*s) y1 y0 T x0 (Lb.B ^ m) g1 (rn+y1)):=Lib.hid (by have h:=(HEST.out.down HE0.out (Or.inl (by rw [Lb.B_eq]; exact hge))).2; rwa [hg1,Nat.add_sub_cancel] at h)
       have hgm:(gn:Int) - 1=(g1:Int):=by omega
       have hg19:g1 < 1000000000000000000:=by omega
       have HG1:=Lib.hid hg1
       have hrs:((rn+y1:Nat):Int)=(rn:Int)+(y1:Int):=by omega
       have HRS:=Lib.hid hrs
       clear ku2 ku1 ku0 kv0 E3 E4 hTi hT9 hgi hri hgle hrlt b2 b1 b0 c0 hg1 hg9 hk hj d1 hy1n hy1z hrs hge hgt hgi2
       by_cases hbr:1000000000 <= rn+y1
       ·have hbr1:decide (1000000000 <= (rn:Int)+(y1:Int))=true:=decide_eq_true (by omega)
        have hbr2:(1000000000:Int) <= (rn:Int)+(y1:Int):=by omega
        have HBR:=Lib.hid hbr
        clear hbr
        go_wp2_with fail
        go_meet
        case rel=>exact ⟨g1,rn+y1,rfl,by rw [HRS.out],Lib.hid (HEST.out.brk HDN.out (by rw [Lb.B_eq]; exact HBR.out)),Lib.hid z3.ext⟩
       ·have hbr1:decide (1000000000 <= (rn:Int)+(y1:Int))=false:=decide_eq_false (by omega)
        have HBR:=Lib.hid hbr
        clear hbr
        go_wp2_with fail
        go_roundw
        case rel=>exact ⟨g1,rn+y1,rfl,by rw [HRS.out],hg19,by have:=HBR.out; omega,HDN,Lib.hid z3.ext⟩
        case measure=>exact show ((g1:Int)).toNat < ((gn:Int)).toNat by (have:=HG1.out; rw [Int.toNat_natCast,Int.toNat_natCast]; omega)
      ·have hgt:decide (1000000000 <= (gn:Int))=false:=by simp; omega
       obtain ⟨pp,hpp⟩:∃ pp,pp=gn*y0:=⟨_,rfl⟩
       have hppi:(gn:Int)*(y0:Int)=(pp:Int):=by rw [hpp]; simp
       have hpp9:pp < 1000000000000000000:=by
        rw [hpp]
        have:=Nat.mul_lt_mul'' (show gn < 1000000000 by omega) c0
        omega
       obtain ⟨ss,hss⟩:∃ ss,ss=rn*1000000000+x0:=⟨_,rfl⟩
       have hssi:(rn:Int)*1000000000+(x0:Int)=(ss:Int):=by omega
       have hss9:ss < 1000000000000000000:=by omega
       have hr19:(rn:Int)*1000000000 < 1000000000000000000:=by omega
       have HPP:=Lib.hid hpp; have HSS:=Lib.hid hss
       clear hpp hss
       by_cases hcm:ss < pp
       ·have hcm1:decide ((ss:Int) < (pp:Int))=true:=by simp; omega
        have hcm2:(ss:Int) < (pp:Int):=by omega
        go_wp2_with fail
        refine wp_region_later_at z (by kernel_rfl) (by kernel_rfl) ?_
        repeat (go_big_quiet_step (fail))
        refine wpQuiet_nil ?_
        rintro _ ⟨z3,rfl⟩
        obtain ⟨g1,hg1⟩:∃ g1,gn=g1+1:=⟨gn - 1,by have:=(HEST.out.down HE0.out (Or.inr (by rw [Lb.B_eq,<- HPP.out,<- HSS.out]; exact hcm))).1; omega⟩
        have HDN:Hid (Lb.Est (Lb.val (U.drop k)) (Lb.val b*s) y1 y0 T x0 (Lb.B ^ m) g1 (rn+y1)):=Lib.hid (by have h:=(HEST.out.down HE0.out (Or.inr (by rw [Lb.B_eq,<- HPP.out,<- HSS.out]; exact hcm))).2; rwa [hg1,Nat.add_sub_cancel] at h)
        have hgm:(gn:Int) - 1=(g1:Int):=by omega
        have hg19:g1 < 1000000000000000000:=by omega
        have HG1:=Lib.hid hg1
        have hrs:((rn+y1:Nat):Int)=(rn:Int)+(y1:Int):=by omega
        have HRS:=Lib.hid hrs
        clear ku2 ku1 ku0 kv0 E3 E4 hTi hT9 hgi hri hgle hrlt b2 b1 b0 c0 hg1 hg9 hk hj d1 hy1n hy1z hrs hge hgt hppi hpp9 hssi hss9 hr19 hcm hcm1 hcm2
        by_cases hbr:1000000000 <= rn+y1
        ·have hbr1:decide (1000000000 <= (rn:Int)+(y1:Int))=true:=decide_eq_true (by omega)
         have hbr2:(1000000000:Int) <= (rn:Int)+(y1:Int):=by omega
         have HBR:=Lib.hid hbr
         clear hbr
         go_wp2_with fail
         go_meet
         case rel=>exact ⟨g1,rn+y1,rfl,by rw [HRS.out],Lib.hid (HEST.out.brk HDN.out (by rw [Lb.B_eq]; exact HBR.out)),Lib.hid z3.ext⟩
        ·have hbr1:decide (1000000000 <= (rn:Int)+(y1:Int))=false:=decide_eq_false (by omega)
         have HBR:=Lib.hid hbr
         clear hbr
         go_wp2_with fail
         go_roundw
         case rel=>exact ⟨g1,rn+y1,rfl,by rw [HRS.out],hg19,by have:=HBR.out; omega,HDN,Lib.hid z3.ext⟩
         case measure=>exact show ((g1:Int)).toNat < ((gn:Int)).toNat by (have:=HG1.out; rw [Int.toNat_natCast,Int.toNat_natCast]; omega)
       ·have hcm1:decide ((ss:Int) < (pp:Int))=false:=by simp; omega
        have HL:=Lib.hid (HEST.out.last HE0.out (by rw [Lb.B_eq]; omega) (by rw [Lb.B_eq,<- HPP.out,<- HSS.out]; omega))
        go_wp2_with fail
        refine wp_region_later_at z (by kernel_rfl) (by kernel_rfl) ?_
        repeat (go_big_quiet_step (fail))
        refine wpQuiet_nil ?_
        rintro _ ⟨z3,rfl⟩
        clear ku2 ku1 ku0 kv0 kv1 E3 E4 hTi hT9 hgi hri hgle hrlt b2 b1 b0 c0 hk hj d1 hy1n hy1z hge hgt hppi hpp9 hssi hss9 hr19 hcm hcm1
        go_wp2_with fail
        go_meet
        case rel=>exact ⟨gn,rn,rfl,rfl,HL,Lib.hid z3.ext⟩
    case rest =>
     obtain ⟨gn,rn,rfl,rfl,HG,HX⟩:=hcut
     have HMX:=Lib.hid (HM0.out.later HX.out)
     clear ku2 ku1 ku0 kv1 kv0 hTi hT9 hgi hri hgle hrlt b2 b1 b0 c0 c1 d1 hy1n hy1z HFST E3 E4
     have hgn9:gn < 1000000000:=by have:=HG.out.2.2; rwa [Lb.B_eq] at this
     have HSB:=Lib.hid (usub_any gu k (nv+1) (cu - k) (.slice (some ⟨vb,vo,none⟩) nv cv9) U Vl gn wc HMX.out.u HMX.out.v HVG.out HMX.out.st.lt HVN.out.1 (by have:=HUl.out; omega) (by have:=HUl.out; omega) (by have:=HVl.out; omega) hgn9)
     have hcu2:k+nv+1 <= cu:=by have:=HCU.out; omega
     have hkn:k+nv+1 - k=nv+1:=by omega
     go_wp2_with fail
     refine HSB.out.mono ?_
     rintro e wd ⟨O,cd,dd,rfl,hsub,harr,honly⟩
     have hwin:=HMX.out.st.window hk (by have:=Lb.val_lt HVN.out.1; rw [HVV.out,HVl.out] at this; exact this)
     have hV0:0 < Lb.val Vl:=by
      rcases Nat.eq_zero_or_pos (Lb.val Vl) with h0 | h0
      ·have:=Lb.norm_zero HVN.out h0
       have:=HVl.out; have:=Hnm.out; simp_all
      ·exact h0
     have hVB:Lb.val Vl < Lb.B ^ (nv+1):=by
      have h1:=Lb.val_lt HVN.out.1
      rw [HVl.out] at h1
      exact Nat.lt_of_lt_of_le h1 (Nat.pow_le_pow_right Lb.B_pos (by omega))
     have hdone:=sub_done hsub (by have:=HVl.out; omega) (by rw [List.length_take,List.length_drop,HUl.out]; omega) hwin.2.2.symm hV0 hVB
     rw [HVV.out] at hdone
     have HDONE:=Lib.hid hdone; have HARR:=Lib.hid harr; have HONLY:=Lib.hid honly; have HSUBL:=Lib.hid hsub.len; have HSUBT:=Lib.hid hsub.lt
     have HV0:=Lib.hid hV0; have HVB:=Lib.hid hVB
     have hqf:ArrU wd w11.heap.size Q:=by unfold ArrU; rw [HONLY.out.block _ (by have:=HGQ.out; omega)]; exact HMX.out.q
     have hkq:k < Q.length:=by rw [HMX.out.st.qlen]; exact hk
     have cq:=hqf.cell k hkq; have fq:=hqf.free k
     have HVq:Hid ((Value.slice (some ⟨vb,vo,none⟩) nv cv9).ownBlock ≠ some w11.heap.size):=Lib.hid (fun e=>by have e':vb=w11.heap.size:=Option.some.inj e; have:=HVBL.out; omega)
     clear hdone harr honly hsub hV0 hVB hwin hqf
     by_cases hcase:gn=Lb.val (U.drop k) / (Lb.val b*s)
     ·have ht:=(HDONE.out.1 hcase).1
      have HVAL:=Lib.hid (HDONE.out.1 hcase).2
      have HST:=Lib.hid (HMX.out.st.step hk (by have:=Lb.val_lt HVN.out.1; rw [HVV.out,HVl.out] at this; exact this) (by have:=HV0.out; rwa [HVV.out] at this) HSUBL.out HSUBT.out hcase (by rw [HVAL.out,hcase]))
      have HNX:=Lib.hid (HMX.out.next HONLY.out HARR.out HST.out.1 (by have:=HGQ.out; omega) HVG.out HVq.out HGUW.out HGQW.out)
      clear hcase
      go_wp2_with fail
      go_roundw
      case rel=>exact ⟨k,_,_,by omega,rfl,HNX⟩
      case measure=>exact show ((k:Int) - 1+1).toNat < ((k:Int)+1).toNat by omega
     ·have hcase1:gn=Lb.val (U.drop k) / (Lb.val b*s)+1:=by have:=HG.out; omega
      have ht:=(HDONE.out.2 hcase1).1
      have HVAL:=Lib.hid (HDONE.out.2 hcase1).2
      obtain ⟨q0,hq0⟩:∃ q0,q0=Lb.val (U.drop k) / (Lb.val b*s):=⟨_,rfl⟩
      rw [<- hq0] at HVAL
      have hgq:(gn:Int) - 1=(q0:Int):=by omega
      have hq09:q0 < 1000000000:=by omega
      have HQ0:=Lib.hid hq0
      have hl1:(U.take k ++ O ++ U.drop (k+(nv+1))).length=L+nv:=by rw [mid_len HSUBL.out (by rw [HUl.out]; omega),HUl.out]
      have HRE:=Lib.hid (urestore_any gu k (nv+1) (cu - k) (.slice (some ⟨vb,vo,none⟩) nv cv9) (U.take k ++ O ++ U.drop (k+(nv+1))) Vl wd HARR.out (HMX.out.v.only1 HONLY.out HVG.out) HVG.out (Lb.lt_append (Lb.lt_append (Lb.lt_take HMX.out.st.lt _) HSUBT.out) (Lb.lt_drop HMX.out.st.lt _)) HVN.out.1 (by rw [hl1]; have:=HLL.out; have:=HT1.out; omega) (by rw [hl1]; omega) (by have:=HVl.out; omega))
      clear hcase hcase1 hq0 hl1
      go_wp2_with fail
      refine HRE.out.mono ?_
      rintro e we ⟨O2,c2,rfl,hc2,hpl,harr2,honly2⟩
      have hwe:((U.take k ++ O ++ U.drop (k+(nv+1))).drop k).take (nv+1)=O:=by
       have h1:(U.take k).length=k:=by rw [List.length_take,HUl.out]; omega
       rw [List.append_assoc,List.drop_append,h1,Nat.sub_self,List.drop_zero,List.drop_of_length_le (by omega),List.nil_append,List.take_append,HSUBL.out,Nat.sub_self,List.take_zero,List.append_nil,List.take_of_length_le (by rw [HSUBL.out]; omega)]
      rw [hwe] at hpl
      have hO2:Lb.val O2=Lb.val (U.drop k) - Lb.val b*s*q0:=res_done hpl (by have:=HVl.out; omega) HSUBL.out (by rw [HVV.out]; exact HVAL.out) hc2
      have hU2:(U.take k ++ O ++ U.drop (k+(nv+1))).take k ++ O2 ++ (U.take k ++ O ++ U.drop (k+(nv+1))).drop (k+(nv+1))=U.take k ++ O2 ++ U.drop (k+(nv+1)):=by
       exact win_repl (by rw [List.length_take,HUl.out]; omega) HSUBL.out
      rw [hU2] at harr2
      have HST:=Lib.hid (HMX.out.st.step hk (by have:=Lb.val_lt HVN.out.1; rw [HVV.out,HVl.out] at this; exact this) (by have:=HV0.out; rwa [HVV.out] at this) hpl.len hpl.lt HQ0.out hO2)
      have HNX:=Lib.hid (HMX.out.next (HONLY.out.trans honly2) harr2 HST.out.1 (by have:=HGQ.out; omega) HVG.out HVq.out HGUW.out HGQW.out)
      have hqf2:ArrU we w11.heap.size Q:=by unfold ArrU; rw [(HONLY.out.trans honly2).block _ (by have:=HGQ.out; omega)]; exact HMX.out.q
      have cq2:=hqf2.cell k hkq; have fq2:=hqf2.free k
      clear hwe hpl hO2 hU2 harr2 honly2 hqf2 cq fq
      go_wp2_with fail
      go_roundw
      case rel=>exact ⟨k,_,_,by omega,rfl,HNX⟩
      case measure=>exact show ((k:Int) - 1+1).toNat < ((k:Int)+1).toNat by omega
end Go.Proofs.YtkdjilgddbjcaaaGreat
namespace Go.Proofs.YtkdjilgddbjcaaaGreat
open Go.RowKit
namespace Vc
theorem ok_app {P:Program} {a b:List Ctr} (ha:∀ c ∈ a,CtrOK P c) (hb:∀ c ∈ b,CtrOK P c):∀ c ∈ a ++ b,CtrOK P c:=fun c hc=>(List.mem_append.1 hc).elim (ha c) (hb c)
theorem udivide_any (v1 v2:Value) (l1 l2:List Nat) (w:World) (h1:SlU w v1 l1) (h2:SlU w v2 l2) (k1:Lb.Lt l1) (k2:Lb.Lt l2) (n1:l1.length <= 100000000) (n2:l2.length <= 100000000) (h0:Lb.val l2 ≠ 0) :
    Calls Tryz.prog 163 #[v1,v2] w (RetDiv w (Lb.val l1 / Lb.val l2) (Lb.val l1 % Lb.val l2) (l1.length+2)):=by
 by_cases hb:(Lb.trim l2).length=1
 ·exact div_word v1 v2 l1 l2 w h1 h2 k1 k2 n1 n2 hb
 ·rcases Nat.lt_or_ge (Lb.val l1) (Lb.val l2) with h | h
  ·exact div_small v1 v2 l1 l2 w h1 h2 k1 k2 n1 n2 hb h
  ·refine div_long v1 v2 l1 l2 w h1 h2 k1 k2 n1 n2 ?_ h
   rcases Nat.lt_or_ge 1 (Lb.trim l2).length with h' | h'
   ·exact h'
   ·exfalso
    have:(Lb.trim l2).length=0:=by omega
    have e:=Lb.val_trim l2
    rw [List.length_eq_zero_iff.1 this] at e
    exact h0 e.symm
theorem sgn_div (x y:Int) (hy:0 < y) (h:x % y=0):sgn (decide (x < 0) != decide (y < 0)) (x.natAbs / y.natAbs)=x / y:=by
 obtain ⟨k,rfl⟩:=Int.dvd_of_emod_eq_zero h
 have hn:y.natAbs ≠ 0:=by omega
 rw [Int.natAbs_mul,Nat.mul_div_cancel_left _ (by omega),Int.mul_ediv_cancel_left _ (by omega)]
 have e1:decide (y < 0)=false:=by simp; omega
 have e2:(y*k < 0) ↔ k < 0:=by
  constructor
  ·intro h'
   rcases Int.lt_or_le k 0 with h2 | h2
   ·exact h2
   ·have:=Int.mul_nonneg (Int.le_of_lt hy) h2
    omega
  ·intro h'
   exact Int.mul_neg_of_pos_of_neg hy h'
 have e3:decide (y*k < 0)=decide (k < 0):=by simp only [decide_eq_decide]; exact e2
 rw [e1,e3]
 unfold sgn
 rcases Int.lt_or_le k 0 with h2 | h2
 ·simp [h2]; omega
 ·have:¬ k < 0:=by omega
  simp [this]; omega
def cIsigned:Ctr:=⟨105,fun | [.c (.v (.bool b)),.c (.sl l)]=>.yes (Lb.Lt l/\l.length <= 1000000000) (.k (.g [.I (sgn b (Lb.val l))])) | _=>.no⟩
theorem cIsigned_ok:CtrOK Tryz.prog cIsigned:=.of (by kernel_rfl) (fun bs w xs vs pre r hr hA hG h hp=>by
 simp only [cIsigned] at h
 split at h
 ·cases h
  obtain ⟨u,v,rfl,h1,h2⟩:=relKs_two hr
  obtain ⟨rfl,_⟩:=h1
  exact (signed_any _ v _ w h2.1 hp.1 hp.2).mono fun e w' h=>ret_I hA hG h
 ·cases h) (fun xs α pre φ r=>by simp only [cIsigned]; split <;> (intro h; cases h))
def cIsplit:Ctr:=⟨106,fun | [.c (.v (.int .u64 u))]=>.yes (0 <= u/\u < 18446744073709551616) (.k (.c (.sl ([u.toNat % 1000000000,u.toNat / 1000000000 % 1000000000,u.toNat / 1000000000 / 1000000000]:List Nat)))) | _=>.no⟩
theorem cIsplit_ok:CtrOK Tryz.prog cIsplit:=.of (by kernel_rfl) (fun bs w xs vs pre r hr hA hG h hp=>by
 simp only [cIsplit] at h
 split at h
 ·cases h
  rename_i u
  obtain ⟨v,rfl,h1,_⟩:=relKs_one hr
  subst h1
  have hu:((u.toNat:Nat):Int)=u:=Int.toNat_of_nonneg hp.1
  have:=split_any u.toNat w (by omega)
  rw [hu] at this
  refine this.mono fun e w' h=>?_
  obtain ⟨a,n,c,rfl,hs,hx⟩:=h
  exact ⟨_,rfl,hx,hs,Away.none hA hG _ _⟩
 ·cases h) (fun xs α pre φ r=>by simp only [cIsplit]; split <;> (intro h; cases h))
def cIdivide:Ctr:=⟨163,fun | [.c (.sl a),.c (.sl b)]=>.ex (List Nat × List Nat) ((Lb.Lt a/\Lb.Lt b)/\(a.length <= 100000000/\b.length <= 100000000)/\Lb.val b ≠ 0) (fun x=>(Lb.Lt x.1/\Lb.Lt x.2)/\(x.1.length <= a.length+2/\x.2.length <= a.length+2)/\Lb.val x.1=Lb.val a / Lb.val b/\Lb.val x.2=Lb.val a % Lb.val b) (fun x=>.t [.c (.sl x.1),.c (.sl x.2)]) | _=>.no⟩
theorem cIdivide_ok:CtrOK Tryz.prog cIdivide:=⟨by kernel_rfl,fun bs w xs vs pre r hr hA hG h hp=>(by
 simp only [cIdivide] at h
 split at h <;> cases h),fun bs w xs vs α pre φ r hr hA hG h hp=>by
 simp only [cIdivide] at h
 split at h
 ·cases h
  obtain ⟨u,v,rfl,h1,h2⟩:=relKs_two hr
  refine (udivide_any u v _ _ w h1.1 h2.1 hp.1.1 hp.1.2 hp.2.1.1 hp.2.1.2 hp.2.2).mono fun e w' h=>?_
  obtain ⟨l1,l2,a1,n1,c1,a2,n2,c2,rfl,k1,k2,k3,k4,k5,k6,k7,k8,k9⟩:=h
  exact ⟨_,rfl,k9,(l1,l2),⟨⟨k3,k4⟩,⟨k7,k8⟩,k5,k6⟩,_,rfl,⟨k1,Away.none hA hG _ _⟩,⟨k2,Away.none hA hG _ _⟩,trivial⟩
 ·cases h⟩
def CT1:List Ctr:=CT0 ++ [cIsigned,cIsplit,cIdivide]
theorem CT1_ok:∀ c ∈ CT1,CtrOK Tryz.prog c:=ok_app CT0_ok (by
 intro c hc
 simp only [List.mem_cons,List.not_mem_nil,or_false] at hc
 rcases hc with rfl | rfl | rfl
 ·exact cIsigned_ok
 ·exact cIsplit_ok
 ·exact cIdivide_ok)
def cIword:Ctr:=⟨162,fun | [.g [.I (z)]]=>.yes (True) (.t [.c (.v (.int .u64 ((if szI z <= 2 then (z.natAbs:Int) else 0)))),.c (.v (.bool (decide (szI z <= 2))))]) | _=>.no⟩
theorem cIword_owes (z:Int):owes LT CT1 [] Tryz.f162 (Tryz.f162.body.getD .skip) [.g [.I (z)]] (.t [.c (.v (.int .u64 ((if szI z <= 2 then (z.natAbs:Int) else 0)))),.c (.v (.bool (decide (szI z <= 2))))]):=by
 refine Eq.mp (show (((((Lb.limbs z.natAbs).length:Int) == (0:Int))=true->((Value.int .u64 (0:Int)=(.int .u64 (if szI z <= 2 then (z.natAbs:Int) else 0)))/\((Value.bool true=(.bool (decide (szI z <= 2))))/\True)))/\((((Lb.limbs z.natAbs).length:Int) == (0:Int))=false->(((((Lb.limbs z.natAbs).length:Int) == (1:Int))=true->((0 <= (0:Int)/\(0:Int) < ((Lb.limbs z.natAbs).length:Int))/\((inR .u64 (((Lb.limbs z.natAbs).getD (0:Int).toNat 0:Nat):Int))/\((Value.int .u64 (((Lb.limbs z.natAbs).getD (0:Int).toNat 0:Nat):Int)=(.int .u64 (if szI z <= 2 then (z.natAbs:Int) else 0)))/\((Value.bool true=(.bool (decide (szI z <= 2))))/\True)))))/\((((Lb.limbs z.natAbs).length:Int) == (1:Int))=false->(((((Lb.limbs z.natAbs).length:Int) == (2:Int))=true->((0 <= (1:Int)/\(1:Int) < ((Lb.limbs z.natAbs).length:Int))/\((inR .u64 (((Lb.limbs z.natAbs).getD (1:Int).toNat 0:Nat):Int))/\((inR .u64 ((((Lb.limbs z.natAbs).getD (1:Int).toNat 0:Nat):Int)*(1000000000:Int)))/\((0 <= (0:Int)/\(0:Int) < ((Lb.limbs z.natAbs).length:Int))/\((inR .u64 (((Lb.limbs z.natAbs).getD (0:Int).toNat 0:Nat):Int))/\((inR .u64 (((((Lb.limbs z.natAbs).getD (1:Int).toNat 0:Nat):Int)*(1000000000:Int))+(((Lb.limbs z.natAbs).getD (0:Int).toNat 0:Nat):Int)))/\((Value.int .u64 (((((Lb.limbs z.natAbs).getD (1:Int).toNat 0:Nat):Int)*(1000000000:Int))+(((Lb.limbs z.natAbs).getD (0:Int).toNat 0:Nat):Int))=(.int .u64 (if szI z <= 2 then (z.natAbs:Int) else 0)))/\((Value.bool true=(.bool (decide (szI z <= 2))))/\True)))))))))/\((((Lb.limbs z.natAbs).length:Int) == (2:Int))=false->((Value.int .u64 (0:Int)=(.int .u64 (if szI z <= 2 then (z.natAbs:Int) else 0)))/\((Value.bool false=(.bool (decide (szI z <= 2))))/\True))))))))=_ by kernel_rfl) ?_
 have hv:=Lb.val_limbs z.natAbs
 have hL:=(Lb.norm_limbs z.natAbs).1
 unfold szI
 generalize Lb.limbs z.natAbs=l at hv hL ⊢
 rcases l with _ | ⟨a,_ | ⟨b,_ | ⟨c,l⟩⟩⟩
 ·simp [Lb.val] at hv ⊢
  omega
 ·have ha:=hL a (by simp)
  simp [Lb.val,Lb.B] at hv ha ⊢
  simp [inR]
  omega
 ·have ha:=hL a (by simp)
  have hb:=hL b (by simp)
  simp [Lb.val,Lb.B] at hv ha hb ⊢
  simp [inR]
  omega
 ·simp
  omega
theorem cIword_ok:CtrOK Tryz.prog cIword:=.of (by kernel_rfl) (fun bs w xs vs pre r hr hA hG h hp=>by
 simp only [cIword] at h
 split at h
 ·cases h
  exact ctr_calls mixed LT_ok CT1_ok Tryz.func162 (by kernel_rfl) hr hA hG rfl rfl (cIword_owes _)
 ·cases h) (fun xs α pre φ r=>by simp only [cIword]; split <;> (intro h; cases h))
def CT2:List Ctr:=CT1 ++ [cIword]
theorem CT2_ok:∀ c ∈ CT2,CtrOK Tryz.prog c:=ok_app CT1_ok (by
 intro c hc
 simp only [List.mem_cons,List.not_mem_nil,or_false] at hc
 rcases hc with rfl
 ·exact cIword_ok)
def cIdm:Ctr:=⟨164,fun | [.g [.I (x)],.g [.I (y)]]=>.yes ((0 < y/\x % y=0)/\(szI x <= 5000000/\szI y <= 5000000)) (.t [.g [.I ((x / y))],.g [.I ((0:Int))],.c (.v (.int .i64 ((0:Int))))]) | _=>.no⟩
theorem cIdm_owes (x y:Int) (hp:(0 < y/\x % y=0)/\(szI x <= 5000000/\szI y <= 5000000)):owes LT CT2 [] Tryz.f164 (Tryz.f164.body.getD .skip) [.g [.I (x)],.g [.I (y)]] (.t [.g [.I ((x / y))],.g [.I ((0:Int))],.c (.v (.int .i64 ((0:Int))))]):=by
 refine Eq.mp (show (((((Lb.limbs y.natAbs).length:Int) == (0:Int))=true->(((Value.bool false=.bool (decide ((x / y) < 0)))/\((([]:List Nat)=Lb.limbs (x / y).natAbs)/\True))/\(((Value.bool false=.bool (decide ((0:Int) < 0)))/\((([]:List Nat)=Lb.limbs (0:Int).natAbs)/\True))/\((Value.int .i64 (6:Int)=(.int .i64 (0:Int)))/\True))))/\((((Lb.limbs y.natAbs).length:Int) == (0:Int))=false->(((Lb.Lt (Lb.limbs x.natAbs)/\Lb.Lt (Lb.limbs y.natAbs))/\((Lb.limbs x.natAbs).length <= 100000000/\(Lb.limbs y.natAbs).length <= 100000000)/\Lb.val (Lb.limbs y.natAbs) ≠ 0)/\(∀ e1:List Nat × List Nat,((Lb.Lt e1.1/\Lb.Lt e1.2)/\(e1.1.length <= (Lb.limbs x.natAbs).length+2/\e1.2.length <= (Lb.limbs x.natAbs).length+2)/\Lb.val e1.1=Lb.val (Lb.limbs x.natAbs) / Lb.val (Lb.limbs y.natAbs)/\Lb.val e1.2=Lb.val (Lb.limbs x.natAbs) % Lb.val (Lb.limbs y.natAbs)->((Lb.Lt e1.1/\e1.1.length <= 1000000000)/\((Lb.Lt e1.2/\e1.2.length <= 1000000000)/\(((bif (decide (((Lb.limbs (sgn (decide (x < 0)) (Lb.val e1.2)).natAbs).length:Int) > (0:Int))) then ((decide ((sgn (decide (x < 0)) (Lb.val e1.2)) < 0)) != (decide (y < 0))) else false)=true->((-9223372036854775808 <= (1:Int)/\(1:Int) <= 9223372036854775807)/\((szI (sgn ((decide (x < 0)) != (decide (y < 0))) (Lb.val e1.1)) <= 10000000/\szI (1:Int) <= 10000000)/\((szI (sgn (decide (x < 0)) (Lb.val e1.2)) <= 10000000/\szI y <= 10000000)/\((((((((((sgn ((decide (x < 0)) != (decide (y < 0))) (Lb.val e1.1)) - (1:Int))=(x / y))/\True)/\(((((sgn (decide (x < 0)) (Lb.val e1.2))+y)=(0:Int))/\True)/\((Value.int .i64 (0:Int)=(.int .i64 (0:Int)))/\True)))/\True)/\True)/\True)/\(((((((((sgn ((decide (x < 0)) != (decide (y < 0))) (Lb.val e1.1)) - (1:Int))=(x / y))/\True)/\(((((sgn (decide (x < 0)) (Lb.val e1.2))+y)=(0:Int))/\True)/\((Value.int .i64 (0:Int)=(.int .i64 (0:Int)))/\True)))/\True)/\True)/\True)/\True))/\((((((((((sgn ((decide (x < 0)) != (decide (y < 0))) (Lb.val e1.1)) - (1:Int))=(x / y))/\True)/\(((((sgn (decide (x < 0)) (Lb.val e1.2))+y)=(0:Int))/\True)/\((Value.int .i64 (0:Int)=(.int .i64 (0:Int)))/\True)))/\True)/\True)/\True)/\True)/\True))))))/\((bif (decide (((Lb.limbs (sgn (decide (x < 0)) (Lb.val e1.2)).natAbs).length:Int) > (0:Int))) then ((decide ((sgn (decide (x < 0)) (Lb.val e1.2)) < 0)) != (decide (y < 0))) else false)=false->(((((((((sgn ((decide (x < 0)) != (decide (y < 0))) (Lb.val e1.1))=(x / y))/\True)/\((((sgn (decide (x < 0)) (Lb.val e1.2))=(0:Int))/\True)/\((Value.int .i64 (0:Int)=(.int .i64 (0:Int)))/\True)))/\True)/\True)/\True)/\((((((((sgn ((decide (x < 0)) != (decide (y < 0))) (Lb.val e1.1))=(x / y))/\True)/\((((sgn (decide (x < 0)) (Lb.val e1.2))=(0:Int))/\True)/\((Value.int .i64 (0:Int)=(.int .i64 (0:Int)))/\True)))/\True)/\True)/\True)/\True))/\(((((((((sgn ((decide (x < 0)) != (decide (y < 0))) (Lb.val e1.1))=(x / y))/\True)/\((((sgn (decide (x < 0)) (Lb.val e1.2))=(0:Int))/\True)/\((Value.int .i64 (0:Int)=(.int .i64 (0:Int)))/\True)))/\True)/\True)/\True)/\True)/\True)))))))))))=_ by kernel_rfl) ?_
 obtain ⟨⟨hy,hxy⟩,hx5,hy5⟩:=hp
 unfold szI at hx5 hy5
 have hny:y.natAbs ≠ 0:=by omega
 have hly:(Lb.limbs y.natAbs).length ≠ 0:=by rw [Lb.limbs_pos hny]; simp
 refine ⟨fun h=>absurd h (by simpa using hly),fun _=>⟨⟨⟨(Lb.norm_limbs _).1,(Lb.norm_limbs _).1⟩,⟨by omega,by omega⟩,by rw [Lb.val_limbs]; exact hny⟩,?_⟩⟩
 rintro ⟨q,r⟩ ⟨⟨l1,l2⟩,⟨n1,n2⟩,v1,v2⟩
 simp only at *
 rw [Lb.val_limbs,Lb.val_limbs] at v1 v2
 have hr:Lb.val r=0:=by rw [v2]; exact Nat.mod_eq_zero_of_dvd (Int.natAbs_dvd_natAbs.2 (Int.dvd_of_emod_eq_zero hxy))
 have hq:sgn (decide (x < 0) != decide (y < 0)) (Lb.val q)=x / y:=by rw [v1]; exact sgn_div x y hy hxy
 refine ⟨⟨l1,by omega⟩,⟨l2,by omega⟩,fun h=>?_,fun _=>?_⟩
 ·exfalso
  rw [hr] at h
  simp [sgn,Lb.limbs_zero] at h
 ·rw [hr,hq]
  simp [sgn]
theorem cIdm_ok:CtrOK Tryz.prog cIdm:=.of (by kernel_rfl) (fun bs w xs vs pre r hr hA hG h hp=>by
 simp only [cIdm] at h
 split at h
 ·cases h
  exact ctr_calls mixed LT_ok CT2_ok Tryz.func164 (by kernel_rfl) hr hA hG rfl rfl (cIdm_owes _ _ hp)
 ·cases h) (fun xs α pre φ r=>by simp only [cIdm]; split <;> (intro h; cases h))
def CT3:List Ctr:=CT2 ++ [cIdm]
theorem CT3_ok:∀ c ∈ CT3,CtrOK Tryz.prog c:=ok_app CT2_ok (by
 intro c hc
 simp only [List.mem_cons,List.not_mem_nil,or_false] at hc
 rcases hc with rfl
 ·exact cIdm_ok)
def cIgcd:Ctr:=⟨110,fun | [.g [.I (x)],.g [.I (y)]]=>.yes (szI x <= 5000000/\szI y <= 5000000) (.k (.g [.I ((Int.gcd x y:Int))])) | _=>.no⟩
theorem cIgcd_owes (x y:Int) (hp:szI x <= 5000000/\szI y <= 5000000):owes LT CT3 [.inv 2 (Nat × Nat) (fun ξ=>⟨[.u,.u,.k (.c (.bx 0 0)),.k (.c (.bx 1 0)),.k (.c (.bx 2 0)),.k (.c (.bx 3 0)),.k (.c (.bx 4 0)),.u,.u,.u,.u,.u,.u,.u,.u,.u,.u,.u,.u,.u,.u,.u,.u,.u,.u,.u,.u,.u,.u,.u,.u,.u,.u,.u,.u,.u,.u,.u,.u,.u,.u,.u,.u,.u,.u,.u,.u,.u,.u,.u,.u,.u,.u,.u,.u,.u,.u,.u,.u,.u,.u],[⟨30,[.I (x)]⟩,⟨30,[.I (y)]⟩,⟨30,[.v (.bool (false)),.sl (([]:List Nat))]⟩,⟨30,[.I ((ξ.1:Int))]⟩,⟨30,[.I ((ξ.2:Int))]⟩]⟩) (fun _ ξ=>(Nat.gcd ξ.1 ξ.2=Int.gcd x y/\szI (ξ.1:Int) <= 5000000/\szI (ξ.2:Int) <= 5000000)) (fun ξ=>ξ.2),.inv 6 (Nat × Nat) (fun ξ=>⟨[.u,.u,.u,.u,.k (.c (.bx 2 0)),.u,.u,.k (.c (.v (.int .u64 ((ξ.1:Int))))),.u,.k (.c (.v (.int .u64 ((ξ.2:Int))))),.u,.u,.u,.u,.u,.u,.u,.u,.u,.u,.u,.u,.u,.u,.u,.u,.u,.u,.u,.u,.u,.u,.u,.u,.u,.u,.u,.u,.u,.u,.u,.u,.u,.u,.u,.u,.u,.u,.u,.u,.u,.u,.u,.u,.u,.u,.u,.u,.u,.u,.u],[⟨30,[.I (x)]⟩,⟨30,[.I (y)]⟩,⟨30,[.v (.bool (false)),.sl (([]:List Nat))]⟩]⟩) (fun _ ξ=>(Nat.gcd ξ.1 ξ.2=Int.gcd x y/\ξ.1 < 18446744073709551616/\ξ.2 < 18446744073709551616)) (fun ξ=>ξ.2)] Tryz.f110 (Tryz.f110.body.getD .skip) [.g [.I (x)],.g [.I (y)]] (.k (.g [.I ((Int.gcd x y:Int))])):=by
 refine Eq.mp (show ((Lb.Lt (Lb.limbs x.natAbs)/\(Lb.limbs x.natAbs).length <= 1000000000)/\((Lb.Lt (Lb.limbs y.natAbs)/\(Lb.limbs y.natAbs).length <= 1000000000)/\((∃ x1:Nat × Nat,((Nat.gcd x1.1 x1.2=Int.gcd x y/\szI (x1.1:Int) <= 5000000/\szI (x1.2:Int) <= 5000000)/\((True/\(True/\(True/\(True/\(True/\True)))))/\(((x=x)/\True)/\(((y=y)/\True)/\(((Value.bool false=(.bool false))/\((([]:List Nat)=([]:List Nat))/\True))/\((((sgn false (Lb.val (Lb.limbs x.natAbs)))=(x1.1:Int))/\True)/\((((sgn false (Lb.val (Lb.limbs y.natAbs)))=(x1.2:Int))/\True)/\True))))))))/\(∀ x1:Nat × Nat,((Nat.gcd x1.1 x1.2=Int.gcd x y/\szI (x1.1:Int) <= 5000000/\szI (x1.2:Int) <= 5000000)->(((decide (((Lb.limbs (x1.2:Int).natAbs).length:Int) > (0:Int)))=true->(True/\(True/\(((bif (decide (szI (x1.1:Int) <= 2)) then (decide (szI (x1.2:Int) <= 2)) else false)=true->((∃ x2:Nat × Nat,((Nat.gcd x2.1 x2.2=Int.gcd x y/\x2.1 < 18446744073709551616/\x2.2 < 18446744073709551616)/\((True/\((Value.int .u64 (if szI (x1.1:Int) <= 2 then ((x1.1:Int).natAbs:Int) else 0)=(.int .u64 (x2.1:Int)))/\((Value.int .u64 (if szI (x1.2:Int) <= 2 then ((x1.2:Int).natAbs:Int) else 0)=(.int .u64 (x2.2:Int)))/\True)))/\(((x=x)/\True)/\(((y=y)/\True)/\(((Value.bool false=(.bool false))/\((([]:List Nat)=([]:List Nat))/\True))/\True))))))/\(∀ x2:Nat × Nat,((Nat.gcd x2.1 x2.2=Int.gcd x y/\x2.1 < 18446744073709551616/\x2.2 < 18446744073709551616)->(((decide ((x2.2:Int) > (0:Int)))=true->((0 <= (x2.1:Int)/\0 < (x2.2:Int))/\(∃ y2:Nat × Nat,((Nat.gcd y2.1 y2.2=Int.gcd x y/\y2.1 < 18446744073709551616/\y2.2 < 18446744073709551616)/\((y2.2 < x2.2)/\((True/\((Value.int .u64 (x2.2:Int)=(.int .u64 (y2.1:Int)))/\((Value.int .u64 ((x2.1:Int) % (x2.2:Int))=(.int .u64 (y2.2:Int)))/\True)))/\(((x=x)/\True)/\(((y=y)/\True)/\(((Value.bool false=(.bool false))/\((([]:List Nat)=([]:List Nat))/\True))/\True)))))))))/\((decide ((x2.2:Int) > (0:Int)))=false->((0 <= (x2.1:Int)/\(x2.1:Int) < 18446744073709551616)/\((Lb.Lt ([(x2.1:Int).toNat % 1000000000,(x2.1:Int).toNat / 1000000000 % 1000000000,(x2.1:Int).toNat / 1000000000 / 1000000000]:List Nat)/\([(x2.1:Int).toNat % 1000000000,(x2.1:Int).toNat / 1000000000 % 1000000000,(x2.1:Int).toNat / 1000000000 / 1000000000]:List Nat).length <= 1000000000)/\(((sgn false (Lb.val ([(x2.1:Int).toNat % 1000000000,(x2.1:Int).toNat / 1000000000 % 1000000000,(x2.1:Int).toNat / 1000000000 / 1000000000]:List Nat)))=(Int.gcd x y:Int))/\True)))))))))/\((bif (decide (szI (x1.1:Int) <= 2)) then (decide (szI (x1.2:Int) <= 2)) else false)=false->(((Lb.Lt (Lb.limbs (x1.1:Int).natAbs)/\Lb.Lt (Lb.limbs (x1.2:Int).natAbs))/\((Lb.limbs (x1.1:Int).natAbs).length <= 100000000/\(Lb.limbs (x1.2:Int).natAbs).length <= 100000000)/\Lb.val (Lb.limbs (x1.2:Int).natAbs) ≠ 0)/\(∀ e3:List Nat × List Nat,((Lb.Lt e3.1/\Lb.Lt e3.2)/\(e3.1.length <= (Lb.limbs (x1.1:Int).natAbs).length+2/\e3.2.length <= (Lb.limbs (x1.1:Int).natAbs).length+2)/\Lb.val e3.1=Lb.val (Lb.limbs (x1.1:Int).natAbs) / Lb.val (Lb.limbs (x1.2:Int).natAbs)/\Lb.val e3.2=Lb.val (Lb.limbs (x1.1:Int).natAbs) % Lb.val (Lb.limbs (x1.2:Int).natAbs)->((Lb.Lt e3.2/\e3.2.length <= 1000000000)/\(∃ y1:Nat × Nat,((Nat.gcd y1.1 y1.2=Int.gcd x y/\szI (y1.1:Int) <= 5000000/\szI (y1.2:Int) <= 5000000)/\((y1.2 < x1.2)/\((True/\(True/\(True/\(True/\(True/\True)))))/\(((x=x)/\True)/\(((y=y)/\True)/\(((Value.bool false=(.bool false))/\((([]:List Nat)=([]:List Nat))/\True))/\((((x1.2:Int)=(y1.1:Int))/\True)/\((((sgn false (Lb.val e3.2))=(y1.2:Int))/\True)/\True))))))))))))))))))/\((decide (((Lb.limbs (x1.2:Int).natAbs).length:Int) > (0:Int)))=false->(((Lb.limbs (x1.1:Int).natAbs).length <= 1000000000)/\((Lb.Lt (Lb.limbs (x1.1:Int).natAbs)/\(Lb.limbs (x1.1:Int).natAbs).length <= 1000000000)/\(((sgn false (Lb.val (Lb.limbs (x1.1:Int).natAbs)))=(Int.gcd x y:Int))/\True))))))))))=_ by kernel_rfl) ?_
 obtain ⟨hx5,hy5⟩:=hp
 have hgcd:Int.gcd x y=Nat.gcd x.natAbs y.natAbs:=rfl
 generalize hg:Int.gcd x y=g at *
 have sz0:∀ n:Nat,szI (n:Int)=(Lb.limbs n).length:=fun n=>by unfold szI; rw [Int.natAbs_natCast]
 have sgn0:∀ n:Nat,sgn false n=(n:Int):=fun n=>by simp [sgn]
 unfold szI at hx5 hy5
 refine ⟨⟨(Lb.norm_limbs _).1,by omega⟩,⟨(Lb.norm_limbs _).1,by omega⟩,⟨(x.natAbs,y.natAbs),⟨hgcd.symm,by rw [sz0]; exact hx5,by rw [sz0]; exact hy5⟩,by simp,⟨rfl,trivial⟩,⟨rfl,trivial⟩,⟨rfl,rfl,trivial⟩,⟨by rw [Lb.val_limbs,sgn0],trivial⟩,⟨by rw [Lb.val_limbs,sgn0],trivial⟩,trivial⟩,?_⟩
 rintro ⟨a,b⟩ ⟨hab,ha,hb⟩
 simp only at *
 rw [sz0] at ha hb
 simp only [Int.natAbs_natCast,sz0]
 refine ⟨fun h0=>⟨trivial,trivial,fun hw=>?_,fun _=>?_⟩,fun h0=>?_⟩
 ·have hww:(Lb.limbs a).length <= 2/\(Lb.limbs b).length <= 2:=by
   cases h1:decide ((Lb.limbs a).length <= 2) <;> simp_all
  have ka:=Lb.lt_pow_limbs a
  have kb:=Lb.lt_pow_limbs b
  have k2:∀ n,n <= 2->Lb.B ^ n <= 1000000000000000000:=fun n hn=>Nat.le_trans (Nat.pow_le_pow_right Lb.B_pos hn) (by decide)
  have ka2:=k2 _ hww.1
  have kb2:=k2 _ hww.2
  refine ⟨⟨(a,b),⟨hab,by omega,by omega⟩,⟨trivial,by rw [if_pos hww.1],by rw [if_pos hww.2],trivial⟩,by simp,by simp,by simp,trivial⟩,?_⟩
  rintro ⟨u,v⟩ ⟨huv,hu,hv⟩
  simp only at *
  refine ⟨fun h1=>⟨⟨by omega,by simpa using h1⟩,(v,u % v),⟨?_,hv,?_⟩,?_,⟨trivial,rfl,by simp,trivial⟩,by simp,by simp,by simp,trivial⟩,fun h1=>?_⟩
  ·rw [<- huv,Nat.gcd_comm u v,Nat.gcd_rec v u,Nat.gcd_comm]
  ·have:=Nat.mod_lt u (show 0 < v by simpa using h1)
   simp only
   omega
  ·exact Nat.mod_lt u (show 0 < v by simpa using h1)
  ·have hv0:v=0:=by simpa using h1
   subst hv0
   rw [Nat.gcd_zero_right] at huv
   subst huv
   refine ⟨⟨by omega,by omega⟩,⟨?_,by simp⟩,?_,trivial⟩
   ·intro z hz
    simp only [Int.toNat_natCast,List.mem_cons,List.not_mem_nil,or_false] at hz
    simp only [Lb.B]
    omega
   ·simp only [Int.toNat_natCast,Lb.val,Lb.B,sgn0]
    omega
 ·have hb0:b ≠ 0:=by
   rintro rfl
   simp [Lb.limbs_zero] at h0
  refine ⟨⟨⟨(Lb.norm_limbs _).1,(Lb.norm_limbs _).1⟩,⟨by omega,by omega⟩,by rw [Lb.val_limbs]; exact hb0⟩,?_⟩
  rintro ⟨q,r⟩ ⟨⟨l1,l2⟩,⟨n1,n2⟩,v1,v2⟩
  simp only at *
  rw [Lb.val_limbs,Lb.val_limbs] at v2
  have hlt:a % b < b:=Nat.mod_lt a (by omega)
  refine ⟨⟨l2,by omega⟩,(b,a % b),⟨?_,hb,?_⟩,hlt,by simp,by simp,by simp,by simp,by simp,⟨by rw [v2,sgn0],trivial⟩,trivial⟩
  ·rw [<- hab,Nat.gcd_comm a b,Nat.gcd_rec b a,Nat.gcd_comm]
  ·exact Nat.le_trans (Lb.limbs_length (Nat.lt_trans hlt (Lb.lt_pow_limbs b))) hb
 ·have hb0:b=0:=by
   rcases Nat.eq_zero_or_pos b with h | h
   ·exact h
   ·simp [Lb.limbs_pos (show b ≠ 0 by omega)] at h0
  subst hb0
  rw [Nat.gcd_zero_right] at hab
  subst hab
  exact ⟨by omega,⟨(Lb.norm_limbs _).1,by omega⟩,by rw [Lb.val_limbs,sgn0],trivial⟩
theorem cIgcd_ok:CtrOK Tryz.prog cIgcd:=.of (by kernel_rfl) (fun bs w xs vs pre r hr hA hG h hp=>by
 simp only [cIgcd] at h
 split at h
 ·cases h
  exact ctr_calls mixed LT_ok CT3_ok Tryz.func110 (by kernel_rfl) hr hA hG rfl rfl (cIgcd_owes _ _ hp)
 ·cases h) (fun xs α pre φ r=>by simp only [cIgcd]; split <;> (intro h; cases h))
def CT4:List Ctr:=CT3 ++ [cIgcd]
theorem CT4_ok:∀ c ∈ CT4,CtrOK Tryz.prog c:=ok_app CT3_ok (by
 intro c hc
 simp only [List.mem_cons,List.not_mem_nil,or_false] at hc
 rcases hc with rfl
 ·exact cIgcd_ok)
end Vc
end Go.Proofs.YtkdjilgddbjcaaaGreat
namespace Go.Proofs.YtkdjilgddbjcaaaGreat
open Go.RowKit
namespace Vc
theorem szI_mono {a b:Int} (h:a.natAbs <= b.natAbs):szI a <= szI b:=Lb.limbs_length (Nat.lt_of_le_of_lt h (Lb.lt_pow_limbs _))
theorem szI_mul' (x y:Int):szI (x*y) <= szI x+szI y:=szI_mul (Nat.le_refl _) (Nat.le_refl _)
theorem szI_neg' (x:Int):szI (-x) <= szI x:=szI_mono (by omega)
theorem szI_add' (x y:Int):szI (x+y) <= szI x+szI y+1:=by
 rcases Nat.le_total x.natAbs y.natAbs with h | h
 ·have:=Lb.lt_pow_limbs y.natAbs
  refine Nat.le_trans (szI_le (k:=szI y+1) ?_) (by omega)
  have h2:y.natAbs < Lb.B ^ szI y:=this
  have h3:0 < Lb.B ^ szI y:=Nat.pow_pos Lb.B_pos
  rw [Nat.pow_succ]
  have:2 <= Lb.B:=by decide
  have:=Nat.mul_le_mul_left (Lb.B ^ szI y) this
  omega
 ·have:=Lb.lt_pow_limbs x.natAbs
  refine Nat.le_trans (szI_le (k:=szI x+1) ?_) (by omega)
  have h2:x.natAbs < Lb.B ^ szI x:=this
  have h3:0 < Lb.B ^ szI x:=Nat.pow_pos Lb.B_pos
  rw [Nat.pow_succ]
  have:2 <= Lb.B:=by decide
  have:=Nat.mul_le_mul_left (Lb.B ^ szI x) this
  omega
def szR (q:Rat):Nat:=max (szI q.num) (szI (q.den:Int))
theorem szR_num (q:Rat):szI q.num <= szR q:=Nat.le_max_left ..
theorem szR_den (q:Rat):szI (q.den:Int) <= szR q:=Nat.le_max_right ..
theorem szR_pos {n d:Int} (hd:0 < d):szR (Rat.divInt n d) <= szI n+szI d:=by
 have h1:=szI_mono (Rt.red_num_le (n:=n) hd)
 have h2:=szI_mono (a:=((Rat.divInt n d).den:Int)) (b:=d) (by have:=Rt.red_den_le (n:=n) hd; omega)
 unfold szR
 omega
theorem szR_divInt {n d:Int} (hd:d ≠ 0):szR (Rat.divInt n d) <= szI n+szI d:=by
 rcases Int.lt_or_gt_of_ne hd with h | h
 ·rw [<- Rt.red_neg]
  have:=szR_pos (n:=-n) (d:=-d) (by omega)
  have:=szI_neg' n
  have:=szI_neg' d
  omega
 ·exact szR_pos h
theorem den_ne (q:Rat):(q.den:Int) ≠ 0:=by have:=q.den_pos; omega
theorem szR_mul (p q:Rat):szR (p*q) <= 2*szR p+2*szR q:=by
 rw [<- Rt.mul_eq]
 have:=szR_divInt (n:=p.num*q.num) (d:=p.den*q.den) (Int.mul_ne_zero (den_ne p) (den_ne q))
 have:=szI_mul' p.num q.num
 have:=szI_mul' p.den q.den
 have:=szR_num p; have:=szR_num q; have:=szR_den p; have:=szR_den q
 omega
theorem szR_add (p q:Rat):szR (p+q) <= 3*szR p+3*szR q+1:=by
 rw [<- Rt.add_eq]
 have:=szR_divInt (n:=p.num*q.den+q.num*p.den) (d:=p.den*q.den) (Int.mul_ne_zero (den_ne p) (den_ne q))
 have:=szI_add' (p.num*q.den) (q.num*p.den)
 have:=szI_mul' p.num q.den
 have:=szI_mul' q.num p.den
 have:=szI_mul' p.den q.den
 have:=szR_num p; have:=szR_num q; have:=szR_den p; have:=szR_den q
 omega
theorem szR_neg (q:Rat):szR (-q) <= szR q:=by
 unfold szR
 have:=szI_neg' q.num
 simp only [Rat.neg_num,Rat.neg_den]
 omega
theorem szR_sub (p q:Rat):szR (p - q) <= 3*szR p+3*szR q+1:=by
 have:=szR_add p (-q)
 have:=szR_neg q
 rw [Rat.sub_eq_add_neg]
 omega
theorem szR_div (p q:Rat) (hq:q ≠ 0):szR (p / q) <= 2*szR p+2*szR q:=by
 rw [<- Rt.div_eq]
 have:=szR_divInt (n:=p.num*q.den) (d:=p.den*q.num) (Int.mul_ne_zero (den_ne p) (by rwa [ne_eq,Rat.num_eq_zero]))
 have:=szI_mul' p.num q.den
 have:=szI_mul' p.den q.num
 have:=szR_num p; have:=szR_num q; have:=szR_den p; have:=szR_den q
 omega
theorem red_core (n d:Int) (hd:0 < d) (h1:szI n <= 5000000) (h2:szI d <= 5000000) :
    (szI ((Int.gcd n d:Nat):Int) <= 10000000/\szI 1 <= 10000000) /\
    ((((((Int.gcd n d:Nat):Int) - 1).sign != 0)=true->((0 < ((Int.gcd n d:Nat):Int)/\n % ((Int.gcd n d:Nat):Int)=0)/\szI n <= 5000000/\szI ((Int.gcd n d:Nat):Int) <= 5000000) /\
      ((0 < ((Int.gcd n d:Nat):Int)/\d % ((Int.gcd n d:Nat):Int)=0)/\szI d <= 5000000/\szI ((Int.gcd n d:Nat):Int) <= 5000000)/\n / ((Int.gcd n d:Nat):Int)=(Rat.divInt n d).num/\d / ((Int.gcd n d:Nat):Int)=((Rat.divInt n d).den:Int)/\True) /\
    (((((Int.gcd n d:Nat):Int) - 1).sign != 0)=false->n=(Rat.divInt n d).num/\d=((Rat.divInt n d).den:Int)/\True)):=by
 have hg:0 < Int.gcd n d:=Int.gcd_pos_of_ne_zero_right _ (by omega)
 have hgd:szI ((Int.gcd n d:Nat):Int) <= szI d:=szI_mono (by rw [Int.natAbs_natCast]; exact Nat.le_of_dvd (by omega) (Nat.gcd_dvd_right n.natAbs d.natAbs))
 have d1:n % ((Int.gcd n d:Nat):Int)=0:=Int.emod_eq_zero_of_dvd (Int.gcd_dvd_left ..)
 have d2:d % ((Int.gcd n d:Nat):Int)=0:=Int.emod_eq_zero_of_dvd (Int.gcd_dvd_right ..)
 have o1:szI 1 <= 1:=szI_le (by decide)
 refine ⟨⟨by omega,by omega⟩,fun _=>⟨⟨⟨by omega,d1⟩,h1,by omega⟩,⟨⟨by omega,d2⟩,h2,by omega⟩,(Rt.red_num hd).symm,(Rt.red_den hd).symm,trivial⟩,fun h=>?_⟩
 have e:((Int.gcd n d:Nat):Int)=1:=by
  have:(((Int.gcd n d:Nat):Int) - 1).sign=0:=by simpa using h
  have:=Int.sign_eq_zero_iff_zero.1 this
  omega
 exact ⟨(Rt.red_one hd e).1.symm,(Rt.red_one hd e).2.symm,trivial⟩
theorem sg_sub {p q:Rat} (h:Rt.sg p ≠ Rt.sg q):(Rt.sg p - Rt.sg q).sign=Rt.sg (p - q):=by
 have p1:=@Rt.sg_pos p; have p2:=@Rt.sg_neg p; have p3:=@Rt.sg_zero p
 have q1:=@Rt.sg_pos q; have q2:=@Rt.sg_neg q; have q3:=@Rt.sg_zero q
 have r1:=@Rt.sub_sg_lt p q; have r2:=@Rt.sub_sg_gt p q; have r3:=@Rt.sub_sg_eq p q
 rcases Rt.sg_cases p with e1 | e1 | e1 <;> rcases Rt.sg_cases q with e2 | e2 | e2 <;> rcases Rt.sg_cases (p - q) with e3 | e3 | e3 <;> rw [e1,e2,e3] <;> first | rfl | (exfalso; clear p3 q3 r3; grind) | (exfalso; grind)
theorem szI_one:szI 1 <= 1:=szI_le (by decide)
theorem szI_i64 {n:Int} (h0:-9223372036854775808 <= n) (h1:n <= 9223372036854775807):szI n <= 3:=by
 refine szI_le ?_
 have:Lb.B ^ 3=1000000000000000000000000000:=by decide
 omega
def cisnan:Ctr:=⟨107,fun | [.c (.v (.int .i64 (_n)))]=>.yes (True) (.k (.c (.v (.bool (false))))) | _=>.no⟩
theorem cisnan_owes (_n:Int):owes LT CT4 [] Tryz.f107 (Tryz.f107.body.getD .skip) [.c (.v (.int .i64 (_n)))] (.k (.c (.v (.bool (false))))):=by
 refine Eq.mp (show (Value.bool (_n != _n)=(.bool false))=_ by kernel_rfl) ?_
 simp
theorem cisnan_ok:CtrOK Tryz.prog cisnan:=.of (by kernel_rfl) (fun bs w xs vs pre r hr hA hG h hp=>by
 simp only [cisnan] at h
 split at h
 ·cases h
  exact ctr_calls mixed LT_ok CT4_ok Tryz.func107 (by kernel_rfl) hr hA hG rfl rfl (cisnan_owes _)
 ·cases h) (fun xs α pre φ r=>by simp only [cisnan]; split <;> (intro h; cases h))
def CT5:List Ctr:=CT4 ++ [cisnan]
theorem CT5_ok:∀ c ∈ CT5,CtrOK Tryz.prog c:=ok_app CT4_ok (by
 intro c hc
 simp only [List.mem_cons,List.not_mem_nil,or_false] at hc
 rcases hc with rfl
 ·exact cisnan_ok)
def ccmp:Ctr:=⟨62,fun | [.c (.v (.int .i64 (m))),.c (.v (.int .i64 (n)))]=>.yes (True) (.k (.c (.v (.int .i64 ((m - n).sign))))) | _=>.no⟩
theorem ccmp_owes (m n:Int):owes LT CT5 [] Tryz.f62 (Tryz.f62.body.getD .skip) [.c (.v (.int .i64 (m))),.c (.v (.int .i64 (n)))] (.k (.c (.v (.int .i64 ((m - n).sign))))):=by
 refine Eq.mp (show (True/\(True/\((false=true->((false=true->(Value.int .i64 (0:Int)=(.int .i64 ((m - n).sign))))/\(false=false->(Value.int .i64 (-1:Int)=(.int .i64 ((m - n).sign))))))/\(false=false->((false=true->(Value.int .i64 (1:Int)=(.int .i64 ((m - n).sign))))/\(false=false->(((decide (m < n))=true->(Value.int .i64 (-1:Int)=(.int .i64 ((m - n).sign))))/\((decide (m < n))=false->(((decide (m > n))=true->(Value.int .i64 (1:Int)=(.int .i64 ((m - n).sign))))/\((decide (m > n))=false->(Value.int .i64 (0:Int)=(.int .i64 ((m - n).sign)))))))))))))=_ by kernel_rfl) ?_
 rcases Int.lt_trichotomy m n with h | h | h
 ·have e:(m - n).sign=-1:=Int.sign_eq_neg_one_of_neg (by omega)
  simp [e,h]
 ·subst h
  simp
 ·have e:(m - n).sign=1:=Int.sign_eq_one_of_pos (by omega)
  have h':¬ m < n:=by omega
  simp [e,h,h']
theorem ccmp_ok:CtrOK Tryz.prog ccmp:=.of (by kernel_rfl) (fun bs w xs vs pre r hr hA hG h hp=>by
 simp only [ccmp] at h
 split at h
 ·cases h
  exact ctr_calls mixed LT_ok CT5_ok Tryz.func62 (by kernel_rfl) hr hA hG rfl rfl (ccmp_owes _ _)
 ·cases h) (fun xs α pre φ r=>by simp only [ccmp]; split <;> (intro h; cases h))
def cRunit:Ctr:=⟨104,fun | []=>.yes (True) (.k (.g [.I ((1:Int))])) | _=>.no⟩
theorem cRunit_owes :owes LT CT5 [] Tryz.f104 (Tryz.f104.body.getD .skip) [] (.k (.g [.I ((1:Int))])):=by
 refine Eq.mp (show ((-9223372036854775808 <= (1:Int)/\(1:Int) <= 9223372036854775807)/\(((1:Int)=(1:Int))/\True))=_ by kernel_rfl) ?_
 simp
theorem cRunit_ok:CtrOK Tryz.prog cRunit:=.of (by kernel_rfl) (fun bs w xs vs pre r hr hA hG h hp=>by
 simp only [cRunit] at h
 split at h
 ·cases h
  exact ctr_calls mixed LT_ok CT5_ok Tryz.func104 (by kernel_rfl) hr hA hG rfl rfl (cRunit_owes )
 ·cases h) (fun xs α pre φ r=>by simp only [cRunit]; split <;> (intro h; cases h))
def CT6:List Ctr:=CT5 ++ [ccmp,cRunit]
theorem CT6_ok:∀ c ∈ CT6,CtrOK Tryz.prog c:=ok_app CT5_ok (by
 intro c hc
 simp only [List.mem_cons,List.not_mem_nil,or_false] at hc
 rcases hc with rfl | rfl
 ·exact ccmp_ok
 ·exact cRunit_ok)
def cRwhole:Ctr:=⟨59,fun | [.g [.I (n)]]=>.yes (True) (.k (.g [.R ((n:Rat))])) | _=>.no⟩
theorem cRwhole_owes (n:Int):owes LT CT6 [] Tryz.f59 (Tryz.f59.body.getD .skip) [.g [.I (n)]] (.k (.g [.R ((n:Rat))])):=by
 refine Eq.mp (show (True/\((n=(n:Rat).num)/\(((1:Int)=((n:Rat).den:Int))/\True)))=_ by kernel_rfl) ?_
 simp
theorem cRwhole_ok:CtrOK Tryz.prog cRwhole:=.of (by kernel_rfl) (fun bs w xs vs pre r hr hA hG h hp=>by
 simp only [cRwhole] at h
 split at h
 ·cases h
  exact ctr_calls mixed LT_ok CT6_ok Tryz.func59 (by kernel_rfl) hr hA hG rfl rfl (cRwhole_owes _)
 ·cases h) (fun xs α pre φ r=>by simp only [cRwhole]; split <;> (intro h; cases h))
def cexact:Ctr:=⟨111,fun | [.g [.I (x)],.g [.I (y)]]=>.yes ((0 < y/\x % y=0)/\(szI x <= 5000000/\szI y <= 5000000)) (.k (.g [.I ((x / y))])) | _=>.no⟩
theorem cexact_owes (x y:Int) (hp:(0 < y/\x % y=0)/\(szI x <= 5000000/\szI y <= 5000000)):owes LT CT6 [] Tryz.f111 (Tryz.f111.body.getD .skip) [.g [.I (x)],.g [.I (y)]] (.k (.g [.I ((x / y))])):=by
 refine Eq.mp (show (((0 < y/\x % y=0)/\(szI x <= 5000000/\szI y <= 5000000))/\(((x / y)=(x / y))/\True))=_ by kernel_rfl) ?_
 exact ⟨hp,by simp⟩
theorem cexact_ok:CtrOK Tryz.prog cexact:=.of (by kernel_rfl) (fun bs w xs vs pre r hr hA hG h hp=>by
 simp only [cexact] at h
 split at h
 ·cases h
  exact ctr_calls mixed LT_ok CT6_ok Tryz.func111 (by kernel_rfl) hr hA hG rfl rfl (cexact_owes _ _ hp)
 ·cases h) (fun xs α pre φ r=>by simp only [cexact]; split <;> (intro h; cases h))
def CT7:List Ctr:=CT6 ++ [cRwhole,cexact]
theorem CT7_ok:∀ c ∈ CT7,CtrOK Tryz.prog c:=ok_app CT6_ok (by
 intro c hc
 simp only [List.mem_cons,List.not_mem_nil,or_false] at hc
 rcases hc with rfl | rfl
 ·exact cRwhole_ok
 ·exact cexact_ok)
def cRfrom:Ctr:=⟨23,fun | [.c (.v (.int .i64 (n)))]=>.yes (-9223372036854775808 <= n/\n <= 9223372036854775807) (.k (.g [.R ((n:Rat))])) | _=>.no⟩
theorem cRfrom_owes (n:Int) (hp:-9223372036854775808 <= n/\n <= 9223372036854775807):owes LT CT7 [] Tryz.f23 (Tryz.f23.body.getD .skip) [.c (.v (.int .i64 (n)))] (.k (.g [.R ((n:Rat))])):=by
 refine Eq.mp (show ((-9223372036854775808 <= n/\n <= 9223372036854775807)/\(True/\(((n:Rat)=(n:Rat))/\True)))=_ by kernel_rfl) ?_
 exact ⟨hp,trivial,by simp⟩
theorem cRfrom_ok:CtrOK Tryz.prog cRfrom:=.of (by kernel_rfl) (fun bs w xs vs pre r hr hA hG h hp=>by
 simp only [cRfrom] at h
 split at h
 ·cases h
  exact ctr_calls mixed LT_ok CT7_ok Tryz.func23 (by kernel_rfl) hr hA hG rfl rfl (cRfrom_owes _ hp)
 ·cases h) (fun xs α pre φ r=>by simp only [cRfrom]; split <;> (intro h; cases h))
def creduce:Ctr:=⟨65,fun | [.g [.I (n)],.g [.I (d)]]=>.yes (d ≠ 0/\szI n <= 5000000/\szI d <= 5000000) (.k (.g [.R ((Rat.divInt n d))])) | _=>.no⟩
theorem creduce_owes (n d:Int) (hp:d ≠ 0/\szI n <= 5000000/\szI d <= 5000000):owes LT CT7 [] Tryz.f65 (Tryz.f65.body.getD .skip) [.g [.I (n)],.g [.I (d)]] (.k (.g [.R ((Rat.divInt n d))])):=by
 refine Eq.mp (show (True/\(((decide (d.sign < (0:Int)))=true->((szI n <= 10000000)/\((szI d <= 10000000)/\((szI (-n) <= 5000000/\szI (-d) <= 5000000)/\(True/\((szI ((Int.gcd (-n) (-d):Nat):Int) <= 10000000/\szI (1:Int) <= 10000000)/\(((((((Int.gcd (-n) (-d):Nat):Int) - (1:Int)).sign) != (0:Int))=true->(((0 < ((Int.gcd (-n) (-d):Nat):Int)/\(-n) % ((Int.gcd (-n) (-d):Nat):Int)=0)/\(szI (-n) <= 5000000/\szI ((Int.gcd (-n) (-d):Nat):Int) <= 5000000))/\(((0 < ((Int.gcd (-n) (-d):Nat):Int)/\(-d) % ((Int.gcd (-n) (-d):Nat):Int)=0)/\(szI (-d) <= 5000000/\szI ((Int.gcd (-n) (-d):Nat):Int) <= 5000000))/\((((-n) / ((Int.gcd (-n) (-d):Nat):Int))=(Rat.divInt n d).num)/\((((-d) / ((Int.gcd (-n) (-d):Nat):Int))=((Rat.divInt n d).den:Int))/\True)))))/\((((((Int.gcd (-n) (-d):Nat):Int) - (1:Int)).sign) != (0:Int))=false->(((-n)=(Rat.divInt n d).num)/\(((-d)=((Rat.divInt n d).den:Int))/\True))))))))))/\((decide (d.sign < (0:Int)))=false->((szI n <= 5000000/\szI d <= 5000000)/\(True/\((szI ((Int.gcd n d:Nat):Int) <= 10000000/\szI (1:Int) <= 10000000)/\(((((((Int.gcd n d:Nat):Int) - (1:Int)).sign) != (0:Int))=true->(((0 < ((Int.gcd n d:Nat):Int)/\n % ((Int.gcd n d:Nat):Int)=0)/\(szI n <= 5000000/\szI ((Int.gcd n d:Nat):Int) <= 5000000))/\(((0 < ((Int.gcd n d:Nat):Int)/\d % ((Int.gcd n d:Nat):Int)=0)/\(szI d <= 5000000/\szI ((Int.gcd n d:Nat):Int) <= 5000000))/\(((n / ((Int.gcd n d:Nat):Int))=(Rat.divInt n d).num)/\(((d / ((Int.gcd n d:Nat):Int))=((Rat.divInt n d).den:Int))/\True)))))/\((((((Int.gcd n d:Nat):Int) - (1:Int)).sign) != (0:Int))=false->((n=(Rat.divInt n d).num)/\((d=((Rat.divInt n d).den:Int))/\True))))))))))=_ by kernel_rfl) ?_
 obtain ⟨h0,h1,h2⟩:=hp
 have o1:=szI_one
 refine ⟨trivial,fun h=>?_,fun h=>?_⟩
 ·have hd:d < 0:=by simpa using h
  have:=red_core (-n) (-d) (by omega) (Nat.le_trans (szI_neg' n) h1) (Nat.le_trans (szI_neg' d) h2)
  rw [Rt.red_neg] at this
  exact ⟨by omega,by omega,⟨Nat.le_trans (szI_neg' n) h1,Nat.le_trans (szI_neg' d) h2⟩,trivial,this⟩
 ·have hd:¬ d < 0:=by simpa using h
  exact ⟨⟨h1,h2⟩,trivial,red_core n d (by omega) h1 h2⟩
theorem creduce_ok:CtrOK Tryz.prog creduce:=.of (by kernel_rfl) (fun bs w xs vs pre r hr hA hG h hp=>by
 simp only [creduce] at h
 split at h
 ·cases h
  exact ctr_calls mixed LT_ok CT7_ok Tryz.func65 (by kernel_rfl) hr hA hG rfl rfl (creduce_owes _ _ hp)
 ·cases h) (fun xs α pre φ r=>by simp only [creduce]; split <;> (intro h; cases h))
def cRneg:Ctr:=⟨35,fun | [.g [.R (p)]]=>.yes (szR p <= 5000000) (.k (.g [.R ((-p))])) | _=>.no⟩
theorem cRneg_owes (p:Rat) (hp:szR p <= 5000000):owes LT CT7 [] Tryz.f35 (Tryz.f35.body.getD .skip) [.g [.R (p)]] (.k (.g [.R ((-p))])):=by
 refine Eq.mp (show ((szI p.num <= 10000000)/\(((-p.num)=(-p).num)/\(((p.den:Int)=((-p).den:Int))/\True)))=_ by kernel_rfl) ?_
 have a1:=szR_num p
 refine ⟨by omega,?_⟩
 simp
theorem cRneg_ok:CtrOK Tryz.prog cRneg:=.of (by kernel_rfl) (fun bs w xs vs pre r hr hA hG h hp=>by
 simp only [cRneg] at h
 split at h
 ·cases h
  exact ctr_calls mixed LT_ok CT7_ok Tryz.func35 (by kernel_rfl) hr hA hG rfl rfl (cRneg_owes _ hp)
 ·cases h) (fun xs α pre φ r=>by simp only [cRneg]; split <;> (intro h; cases h))
def cRsign:Ctr:=⟨24,fun | [.g [.R (p)]]=>.yes (True) (.k (.c (.v (.int .i64 ((Rt.sg p)))))) | _=>.no⟩
theorem cRsign_owes (p:Rat):owes LT CT7 [] Tryz.f24 (Tryz.f24.body.getD .skip) [.g [.R (p)]] (.k (.c (.v (.int .i64 ((Rt.sg p)))))):=by
 refine Eq.mp (show (True/\(Value.int .i64 p.num.sign=(.int .i64 (Rt.sg p))))=_ by kernel_rfl) ?_
 simp [Rt.sg]
theorem cRsign_ok:CtrOK Tryz.prog cRsign:=.of (by kernel_rfl) (fun bs w xs vs pre r hr hA hG h hp=>by
 simp only [cRsign] at h
 split at h
 ·cases h
  exact ctr_calls mixed LT_ok CT7_ok Tryz.func24 (by kernel_rfl) hr hA hG rfl rfl (cRsign_owes _)
 ·cases h) (fun xs α pre φ r=>by simp only [cRsign]; split <;> (intro h; cases h))
def CT8:List Ctr:=CT7 ++ [cRfrom,creduce,cRneg,cRsign]
theorem CT8_ok:∀ c ∈ CT8,CtrOK Tryz.prog c:=ok_app CT7_ok (by
 intro c hc
 simp only [List.mem_cons,List.not_mem_nil,or_false] at hc
 rcases hc with rfl | rfl | rfl | rfl
 ·exact cRfrom_ok
 ·exact creduce_ok
 ·exact cRneg_ok
 ·exact cRsign_ok)
def cRadd:Ctr:=⟨29,fun | [.g [.R (p)],.g [.R (q)]]=>.yes (szR p <= 1000000/\szR q <= 1000000) (.k (.g [.R ((p+q))])) | _=>.no⟩
theorem cRadd_owes (p q:Rat) (hp:szR p <= 1000000/\szR q <= 1000000):owes LT CT8 [] Tryz.f29 (Tryz.f29.body.getD .skip) [.g [.R (p)],.g [.R (q)]] (.k (.g [.R ((p+q))])):=by
 refine Eq.mp (show ((szI (p.den:Int) <= 10000000/\szI (q.den:Int) <= 10000000)/\((((((p.den:Int) - (q.den:Int)).sign) == (0:Int))=true->((szI p.num <= 10000000/\szI q.num <= 10000000)/\(((p.den:Int) ≠ 0/\szI (p.num+q.num) <= 5000000/\szI (p.den:Int) <= 5000000)/\(((Rat.divInt (p.num+q.num) (p.den:Int))=(p+q))/\True))))/\(((((p.den:Int) - (q.den:Int)).sign) == (0:Int))=false->((szI p.num <= 10000000/\szI (q.den:Int) <= 10000000)/\((szI q.num <= 10000000/\szI (p.den:Int) <= 10000000)/\((szI (p.num*(q.den:Int)) <= 10000000/\szI (q.num*(p.den:Int)) <= 10000000)/\((szI (p.den:Int) <= 10000000/\szI (q.den:Int) <= 10000000)/\((((p.den:Int)*(q.den:Int)) ≠ 0/\szI ((p.num*(q.den:Int))+(q.num*(p.den:Int))) <= 5000000/\szI ((p.den:Int)*(q.den:Int)) <= 5000000)/\(((Rat.divInt ((p.num*(q.den:Int))+(q.num*(p.den:Int))) ((p.den:Int)*(q.den:Int)))=(p+q))/\True)))))))))=_ by kernel_rfl) ?_
 obtain ⟨hp,hq⟩:=hp
 have a1:=szR_num p; have a2:=szR_den p; have a3:=szR_num q; have a4:=szR_den q
 have m1:=szI_mul' p.num q.den; have m2:=szI_mul' q.num p.den; have m3:=szI_mul' p.den q.den
 have m4:=szI_add' p.num q.num; have m5:=szI_add' (p.num*q.den) (q.num*p.den)
 refine ⟨⟨by omega,by omega⟩,fun h=>⟨⟨by omega,by omega⟩,⟨den_ne p,by omega,by omega⟩,?_,trivial⟩,fun _=>⟨⟨by omega,by omega⟩,⟨by omega,by omega⟩,⟨by omega,by omega⟩,⟨by omega,by omega⟩,⟨Int.mul_ne_zero (den_ne p) (den_ne q),by omega,by omega⟩,Rt.add_eq p q,trivial⟩⟩
 refine Rt.add_same p q ?_
 have:=Int.sign_eq_zero_iff_zero.1 (beq_iff_eq.1 h)
 omega
theorem cRadd_ok:CtrOK Tryz.prog cRadd:=.of (by kernel_rfl) (fun bs w xs vs pre r hr hA hG h hp=>by
 simp only [cRadd] at h
 split at h
 ·cases h
  exact ctr_calls mixed LT_ok CT8_ok Tryz.func29 (by kernel_rfl) hr hA hG rfl rfl (cRadd_owes _ _ hp)
 ·cases h) (fun xs α pre φ r=>by simp only [cRadd]; split <;> (intro h; cases h))
def cRmul:Ctr:=⟨30,fun | [.g [.R (p)],.g [.R (q)]]=>.yes (szR p <= 1000000/\szR q <= 1000000) (.k (.g [.R ((p*q))])) | _=>.no⟩
theorem cRmul_owes (p q:Rat) (hp:szR p <= 1000000/\szR q <= 1000000):owes LT CT8 [] Tryz.f30 (Tryz.f30.body.getD .skip) [.g [.R (p)],.g [.R (q)]] (.k (.g [.R ((p*q))])):=by
 refine Eq.mp (show ((szI p.num <= 10000000/\szI q.num <= 10000000)/\((szI (p.den:Int) <= 10000000/\szI (q.den:Int) <= 10000000)/\((((p.den:Int)*(q.den:Int)) ≠ 0/\szI (p.num*q.num) <= 5000000/\szI ((p.den:Int)*(q.den:Int)) <= 5000000)/\(((Rat.divInt (p.num*q.num) ((p.den:Int)*(q.den:Int)))=(p*q))/\True))))=_ by kernel_rfl) ?_
 obtain ⟨hp,hq⟩:=hp
 have a1:=szR_num p; have a2:=szR_den p; have a3:=szR_num q; have a4:=szR_den q
 have m1:=szI_mul' p.num q.num; have m3:=szI_mul' p.den q.den
 exact ⟨⟨by omega,by omega⟩,⟨by omega,by omega⟩,⟨Int.mul_ne_zero (den_ne p) (den_ne q),by omega,by omega⟩,Rt.mul_eq p q,trivial⟩
theorem cRmul_ok:CtrOK Tryz.prog cRmul:=.of (by kernel_rfl) (fun bs w xs vs pre r hr hA hG h hp=>by
 simp only [cRmul] at h
 split at h
 ·cases h
  exact ctr_calls mixed LT_ok CT8_ok Tryz.func30 (by kernel_rfl) hr hA hG rfl rfl (cRmul_owes _ _ hp)
 ·cases h) (fun xs α pre φ r=>by simp only [cRmul]; split <;> (intro h; cases h))
def cRdiv:Ctr:=⟨27,fun | [.g [.R (p)],.g [.R (q)]]=>.yes (q ≠ 0/\szR p <= 1000000/\szR q <= 1000000) (.t [.g [.R ((p / q))],.c (.v (.int .i64 ((0:Int))))]) | _=>.no⟩
theorem cRdiv_owes (p q:Rat) (hp:q ≠ 0/\szR p <= 1000000/\szR q <= 1000000):owes LT CT8 [] Tryz.f27 (Tryz.f27.body.getD .skip) [.g [.R (p)],.g [.R (q)]] (.t [.g [.R ((p / q))],.c (.v (.int .i64 ((0:Int))))]):=by
 refine Eq.mp (show (True/\((((Rt.sg q) == (0:Int))=true->(False/\((Value.int .i64 (6:Int)=(.int .i64 (0:Int)))/\True)))/\(((Rt.sg q) == (0:Int))=false->((szI p.num <= 10000000/\szI (q.den:Int) <= 10000000)/\((szI (p.den:Int) <= 10000000/\szI q.num <= 10000000)/\((((p.den:Int)*q.num) ≠ 0/\szI (p.num*(q.den:Int)) <= 5000000/\szI ((p.den:Int)*q.num) <= 5000000)/\((((Rat.divInt (p.num*(q.den:Int)) ((p.den:Int)*q.num))=(p / q))/\True)/\((Value.int .i64 (0:Int)=(.int .i64 (0:Int)))/\True))))))))=_ by kernel_rfl) ?_
 obtain ⟨h0,hp,hq⟩:=hp
 have a1:=szR_num p; have a2:=szR_den p; have a3:=szR_num q; have a4:=szR_den q
 have m1:=szI_mul' p.num q.den; have m3:=szI_mul' p.den q.num
 refine ⟨trivial,fun h=>absurd (Rt.sg_zero.1 (beq_iff_eq.1 h)) h0,fun _=>⟨⟨by omega,by omega⟩,⟨by omega,by omega⟩,⟨Int.mul_ne_zero (den_ne p) (by rwa [ne_eq,Rat.num_eq_zero]),by omega,by omega⟩,⟨Rt.div_eq p q,trivial⟩,rfl,trivial⟩⟩
theorem cRdiv_ok:CtrOK Tryz.prog cRdiv:=.of (by kernel_rfl) (fun bs w xs vs pre r hr hA hG h hp=>by
 simp only [cRdiv] at h
 split at h
 ·cases h
  exact ctr_calls mixed LT_ok CT8_ok Tryz.func27 (by kernel_rfl) hr hA hG rfl rfl (cRdiv_owes _ _ hp)
 ·cases h) (fun xs α pre φ r=>by simp only [cRdiv]; split <;> (intro h; cases h))
def cRcmp:Ctr:=⟨26,fun | [.g [.R (p)],.g [.R (q)]]=>.yes (szR p <= 1000000/\szR q <= 1000000) (.k (.c (.v (.int .i64 ((Rt.sg (p - q))))))) | _=>.no⟩
theorem cRcmp_owes (p q:Rat) (hp:szR p <= 1000000/\szR q <= 1000000):owes LT CT8 [] Tryz.f26 (Tryz.f26.body.getD .skip) [.g [.R (p)],.g [.R (q)]] (.k (.c (.v (.int .i64 ((Rt.sg (p - q))))))):=by
 refine Eq.mp (show (True/\(True/\(True/\((((((Rt.sg p) - (Rt.sg q)).sign) != (0:Int))=true->(Value.int .i64 (((Rt.sg p) - (Rt.sg q)).sign)=(.int .i64 (Rt.sg (p - q)))))/\(((((Rt.sg p) - (Rt.sg q)).sign) != (0:Int))=false->((szI p.num <= 10000000/\szI (q.den:Int) <= 10000000)/\((szI q.num <= 10000000/\szI (p.den:Int) <= 10000000)/\((szI (p.num*(q.den:Int)) <= 10000000/\szI (q.num*(p.den:Int)) <= 10000000)/\(Value.int .i64 (((p.num*(q.den:Int)) - (q.num*(p.den:Int))).sign)=(.int .i64 (Rt.sg (p - q))))))))))))=_ by kernel_rfl) ?_
 obtain ⟨hp,hq⟩:=hp
 have a1:=szR_num p; have a2:=szR_den p; have a3:=szR_num q; have a4:=szR_den q
 have m1:=szI_mul' p.num q.den; have m3:=szI_mul' q.num p.den
 refine ⟨trivial,trivial,trivial,fun h=>?_,fun _=>⟨⟨by omega,by omega⟩,⟨by omega,by omega⟩,⟨by omega,by omega⟩,by rw [Rt.sg_cross]⟩⟩
 rw [sg_sub (fun e=>by rw [e] at h; simp at h)]
theorem cRcmp_ok:CtrOK Tryz.prog cRcmp:=.of (by kernel_rfl) (fun bs w xs vs pre r hr hA hG h hp=>by
 simp only [cRcmp] at h
 split at h
 ·cases h
  exact ctr_calls mixed LT_ok CT8_ok Tryz.func26 (by kernel_rfl) hr hA hG rfl rfl (cRcmp_owes _ _ hp)
 ·cases h) (fun xs α pre φ r=>by simp only [cRcmp]; split <;> (intro h; cases h))
def CT9:List Ctr:=CT8 ++ [cRadd,cRmul,cRdiv,cRcmp]
theorem CT9_ok:∀ c ∈ CT9,CtrOK Tryz.prog c:=ok_app CT8_ok (by
 intro c hc
 simp only [List.mem_cons,List.not_mem_nil,or_false] at hc
 rcases hc with rfl | rfl | rfl | rfl
 ·exact cRadd_ok
 ·exact cRmul_ok
 ·exact cRdiv_ok
 ·exact cRcmp_ok)
def cRsub:Ctr:=⟨33,fun | [.g [.R (p)],.g [.R (q)]]=>.yes (szR p <= 1000000/\szR q <= 1000000) (.k (.g [.R ((p - q))])) | _=>.no⟩
theorem cRsub_owes (p q:Rat) (hp:szR p <= 1000000/\szR q <= 1000000):owes LT CT9 [] Tryz.f33 (Tryz.f33.body.getD .skip) [.g [.R (p)],.g [.R (q)]] (.k (.g [.R ((p - q))])):=by
 refine Eq.mp (show ((szR q <= 5000000)/\((szR p <= 1000000/\szR (-q) <= 1000000)/\(((p+(-q))=(p - q))/\True)))=_ by kernel_rfl) ?_
 obtain ⟨hp,hq⟩:=hp
 exact ⟨by omega,⟨hp,Nat.le_trans (szR_neg q) hq⟩,(Rat.sub_eq_add_neg p q).symm,trivial⟩
theorem cRsub_ok:CtrOK Tryz.prog cRsub:=.of (by kernel_rfl) (fun bs w xs vs pre r hr hA hG h hp=>by
 simp only [cRsub] at h
 split at h
 ·cases h
  exact ctr_calls mixed LT_ok CT9_ok Tryz.func33 (by kernel_rfl) hr hA hG rfl rfl (cRsub_owes _ _ hp)
 ·cases h) (fun xs α pre φ r=>by simp only [cRsub]; split <;> (intro h; cases h))
def CT10:List Ctr:=CT9 ++ [cRsub]
theorem CT10_ok:∀ c ∈ CT10,CtrOK Tryz.prog c:=ok_app CT9_ok (by
 intro c hc
 simp only [List.mem_cons,List.not_mem_nil,or_false] at hc
 rcases hc with rfl
 ·exact cRsub_ok)
end Vc
end Go.Proofs.YtkdjilgddbjcaaaGreat
namespace Go.Proofs.YtkdjilgddbjcaaaGreat
namespace Rt
structure V2 where
 x:Rat
 y:Rat
def V2.sub (a b:V2):V2:=⟨a.x - b.x,a.y - b.y⟩
def dot (a b:V2):Rat:=a.x*b.x+a.y*b.y
theorem sq_nonneg (x:Rat):0 <= x*x:=by
 rcases Rat.le_total (a:=0) (b:=x) with h | h
 ·exact Rat.mul_nonneg h h
 ·have h2:0 <= -x:=by grind
  have:=Rat.mul_nonneg h2 h2
  grind
end Rt
end Go.Proofs.YtkdjilgddbjcaaaGreat
namespace Go.Proofs.YtkdjilgddbjcaaaGreat
open Go.RowKit
namespace Vc
section
variable {p q:Rat} {a b:Nat}
end
section
variable {a1 a2 b1 b2 p1 p2:Rat}
end
end Vc
end Go.Proofs.YtkdjilgddbjcaaaGreat
namespace Go.Proofs.YtkdjilgddbjcaaaGreat
open Go.RowKit
namespace Vc
theorem getD_last (l:List Nat) (k:Nat) (hk:k <= l.length) (h0:0 < k):∃ x,(l.take k).getD (k - 1) 0=x/\l.take k=l.take (k - 1) ++ [x]:=by
 obtain ⟨m,rfl⟩:∃ m,k=m+1:=⟨k - 1,by omega⟩
 refine ⟨l[m],?_,?_⟩
 ·simp [List.getD_eq_getElem?_getD,show m < l.length by omega]
 ·rw [List.take_succ_eq_append_getElem (by omega)]
  simp
def cJtrim:Ctr:=⟨75,fun | [.c (.sl (l))]=>.yes (l.length <= 1000000000) (.k (.c (.sl ((Lb.trim l))))) | _=>.no⟩
theorem cJtrim_owes (l:List Nat) (hp:l.length <= 1000000000):owes LT CT0 [.inv 1 (Nat) (fun ξ=>⟨[.k (.c (.sl ((l.take ξ)))),.u,.u,.u,.u,.u,.u,.u,.u,.u,.u,.u,.u,.u,.u,.u,.u,.u,.u,.u,.u],[]⟩) (fun _ ξ=>(ξ <= l.length/\Lb.trim (l.take ξ)=Lb.trim l)) (fun ξ=>ξ)] Tryz.f75 (Tryz.f75.body.getD .skip) [.c (.sl (l))] (.k (.c (.sl ((Lb.trim l))))):=by
 refine Eq.mp (show ((∃ x1:Nat,((x1 <= l.length/\Lb.trim (l.take x1)=Lb.trim l)/\(((l=(l.take x1))/\True)/\True)))/\(∀ x1:Nat,((x1 <= l.length/\Lb.trim (l.take x1)=Lb.trim l)->((((decide (((l.take x1).length:Int) > (0:Int))) == true)=true->(inR .i64 (((l.take x1).length:Int) - (1:Int))))/\((((decide (((l.take x1).length:Int) > (0:Int))) == true)=true->(0 <= ((l.take x1).length:Int) - (1:Int)/\((l.take x1).length:Int) - (1:Int) < ((l.take x1).length:Int)))/\(((bif (decide (((l.take x1).length:Int) > (0:Int))) then ((((l.take x1).getD (((l.take x1).length:Int) - (1:Int)).toNat 0:Nat):Int) == (0:Int)) else false)=true->((inR .i64 (((l.take x1).length:Int) - (1:Int)))/\((0 <= ((l.take x1).length:Int) - (1:Int)/\((l.take x1).length:Int) - (1:Int) <= ((l.take x1).length:Int))/\(∃ y1:Nat,((y1 <= l.length/\Lb.trim (l.take y1)=Lb.trim l)/\((y1 < x1)/\((((l.take x1).take (((l.take x1).length:Int) - (1:Int)).toNat=(l.take y1))/\True)/\True)))))))/\((bif (decide (((l.take x1).length:Int) > (0:Int))) then ((((l.take x1).getD (((l.take x1).length:Int) - (1:Int)).toNat 0:Nat):Int) == (0:Int)) else false)=false->((l.take x1)=(Lb.trim l)))))))))=_ by kernel_rfl) ?_
 refine ⟨⟨l.length,⟨Nat.le_refl _,by rw [List.take_length]⟩,⟨by rw [List.take_length],by simp⟩,by simp⟩,?_⟩
 rintro k ⟨hk,ht⟩
 have hlen:(l.take k).length=k:=by simp; omega
 have ek:((k:Int) - 1).toNat=k - 1:=by omega
 simp only [hlen,ek]
 refine ⟨fun h=>by simp only [inR]; omega,fun h=>?_,fun h=>?_,fun h=>?_⟩
 ·have:0 < k:=by simpa using h
  omega
 ·have h0:0 < k:=by
   rcases Nat.eq_zero_or_pos k with e | e
   ·subst e; simp at h
   ·exact e
  obtain ⟨x,hx1,hx2⟩:=getD_last l k hk h0
  rw [hx1] at h
  have hx0:x=0:=by
   have hd:decide ((k:Int) > 0)=true:=by simp; omega
   rw [hd] at h
   simpa using h
  subst hx0
  refine ⟨by simp only [inR]; omega,⟨by omega,by omega⟩,k - 1,⟨by omega,?_⟩,by omega,⟨?_,trivial⟩,trivial⟩
  ·rw [<- ht,hx2,Lb.trim_snoc_zero]
  ·rw [List.take_take,Nat.min_eq_left (by omega)]
 ·rw [<- ht]
  rcases Nat.eq_zero_or_pos k with e | e
  ·subst e
   rfl
  ·obtain ⟨x,hx1,hx2⟩:=getD_last l k hk e
   rw [hx1] at h
   have hd:decide ((k:Int) > 0)=true:=by simp; omega
   rw [hd] at h
   have hx0:x ≠ 0:=by simpa using h
   refine (Lb.trim_norm fun hne=>?_).symm
   have hg:(l.take k).getLast hne=x:=by
    have:∀ (m:List Nat) (hm:m ≠ []),m=l.take (k - 1) ++ [x]->m.getLast hm=x:=by
     intro m hm e
     subst e
     simp
    exact this _ _ hx2
   rw [hg]
   exact hx0
theorem cJtrim_ok:CtrOK Tryz.prog cJtrim:=.of (by kernel_rfl) (fun bs w xs vs pre r hr hA hG h hp=>by
 simp only [cJtrim] at h
 split at h
 ·cases h
  exact ctr_calls mixed LT_ok CT0_ok Tryz.func75 (by kernel_rfl) hr hA hG rfl rfl (cJtrim_owes _ hp)
 ·cases h) (fun xs α pre φ r=>by simp only [cJtrim]; split <;> (intro h; cases h))
def RT0:List Ctr:=CT0 ++ [cJtrim]
theorem RT0_ok:∀ c ∈ RT0,CtrOK Tryz.prog c:=ok_app CT0_ok (by
 intro c hc
 simp only [List.mem_cons,List.not_mem_nil,or_false] at hc
 rcases hc with rfl
 ·exact cJtrim_ok)
def cJsigned:Ctr:=⟨73,fun | [.c (.v (.bool (b))),.c (.sl (l))]=>.yes (Lb.Lt l/\l.length <= 1000000000) (.k (.g [.I ((sgn b (Lb.val l)))])) | _=>.no⟩
theorem cJsigned_owes (b:Bool) (l:List Nat) (hp:Lb.Lt l/\l.length <= 1000000000):owes LT RT0 [] Tryz.f73 (Tryz.f73.body.getD .skip) [.c (.v (.bool (b))),.c (.sl (l))] (.k (.g [.I ((sgn b (Lb.val l)))])):=by
 refine Eq.mp (show ((l.length <= 1000000000)/\((Value.bool (bif b then (decide (((Lb.trim l).length:Int) > (0:Int))) else false)=.bool (decide ((sgn b (Lb.val l)) < 0)))/\(((Lb.trim l)=Lb.limbs (sgn b (Lb.val l)).natAbs)/\True)))=_ by kernel_rfl) ?_
 obtain ⟨hl,hn⟩:=hp
 have ht:Lb.trim l=Lb.limbs (Lb.val l):=Lb.trim_eq hl
 refine ⟨hn,?_,?_,trivial⟩
 ·have hc:decide (((Lb.limbs (Lb.val l)).length:Int) > 0)=decide (0 < Lb.val l):=by
   rw [decide_eq_decide]
   rcases Nat.eq_zero_or_pos (Lb.val l) with e | e
   ·rw [e,Lb.limbs_zero]; simp
   ·rw [Lb.limbs_pos (by omega)]; simp only [List.length_cons]; omega
  rw [sgn_neg,ht,hc]
  cases b <;> rfl
 ·rw [sgn_natAbs,ht]
theorem cJsigned_ok:CtrOK Tryz.prog cJsigned:=.of (by kernel_rfl) (fun bs w xs vs pre r hr hA hG h hp=>by
 simp only [cJsigned] at h
 split at h
 ·cases h
  exact ctr_calls mixed LT_ok RT0_ok Tryz.func73 (by kernel_rfl) hr hA hG rfl rfl (cJsigned_owes _ _ hp)
 ·cases h) (fun xs α pre φ r=>by simp only [cJsigned]; split <;> (intro h; cases h))
def cJcmp:Ctr:=⟨76,fun | [.c (.sl (a)),.c (.sl (b))]=>.yes ((Lb.Norm a/\Lb.Norm b)/\a.length <= 1000000000/\b.length <= 1000000000) (.k (.c (.v (.int .i64 ((cmpN (Lb.val a) (Lb.val b))))))) | _=>.no⟩
theorem cJcmp_owes (a b:List Nat) (hp:(Lb.Norm a/\Lb.Norm b)/\a.length <= 1000000000/\b.length <= 1000000000):owes LT RT0 [.inv 6 (Nat) (fun ξ=>⟨[.k (.c (.sl (a))),.k (.c (.sl (b))),.u,.u,.u,.k (.c (.v (.int .i64 (((ξ:Int) - (1:Int)))))),.u,.u,.u,.u,.u,.u,.u,.u,.u,.u,.u,.u,.u,.u,.u,.u,.u,.u,.u,.u,.u,.u,.u,.u,.u,.u,.u,.u,.u,.u,.u,.u,.u,.u,.u],[]⟩) (fun _ ξ=>(ξ <= a.length/\a.length=b.length/\a.drop ξ=b.drop ξ)) (fun ξ=>ξ)] Tryz.f76 (Tryz.f76.body.getD .skip) [.c (.sl (a)),.c (.sl (b))] (.k (.c (.v (.int .i64 ((cmpN (Lb.val a) (Lb.val b))))))):=by
 refine Eq.mp (show ((((a.length:Int) != (b.length:Int))=true->(((decide ((a.length:Int) < (b.length:Int)))=true->(Value.int .i64 (-1:Int)=(.int .i64 (cmpN (Lb.val a) (Lb.val b)))))/\((decide ((a.length:Int) < (b.length:Int)))=false->(Value.int .i64 (1:Int)=(.int .i64 (cmpN (Lb.val a) (Lb.val b)))))))/\(((a.length:Int) != (b.length:Int))=false->((inR .i64 ((a.length:Int) - (1:Int)))/\((∃ x1:Nat,((x1 <= a.length/\a.length=b.length/\a.drop x1=b.drop x1)/\(((a=a)/\((b=b)/\((Value.int .i64 ((a.length:Int) - (1:Int))=(.int .i64 ((x1:Int) - (1:Int))))/\True)))/\True)))/\(∀ x1:Nat,((x1 <= a.length/\a.length=b.length/\a.drop x1=b.drop x1)->(((decide (((x1:Int) - (1:Int)) >= (0:Int)))=true->((0 <= ((x1:Int) - (1:Int))/\((x1:Int) - (1:Int)) < (a.length:Int))/\((0 <= ((x1:Int) - (1:Int))/\((x1:Int) - (1:Int)) < (b.length:Int))/\(((decide (((a.getD ((x1:Int) - (1:Int)).toNat 0:Nat):Int) < ((b.getD ((x1:Int) - (1:Int)).toNat 0:Nat):Int)))=true->(Value.int .i64 (-1:Int)=(.int .i64 (cmpN (Lb.val a) (Lb.val b)))))/\((decide (((a.getD ((x1:Int) - (1:Int)).toNat 0:Nat):Int) < ((b.getD ((x1:Int) - (1:Int)).toNat 0:Nat):Int)))=false->((0 <= ((x1:Int) - (1:Int))/\((x1:Int) - (1:Int)) < (a.length:Int))/\((0 <= ((x1:Int) - (1:Int))/\((x1:Int) - (1:Int)) < (b.length:Int))/\(((decide (((a.getD ((x1:Int) - (1:Int)).toNat 0:Nat):Int) > ((b.getD ((x1:Int) - (1:Int)).toNat 0:Nat):Int)))=true->(Value.int .i64 (1:Int)=(.int .i64 (cmpN (Lb.val a) (Lb.val b)))))/\((decide (((a.getD ((x1:Int) - (1:Int)).toNat 0:Nat):Int) > ((b.getD ((x1:Int) - (1:Int)).toNat 0:Nat):Int)))=false->((inR .i64 (((x1:Int) - (1:Int)) - (1:Int)))/\(∃ y1:Nat,((y1 <= a.length/\a.length=b.length/\a.drop y1=b.drop y1)/\((y1 < x1)/\(((a=a)/\((b=b)/\((Value.int .i64 (((x1:Int) - (1:Int)) - (1:Int))=(.int .i64 ((y1:Int) - (1:Int))))/\True)))/\True))))))))))))))/\((decide (((x1:Int) - (1:Int)) >= (0:Int)))=false->(Value.int .i64 (0:Int)=(.int .i64 (cmpN (Lb.val a) (Lb.val b))))))))))))=_ by kernel_rfl) ?_
 obtain ⟨⟨ha,hb⟩,na,nb⟩:=hp
 refine ⟨fun h=>⟨fun h1=>?_,fun h1=>?_⟩,fun h=>⟨by simp only [inR]; omega,⟨a.length,⟨Nat.le_refl _,by have:(a.length:Int)=b.length:=(by simpa using h); omega,?_⟩,by simp,trivial⟩,?_⟩⟩
 ·rw [cmpN_lt (Lb.lt_of_len ha hb (by simpa using h1))]
 ·have h2:(a.length:Int) ≠ b.length:=by simpa using h
  have h3:¬ a.length < b.length:=by simpa using h1
  rw [cmpN_gt (Lb.lt_of_len hb ha (by omega))]
 ·have h2:(a.length:Int)=b.length:=by simpa using h
  have h2:a.length=b.length:=by omega
  rw [List.drop_length,h2,List.drop_length]
 rintro k ⟨hk,hlen,hd⟩
 refine ⟨fun h0=>?_,fun h0=>?_⟩
 ·have hk0:0 < k:=by have:=of_decide_eq_true h0; omega
  obtain ⟨m,rfl⟩:∃ m,k=m+1:=⟨k - 1,by omega⟩
  have e:(((m+1:Nat):Int) - 1).toNat=m:=by omega
  have hma:m < a.length:=by omega
  have hmb:m < b.length:=by omega
  have ea:a.getD m 0=a[m]:=by simp [List.getD_eq_getElem?_getD,hma]
  have eb:b.getD m 0=b[m]:=by simp [List.getD_eq_getElem?_getD,hmb]
  simp only [e,ea,eb]
  refine ⟨⟨by omega,by omega⟩,⟨by omega,by omega⟩,fun c=>?_,fun c=>⟨⟨by omega,by omega⟩,⟨by omega,by omega⟩,fun c'=>?_,fun c'=>⟨by simp only [inR]; omega,m,⟨by omega,hlen,?_⟩,by omega,by simp,trivial⟩⟩⟩
  ·rw [cmpN_lt (Lb.lt_of_top ha.1 m hma hmb hd (by simpa using c))]
  ·rw [cmpN_gt (Lb.lt_of_top hb.1 m hmb hma hd.symm (by simpa using c'))]
  ·have h1:¬ a[m] < b[m]:=by simpa using c
   have h2:¬ b[m] < a[m]:=by simpa using c'
   rw [List.drop_eq_getElem_cons hma,List.drop_eq_getElem_cons hmb,hd,show a[m]=b[m] by omega]
 ·have hk0:k=0:=by have:=of_decide_eq_false h0; omega
  subst hk0
  rw [List.drop_zero,List.drop_zero] at hd
  rw [cmpN_eq (by rw [hd])]
theorem cJcmp_ok:CtrOK Tryz.prog cJcmp:=.of (by kernel_rfl) (fun bs w xs vs pre r hr hA hG h hp=>by
 simp only [cJcmp] at h
 split at h
 ·cases h
  exact ctr_calls mixed LT_ok RT0_ok Tryz.func76 (by kernel_rfl) hr hA hG rfl rfl (cJcmp_owes _ _ hp)
 ·cases h) (fun xs α pre φ r=>by simp only [cJcmp]; split <;> (intro h; cases h))
def RT1:List Ctr:=RT0 ++ [cJsigned,cJcmp]
theorem RT1_ok:∀ c ∈ RT1,CtrOK Tryz.prog c:=ok_app RT0_ok (by
 intro c hc
 simp only [List.mem_cons,List.not_mem_nil,or_false] at hc
 rcases hc with rfl | rfl
 ·exact cJsigned_ok
 ·exact cJcmp_ok)
def cJsign:Ctr:=⟨39,fun | [.g [.I (z)]]=>.yes (True) (.k (.c (.v (.int .i64 (z.sign))))) | _=>.no⟩
theorem cJsign_owes (z:Int):owes LT RT1 [] Tryz.f39 (Tryz.f39.body.getD .skip) [.g [.I (z)]] (.k (.c (.v (.int .i64 (z.sign))))):=by
 refine Eq.mp (show (((((Lb.limbs z.natAbs).length:Int) == (0:Int))=true->(Value.int .i64 (0:Int)=(.int .i64 z.sign)))/\((((Lb.limbs z.natAbs).length:Int) == (0:Int))=false->(((decide (z < 0))=true->(Value.int .i64 (-1:Int)=(.int .i64 z.sign)))/\((decide (z < 0))=false->(Value.int .i64 (1:Int)=(.int .i64 z.sign))))))=_ by kernel_rfl) ?_
 have hl:((Lb.limbs z.natAbs).length:Int)=0 ↔ z=0:=by
  rcases Nat.eq_zero_or_pos z.natAbs with e | e
  ·rw [e,Lb.limbs_zero]; simp; omega
  ·rw [Lb.limbs_pos (by omega)]; simp only [List.length_cons]; omega
 refine ⟨fun h=>?_,fun h=>⟨fun h1=>?_,fun h1=>?_⟩⟩
 ·have h0:z=0:=hl.1 (beq_iff_eq.1 h)
  rw [h0]; rfl
 ·rw [Int.sign_eq_neg_one_of_neg (of_decide_eq_true h1)]
 ·have h0:z ≠ 0:=fun e=>by
   rw [hl.2 e] at h
   cases h
  have h2:=of_decide_eq_false h1
  rw [Int.sign_eq_one_of_pos (by omega)]
theorem cJsign_ok:CtrOK Tryz.prog cJsign:=.of (by kernel_rfl) (fun bs w xs vs pre r hr hA hG h hp=>by
 simp only [cJsign] at h
 split at h
 ·cases h
  exact ctr_calls mixed LT_ok RT1_ok Tryz.func39 (by kernel_rfl) hr hA hG rfl rfl (cJsign_owes _)
 ·cases h) (fun xs α pre φ r=>by simp only [cJsign]; split <;> (intro h; cases h))
def cJneg:Ctr:=⟨36,fun | [.g [.I (z)]]=>.yes (szI z <= 10000000) (.k (.g [.I ((-z))])) | _=>.no⟩
theorem cJneg_owes (z:Int) (hp:szI z <= 10000000):owes LT RT1 [] Tryz.f36 (Tryz.f36.body.getD .skip) [.g [.I (z)]] (.k (.g [.I ((-z))])):=by
 refine Eq.mp (show ((Lb.Lt (Lb.limbs z.natAbs)/\(Lb.limbs z.natAbs).length <= 1000000000)/\(((sgn (!(decide (z < 0))) (Lb.val (Lb.limbs z.natAbs)))=(-z))/\True))=_ by kernel_rfl) ?_
 unfold szI at hp
 refine ⟨⟨(Lb.norm_limbs _).1,by omega⟩,?_,trivial⟩
 rw [Lb.val_limbs]
 unfold sgn
 by_cases h:z < 0
 ·simp [h]; omega
 ·simp [h]; omega
theorem cJneg_ok:CtrOK Tryz.prog cJneg:=.of (by kernel_rfl) (fun bs w xs vs pre r hr hA hG h hp=>by
 simp only [cJneg] at h
 split at h
 ·cases h
  exact ctr_calls mixed LT_ok RT1_ok Tryz.func36 (by kernel_rfl) hr hA hG rfl rfl (cJneg_owes _ hp)
 ·cases h) (fun xs α pre φ r=>by simp only [cJneg]; split <;> (intro h; cases h))
def RT2:List Ctr:=RT1 ++ [cJsign,cJneg]
theorem RT2_ok:∀ c ∈ RT2,CtrOK Tryz.prog c:=ok_app RT1_ok (by
 intro c hc
 simp only [List.mem_cons,List.not_mem_nil,or_false] at hc
 rcases hc with rfl | rfl
 ·exact cJsign_ok
 ·exact cJneg_ok)
def cJshort:Ctr:=⟨78,fun | [.c (.sl (l))]=>.yes (Lb.Lt l/\l.length <= 2) (.k (.c (.v (.int .u64 ((Lb.val l:Int)))))) | _=>.no⟩
theorem cJshort_owes (l:List Nat) (hp:Lb.Lt l/\l.length <= 2):owes LT RT1 [.inv 3 (Nat) (fun ξ=>⟨[.k (.c (.sl (l))),.u,.u,.k (.c (.v (.int .u64 ((Lb.val (l.drop ξ):Int))))),.k (.c (.v (.int .i64 (((ξ:Int) - (1:Int)))))),.u,.u,.u,.u,.u,.u,.u,.u,.u,.u,.u,.u,.u,.u,.u,.u],[]⟩) (fun _ ξ=>(ξ <= l.length)) (fun ξ=>ξ)] Tryz.f78 (Tryz.f78.body.getD .skip) [.c (.sl (l))] (.k (.c (.v (.int .u64 ((Lb.val l:Int)))))):=by
 refine Eq.mp (show ((inR .i64 ((l.length:Int) - (1:Int)))/\((∃ x1:Nat,((x1 <= l.length)/\(((l=l)/\((Value.int .u64 (0:Int)=(.int .u64 (Lb.val (l.drop x1):Int)))/\((Value.int .i64 ((l.length:Int) - (1:Int))=(.int .i64 ((x1:Int) - (1:Int))))/\True)))/\True)))/\(∀ x1:Nat,((x1 <= l.length)->(((decide (((x1:Int) - (1:Int)) >= (0:Int)))=true->((inR .u64 ((Lb.val (l.drop x1):Int)*(1000000000:Int)))/\((0 <= ((x1:Int) - (1:Int))/\((x1:Int) - (1:Int)) < (l.length:Int))/\((inR .u64 ((l.getD ((x1:Int) - (1:Int)).toNat 0:Nat):Int))/\((inR .u64 (((Lb.val (l.drop x1):Int)*(1000000000:Int))+((l.getD ((x1:Int) - (1:Int)).toNat 0:Nat):Int)))/\((inR .i64 (((x1:Int) - (1:Int)) - (1:Int)))/\(∃ y1:Nat,((y1 <= l.length)/\((y1 < x1)/\(((l=l)/\((Value.int .u64 (((Lb.val (l.drop x1):Int)*(1000000000:Int))+((l.getD ((x1:Int) - (1:Int)).toNat 0:Nat):Int))=(.int .u64 (Lb.val (l.drop y1):Int)))/\((Value.int .i64 (((x1:Int) - (1:Int)) - (1:Int))=(.int .i64 ((y1:Int) - (1:Int))))/\True)))/\True))))))))))/\((decide (((x1:Int) - (1:Int)) >= (0:Int)))=false->(Value.int .u64 (Lb.val (l.drop x1):Int)=(.int .u64 (Lb.val l:Int)))))))))=_ by kernel_rfl) ?_
 obtain ⟨hl,hn⟩:=hp
 refine ⟨by simp only [inR]; omega,⟨l.length,Nat.le_refl _,by simp [Lb.val],trivial⟩,fun k hk=>⟨fun h=>?_,fun h=>?_⟩⟩
 ·have hk0:0 < k:=by have:=of_decide_eq_true h; omega
  obtain ⟨m,rfl⟩:∃ m,k=m+1:=⟨k - 1,by omega⟩
  have e:(((m+1:Nat):Int) - 1).toNat=m:=by omega
  have hm:m < l.length:=by omega
  have ea:l.getD m 0=l[m]:=by simp [List.getD_eq_getElem?_getD,hm]
  have hx:=Lb.lt_get hl m hm
  have hv:=Lb.val_drop l m hm
  have hb:=Lb.val_lt (Lb.lt_drop hl (m+1))
  have hb2:Lb.B ^ (l.drop (m+1)).length <= Lb.B ^ 1:=Nat.pow_le_pow_right Lb.B_pos (by simp; omega)
  rw [Lb.B_eq] at hx hv
  have hb3:Lb.B ^ 1=1000000000:=rfl
  rw [hb3] at hb2
  simp only [e,ea]
  refine ⟨by simp only [inR]; omega,⟨by omega,by omega⟩,by simp only [inR]; omega,by simp only [inR]; omega,by simp only [inR]; omega,m,by omega,by omega,⟨trivial,?_,by simp,trivial⟩,trivial⟩
  congr 1
  omega
 ·have hk0:k=0:=by have:=of_decide_eq_false h; omega
  subst hk0
  rfl
theorem cJshort_ok:CtrOK Tryz.prog cJshort:=.of (by kernel_rfl) (fun bs w xs vs pre r hr hA hG h hp=>by
 simp only [cJshort] at h
 split at h
 ·cases h
  exact ctr_calls mixed LT_ok RT1_ok Tryz.func78 (by kernel_rfl) hr hA hG rfl rfl (cJshort_owes _ hp)
 ·cases h) (fun xs α pre φ r=>by simp only [cJshort]; split <;> (intro h; cases h))
def cJsame:Ctr:=⟨41,fun | [.g [.I (x)],.g [.I (y)]]=>.yes (szI x <= 10000000/\szI y <= 10000000) (.k (.c (.v (.bool (decide (x=y)))))) | _=>.no⟩
theorem cJsame_owes (x y:Int) (hp:szI x <= 10000000/\szI y <= 10000000):owes LT RT1 [] Tryz.f41 (Tryz.f41.body.getD .skip) [.g [.I (x)],.g [.I (y)]] (.k (.c (.v (.bool (decide (x=y)))))):=by
 refine Eq.mp (show (((((decide (x < 0)) == (decide (y < 0))) == true)=true->((Lb.Norm (Lb.limbs x.natAbs)/\Lb.Norm (Lb.limbs y.natAbs))/\(Lb.limbs x.natAbs).length <= 1000000000/\(Lb.limbs y.natAbs).length <= 1000000000))/\(Value.bool (bif ((decide (x < 0)) == (decide (y < 0))) then ((cmpN (Lb.val (Lb.limbs x.natAbs)) (Lb.val (Lb.limbs y.natAbs))) == (0:Int)) else false)=(.bool (decide (x=y)))))=_ by kernel_rfl) ?_
 unfold szI at hp
 obtain ⟨h1,h2⟩:=hp
 refine ⟨fun _=>⟨⟨Lb.norm_limbs _,Lb.norm_limbs _⟩,by omega,by omega⟩,?_⟩
 rw [Lb.val_limbs,Lb.val_limbs]
 congr 1
 have hc:(cmpN x.natAbs y.natAbs == 0)=decide (x.natAbs=y.natAbs):=by
  rcases Nat.lt_trichotomy x.natAbs y.natAbs with h | h | h
  ·rw [cmpN_lt h,decide_eq_false (by omega)]; rfl
  ·rw [cmpN_eq h,decide_eq_true h]; rfl
  ·rw [cmpN_gt h,decide_eq_false (by omega)]; rfl
 rw [hc]
 by_cases a1:x < 0 <;> by_cases a2:y < 0 <;> simp [a1,a2] <;> omega
theorem cJsame_ok:CtrOK Tryz.prog cJsame:=.of (by kernel_rfl) (fun bs w xs vs pre r hr hA hG h hp=>by
 simp only [cJsame] at h
 split at h
 ·cases h
  exact ctr_calls mixed LT_ok RT1_ok Tryz.func41 (by kernel_rfl) hr hA hG rfl rfl (cJsame_owes _ _ hp)
 ·cases h) (fun xs α pre φ r=>by simp only [cJsame]; split <;> (intro h; cases h))
def RT3:List Ctr:=RT2 ++ [cJshort,cJsame]
theorem RT3_ok:∀ c ∈ RT3,CtrOK Tryz.prog c:=ok_app RT2_ok (by
 intro c hc
 simp only [List.mem_cons,List.not_mem_nil,or_false] at hc
 rcases hc with rfl | rfl
 ·exact cJshort_ok
 ·exact cJsame_ok)
def cJvalid:Ctr:=⟨40,fun | [.g [.I (z)]]=>.yes (szI z <= 10000000) (.k (.c (.v (.bool (true))))) | _=>.no⟩
theorem cJvalid_owes (z:Int) (hp:szI z <= 10000000):owes LT RT3 [.inv 2 (Nat) (fun ξ=>⟨[.u,.k (.c (.bx 0 0)),.u,.k (.c (.v (.int .i64 ((ξ:Int))))),.u,.u,.u,.u,.u,.u,.u,.u,.u,.u,.u,.u,.u,.u,.u,.u,.u,.u,.u,.u,.u,.u,.u,.u,.u,.u,.u,.u,.u,.u,.u,.u],[⟨30,[.I (z)]⟩]⟩) (fun _ ξ=>(ξ <= (Lb.limbs z.natAbs).length)) (fun ξ=>(Lb.limbs z.natAbs).length - ξ)] Tryz.f40 (Tryz.f40.body.getD .skip) [.g [.I (z)]] (.k (.c (.v (.bool (true))))):=by
 refine Eq.mp (show ((∃ x1:Nat,((x1 <= (Lb.limbs z.natAbs).length)/\((True/\((Value.int .i64 (0:Int)=(.int .i64 (x1:Int)))/\True))/\(((z=z)/\True)/\True))))/\(∀ x1:Nat,((x1 <= (Lb.limbs z.natAbs).length)->(((decide ((x1:Int) < ((Lb.limbs z.natAbs).length:Int)))=true->((0 <= (x1:Int)/\(x1:Int) < ((Lb.limbs z.natAbs).length:Int))/\(((decide ((((Lb.limbs z.natAbs).getD (x1:Int).toNat 0:Nat):Int) >= (1000000000:Int)))=true->(Value.bool false=(.bool true)))/\((decide ((((Lb.limbs z.natAbs).getD (x1:Int).toNat 0:Nat):Int) >= (1000000000:Int)))=false->((inR .i64 ((x1:Int)+(1:Int)))/\(∃ y1:Nat,((y1 <= (Lb.limbs z.natAbs).length)/\(((Lb.limbs z.natAbs).length - y1 < (Lb.limbs z.natAbs).length - x1)/\((True/\((Value.int .i64 ((x1:Int)+(1:Int))=(.int .i64 (y1:Int)))/\True))/\(((z=z)/\True)/\True))))))))))/\((decide ((x1:Int) < ((Lb.limbs z.natAbs).length:Int)))=false->(((Lb.limbs z.natAbs).length <= 1000000000)/\(Value.bool (bif (((Lb.trim (Lb.limbs z.natAbs)).length:Int) == ((Lb.limbs z.natAbs).length:Int)) then (bif (!(decide (z < 0))) then true else (decide (((Lb.limbs z.natAbs).length:Int) > (0:Int)))) else false)=(.bool true))))))))=_ by kernel_rfl) ?_
 unfold szI at hp
 have hN:=Lb.norm_limbs z.natAbs
 have hT:Lb.trim (Lb.limbs z.natAbs)=Lb.limbs z.natAbs:=by rw [Lb.trim_eq hN.1,Lb.val_limbs]
 have hz:z < 0->0 < (Lb.limbs z.natAbs).length:=fun h=>by
  rw [Lb.limbs_pos (by omega)]
  simp
 rw [hT]
 generalize Lb.limbs z.natAbs=l at *
 refine ⟨⟨0,Nat.zero_le _,by simp,by simp,trivial⟩,fun k hk=>⟨fun h=>?_,fun h=>?_⟩⟩
 ·have hkl:k < l.length:=by simpa using h
  have hx:=Lb.lt_get hN.1 k hkl
  rw [Lb.B_eq] at hx
  have ea:l.getD k 0=l[k]:=by simp [List.getD_eq_getElem?_getD,hkl]
  simp only [Int.toNat_natCast,ea]
  refine ⟨⟨by omega,by omega⟩,fun c=>?_,fun _=>⟨by simp only [inR]; omega,k+1,hkl,by omega,by simp,by simp,trivial⟩⟩
  have:=of_decide_eq_true c
  omega
 ·refine ⟨by omega,?_⟩
  by_cases h1:z < 0
  ·have:=hz h1
   simp [h1]
   exact this
  ·simp [h1]
theorem cJvalid_ok:CtrOK Tryz.prog cJvalid:=.of (by kernel_rfl) (fun bs w xs vs pre r hr hA hG h hp=>by
 simp only [cJvalid] at h
 split at h
 ·cases h
  exact ctr_calls mixed LT_ok RT3_ok Tryz.func40 (by kernel_rfl) hr hA hG rfl rfl (cJvalid_owes _ hp)
 ·cases h) (fun xs α pre φ r=>by simp only [cJvalid]; split <;> (intro h; cases h))
def RT4:List Ctr:=RT3 ++ [cJvalid]
theorem RT4_ok:∀ c ∈ RT4,CtrOK Tryz.prog c:=ok_app RT3_ok (by
 intro c hc
 simp only [List.mem_cons,List.not_mem_nil,or_false] at hc
 rcases hc with rfl
 ·exact cJvalid_ok)
end Vc
end Go.Proofs.YtkdjilgddbjcaaaGreat
namespace Go.Proofs.YtkdjilgddbjcaaaGreat
open Go.RowKit
set_option maxRecDepth 8000
def LimbsAt (u n:Nat) (o:List Nat):Prop:=Lb.limbs u=o ++ Lb.limbs n/\n <= u
theorem limbsAt_step {u n:Nat} {o:List Nat} (h:LimbsAt u n o) (hn:0 < n):LimbsAt u (n / 1000000000) (o ++ [n % 1000000000]):=by
 obtain ⟨h1,h2⟩:=h
 rw [Lb.limbs_pos (n:=n) (by omega)] at h1
 rw [Lb.B_eq] at h1
 exact ⟨by rw [h1]; simp,by omega⟩
theorem limbsAt_len {u n:Nat} {o:List Nat} (h:LimbsAt u n o) (hu:u < 18446744073709551616):o.length <= 3:=by
 have h1:=congrArg List.length h.1
 have h2:=Lb.limbs_length (n:=u) (k:=3) (by
  have:Lb.B ^ 3=1000000000000000000000000000:=rfl
  omega)
 rw [List.length_append] at h1
 omega
set_option maxHeartbeats 4000000 in
theorem limbs_any (u:Nat) (w:World) (hu:u < 18446744073709551616) :
    Calls Tryz.prog 79 #[.int .u64 (u:Int)] w (RetU w (Lb.limbs u)):=by
 go_enter Tryz.func79,Tryz.ntmps79
 go_wp2_with fail
 go_loopw [0,3] (fun i out wr=>∃ (n:Nat) (o:List Nat),i=.int .u64 n/\Hid (LimbsAt u n o)/\Hid (OwnG w.heap.size 98 1 uC wr out o)/\Hid (Ext w wr)) (fun i _ _=>(intOf i).toNat)
 case atStart=>exact ⟨u,[],rfl,Lib.hid ⟨by simp,Nat.le_refl _⟩,Lib.hid (OwnG.nil _ _ _),Lib.hid (Ext.refl w)⟩
 case round =>
  obtain ⟨n,o,rfl,HL,HO,HE⟩:=hrel
  have HN:=Lib.hid (limbsAt_len HL.out hu)
  by_cases hn:0 < n
  ·have hq:decide ((n:Int) > 0)=true:=by simp; omega
   have HL2:=Lib.hid (limbsAt_step HL.out hn)
   obtain ⟨X,hX,hAX,heX,hzX⟩:=arr_alloc wr [n % 1000000000]
   have HSX:=Lib.hid (hAX.all (n:=1) (cap:=1) rfl (Nat.le_refl _)); have HOX:=Lib.hid (HO.out.later heX); have HEX:=Lib.hid (HE.out.trans heX)
   have HBX:Hid (w.heap.size <= X.heap.size):=Lib.hid HEX.out.size
   have HM:Hid (o.length+[n % 1000000000].length <= maxLen):=Lib.hid (by have:=HN.out; unfold maxLen; simp; omega)
   have HB:Hid ((o.length+[n % 1000000000].length)*4 <= 140737488355328):=Lib.hid (by have:=HN.out; simp; omega)
   have e1:(n:Int) % 1000000000 < 1000000000:=by omega
   have e2:0 <= (n:Int) % 1000000000:=by omega
   have e3:0 <= (n:Int) / 1000000000:=by omega
   have e4:((1000000000:Nat):Int)=1000000000:=rfl
   have hnu:n <= u:=HL.out.2
   simp only [List.map_cons,List.map_nil,uV,Int.natCast_emod,e4] at hX
   clear hAX heX hzX HL HO HE HN e4
   go_wp2_with ((at_builtin; refine appG_at rfl _ _ rfl Tryz.underlying28 Tryz.info_u32 rfl (by decide) uC_len uC_one w.heap.size _ _ o [n % 1000000000] rfl rfl HOX.out HSX.out HM.out HB.out HBX.out ?_; intro v6 w6 own6 hg6 hloc6))
   have E6:Ext w w6:=HEX.out.grown hg6 (fun i hi=>(HOX.out.base hi).1)
   go_roundw
   case rel=>exact ⟨n / 1000000000,o ++ [n % 1000000000],by go_num,HL2,Lib.hid own6,Lib.hid E6⟩
   case measure=>simp [intOf]; omega
  ·obtain rfl:n=0:=by omega
   have hl:=HL.out.1
   rw [Lb.limbs_zero,List.append_nil] at hl
   have HS:=Lib.hid (HO.out.sl uC_len)
   rw [<- hl] at HS
   obtain ⟨a,c,rfl⟩:=SlU.form HS.out
   go_wp2_with fail
   go_ret
   exact ⟨_,_,_,rfl,HS.out,HE.out⟩
theorem rsigned_any (b:Bool) (s:Value) (l:List Nat) (w:World) (hs:SlU w s l) (hl:Lb.Lt l) (hn:l.length <= 1000000000) :
    Calls Tryz.prog 73 #[.bool b,s] w (RetI w (sgn b (Lb.val l))):=by
 refine (Vc.cJsigned_ok.yes ⟨w.heap.size,[],[],[]⟩ w [.c (.v (.bool b)),.c (.sl l)] [.bool b,s] _ _ ⟨⟨rfl,rfl⟩,⟨hs,Vc.Away.none rfl rfl _ _⟩,trivial⟩ rfl rfl rfl ⟨hl,hn⟩).mono ?_
 rintro e w' ⟨v,rfl,hx,hv⟩
 obtain ⟨b',s',rfl,hi⟩:=(Vc.relK_I rfl rfl).1 hv
 obtain ⟨a,c,rfl⟩:=SlU.form hi.2
 exact ⟨b',a,_,c,rfl,hi,hx⟩
set_option maxHeartbeats 4000000 in
theorem rfromInt_any (n:Int) (w:World) (h0:-9223372036854775808 <= n) (h1:n <= 9223372036854775807) :
    Calls Tryz.prog 58 #[.int .i64 n] w (RetI w n):=by
 obtain ⟨W,hW,hb,hE,hz⟩:=row_alloc w #[.bool false,.slice none 0 0] 30
 have HB:=Lib.hid hb; have HZ:=Lib.hid hz
 clear hb hz
 have hlen:∀ u:Nat,u < 18446744073709551616->(Lb.limbs u).length <= 1000000000:=fun u hu=>by
  have h2:=Lb.limbs_length (n:=u) (k:=3) (by
   have:Lb.B ^ 3=1000000000000000000000000000:=rfl
   omega)
  omega
 by_cases hneg:n < 0
 ·obtain ⟨u,rfl⟩:∃ u:Nat,n=-(u:Int):=⟨n.natAbs,by omega⟩
  have hu:u < 18446744073709551616:=by omega
  have hwr:IntKind.u64.wrap (-IntKind.u64.wrap (-(u:Int)))=(u:Int):=by rw [IntKind.wrap_u64,IntKind.wrap_u64]; omega
  have hsg:sgn true u=-(u:Int):=rfl
  have hup:0 < u:=by omega
  go_enter Tryz.func58,Tryz.ntmps58
  go_wp2_with fail
  refine (limbs_any u _ hu).mono ?_
  rintro e w2 ⟨a,m,c,rfl,hs,hx⟩
  go_wp2_with fail
  refine (rsigned_any true _ _ w2 hs (Lb.norm_limbs u).1 (hlen u hu)).mono ?_
  rintro e w3 ⟨b3,a3,m3,c3,rfl,hs3,hx3⟩
  rw [Lb.val_limbs,hsg] at hs3
  have HK:=Lib.hid (heap_keep HB.out (hx.trans hx3))
  obtain ⟨r0,r1,r2,r3⟩:=res_facts HK.out
  go_wp2_with fail
  exact bodyPost_ret (v:=.agg #[.bool b3,.slice a3 m3 c3]) (by simp [results,Tryz.results58,go_sem,r0,r1]) rfl (fin_int ((hE.trans hx).trans hx3) (Nat.le_refl _) HK.out hs3)
 ·obtain ⟨u,rfl⟩:∃ u:Nat,n=(u:Int):=⟨n.natAbs,by omega⟩
  have hu:u < 18446744073709551616:=by omega
  have hsg:sgn false u=(u:Int):=rfl
  go_enter Tryz.func58,Tryz.ntmps58
  go_wp2_with fail
  refine (limbs_any u _ hu).mono ?_
  rintro e w2 ⟨a,m,c,rfl,hs,hx⟩
  go_wp2_with fail
  refine (rsigned_any false _ _ w2 hs (Lb.norm_limbs u).1 (hlen u hu)).mono ?_
  rintro e w3 ⟨b3,a3,m3,c3,rfl,hs3,hx3⟩
  rw [Lb.val_limbs,hsg] at hs3
  have HK:=Lib.hid (heap_keep HB.out (hx.trans hx3))
  obtain ⟨r0,r1,r2,r3⟩:=res_facts HK.out
  go_wp2_with fail
  exact bodyPost_ret (v:=.agg #[.bool b3,.slice a3 m3 c3]) (by simp [results,Tryz.results58,go_sem,r0,r1]) rfl (fin_int ((hE.trans hx).trans hx3) (Nat.le_refl _) HK.out hs3)
end Go.Proofs.YtkdjilgddbjcaaaGreat
