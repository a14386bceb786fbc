import Derived.Test.YtkdjilgddbjcaaaGreatR16
namespace Go.Proofs.YtkdjilgddbjcaaaGreat
open Go.RowKit
set_option maxRecDepth 8000
set_option maxHeartbeats 16000000 in
theorem rparts_b (v1 v2:Value) (a b:List Nat) (w:World) (h1:SlU w v1 a) (h2:SlU w v2 b) (k1:Lb.Lt a) (k2:Lb.Norm b) (n1:a.length <= 90000000) (n2:b.length <= 90000000) (hb0:b ≠ []) (hyp:a.length <= 2/\2 < b.length) :
    Calls Tryz.prog 77 #[v1,v2] w (RetUU w (Lb.limbs (Lb.val a / Lb.val b)) (Lb.limbs (Lb.val a % Lb.val b))):=by
 obtain ⟨p1,q1,rfl⟩:=h1.form
 obtain ⟨p2,q2,rfl⟩:=h2.form
 have hq1:decide ((a.length:Int) <= 2)=true:=by simp; omega
 have hq2:decide ((b.length:Int) <= 2)=false:=by simp; omega
 have H1:=Lib.hid h1; have H2:=Lib.hid h2; have HK1:=Lib.hid k1; have HK2:=Lib.hid k2
 obtain ⟨n,hn⟩:∃ n,b.length=n+1:=⟨b.length - 1,by have:=List.length_pos_iff.2 hb0; omega⟩
 have hnb:n < b.length:=by omega
 obtain ⟨y,hy⟩:∃ y,b[n]?=some y:=⟨b[n],by simp [hnb]⟩
 obtain ⟨hy0,hyB,hs0,hsB,hsV,hsG⟩:=Lb.scale_parts k2 hn hy
 obtain ⟨bb,bo,bc,hbe,hbb,hcell⟩:=getD_cell h2 n hnb
 have hbn:b[n]=y:=by simpa [hnb] using hy
 rw [hbn] at hcell
 cases hbe
 clear hbn
 rw [Lb.B_eq] at hyB hs0 hsB hsV hsG
 have hsd:(1000000000:Int) / ((y:Int)+1)=((1000000000 / (y+1):Nat):Int):=by simp
 have hy1:(((y:Int)+1) == 0)=false:=by simp; omega
 have hy2:¬ ((y:Int)+1=0):=by omega
 have hb90:b.length <= 90000000:=n2
 have hHM:Hid (b.length=n+1):=Lib.hid hn
 have HDIV:Hid (Lb.val a*(1000000000 / (y+1)) < Lb.B ^ (a.length+1)):=Lib.hid (by
  have h:=Lb.val_lt k1
  have h2:Lb.val a*(1000000000 / (y+1)) < Lb.B ^ a.length*Lb.B:=Nat.mul_lt_mul_of_lt_of_le h (by rw [Lb.B_eq]; omega) (by rw [Lb.B_eq]; omega)
  rwa [<- Nat.pow_succ] at h2)
 generalize hsc:1000000000 / (y+1)=s at *
 generalize hnn:b.length=nb at *
 have E1:(nb:Int) - 1=(n:Int):=by omega
 have HSV:Hid (Lb.val b*s < Lb.B ^ (n+1)):=Lib.hid (by rw [Lb.B_eq]; exact hsV)
 have HSG:Hid (Lb.B ^ n <= Lb.val b*s):=Lib.hid (by rw [Lb.B_eq]; exact hsG)
 have HCL:=Lib.hid hcell; have HNN:=Lib.hid hnn; have HNB:=Lib.hid hb90
 have hnlt:n < nb:=by omega
 clear h1 h2 k1 k2 hb0 hn hnb hy hsV hsG hsc hnn hHM n2
 go_enter Tryz.func77,Tryz.ntmps77
 go_wp2_with fail
 refine (rby_any _ b s w H2.out HK2.out.1 (by have:=HNN.out; omega) (by omega)).mono ?_
 rintro e w1 ⟨av,nv,cv,rfl,sv,x1,-⟩
 have hVl:(Lb.limbs (Lb.val b*s)).length=n+1:=Lb.len_of_bounds HSV.out HSG.out
 obtain ⟨T,hT⟩:∃ T,(Lb.limbs (Lb.val b*s))[n]?=some T:=⟨(Lb.limbs (Lb.val b*s))[n]'(by omega),by simp [hVl]⟩
 have hTn:(Lb.limbs (Lb.val b*s))[n]'(by omega)=T:=by have h:n < (Lb.limbs (Lb.val b*s)).length:=by omega
                                                      simpa [h] using hT
 have hT0:0 < T:=by rw [<- hTn]; exact Lb.top_pos hVl (by omega)
 have hTB:T < 1000000000:=by rw [<- hTn]; exact Lb.lt_get (Lb.norm_limbs _).1 n (by omega)
 have hTV:T*Lb.B ^ n <= Lb.val b*s:=by
  have:=Lb.top_le (l:=Lb.limbs (Lb.val b*s)) (n:=n) (by omega)
  rwa [hTn,Lb.val_limbs] at this
 obtain ⟨gv,ov,cv',hve,hgv,hvc⟩:=getD_cell sv n (by omega)
 rw [hTn] at hvc
 cases hve
 have HSVV:=Lib.hid sv; have HTV:=Lib.hid hTV; have HX1:=Lib.hid x1
 rw [hVl] at *
 have HVL:=Lib.hid (Lb.len_of_bounds HSV.out HSG.out)
 have hV0:0 < Lb.val b*s:=by have:=HSG.out; have:=Nat.pow_pos (n:=n) Lb.B_pos; omega
 have HV0:=Lib.hid hV0
 have E2:((n+1:Nat):Int) - 1=(n:Int):=by omega
 have E2':((n:Int)+1) - 1=(n:Int):=by omega
 have hmk:=make_run (a.length+1) (by omega)
 rw [Int.natCast_add] at hmk
 have e1:((1:Nat):Int)=1:=rfl
 rw [e1] at hmk
 obtain ⟨W,hW,hA,hE,hz⟩:=zeros_alloc w1 (a.length+1)
 have HA0:=Lib.hid hA; have HE0:=Lib.hid (HX1.out.trans hE); have HE1:=Lib.hid hE
 have HUB:=Lib.hid (rby_any _ a s W (H1.out.later HE0.out) HK1.out (by omega) (by omega))
 have HGV:Hid (gv < w1.heap.size):=Lib.hid hgv
 clear e1 hA hE hz hT hTn hTV sv x1 hV0 hcell HCL hVl
 go_wp2_with fail
 refine HUB.out.mono ?_
 rintro e w4 ⟨au,L,cu,rfl,su,x4,hbu⟩
 clear hW hmk
 have hL:=SlU.form' su
 obtain ⟨au',L',cu',hue,hLe⟩:=hL
 cases hue
 have hL1:L <= a.length+1:=by rw [hLe]; exact Lb.limbs_length HDIV.out
 have HUS:=Lib.hid su; have HLE:=Lib.hid hLe; have HBU:=Lib.hid hbu
 have HUV:=Lib.hid (Lb.val_limbs (Lb.val a*s)); have HUN:=Lib.hid (Lb.norm_limbs (Lb.val a*s)).1
 have HV4:Hid (SlU w4 (.slice (some ⟨gv,ov,none⟩) (n+1) cv) (Lb.limbs (Lb.val b*s))):=Lib.hid (HSVV.out.later (HE1.out.trans x4))
 have HA4:=Lib.hid (HA0.out.ext x4)
 have HE4:=Lib.hid (HE0.out.trans x4)
 have HGW:Hid (w.heap.size <= w1.heap.size/\w1.heap.size < w4.heap.size/\w1.heap.size < W.heap.size):=Lib.hid ⟨HX1.out.size,HA4.out.lt,HA0.out.lt⟩
 generalize hUU:Lb.limbs (Lb.val a*s)=U at *
 generalize hgg:w1.heap.size=g at *
 have HGG:=Lib.hid hgg; have HUE:=Lib.hid hUU
 have hTn:¬ ((T:Int)=0):=by omega
 have hTz:((T:Int) == 0)=false:=by simp; omega
 have HVN:=Lib.hid (Lb.norm_limbs (Lb.val b*s))
 have HP0:=Lib.hid (Lb.partsAt_start (U:=U) HV0.out)
 have HZ0:Hid (ArrU w4 g (List.replicate L 0 ++ ([] ++ List.replicate (a.length+1 - L) 0))):=Lib.hid (by
  have:=HA4.out
  have e:a.length+1=L+(a.length+1 - L):=by omega
  rw [e,<- List.replicate_append_replicate] at this
  rw [List.nil_append]
  exact this)
 rw [<- HLE.out] at HP0
 have hrest0:SlU w4 (.slice none 0 0) (Lb.limbs 0):=by rw [Lb.limbs_zero]; exact SlU.nil _
 have HR0:=Lib.hid hrest0
 have hL90:L <= 90000001:=by omega
 have HNE0:Hid ((Value.slice none 0 0).ownBlock ≠ some g):=Lib.hid (by intro e; cases e)
 clear su x4 hLe hbu hUU hgg HA0 HA4 HUB hrest0 HX1 HE0 HE1 HSVV HDIV HUE
 go_wp2_with fail
 go_loopw [11,14] (fun rest i wr=>∃ (k:Nat) (j:Int) (Q:List Nat) (R:Nat),i=.int .i64 j/\j=(k:Int) - 1/\k <= L/\Hid (Lb.PartsAt U (Lb.val b*s) k Q R)/\Hid (SlU wr rest (Lb.limbs R))/\Hid (rest.ownBlock ≠ some g)/\Hid (ArrU wr g (List.replicate k 0 ++ (Q ++ List.replicate (a.length+1 - L) 0)))/\Hid (But g w4 wr)) (fun _ i _=>(intOf i+1).toNat)
 case atStart=>exact ⟨L,_,[],0,rfl,by omega,Nat.le_refl _,HP0,HR0,HNE0,HZ0,Lib.hid (But.refl _ _)⟩
 case round =>
  clear HP0 HR0 HNE0 HZ0
  obtain ⟨k,j,Q,R,rfl,hj,hk,HP,HR,HNE,HA,HB⟩:=hrel
  have HEW:Hid (Ext w wr):=Lib.hid (But.ext HE4.out HB.out HGW.out.1)
  by_cases hk0:0 < k
  ·obtain ⟨m,rfl⟩:∃ m,k=m+1:=⟨k - 1,by omega⟩
   obtain rfl:j=(m:Int):=by omega
   clear hj hk0
   have hmL:m < L:=by omega
   have hmU:m < U.length:=by rw [<- HLE.out]; exact hmL
   have HST:=Lib.hid (Lb.partsAt_step HUN.out HP.out hmU)
   have hx:U[m] < 1000000000:=Lb.lt_get HUN.out m hmU
   have HNU:Hid ((Value.slice au L cu).ownBlock ≠ some g):=Lib.hid (fun e=>by have:=HBU.out g e; have:=HGW.out; omega)
   have HNV:Hid ((Value.slice (some ⟨gv,ov,none⟩) (n+1) cv).ownBlock ≠ some g):=Lib.hid (fun e=>by have e':gv=g:=Option.some.inj e; have:=HGV.out; omega)
   have HSU:=Lib.hid (HUS.out.but HB.out HNU.out)
   have HSV1:=Lib.hid (HV4.out.but HB.out HNV.out)
   obtain ⟨gu,ou,cu',hue,hgu,hcu⟩:=getD_cell HSU.out m hmU
   cases hue
   generalize U[m]=x at *
   obtain ⟨X,hX,hAX,heX,hzX⟩:=arr_alloc wr [x]
   have HOX:=Lib.hid (arr_own (B:=wr.heap.size) hAX (Nat.le_refl _) (by unfold maxLen; simp))
   have HRX:=Lib.hid (HR.out.later heX); have HEX:=Lib.hid heX
   have HRB:Hid (R < Lb.val b*s/\(Lb.limbs R).length <= n+1):=Lib.hid ⟨HP.out.rlt,Lb.limbs_length (Nat.lt_trans HP.out.rlt HSV.out)⟩
   have HM:Hid ([x].length+(Lb.limbs R).length <= maxLen):=Lib.hid (by have:=HRB.out.2; unfold maxLen; simp; omega)
   have HN:Hid (([x].length+(Lb.limbs R).length)*4 <= 140737488355328):=Lib.hid (by have:=HRB.out.2; simp; omega)
   have HBX:Hid (wr.heap.size <= X.heap.size):=Lib.hid heX.size
   have HGR:Hid (g < wr.heap.size):=Lib.hid HA.out.lt
   have HTR:Hid (Lb.trim ([x] ++ Lb.limbs R)=Lb.limbs (x+Lb.B*R)/\([x] ++ Lb.limbs R).length <= 1000000000):=Lib.hid ⟨by
    rw [Lb.trim_eq (Lb.lt_append (Lb.lt_cons hx Lb.lt_nil) (Lb.norm_limbs R).1)]
    simp [Lb.val,Lb.val_limbs],by have:=HRB.out.2; simp; omega⟩
   simp only [List.map_cons,List.map_nil,uV] at hX
   clear hAX heX hzX hmU
   go_wp2_with ((at_builtin; refine appG_at rfl _ _ rfl Tryz.underlying28 Tryz.info_u32 rfl (by decide) uC_len uC_one wr.heap.size _ _ [x] (Lb.limbs R) rfl rfl HOX.out HRX.out HM.out HN.out HBX.out ?_; intro v6 w6 own6 hg6 hloc6))
   have x6:Ext wr w6:=HEX.out.grown hg6 (fun i hi=>by cases hi; exact Nat.le_refl _)
   have hb6:∀ b,v6.ownBlock=some b->wr.heap.size <= b:=fun b hb=>(own6.base hb).1
   refine (rtrim_blk v6 _ w6 (own6.sl uC_len) HTR.out.2).mono ?_
   rintro e w7 ⟨v7,rfl,s7,hb7,rfl⟩
   rw [HTR.out.1] at s7
   have HN7:Hid (v7.ownBlock ≠ some g):=Lib.hid (fun e=>by rw [hb7] at e; have:=hb6 g e; have:=HGR.out; omega)
   obtain ⟨a7,n7,c7,rfl,hn7⟩:=s7.form'
   have HX6:=Lib.hid x6; have HS7:=Lib.hid s7
   have HR1:Hid (x+Lb.B*R < Lb.B*(Lb.val b*s)):=Lib.hid (by
    have h:Lb.B*(R+1) <= Lb.B*(Lb.val b*s):=Nat.mul_le_mul_left _ HRB.out.1
    rw [Nat.mul_succ,Lb.B_eq] at *
    omega)
   have hn72:n7 <= n+2:=by
    rw [hn7]
    refine Lb.limbs_length ?_
    have h1:=HR1.out
    have h2:Lb.B*(Lb.val b*s) <= Lb.B*Lb.B ^ (n+1):=Nat.mul_le_mul_left _ (Nat.le_of_lt HSV.out)
    rw [Nat.pow_succ Lb.B (n+1),Nat.mul_comm _ Lb.B]
    omega
   have HQ1:Hid ((x+Lb.B*R) / (Lb.val b*s) < 1000000000):=Lib.hid HST.out.1
   have HP2:=Lib.hid HST.out.2
   generalize x+Lb.B*R=R1 at *
   have HHS:=Lib.hid (Lb.high_spec (l:=Lb.limbs R1) (n:=n) (Lb.norm_limbs R1).1 (by rw [<- hn7]; exact hn72))
   have HES:=Lib.hid (Lb.est_ge (R:=R1) HTV.out hT0 (Nat.pow_pos Lb.B_pos))
   rw [Lb.val_limbs] at HHS
   have HL7:=Lib.hid hn7; have HV6:=Lib.hid (HSV1.out.later x6); have HA6:=Lib.hid (HA.out.ext x6)
   clear hcu hX hn7 x6 s7 hb6 hb7 own6 hg6 hloc6 HOX HRX HEX HM HN HBX HTR HR HNE HSU HSV1 HST
   by_cases hc1:n+1 < n7
   ·have hq3:decide ((n7:Int) > (n:Int)+1)=true:=by simp; omega
    have hq4:decide ((n7:Int) >= (n:Int)+1)=true:=by simp; omega
    obtain ⟨g7,o7,c7',he7,hg7,hc71⟩:=getD_cell HS7.out (n+1) (by rw [<- HL7.out]; exact hc1)
    cases he7
    obtain ⟨g8,o8,c8',he8,hg8,hc70⟩:=getD_cell HS7.out n (by rw [<- HL7.out]; omega)
    cases he8
    have HH:=HHS.out
    rw [dif_pos (by rw [<- HL7.out]; exact hc1),dif_pos (by rw [<- HL7.out]; omega)] at HH
    have hy1:(Lb.limbs R1)[n+1]'(by rw [<- HL7.out]; exact hc1) < 1000000000:=Lb.lt_get (Lb.norm_limbs R1).1 _ _
    have hy0:(Lb.limbs R1)[n]'(by rw [<- HL7.out]; omega) < 1000000000:=Lb.lt_get (Lb.norm_limbs R1).1 _ _
    generalize (Lb.limbs R1)[n+1]'(by rw [<- HL7.out]; exact hc1)=ya at *
    generalize (Lb.limbs R1)[n]'(by rw [<- HL7.out]; omega)=yb at *
    clear hg7 hg8
    have HHH:Hid (ya*1000000000+yb=R1 / Lb.B ^ n):=Lib.hid (by have h:=HH; rw [Lb.B_eq] at h ⊢; omega)
    have e5:0 <= ((ya:Int)*1000000000+yb) / (T:Int):=Int.ediv_nonneg (by omega) (by omega)
    have e6:((ya:Int)*1000000000+yb) / (T:Int) < 1000000001000000000:=Int.lt_of_le_of_lt (Int.ediv_le_self _ (by omega)) (by omega)
    have E7:Hid (((ya:Int)*1000000000+yb) / (T:Int)=(((ya*1000000000+yb) / T:Nat):Int)):=Lib.hid (by simp)
    have hw:IntKind.u64.wrap (((ya:Int)*1000000000+yb) / (T:Int))=((ya:Int)*1000000000+yb) / (T:Int):=by rw [IntKind.wrap_u64]; exact Int.emod_eq_of_lt e5 (by omega)
    have HE5:=Lib.hid e5
    clear HHS HH e5 e6
    by_cases hbig:(ya*1000000000+yb) / T > 999999999
    ·have hq5:decide (((ya:Int)*1000000000+yb) / (T:Int) > 999999999)=true:=by rw [E7.out]; simp only [decide_eq_true_eq]; omega
     clear hbig
     as_aux_lemma =>
      have hDD:999999999 < 1000000000:=by omega
      have hQD:R1 / (Lb.val b*s) <= 999999999:=by have:=HQ1.out; omega
      have HEQ:Hid ((999999999:Int)=((999999999:Nat):Int)):=Lib.hid (rfl)
      have HBY:Hid (Calls Tryz.prog 123 #[.slice (some ⟨gv,ov,none⟩) (n+1) cv,.int .u32 (999999999)] w6 (RetF w6 (Lb.limbs (Lb.val b*s*(999999999))))):=Lib.hid (by
       rw [HEQ.out]
       have h:=rby_any _ _ (999999999) w6 HV6.out HVN.out.1 (by rw [HVL.out]; omega) hDD
       rwa [Lb.val_limbs] at h)
      have HDD:=Lib.hid hDD; have HQD:=Lib.hid hQD
      clear hDD hQD
      obtain ⟨wo,rfl⟩:∃ wo:World,wo=wr:=⟨_,rfl⟩
      go_wp2_with fail
      refine HBY.out.mono ?_
      rintro e w8 ⟨a8,n8,c8,rfl,s8,x8,-⟩
      clear HBY
      go_wp2_with fail
      go_loopw [16,17] (fun dv pv wr=>∃ (d:Nat),dv=.int .u64 (d:Int)/\d < 1000000000/\Hid (R1 / (Lb.val b*s) <= d)/\Hid (SlU wr pv (Lb.limbs (Lb.val b*s*d)))/\Hid (Ext w6 wr)) (fun dv _ _=>(intOf dv).toNat)
      case atStart=>exact ⟨999999999,by rw [HEQ.out],HDD.out,HQD,Lib.hid s8,Lib.hid x8⟩
      case round =>
       clear HEQ HDD HQD s8 x8
       obtain ⟨d,rfl,hd,HQD,HPR,HXI⟩:=hrel
       obtain ⟨pa,pn,pc,rfl,hpn⟩:=HPR.out.form'
       have HPL:Hid ((Lb.limbs (Lb.val b*s*d)).length <= n+2/\(Lb.limbs R1).length <= n+2):=Lib.hid ⟨Lb.limbs_length (by
        have h1:=HSV.out
        rw [Nat.pow_succ]
        exact Nat.mul_lt_mul_of_lt_of_le h1 (by rw [Lb.B_eq]; omega) (by rw [Lb.B_eq]; omega)),by first | exact hn72 | (rw [<- HL7.out]; exact hn72)⟩
       have HC:=Lib.hid (rcmp_any _ _ _ _ wr HPR.out (HS7.out.later HXI.out) (Lb.norm_limbs _) (Lb.norm_limbs _) (by have:=HPL.out; omega) (by have:=HPL.out; omega))
       rw [Lb.val_limbs,Lb.val_limbs] at HC
       clear hpn
       by_cases hgt:R1 < Lb.val b*s*d
       ·have hq6:decide (cmpN (Lb.val b*s*d) R1 > 0)=true:=by rw [cmpN_gt hgt]; rfl
        have hd0:0 < d:=by
         rcases Nat.eq_zero_or_pos d with h | h
         ·subst h; simp at hgt
         ·exact h
        have HD1:Hid (R1 / (Lb.val b*s) <= d - 1):=Lib.hid (by
         have h:=(Nat.div_lt_iff_lt_mul HV0.out).2 (by rw [Nat.mul_comm]; exact hgt)
         omega)
        have HLE2:Hid (Lb.val b*s <= Lb.val b*s*d):=Lib.hid (by
         have:=Nat.mul_le_mul_left (Lb.val b*s) hd0
         rwa [Nat.mul_one] at this)
        have HSUB:Hid (Lb.val b*s*d - Lb.val b*s=Lb.val b*s*(d - 1)):=Lib.hid (by rw [Nat.mul_sub,Nat.mul_one])
        have e9:((d - 1:Nat):Int)=(d:Int) - 1:=by omega
        have E9:=Lib.hid e9
        clear hgt e9
        generalize cmpN (Lb.val b*s*d) R1=cmp at *
        go_wp2_with fail
        refine HC.out.mono ?_
        rintro e w9 ⟨rfl,x9⟩
        have HMI:=Lib.hid (rminus_any _ _ _ _ w9 (HPR.out.later x9) (HV6.out.later (HXI.out.trans x9)) (Lb.norm_limbs _).1 HVN.out.1 (by have:=HPL.out; omega) (Lb.limbs_mono HLE2.out) (by rw [Lb.val_limbs,Lb.val_limbs]; exact HLE2.out))
        rw [Lb.val_limbs,Lb.val_limbs,HSUB.out] at HMI
        have HX9:=Lib.hid (HXI.out.trans x9)
        clear x9 HC
        go_wp2_with fail
        refine HMI.out.mono ?_
        rintro e w10 ⟨a10,n10,c10,rfl,s10,x10,-⟩
        go_wp2_with fail
        go_roundw
        case rel=>exact ⟨d - 1,by rw [E9.out],by omega,HD1,Lib.hid s10,Lib.hid (HX9.out.trans x10)⟩
        case measure=>simp [intOf]; omega
       ·have hq6:decide (cmpN (Lb.val b*s*d) R1 > 0)=false:=by
         rcases Nat.lt_or_ge (Lb.val b*s*d) R1 with h | h
         ·rw [cmpN_lt h]; rfl
         ·rw [cmpN_eq (by omega)]; rfl
        have HLE2:Hid (Lb.val b*s*d <= R1):=Lib.hid (by omega)
        have HDQ:Hid (d=R1 / (Lb.val b*s)):=Lib.hid (Lb.est_done HLE2.out HV0.out HQD.out)
        have HSUB:Hid (R1 - Lb.val b*s*d=R1 % (Lb.val b*s)):=Lib.hid (by
         have h:=Nat.div_add_mod R1 (Lb.val b*s)
         rw [<- HDQ.out] at h
         omega)
        clear hgt
        generalize cmpN (Lb.val b*s*d) R1=cmp at *
        go_wp2_with fail
        refine HC.out.mono ?_
        rintro e w9 ⟨rfl,x9⟩
        have HMI:=Lib.hid (rminus_any _ _ _ _ w9 (HS7.out.later (HXI.out.trans x9)) (HPR.out.later x9) (Lb.norm_limbs _).1 (Lb.norm_limbs _).1 (by have:=HPL.out; omega) (Lb.limbs_mono HLE2.out) (by rw [Lb.val_limbs,Lb.val_limbs]; exact HLE2.out))
        rw [Lb.val_limbs,Lb.val_limbs,HSUB.out] at HMI
        have HX9:=Lib.hid (HXI.out.trans x9)
        clear x9 HC
        go_wp2_with fail
        refine HMI.out.mono ?_
        rintro e w10 ⟨a10,n10,c10,rfl,s10,x10,hb10⟩
        have HX10:=Lib.hid (HX9.out.trans x10)
        have HA10:=Lib.hid (HA6.out.ext HX10.out)
        have HB10:=Lib.hid (HB.out.later (HX6.out.trans HX10.out))
        have HNE10:Hid ((Value.slice a10 n10 c10).ownBlock ≠ some g):=Lib.hid (fun e=>by have h1:=hb10 g e; have h2:=HGR.out; have h3:=HX6.out.size; have h4:=HX9.out.size; omega)
        have hml:m < (List.replicate (m+1) 0 ++ (Q ++ List.replicate (a.length+1 - U.length) 0)).length:=by simp; omega
        have cs:=HA10.out.cell m hml
        have fs:=HA10.out.free m
        generalize ((List.replicate (m+1) 0 ++ (Q ++ List.replicate (a.length+1 - U.length) 0))[m]:Int)=old at cs
        have HAX:=Lib.hid (HA10.out.set m d)
        rw [Lb.set_zeros_front] at HAX
        have HS10:Hid (SlU (w10.setCell ⟨g,m,none⟩ (.int .u32 (d:Int))) (.slice a10 n10 c10) (Lb.limbs (R1 % (Lb.val b*s)))):=Lib.hid (s10.but ((But.refl g w10).set m _) HNE10.out)
        have HB11:=Lib.hid (HB10.out.set m (.int .u32 (d:Int)))
        clear hml s10 x10 hb10
        go_wp2_with fail
        go_roundw
        case rel=>exact ⟨m,_,d :: Q,_,rfl,rfl,by omega,by rw [HDQ.out]; exact HP2,HS10,HNE10,HAX,HB11⟩
        case measure=>simp [intOf]
    ·have hq5:decide (((ya:Int)*1000000000+yb) / (T:Int) > 999999999)=false:=by rw [E7.out]; simp only [decide_eq_false_iff_not]; omega
     have HBIG:Hid (¬ (ya*1000000000+yb) / T > 999999999):=Lib.hid hbig
     have hw3:((ya:Int)*1000000000+yb) / (T:Int) % 4294967296=((ya:Int)*1000000000+yb) / (T:Int):=Int.emod_eq_of_lt HE5.out (by rw [E7.out]; omega)
     clear hbig
     as_aux_lemma =>
      have hDD:(ya*1000000000+yb) / T < 1000000000:=by have:=HBIG.out; omega
      have hQD:R1 / (Lb.val b*s) <= (ya*1000000000+yb) / T:=by rw [HHH.out]; exact HES.out
      have HEQ:Hid ((((ya:Int)*1000000000+yb) / (T:Int):Int)=(((ya*1000000000+yb) / T:Nat):Int)):=Lib.hid (E7.out)
      have HBY:Hid (Calls Tryz.prog 123 #[.slice (some ⟨gv,ov,none⟩) (n+1) cv,.int .u32 (((ya:Int)*1000000000+yb) / (T:Int))] w6 (RetF w6 (Lb.limbs (Lb.val b*s*((ya*1000000000+yb) / T))))):=Lib.hid (by
       rw [HEQ.out]
       have h:=rby_any _ _ ((ya*1000000000+yb) / T) w6 HV6.out HVN.out.1 (by rw [HVL.out]; omega) hDD
       rwa [Lb.val_limbs] at h)
      have HDD:=Lib.hid hDD; have HQD:=Lib.hid hQD
      clear hDD hQD
      obtain ⟨wo,rfl⟩:∃ wo:World,wo=wr:=⟨_,rfl⟩
      go_wp2_with fail
      refine HBY.out.mono ?_
      rintro e w8 ⟨a8,n8,c8,rfl,s8,x8,-⟩
      clear HBY
      go_wp2_with fail
      go_loopw [16,17] (fun dv pv wr=>∃ (d:Nat),dv=.int .u64 (d:Int)/\d < 1000000000/\Hid (R1 / (Lb.val b*s) <= d)/\Hid (SlU wr pv (Lb.limbs (Lb.val b*s*d)))/\Hid (Ext w6 wr)) (fun dv _ _=>(intOf dv).toNat)
      case atStart=>exact ⟨(ya*1000000000+yb) / T,by rw [HEQ.out],HDD.out,HQD,Lib.hid s8,Lib.hid x8⟩
      case round =>
       clear HEQ HDD HQD s8 x8
       obtain ⟨d,rfl,hd,HQD,HPR,HXI⟩:=hrel
       obtain ⟨pa,pn,pc,rfl,hpn⟩:=HPR.out.form'
       have HPL:Hid ((Lb.limbs (Lb.val b*s*d)).length <= n+2/\(Lb.limbs R1).length <= n+2):=Lib.hid ⟨Lb.limbs_length (by
        have h1:=HSV.out
        rw [Nat.pow_succ]
        exact Nat.mul_lt_mul_of_lt_of_le h1 (by rw [Lb.B_eq]; omega) (by rw [Lb.B_eq]; omega)),by first | exact hn72 | (rw [<- HL7.out]; exact hn72)⟩
       have HC:=Lib.hid (rcmp_any _ _ _ _ wr HPR.out (HS7.out.later HXI.out) (Lb.norm_limbs _) (Lb.norm_limbs _) (by have:=HPL.out; omega) (by have:=HPL.out; omega))
       rw [Lb.val_limbs,Lb.val_limbs] at HC
       clear hpn
       by_cases hgt:R1 < Lb.val b*s*d
       ·have hq6:decide (cmpN (Lb.val b*s*d) R1 > 0)=true:=by rw [cmpN_gt hgt]; rfl
        have hd0:0 < d:=by
         rcases Nat.eq_zero_or_pos d with h | h
         ·subst h; simp at hgt
         ·exact h
        have HD1:Hid (R1 / (Lb.val b*s) <= d - 1):=Lib.hid (by
         have h:=(Nat.div_lt_iff_lt_mul HV0.out).2 (by rw [Nat.mul_comm]; exact hgt)
         omega)
        have HLE2:Hid (Lb.val b*s <= Lb.val b*s*d):=Lib.hid (by
         have:=Nat.mul_le_mul_left (Lb.val b*s) hd0
         rwa [Nat.mul_one] at this)
        have HSUB:Hid (Lb.val b*s*d - Lb.val b*s=Lb.val b*s*(d - 1)):=Lib.hid (by rw [Nat.mul_sub,Nat.mul_one])
        have e9:((d - 1:Nat):Int)=(d:Int) - 1:=by omega
        have E9:=Lib.hid e9
        clear hgt e9
        generalize cmpN (Lb.val b*s*d) R1=cmp at *
        go_wp2_with fail
        refine HC.out.mono ?_
        rintro e w9 ⟨rfl,x9⟩
        have HMI:=Lib.hid (rminus_any _ _ _ _ w9 (HPR.out.later x9) (HV6.out.later (HXI.out.trans x9)) (Lb.norm_limbs _).1 HVN.out.1 (by have:=HPL.out; omega) (Lb.limbs_mono HLE2.out) (by rw [Lb.val_limbs,Lb.val_limbs]; exact HLE2.out))
        rw [Lb.val_limbs,Lb.val_limbs,HSUB.out] at HMI
        have HX9:=Lib.hid (HXI.out.trans x9)
        clear x9 HC
        go_wp2_with fail
        refine HMI.out.mono ?_
        rintro e w10 ⟨a10,n10,c10,rfl,s10,x10,-⟩
        go_wp2_with fail
        go_roundw
        case rel=>exact ⟨d - 1,by rw [E9.out],by omega,HD1,Lib.hid s10,Lib.hid (HX9.out.trans x10)⟩
        case measure=>simp [intOf]; omega
       ·have hq6:decide (cmpN (Lb.val b*s*d) R1 > 0)=false:=by
         rcases Nat.lt_or_ge (Lb.val b*s*d) R1 with h | h
         ·rw [cmpN_lt h]; rfl
         ·rw [cmpN_eq (by omega)]; rfl
        have HLE2:Hid (Lb.val b*s*d <= R1):=Lib.hid (by omega)
        have HDQ:Hid (d=R1 / (Lb.val b*s)):=Lib.hid (Lb.est_done HLE2.out HV0.out HQD.out)
        have HSUB:Hid (R1 - Lb.val b*s*d=R1 % (Lb.val b*s)):=Lib.hid (by
         have h:=Nat.div_add_mod R1 (Lb.val b*s)
         rw [<- HDQ.out] at h
         omega)
        clear hgt
        generalize cmpN (Lb.val b*s*d) R1=cmp at *
        go_wp2_with fail
        refine HC.out.mono ?_
        rintro e w9 ⟨rfl,x9⟩
        have HMI:=Lib.hid (rminus_any _ _ _ _ w9 (HS7.out.later (HXI.out.trans x9)) (HPR.out.later x9) (Lb.norm_limbs _).1 (Lb.norm_limbs _).1 (by have:=HPL.out; omega) (Lb.limbs_mono HLE2.out) (by rw [Lb.val_limbs,Lb.val_limbs]; exact HLE2.out))
        rw [Lb.val_limbs,Lb.val_limbs,HSUB.out] at HMI
        have HX9:=Lib.hid (HXI.out.trans x9)
        clear x9 HC
        go_wp2_with fail
        refine HMI.out.mono ?_
        rintro e w10 ⟨a10,n10,c10,rfl,s10,x10,hb10⟩
        have HX10:=Lib.hid (HX9.out.trans x10)
        have HA10:=Lib.hid (HA6.out.ext HX10.out)
        have HB10:=Lib.hid (HB.out.later (HX6.out.trans HX10.out))
        have HNE10:Hid ((Value.slice a10 n10 c10).ownBlock ≠ some g):=Lib.hid (fun e=>by have h1:=hb10 g e; have h2:=HGR.out; have h3:=HX6.out.size; have h4:=HX9.out.size; omega)
        have hml:m < (List.replicate (m+1) 0 ++ (Q ++ List.replicate (a.length+1 - U.length) 0)).length:=by simp; omega
        have cs:=HA10.out.cell m hml
        have fs:=HA10.out.free m
        generalize ((List.replicate (m+1) 0 ++ (Q ++ List.replicate (a.length+1 - U.length) 0))[m]:Int)=old at cs
        have HAX:=Lib.hid (HA10.out.set m d)
        rw [Lb.set_zeros_front] at HAX
        have HS10:Hid (SlU (w10.setCell ⟨g,m,none⟩ (.int .u32 (d:Int))) (.slice a10 n10 c10) (Lb.limbs (R1 % (Lb.val b*s)))):=Lib.hid (s10.but ((But.refl g w10).set m _) HNE10.out)
        have HB11:=Lib.hid (HB10.out.set m (.int .u32 (d:Int)))
        clear hml s10 x10 hb10
        go_wp2_with fail
        go_roundw
        case rel=>exact ⟨m,_,d :: Q,_,rfl,rfl,by omega,by rw [HDQ.out]; exact HP2,HS10,HNE10,HAX,HB11⟩
        case measure=>simp [intOf]
   ·have hq3:decide ((n7:Int) > (n:Int)+1)=false:=by simp; omega
    by_cases hc2:n < n7
    ·have hq4:decide ((n7:Int) >= (n:Int)+1)=true:=by simp; omega
     obtain ⟨g8,o8,c8',he8,hg8,hc70⟩:=getD_cell HS7.out n (by rw [<- HL7.out]; omega)
     cases he8
     have HH:=HHS.out
     rw [dif_neg (by rw [<- HL7.out]; exact hc1),dif_pos (by rw [<- HL7.out]; omega)] at HH
     have hy0:(Lb.limbs R1)[n]'(by rw [<- HL7.out]; omega) < 1000000000:=Lb.lt_get (Lb.norm_limbs R1).1 _ _
     generalize (Lb.limbs R1)[n]'(by rw [<- HL7.out]; omega)=yb at *
     clear hc1 hg8
     have HHH:Hid (yb=R1 / Lb.B ^ n):=Lib.hid (by have h:=HH; rw [Lb.B_eq] at h ⊢; omega)
     have e5:0 <= ((yb:Int)) / (T:Int):=Int.ediv_nonneg (by omega) (by omega)
     have e6:((yb:Int)) / (T:Int) < 1000000001000000000:=Int.lt_of_le_of_lt (Int.ediv_le_self _ (by omega)) (by omega)
     have E7:Hid (((yb:Int)) / (T:Int)=(((yb) / T:Nat):Int)):=Lib.hid (by simp)
     have hw:IntKind.u64.wrap (((yb:Int)) / (T:Int))=((yb:Int)) / (T:Int):=by rw [IntKind.wrap_u64]; exact Int.emod_eq_of_lt e5 (by omega)
     have HE5:=Lib.hid e5
     clear HHS HH e5 e6
     by_cases hbig:(yb) / T > 999999999
     ·have hq5:decide (((yb:Int)) / (T:Int) > 999999999)=true:=by rw [E7.out]; simp only [decide_eq_true_eq]; omega
      clear hbig
      as_aux_lemma =>
       have hDD:999999999 < 1000000000:=by omega
       have hQD:R1 / (Lb.val b*s) <= 999999999:=by have:=HQ1.out; omega
       have HEQ:Hid ((999999999:Int)=((999999999:Nat):Int)):=Lib.hid (rfl)
       have HBY:Hid (Calls Tryz.prog 123 #[.slice (some ⟨gv,ov,none⟩) (n+1) cv,.int .u32 (999999999)] w6 (RetF w6 (Lb.limbs (Lb.val b*s*(999999999))))):=Lib.hid (by
        rw [HEQ.out]
        have h:=rby_any _ _ (999999999) w6 HV6.out HVN.out.1 (by rw [HVL.out]; omega) hDD
        rwa [Lb.val_limbs] at h)
       have HDD:=Lib.hid hDD; have HQD:=Lib.hid hQD
       clear hDD hQD
       obtain ⟨wo,rfl⟩:∃ wo:World,wo=wr:=⟨_,rfl⟩
       go_wp2_with fail
       refine HBY.out.mono ?_
       rintro e w8 ⟨a8,n8,c8,rfl,s8,x8,-⟩
       clear HBY
       go_wp2_with fail
       go_loopw [16,17] (fun dv pv wr=>∃ (d:Nat),dv=.int .u64 (d:Int)/\d < 1000000000/\Hid (R1 / (Lb.val b*s) <= d)/\Hid (SlU wr pv (Lb.limbs (Lb.val b*s*d)))/\Hid (Ext w6 wr)) (fun dv _ _=>(intOf dv).toNat)
       case atStart=>exact ⟨999999999,by rw [HEQ.out],HDD.out,HQD,Lib.hid s8,Lib.hid x8⟩
       case round =>
        clear HEQ HDD HQD s8 x8
        obtain ⟨d,rfl,hd,HQD,HPR,HXI⟩:=hrel
        obtain ⟨pa,pn,pc,rfl,hpn⟩:=HPR.out.form'
        have HPL:Hid ((Lb.limbs (Lb.val b*s*d)).length <= n+2/\(Lb.limbs R1).length <= n+2):=Lib.hid ⟨Lb.limbs_length (by
         have h1:=HSV.out
         rw [Nat.pow_succ]
         exact Nat.mul_lt_mul_of_lt_of_le h1 (by rw [Lb.B_eq]; omega) (by rw [Lb.B_eq]; omega)),by first | exact hn72 | (rw [<- HL7.out]; exact hn72)⟩
        have HC:=Lib.hid (rcmp_any _ _ _ _ wr HPR.out (HS7.out.later HXI.out) (Lb.norm_limbs _) (Lb.norm_limbs _) (by have:=HPL.out; omega) (by have:=HPL.out; omega))
        rw [Lb.val_limbs,Lb.val_limbs] at HC
        clear hpn
        by_cases hgt:R1 < Lb.val b*s*d
        ·have hq6:decide (cmpN (Lb.val b*s*d) R1 > 0)=true:=by rw [cmpN_gt hgt]; rfl
         have hd0:0 < d:=by
          rcases Nat.eq_zero_or_pos d with h | h
          ·subst h; simp at hgt
          ·exact h
         have HD1:Hid (R1 / (Lb.val b*s) <= d - 1):=Lib.hid (by
          have h:=(Nat.div_lt_iff_lt_mul HV0.out).2 (by rw [Nat.mul_comm]; exact hgt)
          omega)
         have HLE2:Hid (Lb.val b*s <= Lb.val b*s*d):=Lib.hid (by
          have:=Nat.mul_le_mul_left (Lb.val b*s) hd0
          rwa [Nat.mul_one] at this)
         have HSUB:Hid (Lb.val b*s*d - Lb.val b*s=Lb.val b*s*(d - 1)):=Lib.hid (by rw [Nat.mul_sub,Nat.mul_one])
         have e9:((d - 1:Nat):Int)=(d:Int) - 1:=by omega
         have E9:=Lib.hid e9
         clear hgt e9
         generalize cmpN (Lb.val b*s*d) R1=cmp at *
         go_wp2_with fail
         refine HC.out.mono ?_
         rintro e w9 ⟨rfl,x9⟩
         have HMI:=Lib.hid (rminus_any _ _ _ _ w9 (HPR.out.later x9) (HV6.out.later (HXI.out.trans x9)) (Lb.norm_limbs _).1 HVN.out.1 (by have:=HPL.out; omega) (Lb.limbs_mono HLE2.out) (by rw [Lb.val_limbs,Lb.val_limbs]; exact HLE2.out))
         rw [Lb.val_limbs,Lb.val_limbs,HSUB.out] at HMI
         have HX9:=Lib.hid (HXI.out.trans x9)
         clear x9 HC
         go_wp2_with fail
         refine HMI.out.mono ?_
         rintro e w10 ⟨a10,n10,c10,rfl,s10,x10,-⟩
         go_wp2_with fail
         go_roundw
         case rel=>exact ⟨d - 1,by rw [E9.out],by omega,HD1,Lib.hid s10,Lib.hid (HX9.out.trans x10)⟩
         case measure=>simp [intOf]; omega
        ·have hq6:decide (cmpN (Lb.val b*s*d) R1 > 0)=false:=by
          rcases Nat.lt_or_ge (Lb.val b*s*d) R1 with h | h
          ·rw [cmpN_lt h]; rfl
          ·rw [cmpN_eq (by omega)]; rfl
         have HLE2:Hid (Lb.val b*s*d <= R1):=Lib.hid (by omega)
         have HDQ:Hid (d=R1 / (Lb.val b*s)):=Lib.hid (Lb.est_done HLE2.out HV0.out HQD.out)
         have HSUB:Hid (R1 - Lb.val b*s*d=R1 % (Lb.val b*s)):=Lib.hid (by
          have h:=Nat.div_add_mod R1 (Lb.val b*s)
          rw [<- HDQ.out] at h
          omega)
         clear hgt
         generalize cmpN (Lb.val b*s*d) R1=cmp at *
         go_wp2_with fail
         refine HC.out.mono ?_
         rintro e w9 ⟨rfl,x9⟩
         have HMI:=Lib.hid (rminus_any _ _ _ _ w9 (HS7.out.later (HXI.out.trans x9)) (HPR.out.later x9) (Lb.norm_limbs _).1 (Lb.norm_limbs _).1 (by have:=HPL.out; omega) (Lb.limbs_mono HLE2.out) (by rw [Lb.val_limbs,Lb.val_limbs]; exact HLE2.out))
         rw [Lb.val_limbs,Lb.val_limbs,HSUB.out] at HMI
         have HX9:=Lib.hid (HXI.out.trans x9)
         clear x9 HC
         go_wp2_with fail
         refine HMI.out.mono ?_
         rintro e w10 ⟨a10,n10,c10,rfl,s10,x10,hb10⟩
         have HX10:=Lib.hid (HX9.out.trans x10)
         have HA10:=Lib.hid (HA6.out.ext HX10.out)
         have HB10:=Lib.hid (HB.out.later (HX6.out.trans HX10.out))
         have HNE10:Hid ((Value.slice a10 n10 c10).ownBlock ≠ some g):=Lib.hid (fun e=>by have h1:=hb10 g e; have h2:=HGR.out; have h3:=HX6.out.size; have h4:=HX9.out.size; omega)
         have hml:m < (List.replicate (m+1) 0 ++ (Q ++ List.replicate (a.length+1 - U.length) 0)).length:=by simp; omega
         have cs:=HA10.out.cell m hml
         have fs:=HA10.out.free m
         generalize ((List.replicate (m+1) 0 ++ (Q ++ List.replicate (a.length+1 - U.length) 0))[m]:Int)=old at cs
         have HAX:=Lib.hid (HA10.out.set m d)
         rw [Lb.set_zeros_front] at HAX
         have HS10:Hid (SlU (w10.setCell ⟨g,m,none⟩ (.int .u32 (d:Int))) (.slice a10 n10 c10) (Lb.limbs (R1 % (Lb.val b*s)))):=Lib.hid (s10.but ((But.refl g w10).set m _) HNE10.out)
         have HB11:=Lib.hid (HB10.out.set m (.int .u32 (d:Int)))
         clear hml s10 x10 hb10
         go_wp2_with fail
         go_roundw
         case rel=>exact ⟨m,_,d :: Q,_,rfl,rfl,by omega,by rw [HDQ.out]; exact HP2,HS10,HNE10,HAX,HB11⟩
         case measure=>simp [intOf]
     ·have hq5:decide (((yb:Int)) / (T:Int) > 999999999)=false:=by rw [E7.out]; simp only [decide_eq_false_iff_not]; omega
      have HBIG:Hid (¬ (yb) / T > 999999999):=Lib.hid hbig
      have hw3:((yb:Int)) / (T:Int) % 4294967296=((yb:Int)) / (T:Int):=Int.emod_eq_of_lt HE5.out (by rw [E7.out]; omega)
      clear hbig
      as_aux_lemma =>
       have hDD:(yb) / T < 1000000000:=by have:=HBIG.out; omega
       have hQD:R1 / (Lb.val b*s) <= (yb) / T:=by rw [HHH.out]; exact HES.out
       have HEQ:Hid ((((yb:Int)) / (T:Int):Int)=(((yb) / T:Nat):Int)):=Lib.hid (E7.out)
       have HBY:Hid (Calls Tryz.prog 123 #[.slice (some ⟨gv,ov,none⟩) (n+1) cv,.int .u32 (((yb:Int)) / (T:Int))] w6 (RetF w6 (Lb.limbs (Lb.val b*s*((yb) / T))))):=Lib.hid (by
        rw [HEQ.out]
        have h:=rby_any _ _ ((yb) / T) w6 HV6.out HVN.out.1 (by rw [HVL.out]; omega) hDD
        rwa [Lb.val_limbs] at h)
       have HDD:=Lib.hid hDD; have HQD:=Lib.hid hQD
       clear hDD hQD
       obtain ⟨wo,rfl⟩:∃ wo:World,wo=wr:=⟨_,rfl⟩
       go_wp2_with fail
       refine HBY.out.mono ?_
       rintro e w8 ⟨a8,n8,c8,rfl,s8,x8,-⟩
       clear HBY
       go_wp2_with fail
       go_loopw [16,17] (fun dv pv wr=>∃ (d:Nat),dv=.int .u64 (d:Int)/\d < 1000000000/\Hid (R1 / (Lb.val b*s) <= d)/\Hid (SlU wr pv (Lb.limbs (Lb.val b*s*d)))/\Hid (Ext w6 wr)) (fun dv _ _=>(intOf dv).toNat)
       case atStart=>exact ⟨(yb) / T,by rw [HEQ.out],HDD.out,HQD,Lib.hid s8,Lib.hid x8⟩
       case round =>
        clear HEQ HDD HQD s8 x8
        obtain ⟨d,rfl,hd,HQD,HPR,HXI⟩:=hrel
        obtain ⟨pa,pn,pc,rfl,hpn⟩:=HPR.out.form'
        have HPL:Hid ((Lb.limbs (Lb.val b*s*d)).length <= n+2/\(Lb.limbs R1).length <= n+2):=Lib.hid ⟨Lb.limbs_length (by
         have h1:=HSV.out
         rw [Nat.pow_succ]
         exact Nat.mul_lt_mul_of_lt_of_le h1 (by rw [Lb.B_eq]; omega) (by rw [Lb.B_eq]; omega)),by first | exact hn72 | (rw [<- HL7.out]; exact hn72)⟩
        have HC:=Lib.hid (rcmp_any _ _ _ _ wr HPR.out (HS7.out.later HXI.out) (Lb.norm_limbs _) (Lb.norm_limbs _) (by have:=HPL.out; omega) (by have:=HPL.out; omega))
        rw [Lb.val_limbs,Lb.val_limbs] at HC
        clear hpn
        by_cases hgt:R1 < Lb.val b*s*d
        ·have hq6:decide (cmpN (Lb.val b*s*d) R1 > 0)=true:=by rw [cmpN_gt hgt]; rfl
         have hd0:0 < d:=by
          rcases Nat.eq_zero_or_pos d with h | h
          ·subst h; simp at hgt
          ·exact h
         have HD1:Hid (R1 / (Lb.val b*s) <= d - 1):=Lib.hid (by
          have h:=(Nat.div_lt_iff_lt_mul HV0.out).2 (by rw [Nat.mul_comm]; exact hgt)
          omega)
         have HLE2:Hid (Lb.val b*s <= Lb.val b*s*d):=Lib.hid (by
          have:=Nat.mul_le_mul_left (Lb.val b*s) hd0
          rwa [Nat.mul_one] at this)
         have HSUB:Hid (Lb.val b*s*d - Lb.val b*s=Lb.val b*s*(d - 1)):=Lib.hid (by rw [Nat.mul_sub,Nat.mul_one])
         have e9:((d - 1:Nat):Int)=(d:Int) - 1:=by omega
         have E9:=Lib.hid e9
         clear hgt e9
         generalize cmpN (Lb.val b*s*d) R1=cmp at *
         go_wp2_with fail
         refine HC.out.mono ?_
         rintro e w9 ⟨rfl,x9⟩
         have HMI:=Lib.hid (rminus_any _ _ _ _ w9 (HPR.out.later x9) (HV6.out.later (HXI.out.trans x9)) (Lb.norm_limbs _).1 HVN.out.1 (by have:=HPL.out; omega) (Lb.limbs_mono HLE2.out) (by rw [Lb.val_limbs,Lb.val_limbs]; exact HLE2.out))
         rw [Lb.val_limbs,Lb.val_limbs,HSUB.out] at HMI
         have HX9:=Lib.hid (HXI.out.trans x9)
         clear x9 HC
         go_wp2_with fail
         refine HMI.out.mono ?_
         rintro e w10 ⟨a10,n10,c10,rfl,s10,x10,-⟩
         go_wp2_with fail
         go_roundw
         case rel=>exact ⟨d - 1,by rw [E9.out],by omega,HD1,Lib.hid s10,Lib.hid (HX9.out.trans x10)⟩
         case measure=>simp [intOf]; omega
        ·have hq6:decide (cmpN (Lb.val b*s*d) R1 > 0)=false:=by
          rcases Nat.lt_or_ge (Lb.val b*s*d) R1 with h | h
          ·rw [cmpN_lt h]; rfl
          ·rw [cmpN_eq (by omega)]; rfl
         have HLE2:Hid (Lb.val b*s*d <= R1):=Lib.hid (by omega)
         have HDQ:Hid (d=R1 / (Lb.val b*s)):=Lib.hid (Lb.est_done HLE2.out HV0.out HQD.out)
         have HSUB:Hid (R1 - Lb.val b*s*d=R1 % (Lb.val b*s)):=Lib.hid (by
          have h:=Nat.div_add_mod R1 (Lb.val b*s)
          rw [<- HDQ.out] at h
          omega)
         clear hgt
         generalize cmpN (Lb.val b*s*d) R1=cmp at *
         go_wp2_with fail
         refine HC.out.mono ?_
         rintro e w9 ⟨rfl,x9⟩
         have HMI:=Lib.hid (rminus_any _ _ _ _ w9 (HS7.out.later (HXI.out.trans x9)) (HPR.out.later x9) (Lb.norm_limbs _).1 (Lb.norm_limbs _).1 (by have:=HPL.out; omega) (Lb.limbs_mono HLE2.out) (by rw [Lb.val_limbs,Lb.val_limbs]; exact HLE2.out))
         rw [Lb.val_limbs,Lb.val_limbs,HSUB.out] at HMI
         have HX9:=Lib.hid (HXI.out.trans x9)
         clear x9 HC
         go_wp2_with fail
         refine HMI.out.mono ?_
         rintro e w10 ⟨a10,n10,c10,rfl,s10,x10,hb10⟩
         have HX10:=Lib.hid (HX9.out.trans x10)
         have HA10:=Lib.hid (HA6.out.ext HX10.out)
         have HB10:=Lib.hid (HB.out.later (HX6.out.trans HX10.out))
         have HNE10:Hid ((Value.slice a10 n10 c10).ownBlock ≠ some g):=Lib.hid (fun e=>by have h1:=hb10 g e; have h2:=HGR.out; have h3:=HX6.out.size; have h4:=HX9.out.size; omega)
         have hml:m < (List.replicate (m+1) 0 ++ (Q ++ List.replicate (a.length+1 - U.length) 0)).length:=by simp; omega
         have cs:=HA10.out.cell m hml
         have fs:=HA10.out.free m
         generalize ((List.replicate (m+1) 0 ++ (Q ++ List.replicate (a.length+1 - U.length) 0))[m]:Int)=old at cs
         have HAX:=Lib.hid (HA10.out.set m d)
         rw [Lb.set_zeros_front] at HAX
         have HS10:Hid (SlU (w10.setCell ⟨g,m,none⟩ (.int .u32 (d:Int))) (.slice a10 n10 c10) (Lb.limbs (R1 % (Lb.val b*s)))):=Lib.hid (s10.but ((But.refl g w10).set m _) HNE10.out)
         have HB11:=Lib.hid (HB10.out.set m (.int .u32 (d:Int)))
         clear hml s10 x10 hb10
         go_wp2_with fail
         go_roundw
         case rel=>exact ⟨m,_,d :: Q,_,rfl,rfl,by omega,by rw [HDQ.out]; exact HP2,HS10,HNE10,HAX,HB11⟩
         case measure=>simp [intOf]
    ·have hq4:decide ((n7:Int) >= (n:Int)+1)=false:=by simp; omega
     have HH:=HHS.out
     rw [dif_neg (by rw [<- HL7.out]; exact hc1),dif_neg (by rw [<- HL7.out]; omega)] at HH
     have HHH:Hid (R1 / Lb.B ^ n=0):=Lib.hid (by rw [<- HH])
     clear HHS HH hc1 hc2
     as_aux_lemma =>
      have hDD:0 < 1000000000:=by omega
      have hQD:R1 / (Lb.val b*s) <= 0:=by have h:=HES.out; rw [HHH.out] at h; simpa using h
      have HEQ:Hid ((0:Int)=((0:Nat):Int)):=Lib.hid (rfl)
      have HBY:Hid (Calls Tryz.prog 123 #[.slice (some ⟨gv,ov,none⟩) (n+1) cv,.int .u32 (0)] w6 (RetF w6 (Lb.limbs (Lb.val b*s*(0))))):=Lib.hid (by
       rw [HEQ.out]
       have h:=rby_any _ _ (0) w6 HV6.out HVN.out.1 (by rw [HVL.out]; omega) hDD
       rwa [Lb.val_limbs] at h)
      have HDD:=Lib.hid hDD; have HQD:=Lib.hid hQD
      clear hDD hQD
      obtain ⟨wo,rfl⟩:∃ wo:World,wo=wr:=⟨_,rfl⟩
      go_wp2_with fail
      refine HBY.out.mono ?_
      rintro e w8 ⟨a8,n8,c8,rfl,s8,x8,-⟩
      clear HBY
      go_wp2_with fail
      go_loopw [16,17] (fun dv pv wr=>∃ (d:Nat),dv=.int .u64 (d:Int)/\d < 1000000000/\Hid (R1 / (Lb.val b*s) <= d)/\Hid (SlU wr pv (Lb.limbs (Lb.val b*s*d)))/\Hid (Ext w6 wr)) (fun dv _ _=>(intOf dv).toNat)
      case atStart=>exact ⟨0,by rw [HEQ.out],HDD.out,HQD,Lib.hid s8,Lib.hid x8⟩
      case round =>
       clear HEQ HDD HQD s8 x8
       obtain ⟨d,rfl,hd,HQD,HPR,HXI⟩:=hrel
       obtain ⟨pa,pn,pc,rfl,hpn⟩:=HPR.out.form'
       have HPL:Hid ((Lb.limbs (Lb.val b*s*d)).length <= n+2/\(Lb.limbs R1).length <= n+2):=Lib.hid ⟨Lb.limbs_length (by
        have h1:=HSV.out
        rw [Nat.pow_succ]
        exact Nat.mul_lt_mul_of_lt_of_le h1 (by rw [Lb.B_eq]; omega) (by rw [Lb.B_eq]; omega)),by first | exact hn72 | (rw [<- HL7.out]; exact hn72)⟩
       have HC:=Lib.hid (rcmp_any _ _ _ _ wr HPR.out (HS7.out.later HXI.out) (Lb.norm_limbs _) (Lb.norm_limbs _) (by have:=HPL.out; omega) (by have:=HPL.out; omega))
       rw [Lb.val_limbs,Lb.val_limbs] at HC
       clear hpn
       by_cases hgt:R1 < Lb.val b*s*d
       ·have hq6:decide (cmpN (Lb.val b*s*d) R1 > 0)=true:=by rw [cmpN_gt hgt]; rfl
        have hd0:0 < d:=by
         rcases Nat.eq_zero_or_pos d with h | h
         ·subst h; simp at hgt
         ·exact h
        have HD1:Hid (R1 / (Lb.val b*s) <= d - 1):=Lib.hid (by
         have h:=(Nat.div_lt_iff_lt_mul HV0.out).2 (by rw [Nat.mul_comm]; exact hgt)
         omega)
        have HLE2:Hid (Lb.val b*s <= Lb.val b*s*d):=Lib.hid (by
         have:=Nat.mul_le_mul_left (Lb.val b*s) hd0
         rwa [Nat.mul_one] at this)
        have HSUB:Hid (Lb.val b*s*d - Lb.val b*s=Lb.val b*s*(d - 1)):=Lib.hid (by rw [Nat.mul_sub,Nat.mul_one])
        have e9:((d - 1:Nat):Int)=(d:Int) - 1:=by omega
        have E9:=Lib.hid e9
        clear hgt e9
        generalize cmpN (Lb.val b*s*d) R1=cmp at *
        go_wp2_with fail
        refine HC.out.mono ?_
        rintro e w9 ⟨rfl,x9⟩
        have HMI:=Lib.hid (rminus_any _ _ _ _ w9 (HPR.out.later x9) (HV6.out.later (HXI.out.trans x9)) (Lb.norm_limbs _).1 HVN.out.1 (by have:=HPL.out; omega) (Lb.limbs_mono HLE2.out) (by rw [Lb.val_limbs,Lb.val_limbs]; exact HLE2.out))
        rw [Lb.val_limbs,Lb.val_limbs,HSUB.out] at HMI
        have HX9:=Lib.hid (HXI.out.trans x9)
        clear x9 HC
        go_wp2_with fail
        refine HMI.out.mono ?_
        rintro e w10 ⟨a10,n10,c10,rfl,s10,x10,-⟩
        go_wp2_with fail
        go_roundw
        case rel=>exact ⟨d - 1,by rw [E9.out],by omega,HD1,Lib.hid s10,Lib.hid (HX9.out.trans x10)⟩
        case measure=>simp [intOf]; omega
       ·have hq6:decide (cmpN (Lb.val b*s*d) R1 > 0)=false:=by
         rcases Nat.lt_or_ge (Lb.val b*s*d) R1 with h | h
         ·rw [cmpN_lt h]; rfl
         ·rw [cmpN_eq (by omega)]; rfl
        have HLE2:Hid (Lb.val b*s*d <= R1):=Lib.hid (by omega)
        have HDQ:Hid (d=R1 / (Lb.val b*s)):=Lib.hid (Lb.est_done HLE2.out HV0.out HQD.out)
        have HSUB:Hid (R1 - Lb.val b*s*d=R1 % (Lb.val b*s)):=Lib.hid (by
         have h:=Nat.div_add_mod R1 (Lb.val b*s)
         rw [<- HDQ.out] at h
         omega)
        clear hgt
        generalize cmpN (Lb.val b*s*d) R1=cmp at *
        go_wp2_with fail
        refine HC.out.mono ?_
        rintro e w9 ⟨rfl,x9⟩
        have HMI:=Lib.hid (rminus_any _ _ _ _ w9 (HS7.out.later (HXI.out.trans x9)) (HPR.out.later x9) (Lb.norm_limbs _).1 (Lb.norm_limbs _).1 (by have:=HPL.out; omega) (Lb.limbs_mono HLE2.out) (by rw [Lb.val_limbs,Lb.val_limbs]; exact HLE2.out))
        rw [Lb.val_limbs,Lb.val_limbs,HSUB.out] at HMI
        have HX9:=Lib.hid (HXI.out.trans x9)
        clear x9 HC
        go_wp2_with fail
        refine HMI.out.mono ?_
        rintro e w10 ⟨a10,n10,c10,rfl,s10,x10,hb10⟩
        have HX10:=Lib.hid (HX9.out.trans x10)
        have HA10:=Lib.hid (HA6.out.ext HX10.out)
        have HB10:=Lib.hid (HB.out.later (HX6.out.trans HX10.out))
        have HNE10:Hid ((Value.slice a10 n10 c10).ownBlock ≠ some g):=Lib.hid (fun e=>by have h1:=hb10 g e; have h2:=HGR.out; have h3:=HX6.out.size; have h4:=HX9.out.size; omega)
        have hml:m < (List.replicate (m+1) 0 ++ (Q ++ List.replicate (a.length+1 - U.length) 0)).length:=by simp; omega
        have cs:=HA10.out.cell m hml
        have fs:=HA10.out.free m
        generalize ((List.replicate (m+1) 0 ++ (Q ++ List.replicate (a.length+1 - U.length) 0))[m]:Int)=old at cs
        have HAX:=Lib.hid (HA10.out.set m d)
        rw [Lb.set_zeros_front] at HAX
        have HS10:Hid (SlU (w10.setCell ⟨g,m,none⟩ (.int .u32 (d:Int))) (.slice a10 n10 c10) (Lb.limbs (R1 % (Lb.val b*s)))):=Lib.hid (s10.but ((But.refl g w10).set m _) HNE10.out)
        have HB11:=Lib.hid (HB10.out.set m (.int .u32 (d:Int)))
        clear hml s10 x10 hb10
        go_wp2_with fail
        go_roundw
        case rel=>exact ⟨m,_,d :: Q,_,rfl,rfl,by omega,by rw [HDQ.out]; exact HP2,HS10,HNE10,HAX,HB11⟩
        case measure=>simp [intOf]
  ·obtain rfl:k=0:=by omega
   obtain rfl:j=-1:=by omega
   clear hj hk0
   have HSC:=Lib.hid (Lb.scaled_rem (a:=Lb.val a) (b:=Lb.val b) (s:=s) (Q:=Lb.val Q) (R:=R) (by have:=HP.out.val; rw [List.drop_zero,HUV.out] at this; exact this) HP.out.rlt)
   have HQL:Hid (Q.length=L/\Lb.Lt Q):=Lib.hid ⟨by have:=HP.out.len; rw [this,<- HLE.out]; rfl,HP.out.lt⟩
   have HRL:Hid ((Lb.limbs R).length <= n+1):=Lib.hid (Lb.limbs_length (Nat.lt_trans HP.out.rlt HSV.out))
   obtain ⟨ar,nr,cr,rfl,hnr⟩:=HR.out.form'
   have HNR:=Lib.hid hnr
   have hnr9:nr <= 90000001:=by rw [hnr]; have:=HRL.out; omega
   have hmk:=make_run nr (by omega)
   obtain ⟨W2,hW2,hA2,hE2,hz2⟩:=zeros_alloc wr nr
   have HA2:Hid (ArrU W2 wr.heap.size (List.replicate nr 0 ++ [])):=Lib.hid (by rw [List.append_nil]; exact hA2)
   have HB0:=Lib.hid (Lb.backAt_start (l:=Lb.limbs R) (s:=s) (by omega))
   rw [<- hnr] at HB0
   have HX2:=Lib.hid hE2; have HGW2:Hid (wr.heap.size < W2.heap.size):=Lib.hid hA2.lt
   have HRN:Hid (∀ b',(Value.slice ar nr cr).ownBlock=some b'->Lb.limbs R ≠ []->b' < wr.heap.size):=Lib.hid (fun b' e hne=>HR.out.blk e hne)
   have HRW:=Lib.hid (HR.out.later hE2)
   have HAW:=Lib.hid (HA.out.ext hE2)
   have HGA:Hid (g < wr.heap.size):=Lib.hid HA.out.lt
   clear hnr hA2 hE2 hz2 HP HUS HV4
   obtain ⟨wo,rfl⟩:∃ wo:World,wo=wr:=⟨_,rfl⟩
   go_wp2_with fail
   clear hmk hW2
   go_loopw [18,20] (fun c i wr=>∃ (k2:Nat) (j:Int) (o:List Nat) (cn:Nat),c=.int .u64 (cn:Int)/\i=.int .i64 j/\j=(k2:Int) - 1/\k2 <= nr/\Hid (Lb.BackAt (Lb.limbs R) s k2 o cn)/\Hid (ArrU wr wo.heap.size (List.replicate k2 0 ++ o))/\Hid (But wo.heap.size W2 wr)) (fun _ i _=>(intOf i+1).toNat)
   case atStart=>exact ⟨nr,_,[],0,rfl,rfl,by omega,Nat.le_refl _,HB0,HA2,Lib.hid (But.refl _ _)⟩
   case round =>
    clear HB0 HA2
    obtain ⟨k2,j,o,cn,rfl,rfl,hj,hk2,HP,HA2,HB2⟩:=hrel
    have HEW2:Hid (Ext wo wr):=Lib.hid (But.ext HX2.out HB2.out (Nat.le_refl _))
    have HRR:=Lib.hid (HR.out.later HEW2.out)
    by_cases hk0:0 < k2
    ·obtain ⟨m,rfl⟩:∃ m,k2=m+1:=⟨k2 - 1,by omega⟩
     obtain rfl:j=(m:Int):=by omega
     clear hj hk0
     have hmr:m < nr:=by omega
     have hml:m < (Lb.limbs R).length:=by rw [<- HNR.out]; exact hmr
     have HST:=Lib.hid (Lb.backAt_step (Lb.norm_limbs R).1 HP.out hml)
     have hx:(Lb.limbs R)[m] < 1000000000:=Lb.lt_get (Lb.norm_limbs R).1 m hml
     obtain ⟨gr,orr,cr',hre,hgr,hcr⟩:=getD_cell HRR.out m hml
     cases hre
     generalize (Lb.limbs R)[m]=x at *
     have hcn:cn < s:=HP.out.clt
     have hlen2:m < (List.replicate (m+1) 0 ++ o).length:=by simp; omega
     have cs:=HA2.out.cell m hlen2
     have fs:=HA2.out.free m
     generalize ((List.replicate (m+1) 0 ++ o)[m]:Int)=old at cs
     rw [Lb.B_eq] at HST
     have HDG:Hid ((cn*1000000000+x) / s < 1000000000):=Lib.hid HST.out.1
     have e5:0 <= ((cn:Int)*1000000000+x) / (s:Int):=Int.ediv_nonneg (by omega) (by omega)
     have E7:Hid (((cn:Int)*1000000000+x) / (s:Int)=(((cn*1000000000+x) / s:Nat):Int)):=Lib.hid (by simp)
     have E8:Hid (((cn:Int)*1000000000+x) % (s:Int)=(((cn*1000000000+x) % s:Nat):Int)):=Lib.hid (by simp)
     have e6:((cn:Int)*1000000000+x) / (s:Int) < 1000000000:=by rw [E7.out]; have:=HDG.out; omega
     have hw:IntKind.u64.wrap (((cn:Int)*1000000000+x) / (s:Int))=((cn:Int)*1000000000+x) / (s:Int):=by rw [IntKind.wrap_u64]; exact Int.emod_eq_of_lt e5 (by omega)
     have hw3:((cn:Int)*1000000000+x) / (s:Int) % 4294967296=((cn:Int)*1000000000+x) / (s:Int):=Int.emod_eq_of_lt e5 (by omega)
     have hsz:((s:Int) == 0)=false:=by simp; omega
     have hsn:¬ (s:Int)=0:=by omega
     have HAX:Hid (∀ u:Int,u=((cn:Int)*1000000000+x) / (s:Int)->ArrU (wr.setCell ⟨wo.heap.size,m,none⟩ (.int .u32 u)) wo.heap.size (List.replicate m 0 ++ ((cn*1000000000+x) / s :: o))):=Lib.hid (fun u hu=>by
      rw [E7.out] at hu
      subst hu
      have:=HA2.out.set m ((cn*1000000000+x) / s)
      rwa [Lb.set_zeros_front] at this)
     have HBX:Hid (∀ u:Value,But wo.heap.size W2 (wr.setCell ⟨wo.heap.size,m,none⟩ u)):=Lib.hid (fun u=>HB2.out.set m u)
     clear hlen2 e5 e6 hml HP
     go_wp2_with fail
     go_roundw
     case rel=>exact ⟨m,_,_,_,by rw [E8.out],rfl,rfl,by omega,Lib.hid HST.out.2,Lib.hid (HAX.out _ rfl),Lib.hid (HBX.out _)⟩
     case measure=>simp [intOf]
    ·obtain rfl:k2=0:=by omega
     obtain rfl:j=-1:=by omega
     clear hj hk0
     have HVO:=Lib.hid (Lb.backAt_done HP.out (by rw [Lb.val_limbs]; exact HSC.out.2))
     have HAG:Hid (ArrU wr g (Q ++ List.replicate (a.length+1 - L) 0)):=Lib.hid (by
      have h:=HAW.out
      have h2:=HB2.out.block g (by have:=HGA.out; have:=HGW2.out; omega) (by have:=HGA.out; omega)
      unfold ArrU at h ⊢
      rw [h2]
      simpa using h)
     have HSG2:Hid (SlU wr (.slice (some ⟨g,0,none⟩) L (a.length+1)) Q):=Lib.hid (by
      have h:=HAG.out.sl (n:=L) (cap:=a.length+1) (by simp [HQL.out.1]) (by omega)
      rwa [List.take_append_of_le_length (by rw [HQL.out.1]; exact Nat.le_refl _),List.take_of_length_le (by rw [HQL.out.1]; exact Nat.le_refl _)] at h)
     have HSO:Hid (SlU wr (.slice (some ⟨wo.heap.size,0,none⟩) nr nr) o):=Lib.hid (by
      have h:=HA2.out
      rw [List.replicate_zero,List.nil_append] at h
      exact h.all (by rw [HP.out.len,<- HNR.out]; rfl) (Nat.le_refl _))
     have HOL:Hid (o.length <= 1000000000/\Lb.Lt o):=Lib.hid ⟨by rw [HP.out.len,<- HNR.out]; omega,HP.out.lt⟩
     have HEF:Hid (Ext w wr):=Lib.hid (HEW.out.trans HEW2.out)
     clear HP HA2
     go_wp2_with fail
     refine (rtrim_blk _ _ _ HSG2.out (by rw [HQL.out.1]; omega)).mono ?_
     rintro e w11 ⟨v11,rfl,s11,-,rfl⟩
     obtain ⟨a11,c11,rfl⟩:=SlU.form s11
     go_wp2_with fail
     refine (rtrim_blk _ _ _ HSO.out HOL.out.1).mono ?_
     rintro e w12 ⟨v12,rfl,s12,-,rfl⟩
     obtain ⟨a12,c12,rfl⟩:=SlU.form s12
     go_wp2_with fail
     go_ret2
     refine ⟨_,_,rfl,?_,?_,HEF.out⟩
     ·rw [<- HSC.out.1,<- Lb.trim_eq HQL.out.2]; exact s11
     ·rw [<- HVO.out,<- Lb.trim_eq HOL.out.2]; exact s12
theorem rparts_any (v1 v2:Value) (a b:List Nat) (w:World) (h1:SlU w v1 a) (h2:SlU w v2 b) (k1:Lb.Lt a) (k2:Lb.Norm b) (n1:a.length <= 90000000) (n2:b.length <= 90000000) (hv:Lb.val b ≠ 0) :
    Calls Tryz.prog 77 #[v1,v2] w (RetUU w (Lb.limbs (Lb.val a / Lb.val b)) (Lb.limbs (Lb.val a % Lb.val b))):=by
 have hb0:b ≠ []:=by rintro rfl; exact hv rfl
 by_cases ha:2 < a.length
 ·exact rparts_a v1 v2 a b w h1 h2 k1 k2 n1 n2 hb0 ha
 ·by_cases hb:2 < b.length
  ·exact rparts_b v1 v2 a b w h1 h2 k1 k2 n1 n2 hb0 ⟨by omega,hb⟩
  ·exact rparts_short v1 v2 a b w h1 h2 k1 k2.1 (by omega) (by omega) hv
end Go.Proofs.YtkdjilgddbjcaaaGreat
namespace Go.Proofs.YtkdjilgddbjcaaaGreat
open Go.RowKit
namespace Vc
def cJlimbs:Ctr:=⟨79,fun | [.c (.v (.int .u64 u))]=>.yes (0 <= u/\u < 18446744073709551616) (.k (.c (.sl (Lb.limbs u.toNat)))) | _=>.no⟩
theorem cJlimbs_ok:CtrOK Tryz.prog cJlimbs:=.of (by kernel_rfl) (fun bs w xs vs pre r hr hA hG h hp=>by
 simp only [cJlimbs] at h
 split at h
 ·cases h
  rename_i u
  obtain ⟨v,rfl,h1,_⟩:=relKs_one hr
  subst h1
  have hu:((u.toNat:Nat):Int)=u:=Int.toNat_of_nonneg hp.1
  have:=limbs_any u.toNat w (by omega)
  rw [hu] at this
  refine this.mono fun e w' h=>?_
  obtain ⟨a,n,c,rfl,hs,hx⟩:=h
  exact ⟨_,rfl,hx,hs,Away.none hA hG _ _⟩
 ·cases h) (fun xs α pre φ r=>by simp only [cJlimbs]; split <;> (intro h; cases h))
def cJfrom:Ctr:=⟨58,fun | [.c (.v (.int .i64 n))]=>.yes (-9223372036854775808 <= n/\n <= 9223372036854775807) (.k (.g [.I n])) | _=>.no⟩
theorem cJfrom_ok:CtrOK Tryz.prog cJfrom:=.of (by kernel_rfl) (fun bs w xs vs pre r hr hA hG h hp=>by
 simp only [cJfrom] at h
 split at h
 ·cases h
  obtain ⟨u,rfl,h1,_⟩:=relKs_one hr
  subst h1
  exact (rfromInt_any _ w hp.1 hp.2).mono fun e w' h=>ret_I hA hG h
 ·cases h) (fun xs α pre φ r=>by simp only [cJfrom]; split <;> (intro h; cases h))
def cJplus:Ctr:=⟨168,fun | [.c (.sl a),.c (.sl b)]=>.yes ((Lb.Lt a/\Lb.Lt b)/\a.length <= 100000000/\b.length <= 100000000) (.k (.c (.sl (Lb.limbs (Lb.val a+Lb.val b))))) | _=>.no⟩
theorem cJplus_ok:CtrOK Tryz.prog cJplus:=.of (by kernel_rfl) (fun bs w xs vs pre r hr hA hG h hp=>by
 simp only [cJplus] at h
 split at h
 ·cases h
  obtain ⟨u,v,rfl,h1,h2⟩:=relKs_two hr
  refine (rplus_any u v _ _ w h1.1 h2.1 hp.1.1 hp.1.2 hp.2.1 hp.2.2).mono fun e w' h=>?_
  obtain ⟨a,n,c,rfl,hs,hx,_⟩:=h
  exact ⟨_,rfl,hx,hs,Away.none hA hG _ _⟩
 ·cases h) (fun xs α pre φ r=>by simp only [cJplus]; split <;> (intro h; cases h))
def cJminus:Ctr:=⟨124,fun | [.c (.sl a),.c (.sl b)]=>.yes ((Lb.Lt a/\Lb.Lt b)/\(a.length <= 100000000/\b.length <= a.length)/\Lb.val b <= Lb.val a) (.k (.c (.sl (Lb.limbs (Lb.val a - Lb.val b))))) | _=>.no⟩
theorem cJminus_ok:CtrOK Tryz.prog cJminus:=.of (by kernel_rfl) (fun bs w xs vs pre r hr hA hG h hp=>by
 simp only [cJminus] at h
 split at h
 ·cases h
  obtain ⟨u,v,rfl,h1,h2⟩:=relKs_two hr
  refine (rminus_any u v _ _ w h1.1 h2.1 hp.1.1 hp.1.2 hp.2.1.1 hp.2.1.2 hp.2.2).mono fun e w' h=>?_
  obtain ⟨a,n,c,rfl,hs,hx,_⟩:=h
  exact ⟨_,rfl,hx,hs,Away.none hA hG _ _⟩
 ·cases h) (fun xs α pre φ r=>by simp only [cJminus]; split <;> (intro h; cases h))
def cJtimes:Ctr:=⟨81,fun | [.c (.sl a),.c (.sl b)]=>.yes ((Lb.Lt a/\Lb.Lt b)/\a.length <= 100000000/\b.length <= 100000000) (.k (.c (.sl (Lb.limbs (Lb.val a*Lb.val b))))) | _=>.no⟩
theorem cJtimes_ok:CtrOK Tryz.prog cJtimes:=.of (by kernel_rfl) (fun bs w xs vs pre r hr hA hG h hp=>by
 simp only [cJtimes] at h
 split at h
 ·cases h
  obtain ⟨u,v,rfl,h1,h2⟩:=relKs_two hr
  refine (rtimes_any u v _ _ w h1.1 h2.1 hp.1.1 hp.1.2 hp.2.1 hp.2.2).mono fun e w' h=>?_
  obtain ⟨a,n,c,rfl,hs,hx,_⟩:=h
  exact ⟨_,rfl,hx,hs,Away.none hA hG _ _⟩
 ·cases h) (fun xs α pre φ r=>by simp only [cJtimes]; split <;> (intro h; cases h))
def cJparts:Ctr:=⟨77,fun | [.c (.sl a),.c (.sl b)]=>.yes ((Lb.Lt a/\Lb.Norm b)/\(a.length <= 90000000/\b.length <= 90000000)/\Lb.val b ≠ 0) (.t [.c (.sl (Lb.limbs (Lb.val a / Lb.val b))),.c (.sl (Lb.limbs (Lb.val a % Lb.val b)))]) | _=>.no⟩
theorem cJparts_ok:CtrOK Tryz.prog cJparts:=.of (by kernel_rfl) (fun bs w xs vs pre r hr hA hG h hp=>by
 simp only [cJparts] at h
 split at h
 ·cases h
  obtain ⟨u,v,rfl,h1,h2⟩:=relKs_two hr
  refine (rparts_any u v _ _ w h1.1 h2.1 hp.1.1 hp.1.2 hp.2.1.1 hp.2.1.2 hp.2.2).mono fun e w' h=>?_
  obtain ⟨s,t,rfl,k1,k2,hx⟩:=h
  exact ⟨_,rfl,hx,_,rfl,⟨k1,Away.none hA hG _ _⟩,⟨k2,Away.none hA hG _ _⟩,trivial⟩
 ·cases h) (fun xs α pre φ r=>by simp only [cJparts]; split <;> (intro h; cases h))
def RT5:List Ctr:=RT4 ++ [cJlimbs,cJfrom,cJplus,cJminus,cJtimes,cJparts]
theorem RT5_ok:∀ c ∈ RT5,CtrOK Tryz.prog c:=ok_app RT4_ok (by
 intro c hc
 simp only [List.mem_cons,List.not_mem_nil,or_false] at hc
 rcases hc with rfl | rfl | rfl | rfl | rfl | rfl
 ·exact cJlimbs_ok
 ·exact cJfrom_ok
 ·exact cJplus_ok
 ·exact cJminus_ok
 ·exact cJtimes_ok
 ·exact cJparts_ok)
theorem limbs_len_mul (x y:Nat):(Lb.limbs (x*y)).length <= (Lb.limbs x).length+(Lb.limbs y).length:=by
 refine Lb.limbs_length ?_
 rw [Nat.pow_add]
 exact Nat.mul_lt_mul_of_lt_of_le (Lb.lt_pow_limbs x) (Nat.le_of_lt (Lb.lt_pow_limbs y)) (Nat.pow_pos Lb.B_pos)
theorem limbs_len_add (x y:Nat):(Lb.limbs (x+y)).length <= (Lb.limbs x).length+(Lb.limbs y).length+1:=by
 refine Lb.limbs_length ?_
 have h1:=Lb.lt_pow_limbs x
 have h2:=Lb.lt_pow_limbs y
 have h3:Lb.B ^ (Lb.limbs x).length <= Lb.B ^ ((Lb.limbs x).length+(Lb.limbs y).length):=Nat.pow_le_pow_right Lb.B_pos (by omega)
 have h4:Lb.B ^ (Lb.limbs y).length <= Lb.B ^ ((Lb.limbs x).length+(Lb.limbs y).length):=Nat.pow_le_pow_right Lb.B_pos (by omega)
 rw [Nat.pow_succ,Lb.B_eq] at *
 omega
theorem sgn_mul (x y:Int):sgn (decide (x < 0) != decide (y < 0)) (x.natAbs*y.natAbs)=x*y:=by
 unfold sgn
 rw [<- Int.natAbs_mul]
 rcases Int.lt_or_le x 0 with h | h <;> rcases Int.lt_or_le y 0 with h' | h'
 ·have:=Int.mul_pos_of_neg_of_neg h h'
  simp [h,h']; omega
 ·have:=Int.mul_nonpos_of_nonpos_of_nonneg (Int.le_of_lt h) h'
  have e:¬ y < 0:=by omega
  simp [h,e]; omega
 ·have:=Int.mul_nonpos_of_nonneg_of_nonpos h (Int.le_of_lt h')
  have e:¬ x < 0:=by omega
  simp [h',e]; omega
 ·have:=Int.mul_nonneg h h'
  have e:¬ x < 0:=by omega
  have e':¬ y < 0:=by omega
  simp [e,e']; omega
def cJmul:Ctr:=⟨46,fun | [.g [.I (x)],.g [.I (y)]]=>.yes (szI x <= 10000000/\szI y <= 10000000) (.k (.g [.I ((x*y))])) | _=>.no⟩
theorem cJmul_owes (x y:Int) (hp:szI x <= 10000000/\szI y <= 10000000):owes LT RT5 [] Tryz.f46 (Tryz.f46.body.getD .skip) [.g [.I (x)],.g [.I (y)]] (.k (.g [.I ((x*y))])):=by
 refine Eq.mp (show (((Lb.Lt (Lb.limbs x.natAbs)/\Lb.Lt (Lb.limbs y.natAbs))/\(Lb.limbs x.natAbs).length <= 100000000/\(Lb.limbs y.natAbs).length <= 100000000)/\((Lb.Lt (Lb.limbs (Lb.val (Lb.limbs x.natAbs)*Lb.val (Lb.limbs y.natAbs)))/\(Lb.limbs (Lb.val (Lb.limbs x.natAbs)*Lb.val (Lb.limbs y.natAbs))).length <= 1000000000)/\(((sgn ((decide (x < 0)) != (decide (y < 0))) (Lb.val (Lb.limbs (Lb.val (Lb.limbs x.natAbs)*Lb.val (Lb.limbs y.natAbs)))))=(x*y))/\True)))=_ by kernel_rfl) ?_
 unfold szI at hp
 have hL:=limbs_len_mul x.natAbs y.natAbs
 refine ⟨⟨⟨(Lb.norm_limbs _).1,(Lb.norm_limbs _).1⟩,by omega,by omega⟩,⟨(Lb.norm_limbs _).1,?_⟩,?_,trivial⟩
 ·rw [Lb.val_limbs,Lb.val_limbs]; omega
 ·rw [Lb.val_limbs,Lb.val_limbs,Lb.val_limbs]
  exact sgn_mul x y
theorem cJmul_ok:CtrOK Tryz.prog cJmul:=.of (by kernel_rfl) (fun bs w xs vs pre r hr hA hG h hp=>by
 simp only [cJmul] at h
 split at h
 ·cases h
  exact ctr_calls mixed LT_ok RT5_ok Tryz.func46 (by kernel_rfl) hr hA hG rfl rfl (cJmul_owes _ _ hp)
 ·cases h) (fun xs α pre φ r=>by simp only [cJmul]; split <;> (intro h; cases h))
def cJadd:Ctr:=⟨122,fun | [.g [.I (x)],.g [.I (y)]]=>.yes (szI x <= 10000000/\szI y <= 10000000) (.k (.g [.I ((x+y))])) | _=>.no⟩
theorem cJadd_owes (x y:Int) (hp:szI x <= 10000000/\szI y <= 10000000):owes LT RT5 [] Tryz.f122 (Tryz.f122.body.getD .skip) [.g [.I (x)],.g [.I (y)]] (.k (.g [.I ((x+y))])):=by
 refine Eq.mp (show ((((decide (x < 0)) == (decide (y < 0)))=true->(((Lb.Lt (Lb.limbs x.natAbs)/\Lb.Lt (Lb.limbs y.natAbs))/\(Lb.limbs x.natAbs).length <= 100000000/\(Lb.limbs y.natAbs).length <= 100000000)/\((Lb.Lt (Lb.limbs (Lb.val (Lb.limbs x.natAbs)+Lb.val (Lb.limbs y.natAbs)))/\(Lb.limbs (Lb.val (Lb.limbs x.natAbs)+Lb.val (Lb.limbs y.natAbs))).length <= 1000000000)/\(((sgn (decide (x < 0)) (Lb.val (Lb.limbs (Lb.val (Lb.limbs x.natAbs)+Lb.val (Lb.limbs y.natAbs)))))=(x+y))/\True))))/\(((decide (x < 0)) == (decide (y < 0)))=false->(((Lb.Norm (Lb.limbs x.natAbs)/\Lb.Norm (Lb.limbs y.natAbs))/\(Lb.limbs x.natAbs).length <= 1000000000/\(Lb.limbs y.natAbs).length <= 1000000000)/\(((decide ((cmpN (Lb.val (Lb.limbs x.natAbs)) (Lb.val (Lb.limbs y.natAbs))) >= (0:Int)))=true->(((Lb.Lt (Lb.limbs x.natAbs)/\Lb.Lt (Lb.limbs y.natAbs))/\((Lb.limbs x.natAbs).length <= 100000000/\(Lb.limbs y.natAbs).length <= (Lb.limbs x.natAbs).length)/\Lb.val (Lb.limbs y.natAbs) <= Lb.val (Lb.limbs x.natAbs))/\((Lb.Lt (Lb.limbs (Lb.val (Lb.limbs x.natAbs) - Lb.val (Lb.limbs y.natAbs)))/\(Lb.limbs (Lb.val (Lb.limbs x.natAbs) - Lb.val (Lb.limbs y.natAbs))).length <= 1000000000)/\(((sgn (decide (x < 0)) (Lb.val (Lb.limbs (Lb.val (Lb.limbs x.natAbs) - Lb.val (Lb.limbs y.natAbs)))))=(x+y))/\True))))/\((decide ((cmpN (Lb.val (Lb.limbs x.natAbs)) (Lb.val (Lb.limbs y.natAbs))) >= (0:Int)))=false->(((Lb.Lt (Lb.limbs y.natAbs)/\Lb.Lt (Lb.limbs x.natAbs))/\((Lb.limbs y.natAbs).length <= 100000000/\(Lb.limbs x.natAbs).length <= (Lb.limbs y.natAbs).length)/\Lb.val (Lb.limbs x.natAbs) <= Lb.val (Lb.limbs y.natAbs))/\((Lb.Lt (Lb.limbs (Lb.val (Lb.limbs y.natAbs) - Lb.val (Lb.limbs x.natAbs)))/\(Lb.limbs (Lb.val (Lb.limbs y.natAbs) - Lb.val (Lb.limbs x.natAbs))).length <= 1000000000)/\(((sgn (decide (y < 0)) (Lb.val (Lb.limbs (Lb.val (Lb.limbs y.natAbs) - Lb.val (Lb.limbs x.natAbs)))))=(x+y))/\True))))))))=_ by kernel_rfl) ?_
 unfold szI at hp
 have hA:=limbs_len_add x.natAbs y.natAbs
 have hs1:=Lb.limbs_mono (Nat.sub_le x.natAbs y.natAbs)
 have hs2:=Lb.limbs_mono (Nat.sub_le y.natAbs x.natAbs)
 have hN:=fun n=>Lb.norm_limbs n
 simp only [Lb.val_limbs]
 refine ⟨fun h=>⟨⟨⟨(hN _).1,(hN _).1⟩,by omega,by omega⟩,⟨(hN _).1,by omega⟩,?_,trivial⟩,fun h=>⟨⟨⟨hN _,hN _⟩,by omega,by omega⟩,fun h1=>?_,fun h1=>?_⟩⟩
 ·unfold sgn
  by_cases h2:x < 0 <;> by_cases h3:y < 0 <;> simp [h2,h3] at h ⊢ <;> omega
 ·have hle:y.natAbs <= x.natAbs:=by
   rcases Nat.lt_or_ge x.natAbs y.natAbs with h' | h'
   ·rw [cmpN_lt h'] at h1; cases h1
   ·exact h'
  refine ⟨⟨⟨(hN _).1,(hN _).1⟩,⟨by omega,Lb.limbs_mono hle⟩,hle⟩,⟨(hN _).1,by omega⟩,?_,trivial⟩
  unfold sgn
  by_cases h2:x < 0 <;> by_cases h3:y < 0 <;> simp [h2,h3] at h ⊢ <;> omega
 ·have hle:x.natAbs <= y.natAbs:=by
   rcases Nat.lt_trichotomy x.natAbs y.natAbs with h' | h' | h'
   ·omega
   ·rw [cmpN_eq h'] at h1; cases h1
   ·rw [cmpN_gt h'] at h1; cases h1
  refine ⟨⟨⟨(hN _).1,(hN _).1⟩,⟨by omega,Lb.limbs_mono hle⟩,hle⟩,⟨(hN _).1,by omega⟩,?_,trivial⟩
  unfold sgn
  by_cases h2:x < 0 <;> by_cases h3:y < 0 <;> simp [h2,h3] at h ⊢ <;> omega
theorem cJadd_ok:CtrOK Tryz.prog cJadd:=.of (by kernel_rfl) (fun bs w xs vs pre r hr hA hG h hp=>by
 simp only [cJadd] at h
 split at h
 ·cases h
  exact ctr_calls mixed LT_ok RT5_ok Tryz.func122 (by kernel_rfl) hr hA hG rfl rfl (cJadd_owes _ _ hp)
 ·cases h) (fun xs α pre φ r=>by simp only [cJadd]; split <;> (intro h; cases h))
def RT6:List Ctr:=RT5 ++ [cJmul,cJadd]
theorem RT6_ok:∀ c ∈ RT6,CtrOK Tryz.prog c:=ok_app RT5_ok (by
 intro c hc
 simp only [List.mem_cons,List.not_mem_nil,or_false] at hc
 rcases hc with rfl | rfl
 ·exact cJmul_ok
 ·exact cJadd_ok)
def cJsub:Ctr:=⟨125,fun | [.g [.I (x)],.g [.I (y)]]=>.yes (szI x <= 10000000/\szI y <= 10000000) (.k (.g [.I ((x - y))])) | _=>.no⟩
theorem cJsub_owes (x y:Int) (hp:szI x <= 10000000/\szI y <= 10000000):owes LT RT6 [] Tryz.f125 (Tryz.f125.body.getD .skip) [.g [.I (x)],.g [.I (y)]] (.k (.g [.I ((x - y))])):=by
 refine Eq.mp (show ((szI y <= 10000000)/\((szI x <= 10000000/\szI (-y) <= 10000000)/\(((x+(-y))=(x - y))/\True)))=_ by kernel_rfl) ?_
 obtain ⟨h1,h2⟩:=hp
 refine ⟨h2,⟨h1,?_⟩,?_,trivial⟩
 ·unfold szI at *; rw [Int.natAbs_neg]; exact h2
 ·omega
theorem cJsub_ok:CtrOK Tryz.prog cJsub:=.of (by kernel_rfl) (fun bs w xs vs pre r hr hA hG h hp=>by
 simp only [cJsub] at h
 split at h
 ·cases h
  exact ctr_calls mixed LT_ok RT6_ok Tryz.func125 (by kernel_rfl) hr hA hG rfl rfl (cJsub_owes _ _ hp)
 ·cases h) (fun xs α pre φ r=>by simp only [cJsub]; split <;> (intro h; cases h))
def RT7:List Ctr:=RT6 ++ [cJsub]
theorem RT7_ok:∀ c ∈ RT7,CtrOK Tryz.prog c:=ok_app RT6_ok (by
 intro c hc
 simp only [List.mem_cons,List.not_mem_nil,or_false] at hc
 rcases hc with rfl
 ·exact cJsub_ok)
def cJdm:Ctr:=⟨82,fun | [.g [.I (x)],.g [.I (y)]]=>.yes ((0 < y/\x % y=0)/\(szI x <= 5000000/\szI y <= 5000000)) (.t [.g [.I ((x / y))],.g [.I ((0:Int))],.c (.v (.int .i64 ((0:Int))))]) | _=>.no⟩
theorem cJdm_owes (x y:Int) (hp:(0 < y/\x % y=0)/\(szI x <= 5000000/\szI y <= 5000000)):owes LT RT7 [] Tryz.f82 (Tryz.f82.body.getD .skip) [.g [.I (x)],.g [.I (y)]] (.t [.g [.I ((x / y))],.g [.I ((0:Int))],.c (.v (.int .i64 ((0:Int))))]):=by
 refine Eq.mp (show (((((Lb.limbs y.natAbs).length:Int) == (0:Int))=true->(((Value.bool false=.bool (decide ((x / y) < 0)))/\((([]:List Nat)=Lb.limbs (x / y).natAbs)/\True))/\(((Value.bool false=.bool (decide ((0:Int) < 0)))/\((([]:List Nat)=Lb.limbs (0:Int).natAbs)/\True))/\((Value.int .i64 (6:Int)=(.int .i64 (0:Int)))/\True))))/\((((Lb.limbs y.natAbs).length:Int) == (0:Int))=false->(((Lb.Lt (Lb.limbs x.natAbs)/\Lb.Norm (Lb.limbs y.natAbs))/\((Lb.limbs x.natAbs).length <= 90000000/\(Lb.limbs y.natAbs).length <= 90000000)/\Lb.val (Lb.limbs y.natAbs) ≠ 0)/\((Lb.Lt (Lb.limbs (Lb.val (Lb.limbs x.natAbs) / Lb.val (Lb.limbs y.natAbs)))/\(Lb.limbs (Lb.val (Lb.limbs x.natAbs) / Lb.val (Lb.limbs y.natAbs))).length <= 1000000000)/\((Lb.Lt (Lb.limbs (Lb.val (Lb.limbs x.natAbs) % Lb.val (Lb.limbs y.natAbs)))/\(Lb.limbs (Lb.val (Lb.limbs x.natAbs) % Lb.val (Lb.limbs y.natAbs))).length <= 1000000000)/\(((bif (decide (((Lb.limbs (Lb.val (Lb.limbs x.natAbs) % Lb.val (Lb.limbs y.natAbs))).length:Int) > (0:Int))) then ((decide (x < 0)) != (decide (y < 0))) else false)=true->((-9223372036854775808 <= (1:Int)/\(1:Int) <= 9223372036854775807)/\((szI (sgn ((decide (x < 0)) != (decide (y < 0))) (Lb.val (Lb.limbs (Lb.val (Lb.limbs x.natAbs) / Lb.val (Lb.limbs y.natAbs))))) <= 10000000/\szI (1:Int) <= 10000000)/\((szI (sgn (decide (x < 0)) (Lb.val (Lb.limbs (Lb.val (Lb.limbs x.natAbs) % Lb.val (Lb.limbs y.natAbs))))) <= 10000000/\szI y <= 10000000)/\((((((((((sgn ((decide (x < 0)) != (decide (y < 0))) (Lb.val (Lb.limbs (Lb.val (Lb.limbs x.natAbs) / Lb.val (Lb.limbs y.natAbs))))) - (1:Int))=(x / y))/\True)/\(((((sgn (decide (x < 0)) (Lb.val (Lb.limbs (Lb.val (Lb.limbs x.natAbs) % Lb.val (Lb.limbs y.natAbs)))))+y)=(0:Int))/\True)/\((Value.int .i64 (0:Int)=(.int .i64 (0:Int)))/\True)))/\True)/\True)/\True)/\(((((((((sgn ((decide (x < 0)) != (decide (y < 0))) (Lb.val (Lb.limbs (Lb.val (Lb.limbs x.natAbs) / Lb.val (Lb.limbs y.natAbs))))) - (1:Int))=(x / y))/\True)/\(((((sgn (decide (x < 0)) (Lb.val (Lb.limbs (Lb.val (Lb.limbs x.natAbs) % Lb.val (Lb.limbs y.natAbs)))))+y)=(0:Int))/\True)/\((Value.int .i64 (0:Int)=(.int .i64 (0:Int)))/\True)))/\True)/\True)/\True)/\True))/\((((((((((sgn ((decide (x < 0)) != (decide (y < 0))) (Lb.val (Lb.limbs (Lb.val (Lb.limbs x.natAbs) / Lb.val (Lb.limbs y.natAbs))))) - (1:Int))=(x / y))/\True)/\(((((sgn (decide (x < 0)) (Lb.val (Lb.limbs (Lb.val (Lb.limbs x.natAbs) % Lb.val (Lb.limbs y.natAbs)))))+y)=(0:Int))/\True)/\((Value.int .i64 (0:Int)=(.int .i64 (0:Int)))/\True)))/\True)/\True)/\True)/\True)/\True))))))/\((bif (decide (((Lb.limbs (Lb.val (Lb.limbs x.natAbs) % Lb.val (Lb.limbs y.natAbs))).length:Int) > (0:Int))) then ((decide (x < 0)) != (decide (y < 0))) else false)=false->(((((((((sgn ((decide (x < 0)) != (decide (y < 0))) (Lb.val (Lb.limbs (Lb.val (Lb.limbs x.natAbs) / Lb.val (Lb.limbs y.natAbs)))))=(x / y))/\True)/\((((sgn (decide (x < 0)) (Lb.val (Lb.limbs (Lb.val (Lb.limbs x.natAbs) % Lb.val (Lb.limbs y.natAbs)))))=(0:Int))/\True)/\((Value.int .i64 (0:Int)=(.int .i64 (0:Int)))/\True)))/\True)/\True)/\True)/\((((((((sgn ((decide (x < 0)) != (decide (y < 0))) (Lb.val (Lb.limbs (Lb.val (Lb.limbs x.natAbs) / Lb.val (Lb.limbs y.natAbs)))))=(x / y))/\True)/\((((sgn (decide (x < 0)) (Lb.val (Lb.limbs (Lb.val (Lb.limbs x.natAbs) % Lb.val (Lb.limbs y.natAbs)))))=(0:Int))/\True)/\((Value.int .i64 (0:Int)=(.int .i64 (0:Int)))/\True)))/\True)/\True)/\True)/\True))/\(((((((((sgn ((decide (x < 0)) != (decide (y < 0))) (Lb.val (Lb.limbs (Lb.val (Lb.limbs x.natAbs) / Lb.val (Lb.limbs y.natAbs)))))=(x / y))/\True)/\((((sgn (decide (x < 0)) (Lb.val (Lb.limbs (Lb.val (Lb.limbs x.natAbs) % Lb.val (Lb.limbs y.natAbs)))))=(0:Int))/\True)/\((Value.int .i64 (0:Int)=(.int .i64 (0:Int)))/\True)))/\True)/\True)/\True)/\True)/\True)))))))))=_ by kernel_rfl) ?_
 obtain ⟨⟨hy,hxy⟩,hx5,hy5⟩:=hp
 unfold szI at hx5 hy5
 have hny:y.natAbs ≠ 0:=by omega
 have hly:(Lb.limbs y.natAbs).length ≠ 0:=by rw [Lb.limbs_pos hny]; simp
 have hN:=fun n=>Lb.norm_limbs n
 have hd:=Lb.limbs_mono (Nat.div_le_self x.natAbs y.natAbs)
 have hr:x.natAbs % y.natAbs=0:=Nat.mod_eq_zero_of_dvd (Int.natAbs_dvd_natAbs.2 (Int.dvd_of_emod_eq_zero hxy))
 simp only [Lb.val_limbs,hr,Lb.limbs_zero]
 refine ⟨fun h=>absurd h (by simpa using hly),fun _=>⟨⟨⟨(hN _).1,hN _⟩,⟨by omega,by omega⟩,hny⟩,⟨(hN _).1,by omega⟩,⟨Lb.lt_nil,by simp⟩,fun h=>?_,fun _=>?_⟩⟩
 ·exfalso
  simp at h
 ·rw [sgn_div x y hy hxy]
  simp [sgn,Lb.val]
theorem cJdm_ok:CtrOK Tryz.prog cJdm:=.of (by kernel_rfl) (fun bs w xs vs pre r hr hA hG h hp=>by
 simp only [cJdm] at h
 split at h
 ·cases h
  exact ctr_calls mixed LT_ok RT7_ok Tryz.func82 (by kernel_rfl) hr hA hG rfl rfl (cJdm_owes _ _ hp)
 ·cases h) (fun xs α pre φ r=>by simp only [cJdm]; split <;> (intro h; cases h))
def RT8:List Ctr:=RT7 ++ [cJdm]
theorem RT8_ok:∀ c ∈ RT8,CtrOK Tryz.prog c:=ok_app RT7_ok (by
 intro c hc
 simp only [List.mem_cons,List.not_mem_nil,or_false] at hc
 rcases hc with rfl
 ·exact cJdm_ok)
def cJgcd:Ctr:=⟨42,fun | [.g [.I (x)],.g [.I (y)]]=>.yes (szI x <= 5000000/\szI y <= 5000000) (.k (.g [.I ((Int.gcd x y:Int))])) | _=>.no⟩
theorem cJgcd_owes (x y:Int) (hp:szI x <= 5000000/\szI y <= 5000000):owes LT RT8 [.inv 2 (Nat × Nat) (fun ξ=>⟨[.u,.u,.k (.c (.bx 0 0)),.k (.c (.bx 1 0)),.k (.c (.bx 2 0)),.k (.c (.sl ((Lb.limbs (ξ.1))))),.k (.c (.sl ((Lb.limbs (ξ.2))))),.u,.u,.u,.u,.u,.u,.u,.u,.u,.u,.u,.u,.u,.u,.u,.u,.u,.u,.u,.u,.u,.u,.u,.u,.u,.u,.u,.u,.u,.u,.u,.u,.u,.u,.u,.u,.u,.u,.u,.u,.u,.u,.u,.u,.u,.u,.u],[⟨30,[.I (x)]⟩,⟨30,[.I (y)]⟩,⟨30,[.v (.bool (false)),.sl (([]:List Nat))]⟩]⟩) (fun _ ξ=>(Nat.gcd ξ.1 ξ.2=Int.gcd x y/\(Lb.limbs ξ.1).length <= 5000000/\(Lb.limbs ξ.2).length <= 5000000)) (fun ξ=>ξ.2),.inv 8 (Nat × Nat) (fun ξ=>⟨[.u,.u,.u,.u,.k (.c (.bx 2 0)),.u,.u,.u,.u,.k (.c (.v (.int .u64 ((ξ.1:Int))))),.k (.c (.v (.int .u64 ((ξ.2:Int))))),.u,.u,.u,.u,.u,.u,.u,.u,.u,.u,.u,.u,.u,.u,.u,.u,.u,.u,.u,.u,.u,.u,.u,.u,.u,.u,.u,.u,.u,.u,.u,.u,.u,.u,.u,.u,.u,.u,.u,.u,.u,.u,.u],[⟨30,[.I (x)]⟩,⟨30,[.I (y)]⟩,⟨30,[.v (.bool (false)),.sl (([]:List Nat))]⟩]⟩) (fun _ ξ=>(Nat.gcd ξ.1 ξ.2=Int.gcd x y/\ξ.1 < 18446744073709551616/\ξ.2 < 18446744073709551616)) (fun ξ=>ξ.2)] Tryz.f42 (Tryz.f42.body.getD .skip) [.g [.I (x)],.g [.I (y)]] (.k (.g [.I ((Int.gcd x y:Int))])):=by
 refine Eq.mp (show ((∃ x1:Nat × Nat,((Nat.gcd x1.1 x1.2=Int.gcd x y/\(Lb.limbs x1.1).length <= 5000000/\(Lb.limbs x1.2).length <= 5000000)/\((True/\(True/\(True/\((Lb.limbs x.natAbs=(Lb.limbs x1.1))/\((Lb.limbs y.natAbs=(Lb.limbs x1.2))/\True)))))/\(((x=x)/\True)/\(((y=y)/\True)/\(((Value.bool false=(.bool false))/\((([]:List Nat)=([]:List Nat))/\True))/\True))))))/\(∀ x1:Nat × Nat,((Nat.gcd x1.1 x1.2=Int.gcd x y/\(Lb.limbs x1.1).length <= 5000000/\(Lb.limbs x1.2).length <= 5000000)->(((bif (decide (((Lb.limbs x1.2).length:Int) > (0:Int))) then (bif (decide (((Lb.limbs x1.1).length:Int) > (2:Int))) then true else (decide (((Lb.limbs x1.2).length:Int) > (2:Int)))) else false)=true->(((Lb.Lt (Lb.limbs x1.1)/\Lb.Norm (Lb.limbs x1.2))/\((Lb.limbs x1.1).length <= 90000000/\(Lb.limbs x1.2).length <= 90000000)/\Lb.val (Lb.limbs x1.2) ≠ 0)/\(∃ y1:Nat × Nat,((Nat.gcd y1.1 y1.2=Int.gcd x y/\(Lb.limbs y1.1).length <= 5000000/\(Lb.limbs y1.2).length <= 5000000)/\((y1.2 < x1.2)/\((True/\(True/\(True/\(((Lb.limbs x1.2)=(Lb.limbs y1.1))/\(((Lb.limbs (Lb.val (Lb.limbs x1.1) % Lb.val (Lb.limbs x1.2)))=(Lb.limbs y1.2))/\True)))))/\(((x=x)/\True)/\(((y=y)/\True)/\(((Value.bool false=(.bool false))/\((([]:List Nat)=([]:List Nat))/\True))/\True)))))))))/\((bif (decide (((Lb.limbs x1.2).length:Int) > (0:Int))) then (bif (decide (((Lb.limbs x1.1).length:Int) > (2:Int))) then true else (decide (((Lb.limbs x1.2).length:Int) > (2:Int)))) else false)=false->(((((Lb.limbs x1.2).length:Int) == (0:Int))=true->((Lb.Lt (Lb.limbs x1.1)/\(Lb.limbs x1.1).length <= 1000000000)/\(((sgn false (Lb.val (Lb.limbs x1.1)))=(Int.gcd x y:Int))/\True)))/\((((Lb.limbs x1.2).length:Int) == (0:Int))=false->((Lb.Lt (Lb.limbs x1.1)/\(Lb.limbs x1.1).length <= 2)/\((Lb.Lt (Lb.limbs x1.2)/\(Lb.limbs x1.2).length <= 2)/\((∃ x2:Nat × Nat,((Nat.gcd x2.1 x2.2=Int.gcd x y/\x2.1 < 18446744073709551616/\x2.2 < 18446744073709551616)/\((True/\((Value.int .u64 (Lb.val (Lb.limbs x1.1):Int)=(.int .u64 (x2.1:Int)))/\((Value.int .u64 (Lb.val (Lb.limbs x1.2):Int)=(.int .u64 (x2.2:Int)))/\True)))/\(((x=x)/\True)/\(((y=y)/\True)/\(((Value.bool false=(.bool false))/\((([]:List Nat)=([]:List Nat))/\True))/\True))))))/\(∀ x2:Nat × Nat,((Nat.gcd x2.1 x2.2=Int.gcd x y/\x2.1 < 18446744073709551616/\x2.2 < 18446744073709551616)->(((decide ((x2.2:Int) > (0:Int)))=true->((0 <= (x2.1:Int)/\0 < (x2.2:Int))/\(∃ y2:Nat × Nat,((Nat.gcd y2.1 y2.2=Int.gcd x y/\y2.1 < 18446744073709551616/\y2.2 < 18446744073709551616)/\((y2.2 < x2.2)/\((True/\((Value.int .u64 (x2.2:Int)=(.int .u64 (y2.1:Int)))/\((Value.int .u64 ((x2.1:Int) % (x2.2:Int))=(.int .u64 (y2.2:Int)))/\True)))/\(((x=x)/\True)/\(((y=y)/\True)/\(((Value.bool false=(.bool false))/\((([]:List Nat)=([]:List Nat))/\True))/\True)))))))))/\((decide ((x2.2:Int) > (0:Int)))=false->((0 <= (x2.1:Int)/\(x2.1:Int) < 18446744073709551616)/\((Lb.Lt (Lb.limbs (x2.1:Int).toNat)/\(Lb.limbs (x2.1:Int).toNat).length <= 1000000000)/\(((sgn false (Lb.val (Lb.limbs (x2.1:Int).toNat)))=(Int.gcd x y:Int))/\True)))))))))))))))))=_ by kernel_rfl) ?_
 obtain ⟨hx5,hy5⟩:=hp
 have hgcd:Int.gcd x y=Nat.gcd x.natAbs y.natAbs:=rfl
 generalize hg:Int.gcd x y=g at *
 have sgn0:∀ n:Nat,sgn false n=(n:Int):=fun n=>by simp [sgn]
 have hN:=fun n=>Lb.norm_limbs n
 unfold szI at hx5 hy5
 simp only [Lb.val_limbs,sgn0]
 have hpos:∀ n:Nat,n ≠ 0->0 < (Lb.limbs n).length:=fun n hn=>by rw [Lb.limbs_pos hn]; simp
 refine ⟨⟨(x.natAbs,y.natAbs),⟨hgcd.symm,hx5,hy5⟩,by simp,by simp⟩,?_⟩
 rintro ⟨a,b⟩ ⟨hab,ha,hb⟩
 simp only at *
 refine ⟨fun h0=>?_,fun h0=>⟨fun h1=>?_,fun h1=>?_⟩⟩
 ·have hb0:b ≠ 0:=by rintro rfl; simp [Lb.limbs_zero] at h0
  have hlt:=Nat.mod_lt a (show 0 < b by omega)
  refine ⟨⟨⟨(hN _).1,hN _⟩,⟨by omega,by omega⟩,hb0⟩,(b,a % b),⟨?_,hb,?_⟩,hlt,by simp,by simp⟩
  ·rw [<- hab,Nat.gcd_comm a b,Nat.gcd_rec b a,Nat.gcd_comm]
  ·exact Nat.le_trans (Lb.limbs_mono (by omega)) hb
 ·have hb0:b=0:=by
   rcases Nat.eq_zero_or_pos b with h | h
   ·exact h
   ·have:=hpos b (by omega)
    have h2:((Lb.limbs b).length:Int)=0:=by simpa using h1
    omega
  subst hb0
  rw [Nat.gcd_zero_right] at hab
  exact ⟨⟨(hN _).1,by omega⟩,by rw [hab],trivial⟩
 ·have hb0:b ≠ 0:=by rintro rfl; simp [Lb.limbs_zero] at h1
  have hb1:=hpos b hb0
  have hd:decide (((Lb.limbs b).length:Int) > 0)=true:=by simp; omega
  rw [hd] at h0
  have ha2:(Lb.limbs a).length <= 2:=by
   rcases Nat.lt_or_ge 2 (Lb.limbs a).length with h | h
   ·have h3:decide (((Lb.limbs a).length:Int) > 2)=true:=by simp; omega
    rw [h3] at h0; cases h0
   ·exact h
  have hb2:(Lb.limbs b).length <= 2:=by
   rcases Nat.lt_or_ge 2 (Lb.limbs b).length with h | h
   ·have h3:decide (((Lb.limbs b).length:Int) > 2)=true:=by simp; omega
    rw [h3] at h0
    cases h4:decide (((Lb.limbs a).length:Int) > 2) <;> rw [h4] at h0 <;> cases h0
   ·exact h
  have k2:∀ n,(Lb.limbs n).length <= 2->n < 18446744073709551616:=fun n hn=>by
   have h1:=Lb.lt_pow_limbs n
   have h2:Lb.B ^ (Lb.limbs n).length <= Lb.B ^ 2:=Nat.pow_le_pow_right Lb.B_pos hn
   have h3:Lb.B ^ 2=1000000000000000000:=rfl
   omega
  refine ⟨⟨(hN _).1,ha2⟩,⟨(hN _).1,hb2⟩,⟨(a,b),⟨hab,k2 _ ha2,k2 _ hb2⟩,by simp,by simp⟩,?_⟩
  rintro ⟨u,v⟩ ⟨huv,hu,hv⟩
  simp only at *
  refine ⟨fun h2=>?_,fun h2=>?_⟩
  ·have hv0:0 < v:=by have:=of_decide_eq_true h2; omega
   have hlt:=Nat.mod_lt u hv0
   refine ⟨⟨by omega,by omega⟩,(v,u % v),⟨?_,hv,by simp only; omega⟩,hlt,by simp,by simp⟩
   rw [<- huv,Nat.gcd_comm u v,Nat.gcd_rec v u,Nat.gcd_comm]
  ·have hv0:v=0:=by have:=of_decide_eq_false h2; omega
   subst hv0
   rw [Nat.gcd_zero_right] at huv
   subst huv
   rw [Int.toNat_natCast]
   have hl:=Lb.limbs_length (n:=u) (k:=3) (by
    have:Lb.B ^ 3=1000000000000000000000000000:=rfl
    omega)
   exact ⟨⟨by omega,by omega⟩,⟨(hN _).1,by omega⟩,rfl,trivial⟩
theorem cJgcd_ok:CtrOK Tryz.prog cJgcd:=.of (by kernel_rfl) (fun bs w xs vs pre r hr hA hG h hp=>by
 simp only [cJgcd] at h
 split at h
 ·cases h
  exact ctr_calls mixed LT_ok RT8_ok Tryz.func42 (by kernel_rfl) hr hA hG rfl rfl (cJgcd_owes _ _ hp)
 ·cases h) (fun xs α pre φ r=>by simp only [cJgcd]; split <;> (intro h; cases h))
def RT9:List Ctr:=RT8 ++ [cJgcd]
theorem RT9_ok:∀ c ∈ RT9,CtrOK Tryz.prog c:=ok_app RT8_ok (by
 intro c hc
 simp only [List.mem_cons,List.not_mem_nil,or_false] at hc
 rcases hc with rfl
 ·exact cJgcd_ok)
end Vc
end Go.Proofs.YtkdjilgddbjcaaaGreat
namespace Go.Proofs.YtkdjilgddbjcaaaGreat
open Go.RowKit
namespace Vc
theorem of_core (n d:Int) (hd:0 < d) (h1:szI n <= 5000000) (h2:szI d <= 5000000) :
    ((0 < ((Int.gcd n d:Nat):Int)/\n % ((Int.gcd n d:Nat):Int)=0)/\szI n <= 5000000/\szI ((Int.gcd n d:Nat):Int) <= 5000000) /\
    ((0 < ((Int.gcd n d:Nat):Int)/\d % ((Int.gcd n d:Nat):Int)=0)/\szI d <= 5000000/\szI ((Int.gcd n d:Nat):Int) <= 5000000) /\
    n / ((Int.gcd n d:Nat):Int)=(Rat.divInt n d).num/\d / ((Int.gcd n d:Nat):Int)=((Rat.divInt n d).den:Int):=by
 have hg:0 < Int.gcd n d:=Int.gcd_pos_of_ne_zero_right _ (by omega)
 have hgd:szI ((Int.gcd n d:Nat):Int) <= szI d:=szI_mono (by rw [Int.natAbs_natCast]; exact Nat.le_of_dvd (by omega) (Nat.gcd_dvd_right n.natAbs d.natAbs))
 have d1:n % ((Int.gcd n d:Nat):Int)=0:=Int.emod_eq_zero_of_dvd (Int.gcd_dvd_left ..)
 have d2:d % ((Int.gcd n d:Nat):Int)=0:=Int.emod_eq_zero_of_dvd (Int.gcd_dvd_right ..)
 exact ⟨⟨⟨by omega,d1⟩,h1,by omega⟩,⟨⟨by omega,d2⟩,h2,by omega⟩,(Rt.red_num hd).symm,(Rt.red_den hd).symm⟩
def cKunit:Ctr:=⟨43,fun | []=>.yes (True) (.k (.g [.I ((1:Int))])) | _=>.no⟩
theorem cKunit_owes :owes LT RT9 [] Tryz.f43 (Tryz.f43.body.getD .skip) [] (.k (.g [.I ((1:Int))])):=by
 refine Eq.mp (show ((-9223372036854775808 <= (1:Int)/\(1:Int) <= 9223372036854775807)/\(((1:Int)=(1:Int))/\True))=_ by kernel_rfl) ?_
 simp
theorem cKunit_ok:CtrOK Tryz.prog cKunit:=.of (by kernel_rfl) (fun bs w xs vs pre r hr hA hG h hp=>by
 simp only [cKunit] at h
 split at h
 ·cases h
  exact ctr_calls mixed LT_ok RT9_ok Tryz.func43 (by kernel_rfl) hr hA hG rfl rfl (cKunit_owes )
 ·cases h) (fun xs α pre φ r=>by simp only [cKunit]; split <;> (intro h; cases h))
def cKof:Ctr:=⟨48,fun | [.g [.I (n)],.g [.I (d)]]=>.yes (d ≠ 0/\szI n <= 5000000/\szI d <= 5000000) (.k (.g [.R ((Rat.divInt n d))])) | _=>.no⟩
theorem cKof_owes (n d:Int) (hp:d ≠ 0/\szI n <= 5000000/\szI d <= 5000000):owes LT RT9 [] Tryz.f48 (Tryz.f48.body.getD .skip) [.g [.I (n)],.g [.I (d)]] (.k (.g [.R ((Rat.divInt n d))])):=by
 refine Eq.mp (show (True/\(((decide (d.sign < (0:Int)))=true->((szI n <= 10000000)/\((szI d <= 10000000)/\((szI (-n) <= 5000000/\szI (-d) <= 5000000)/\(((0 < ((Int.gcd (-n) (-d):Nat):Int)/\(-n) % ((Int.gcd (-n) (-d):Nat):Int)=0)/\(szI (-n) <= 5000000/\szI ((Int.gcd (-n) (-d):Nat):Int) <= 5000000))/\(((0 < ((Int.gcd (-n) (-d):Nat):Int)/\(-d) % ((Int.gcd (-n) (-d):Nat):Int)=0)/\(szI (-d) <= 5000000/\szI ((Int.gcd (-n) (-d):Nat):Int) <= 5000000))/\((((-n) / ((Int.gcd (-n) (-d):Nat):Int))=(Rat.divInt n d).num)/\((((-d) / ((Int.gcd (-n) (-d):Nat):Int))=((Rat.divInt n d).den:Int))/\True))))))))/\((decide (d.sign < (0:Int)))=false->((szI n <= 5000000/\szI d <= 5000000)/\(((0 < ((Int.gcd n d:Nat):Int)/\n % ((Int.gcd n d:Nat):Int)=0)/\(szI n <= 5000000/\szI ((Int.gcd n d:Nat):Int) <= 5000000))/\(((0 < ((Int.gcd n d:Nat):Int)/\d % ((Int.gcd n d:Nat):Int)=0)/\(szI d <= 5000000/\szI ((Int.gcd n d:Nat):Int) <= 5000000))/\(((n / ((Int.gcd n d:Nat):Int))=(Rat.divInt n d).num)/\(((d / ((Int.gcd n d:Nat):Int))=((Rat.divInt n d).den:Int))/\True))))))))=_ by kernel_rfl) ?_
 obtain ⟨h0,h1,h2⟩:=hp
 have sg1:d.sign < 0 ↔ d < 0:=by rw [Int.sign_neg_iff]
 refine ⟨trivial,fun h=>?_,fun h=>?_⟩
 ·have hd:d < 0:=sg1.1 (of_decide_eq_true h)
  obtain ⟨k1,k2,k3,k4⟩:=of_core (-n) (-d) (by omega) (Nat.le_trans (szI_neg' n) h1) (Nat.le_trans (szI_neg' d) h2)
  rw [Rt.red_neg] at k3 k4
  exact ⟨by omega,by omega,⟨Nat.le_trans (szI_neg' n) h1,Nat.le_trans (szI_neg' d) h2⟩,k1,k2,k3,k4,trivial⟩
 ·have hd:¬ d < 0:=fun c=>(of_decide_eq_false h) (sg1.2 c)
  obtain ⟨k1,k2,k3,k4⟩:=of_core n d (by omega) h1 h2
  exact ⟨⟨h1,h2⟩,k1,k2,k3,k4,trivial⟩
theorem cKof_ok:CtrOK Tryz.prog cKof:=.of (by kernel_rfl) (fun bs w xs vs pre r hr hA hG h hp=>by
 simp only [cKof] at h
 split at h
 ·cases h
  exact ctr_calls mixed LT_ok RT9_ok Tryz.func48 (by kernel_rfl) hr hA hG rfl rfl (cKof_owes _ _ hp)
 ·cases h) (fun xs α pre φ r=>by simp only [cKof]; split <;> (intro h; cases h))
def cKsign:Ctr:=⟨10,fun | [.g [.R (p)]]=>.yes (True) (.k (.c (.v (.int .i64 ((Rt.sg p)))))) | _=>.no⟩
theorem cKsign_owes (p:Rat):owes LT RT9 [] Tryz.f10 (Tryz.f10.body.getD .skip) [.g [.R (p)]] (.k (.c (.v (.int .i64 ((Rt.sg p)))))):=by
 refine Eq.mp (show (True/\(Value.int .i64 p.num.sign=(.int .i64 (Rt.sg p))))=_ by kernel_rfl) ?_
 simp [Rt.sg]
theorem cKsign_ok:CtrOK Tryz.prog cKsign:=.of (by kernel_rfl) (fun bs w xs vs pre r hr hA hG h hp=>by
 simp only [cKsign] at h
 split at h
 ·cases h
  exact ctr_calls mixed LT_ok RT9_ok Tryz.func10 (by kernel_rfl) hr hA hG rfl rfl (cKsign_owes _)
 ·cases h) (fun xs α pre φ r=>by simp only [cKsign]; split <;> (intro h; cases h))
def ST0:List Ctr:=RT9 ++ [cKunit,cKof,cKsign]
theorem ST0_ok:∀ c ∈ ST0,CtrOK Tryz.prog c:=ok_app RT9_ok (by
 intro c hc
 simp only [List.mem_cons,List.not_mem_nil,or_false] at hc
 rcases hc with rfl | rfl | rfl
 ·exact cKunit_ok
 ·exact cKof_ok
 ·exact cKsign_ok)
def cKneg:Ctr:=⟨8,fun | [.g [.R (p)]]=>.yes (szR p <= 5000000) (.k (.g [.R ((-p))])) | _=>.no⟩
theorem cKneg_owes (p:Rat) (hp:szR p <= 5000000):owes LT ST0 [] Tryz.f8 (Tryz.f8.body.getD .skip) [.g [.R (p)]] (.k (.g [.R ((-p))])):=by
 refine Eq.mp (show ((szI p.num <= 10000000)/\(((-p.num)=(-p).num)/\(((p.den:Int)=((-p).den:Int))/\True)))=_ by kernel_rfl) ?_
 have a1:=szR_num p
 refine ⟨by omega,?_⟩
 simp
theorem cKneg_ok:CtrOK Tryz.prog cKneg:=.of (by kernel_rfl) (fun bs w xs vs pre r hr hA hG h hp=>by
 simp only [cKneg] at h
 split at h
 ·cases h
  exact ctr_calls mixed LT_ok ST0_ok Tryz.func8 (by kernel_rfl) hr hA hG rfl rfl (cKneg_owes _ hp)
 ·cases h) (fun xs α pre φ r=>by simp only [cKneg]; split <;> (intro h; cases h))
def cKfrom:Ctr:=⟨47,fun | [.c (.v (.int .i64 (n)))]=>.yes (-9223372036854775808 <= n/\n <= 9223372036854775807) (.k (.g [.R ((n:Rat))])) | _=>.no⟩
theorem cKfrom_owes (n:Int) (hp:-9223372036854775808 <= n/\n <= 9223372036854775807):owes LT ST0 [] Tryz.f47 (Tryz.f47.body.getD .skip) [.c (.v (.int .i64 (n)))] (.k (.g [.R ((n:Rat))])):=by
 refine Eq.mp (show ((-9223372036854775808 <= n/\n <= 9223372036854775807)/\(True/\((n=(n:Rat).num)/\(((1:Int)=((n:Rat).den:Int))/\True))))=_ by kernel_rfl) ?_
 refine ⟨hp,?_⟩
 simp
theorem cKfrom_ok:CtrOK Tryz.prog cKfrom:=.of (by kernel_rfl) (fun bs w xs vs pre r hr hA hG h hp=>by
 simp only [cKfrom] at h
 split at h
 ·cases h
  exact ctr_calls mixed LT_ok ST0_ok Tryz.func47 (by kernel_rfl) hr hA hG rfl rfl (cKfrom_owes _ hp)
 ·cases h) (fun xs α pre φ r=>by simp only [cKfrom]; split <;> (intro h; cases h))
def cKadd:Ctr:=⟨74,fun | [.g [.R (p)],.g [.R (q)]]=>.yes (szR p <= 1000000/\szR q <= 1000000) (.k (.g [.R ((p+q))])) | _=>.no⟩
theorem cKadd_owes (p q:Rat) (hp:szR p <= 1000000/\szR q <= 1000000):owes LT ST0 [] Tryz.f74 (Tryz.f74.body.getD .skip) [.g [.R (p)],.g [.R (q)]] (.k (.g [.R ((p+q))])):=by
 refine Eq.mp (show ((szI p.num <= 10000000/\szI (q.den:Int) <= 10000000)/\((szI q.num <= 10000000/\szI (p.den:Int) <= 10000000)/\((szI (p.num*(q.den:Int)) <= 10000000/\szI (q.num*(p.den:Int)) <= 10000000)/\((szI (p.den:Int) <= 10000000/\szI (q.den:Int) <= 10000000)/\((((p.den:Int)*(q.den:Int)) ≠ 0/\szI ((p.num*(q.den:Int))+(q.num*(p.den:Int))) <= 5000000/\szI ((p.den:Int)*(q.den:Int)) <= 5000000)/\(((Rat.divInt ((p.num*(q.den:Int))+(q.num*(p.den:Int))) ((p.den:Int)*(q.den:Int)))=(p+q))/\True))))))=_ by kernel_rfl) ?_
 obtain ⟨hp,hq⟩:=hp
 have a1:=szR_num p; have a2:=szR_den p; have a3:=szR_num q; have a4:=szR_den q
 have m1:=szI_mul' p.num q.den; have m2:=szI_mul' q.num p.den; have m3:=szI_mul' p.den q.den
 have m5:=szI_add' (p.num*q.den) (q.num*p.den)
 exact ⟨⟨by omega,by omega⟩,⟨by omega,by omega⟩,⟨by omega,by omega⟩,⟨by omega,by omega⟩,⟨Int.mul_ne_zero (den_ne p) (den_ne q),by omega,by omega⟩,Rt.add_eq p q,trivial⟩
theorem cKadd_ok:CtrOK Tryz.prog cKadd:=.of (by kernel_rfl) (fun bs w xs vs pre r hr hA hG h hp=>by
 simp only [cKadd] at h
 split at h
 ·cases h
  exact ctr_calls mixed LT_ok ST0_ok Tryz.func74 (by kernel_rfl) hr hA hG rfl rfl (cKadd_owes _ _ hp)
 ·cases h) (fun xs α pre φ r=>by simp only [cKadd]; split <;> (intro h; cases h))
def cKmul:Ctr:=⟨15,fun | [.g [.R (p)],.g [.R (q)]]=>.yes (szR p <= 1000000/\szR q <= 1000000) (.k (.g [.R ((p*q))])) | _=>.no⟩
theorem cKmul_owes (p q:Rat) (hp:szR p <= 1000000/\szR q <= 1000000):owes LT ST0 [] Tryz.f15 (Tryz.f15.body.getD .skip) [.g [.R (p)],.g [.R (q)]] (.k (.g [.R ((p*q))])):=by
 refine Eq.mp (show ((szI p.num <= 10000000/\szI q.num <= 10000000)/\((szI (p.den:Int) <= 10000000/\szI (q.den:Int) <= 10000000)/\((((p.den:Int)*(q.den:Int)) ≠ 0/\szI (p.num*q.num) <= 5000000/\szI ((p.den:Int)*(q.den:Int)) <= 5000000)/\(((Rat.divInt (p.num*q.num) ((p.den:Int)*(q.den:Int)))=(p*q))/\True))))=_ by kernel_rfl) ?_
 obtain ⟨hp,hq⟩:=hp
 have a1:=szR_num p; have a2:=szR_den p; have a3:=szR_num q; have a4:=szR_den q
 have m1:=szI_mul' p.num q.num; have m3:=szI_mul' p.den q.den
 exact ⟨⟨by omega,by omega⟩,⟨by omega,by omega⟩,⟨Int.mul_ne_zero (den_ne p) (den_ne q),by omega,by omega⟩,Rt.mul_eq p q,trivial⟩
theorem cKmul_ok:CtrOK Tryz.prog cKmul:=.of (by kernel_rfl) (fun bs w xs vs pre r hr hA hG h hp=>by
 simp only [cKmul] at h
 split at h
 ·cases h
  exact ctr_calls mixed LT_ok ST0_ok Tryz.func15 (by kernel_rfl) hr hA hG rfl rfl (cKmul_owes _ _ hp)
 ·cases h) (fun xs α pre φ r=>by simp only [cKmul]; split <;> (intro h; cases h))
def ST1:List Ctr:=ST0 ++ [cKneg,cKfrom,cKadd,cKmul]
theorem ST1_ok:∀ c ∈ ST1,CtrOK Tryz.prog c:=ok_app ST0_ok (by
 intro c hc
 simp only [List.mem_cons,List.not_mem_nil,or_false] at hc
 rcases hc with rfl | rfl | rfl | rfl
 ·exact cKneg_ok
 ·exact cKfrom_ok
 ·exact cKadd_ok
 ·exact cKmul_ok)
def cKsub:Ctr:=⟨80,fun | [.g [.R (p)],.g [.R (q)]]=>.yes (szR p <= 1000000/\szR q <= 1000000) (.k (.g [.R ((p - q))])) | _=>.no⟩
theorem cKsub_owes (p q:Rat) (hp:szR p <= 1000000/\szR q <= 1000000):owes LT ST1 [] Tryz.f80 (Tryz.f80.body.getD .skip) [.g [.R (p)],.g [.R (q)]] (.k (.g [.R ((p - q))])):=by
 refine Eq.mp (show ((szR q <= 5000000)/\((szR p <= 1000000/\szR (-q) <= 1000000)/\(((p+(-q))=(p - q))/\True)))=_ by kernel_rfl) ?_
 obtain ⟨hp,hq⟩:=hp
 exact ⟨by omega,⟨hp,Nat.le_trans (szR_neg q) hq⟩,(Rat.sub_eq_add_neg p q).symm,trivial⟩
theorem cKsub_ok:CtrOK Tryz.prog cKsub:=.of (by kernel_rfl) (fun bs w xs vs pre r hr hA hG h hp=>by
 simp only [cKsub] at h
 split at h
 ·cases h
  exact ctr_calls mixed LT_ok ST1_ok Tryz.func80 (by kernel_rfl) hr hA hG rfl rfl (cKsub_owes _ _ hp)
 ·cases h) (fun xs α pre φ r=>by simp only [cKsub]; split <;> (intro h; cases h))
def cK12mul:Ctr:=⟨38,fun | [.g [.R (p)],.g [.R (q)]]=>.yes (szR p <= 1000000/\szR q <= 1000000) (.k (.g [.R ((p*q))])) | _=>.no⟩
theorem cK12mul_owes (p q:Rat) (hp:szR p <= 1000000/\szR q <= 1000000):owes LT ST1 [] Tryz.f38 (Tryz.f38.body.getD .skip) [.g [.R (p)],.g [.R (q)]] (.k (.g [.R ((p*q))])):=by
 refine Eq.mp (show ((szR p <= 1000000/\szR q <= 1000000)/\(((p*q)=(p*q))/\True))=_ by kernel_rfl) ?_
 exact ⟨hp,rfl,trivial⟩
theorem cK12mul_ok:CtrOK Tryz.prog cK12mul:=.of (by kernel_rfl) (fun bs w xs vs pre r hr hA hG h hp=>by
 simp only [cK12mul] at h
 split at h
 ·cases h
  exact ctr_calls mixed LT_ok ST1_ok Tryz.func38 (by kernel_rfl) hr hA hG rfl rfl (cK12mul_owes _ _ hp)
 ·cases h) (fun xs α pre φ r=>by simp only [cK12mul]; split <;> (intro h; cases h))
def ST2:List Ctr:=ST1 ++ [cKsub,cK12mul]
theorem ST2_ok:∀ c ∈ ST2,CtrOK Tryz.prog c:=ok_app ST1_ok (by
 intro c hc
 simp only [List.mem_cons,List.not_mem_nil,or_false] at hc
 rcases hc with rfl | rfl
 ·exact cKsub_ok
 ·exact cK12mul_ok)
def cK12sub:Ctr:=⟨44,fun | [.g [.R (p)],.g [.R (q)]]=>.yes (szR p <= 1000000/\szR q <= 1000000) (.k (.g [.R ((p - q))])) | _=>.no⟩
theorem cK12sub_owes (p q:Rat) (hp:szR p <= 1000000/\szR q <= 1000000):owes LT ST2 [] Tryz.f44 (Tryz.f44.body.getD .skip) [.g [.R (p)],.g [.R (q)]] (.k (.g [.R ((p - q))])):=by
 refine Eq.mp (show ((szR p <= 1000000/\szR q <= 1000000)/\(((p - q)=(p - q))/\True))=_ by kernel_rfl) ?_
 exact ⟨hp,rfl,trivial⟩
theorem cK12sub_ok:CtrOK Tryz.prog cK12sub:=.of (by kernel_rfl) (fun bs w xs vs pre r hr hA hG h hp=>by
 simp only [cK12sub] at h
 split at h
 ·cases h
  exact ctr_calls mixed LT_ok ST2_ok Tryz.func44 (by kernel_rfl) hr hA hG rfl rfl (cK12sub_owes _ _ hp)
 ·cases h) (fun xs α pre φ r=>by simp only [cK12sub]; split <;> (intro h; cases h))
def ST3:List Ctr:=ST2 ++ [cK12sub]
theorem ST3_ok:∀ c ∈ ST3,CtrOK Tryz.prog c:=ok_app ST2_ok (by
 intro c hc
 simp only [List.mem_cons,List.not_mem_nil,or_false] at hc
 rcases hc with rfl
 ·exact cK12sub_ok)
def cK12cross:Ctr:=⟨12,fun | [.g [.R (a),.R (b)],.g [.R (c),.R (d)]]=>.yes ((szR a <= 100000/\szR b <= 100000)/\szR c <= 100000/\szR d <= 100000) (.k (.g [.R ((a*d - b*c))])) | _=>.no⟩
theorem cK12cross_owes (a b c d:Rat) (hp:(szR a <= 100000/\szR b <= 100000)/\szR c <= 100000/\szR d <= 100000):owes LT ST3 [] Tryz.f12 (Tryz.f12.body.getD .skip) [.g [.R (a),.R (b)],.g [.R (c),.R (d)]] (.k (.g [.R ((a*d - b*c))])):=by
 refine Eq.mp (show ((szR a <= 1000000/\szR d <= 1000000)/\((szR b <= 1000000/\szR c <= 1000000)/\((szR (a*d) <= 1000000/\szR (b*c) <= 1000000)/\((((a*d) - (b*c))=(a*d - b*c))/\True))))=_ by kernel_rfl) ?_
 obtain ⟨⟨h1,h2⟩,h3,h4⟩:=hp
 have m1:=szR_mul a d; have m2:=szR_mul b c
 exact ⟨⟨by omega,by omega⟩,⟨by omega,by omega⟩,⟨by omega,by omega⟩,rfl,trivial⟩
theorem cK12cross_ok:CtrOK Tryz.prog cK12cross:=.of (by kernel_rfl) (fun bs w xs vs pre r hr hA hG h hp=>by
 simp only [cK12cross] at h
 split at h
 ·cases h
  exact ctr_calls mixed LT_ok ST3_ok Tryz.func12 (by kernel_rfl) hr hA hG rfl rfl (cK12cross_owes _ _ _ _ hp)
 ·cases h) (fun xs α pre φ r=>by simp only [cK12cross]; split <;> (intro h; cases h))
def ST4:List Ctr:=ST3 ++ [cK12cross]
theorem ST4_ok:∀ c ∈ ST4,CtrOK Tryz.prog c:=ok_app ST3_ok (by
 intro c hc
 simp only [List.mem_cons,List.not_mem_nil,or_false] at hc
 rcases hc with rfl
 ·exact cK12cross_ok)
end Vc
end Go.Proofs.YtkdjilgddbjcaaaGreat
namespace Go.Proofs.YtkdjilgddbjcaaaGreat
open Go.RowKit
namespace Vc
theorem cmpN_sign (a b:Nat):cmpN a b=((a:Int) - b).sign:=by
 rcases Nat.lt_trichotomy a b with h | h | h
 ·rw [cmpN_lt h,Int.sign_eq_neg_one_of_neg (by omega)]
 ·rw [cmpN_eq h,h,Int.sub_self]; rfl
 ·rw [cmpN_gt h,Int.sign_eq_one_of_pos (by omega)]
def cJcmp01:Ctr:=⟨45,fun | [.g [.I (x)],.g [.I (y)]]=>.yes (szI x <= 10000000/\szI y <= 10000000) (.k (.c (.v (.int .i64 ((x - y).sign))))) | _=>.no⟩
theorem cJcmp01_owes (x y:Int) (hp:szI x <= 10000000/\szI y <= 10000000):owes LT ST4 [] Tryz.f45 (Tryz.f45.body.getD .skip) [.g [.I (x)],.g [.I (y)]] (.k (.c (.v (.int .i64 ((x - y).sign))))):=by
 refine Eq.mp (show ((((decide (x < 0)) != (decide (y < 0)))=true->(((decide (x < 0))=true->(Value.int .i64 (-1:Int)=(.int .i64 ((x - y).sign))))/\((decide (x < 0))=false->(Value.int .i64 (1:Int)=(.int .i64 ((x - y).sign))))))/\(((decide (x < 0)) != (decide (y < 0)))=false->(((decide (x < 0))=true->(((Lb.Norm (Lb.limbs y.natAbs)/\Lb.Norm (Lb.limbs x.natAbs))/\(Lb.limbs y.natAbs).length <= 1000000000/\(Lb.limbs x.natAbs).length <= 1000000000)/\(Value.int .i64 (cmpN (Lb.val (Lb.limbs y.natAbs)) (Lb.val (Lb.limbs x.natAbs)))=(.int .i64 ((x - y).sign)))))/\((decide (x < 0))=false->(((Lb.Norm (Lb.limbs x.natAbs)/\Lb.Norm (Lb.limbs y.natAbs))/\(Lb.limbs x.natAbs).length <= 1000000000/\(Lb.limbs y.natAbs).length <= 1000000000)/\(Value.int .i64 (cmpN (Lb.val (Lb.limbs x.natAbs)) (Lb.val (Lb.limbs y.natAbs)))=(.int .i64 ((x - y).sign))))))))=_ by kernel_rfl) ?_
 unfold szI at hp
 obtain ⟨h1,h2⟩:=hp
 have hN:=fun n=>Lb.norm_limbs n
 simp only [Lb.val_limbs]
 refine ⟨fun h=>⟨fun h3=>?_,fun h3=>?_⟩,fun h=>⟨fun h3=>⟨⟨⟨hN _,hN _⟩,by omega,by omega⟩,?_⟩,fun h3=>⟨⟨⟨hN _,hN _⟩,by omega,by omega⟩,?_⟩⟩⟩
 ·have h4:x < 0:=of_decide_eq_true h3
  have h5:¬ y < 0:=by intro c; simp [h4,c] at h
  rw [Int.sign_eq_neg_one_of_neg (by omega)]
 ·have h4:¬ x < 0:=of_decide_eq_false h3
  have h5:y < 0:=by
   rcases Int.lt_or_le y 0 with c | c
   ·exact c
   ·have c':¬ y < 0:=by omega
    simp [h4,c'] at h
  rw [Int.sign_eq_one_of_pos (by omega)]
 ·have h4:x < 0:=of_decide_eq_true h3
  have h5:y < 0:=by
   rcases Int.lt_or_le y 0 with c | c
   ·exact c
   ·have c':¬ y < 0:=by omega
    simp [h4,c'] at h
  rw [cmpN_sign]
  congr 2
  omega
 ·have h4:¬ x < 0:=of_decide_eq_false h3
  have h5:¬ y < 0:=by intro c; simp [h4,c] at h
  rw [cmpN_sign]
  congr 2
  omega
theorem cJcmp01_ok:CtrOK Tryz.prog cJcmp01:=.of (by kernel_rfl) (fun bs w xs vs pre r hr hA hG h hp=>by
 simp only [cJcmp01] at h
 split at h
 ·cases h
  exact ctr_calls mixed LT_ok ST4_ok Tryz.func45 (by kernel_rfl) hr hA hG rfl rfl (cJcmp01_owes _ _ hp)
 ·cases h) (fun xs α pre φ r=>by simp only [cJcmp01]; split <;> (intro h; cases h))
def XT0:List Ctr:=ST4 ++ [cJcmp01]
theorem XT0_ok:∀ c ∈ XT0,CtrOK Tryz.prog c:=ok_app ST4_ok (by
 intro c hc
 simp only [List.mem_cons,List.not_mem_nil,or_false] at hc
 rcases hc with rfl
 ·exact cJcmp01_ok)
theorem sub_sg_ge {a b:Rat}:Rt.sg (a - b) >= 0 ↔ b <= a:=by
 rw [ge_iff_le,Rt.sg_ge]
 constructor <;> intro h <;> grind
def cKcmp:Ctr:=⟨13,fun | [.g [.R (p)],.g [.R (q)]]=>.yes (szR p <= 1000000/\szR q <= 1000000) (.k (.c (.v (.int .i64 ((Rt.sg (p - q))))))) | _=>.no⟩
theorem cKcmp_owes (p q:Rat) (hp:szR p <= 1000000/\szR q <= 1000000):owes LT XT0 [] Tryz.f13 (Tryz.f13.body.getD .skip) [.g [.R (p)],.g [.R (q)]] (.k (.c (.v (.int .i64 ((Rt.sg (p - q))))))):=by
 refine Eq.mp (show ((szI p.num <= 10000000/\szI (q.den:Int) <= 10000000)/\((szI q.num <= 10000000/\szI (p.den:Int) <= 10000000)/\((szI (p.num*(q.den:Int)) <= 10000000/\szI (q.num*(p.den:Int)) <= 10000000)/\(Value.int .i64 (((p.num*(q.den:Int)) - (q.num*(p.den:Int))).sign)=(.int .i64 (Rt.sg (p - q)))))))=_ by kernel_rfl) ?_
 obtain ⟨hp,hq⟩:=hp
 have a1:=szR_num p; have a2:=szR_den p; have a3:=szR_num q; have a4:=szR_den q
 have m1:=szI_mul' p.num q.den; have m3:=szI_mul' q.num p.den
 exact ⟨⟨by omega,by omega⟩,⟨by omega,by omega⟩,⟨by omega,by omega⟩,by rw [Rt.sg_cross]⟩
theorem cKcmp_ok:CtrOK Tryz.prog cKcmp:=.of (by kernel_rfl) (fun bs w xs vs pre r hr hA hG h hp=>by
 simp only [cKcmp] at h
 split at h
 ·cases h
  exact ctr_calls mixed LT_ok XT0_ok Tryz.func13 (by kernel_rfl) hr hA hG rfl rfl (cKcmp_owes _ _ hp)
 ·cases h) (fun xs α pre φ r=>by simp only [cKcmp]; split <;> (intro h; cases h))
end Vc
end Go.Proofs.YtkdjilgddbjcaaaGreat
