import Derived.Test.YtbohkigffejhoaaGreatR19
import Derived.Test.YtbohkigffejhoaaGreatR18
namespace Go.Proofs.YtbohkigffejhoaaGreat
open Go.RowKit
set_option maxRecDepth 8000
structure But (g:Nat) (w w':World):Prop where
 os:w'.os=w.os
 tape:w'.tape=w.tape
 output:w'.output=w.output
 size:w.heap.size <= w'.heap.size
 block:∀ j,j < w.heap.size->j ≠ g->w'.heap[j]?=w.heap[j]?
theorem But.refl (g:Nat) (w:World):But g w w:=⟨rfl,rfl,rfl,Nat.le_refl _,fun _ _ _=>rfl⟩
theorem But.later {g:Nat} {a b c:World} (h:But g a b) (k:Ext b c):But g a c :=
 ⟨k.out.os.trans h.os,k.out.tape.trans h.tape,k.out.output.trans h.output,Nat.le_trans h.size k.size,fun j hj hg=>(k.out.block j (Nat.lt_of_lt_of_le hj h.size)).trans (h.block j hj hg)⟩
theorem But.set {g:Nat} {a w:World} (h:But g a w) (i:Nat) (u:Value):But g a (w.setCell ⟨g,i,none⟩ u) :=
 ⟨h.os,h.tape,h.output,by simpa [World.setCell] using h.size,fun j hj hg=>by rw [Below.heap_setCell _ _ _ _ (by exact hg)]; exact h.block j hj hg⟩
theorem But.ext {g:Nat} {a w w':World} (h:Ext a w) (k:But g w w') (hg:a.heap.size <= g):Ext a w' :=
 Ext.of ⟨k.os.trans h.out.os,k.tape.trans h.out.tape,k.output.trans h.out.output,Nat.le_trans h.size k.size,fun j hj=>(k.block j (Nat.lt_of_lt_of_le hj h.size) (by omega)).trans (h.out.block j hj)⟩
theorem SlU.but {g:Nat} {w w':World} {v:Value} {l:List Nat} (h:SlU w v l) (k:But g w w') (hv:v.ownBlock ≠ some g):SlU w' v l:=by
 obtain ⟨a,n,cap,b,off,rfl,h2,h3,h4,h5,h6⟩:=h
 refine ⟨a,n,cap,b,off,rfl,h2,h3,h4,h5,fun i x hx=>?_⟩
 obtain ⟨p,q⟩:=h6 i x hx
 have hn:n ≠ 0:=by
  intro e
  rw [e] at h2
  have:=List.length_eq_zero_iff.1 h2.symm
  subst this
  simp at hx
 have ha:=h3.resolve_left hn
 subst ha
 have hbg:b ≠ g:=fun e=>hv (by rw [<- e]; rfl)
 refine ⟨Nat.lt_of_lt_of_le p k.size,fun r u hu=>?_⟩
 have:=q r u hu
 unfold World.cell? at *
 simp only at *
 rw [k.block b p hbg]
 exact this
theorem SlU.blk {w:World} {v:Value} {l:List Nat} {g:Nat} (h:SlU w v l) (e:v.ownBlock=some g) (hl:l ≠ []):g < w.heap.size:=by
 rcases h.cases with ⟨rfl,_⟩ | ⟨_,b,off,cap,rfl,_,hb,_⟩
 ·exact absurd rfl hl
 ·cases e; exact hb
theorem SlU.new {g:Nat} {w w1 w':World} {v:Value} {l:List Nat} (h:SlU w v l) (hg:w.heap.size <= g) (hx:Ext w w1) (k:But g w1 w'):SlU w' v l:=h.later (But.ext hx k hg)
def aYg (w:World) (l m:List Nat) (e:Ending) (w':World):Prop:=∃ s t,e=.returned (.tuple #[s,t])/\SlU w' s l/\SlU w' t m/\Ext w w'
theorem a7h (v1 v2:Value) (a b:List Nat) (w:World) (h1:SlU w v1 a) (h2:SlU w v2 b) (k1:Lb.a5G a) (k2:Lb.a5G b) (n1:a.length <= 1000000000) (n2:b.length <= 1000000000) :
    Calls Tryz.prog 222 #[v1,v2] w fun e w'=>e=.returned (.int .i64 (a3L (Lb.val a) (Lb.val b)))/\Ext w w':=by
 refine (Vc.aLB.yes ⟨w.heap.size,[],[],[]⟩ w [.c (.sl a),.c (.sl b)] [v1,v2] _ _ ⟨⟨h1,trivial⟩,⟨h2,trivial⟩,trivial⟩ rfl rfl rfl ⟨⟨k1,k2⟩,n1,n2⟩).mono ?_
 rintro e w' ⟨v,rfl,hx,hv,_⟩
 exact ⟨by rw [hv],hx⟩
theorem aB1 (v1:Value) (a:List Nat) (w:World) (h1:SlU w v1 a) (k1:Lb.Lt a) (n1:a.length <= 2) :
    Calls Tryz.prog 130 #[v1] w fun e w'=>e=.returned (.int .u64 (Lb.val a:Int))/\Ext w w':=by
 refine (Vc.aCt.yes ⟨w.heap.size,[],[],[]⟩ w [.c (.sl a)] [v1] _ _ ⟨⟨h1,trivial⟩,trivial⟩ rfl rfl rfl ⟨k1,n1⟩).mono ?_
 rintro e w' ⟨v,rfl,hx,hv,_⟩
 exact ⟨by rw [hv],hx⟩
theorem aN7 {a:List Nat} (k:Lb.Lt a) (n:a.length <= 2):Lb.val a < 1000000000000000000:=by
 have h:=Lb.a3l k
 have h2:Lb.B ^ a.length <= Lb.B ^ 2:=Nat.pow_le_pow_right Lb.a3r n
 have h3:Lb.B ^ 2=1000000000000000000:=rfl
 omega
set_option maxHeartbeats 8000000 in
theorem aER (v1 v2:Value) (a b:List Nat) (w:World) (h1:SlU w v1 a) (h2:SlU w v2 b) (k1:Lb.Lt a) (k2:Lb.Lt b) (n1:a.length <= 2) (n2:b.length <= 2) (hv:Lb.val b ≠ 0) :
    Calls Tryz.prog 129 #[v1,v2] w (aYg w (Lb.limbs (Lb.val a / Lb.val b)) (Lb.limbs (Lb.val a % Lb.val b))):=by
 obtain ⟨p1,q1,rfl⟩:=h1.form
 obtain ⟨p2,q2,rfl⟩:=h2.form
 have hq1:decide ((a.length:Int) <= 2)=true:=by simp; omega
 have hq2:decide ((b.length:Int) <= 2)=true:=by simp; omega
 have H1:=Lib.hid h1; have H2:=Lib.hid h2; have HK1:=Lib.hid k1; have HK2:=Lib.hid k2
 have ha:=aN7 k1 n1; have hb:=aN7 k2 n2
 have HN1:=Lib.hid n1; have HN2:=Lib.hid n2
 clear h1 h2 k1 k2
 go_enter Tryz.func129,Tryz.ntmps129
 go_wp2_with fail
 refine (aB1 _ _ _ H1.out HK1.out HN1.out).mono ?_
 rintro e w1 ⟨rfl,x1⟩
 have H2':=Lib.hid (H2.out.later x1)
 go_wp2_with fail
 refine (aB1 _ _ _ H2'.out HK2.out HN2.out).mono ?_
 rintro e w2 ⟨rfl,x2⟩
 generalize Lb.val a=x at *
 generalize Lb.val b=y at *
 have hy0:((y:Int) == 0)=false:=by simp; omega
 have hy1:¬ (y:Int)=0:=by omega
 have hlt1:x / y < 18446744073709551616:=Nat.lt_of_le_of_lt (Nat.div_le_self _ _) (by omega)
 have hlt2:x % y < 18446744073709551616:=Nat.lt_of_le_of_lt (Nat.mod_le _ _) (by omega)
 have e1:(x:Int) / y=((x / y:Nat):Int):=by simp
 have e2:(x:Int) % y=((x % y:Nat):Int):=by simp
 have HL1:Hid (∀ w:World,Calls Tryz.prog 63 #[.int .u64 ((x:Int) / (y:Int))] w (aZ4 w (Lb.limbs (x / y)))):=Lib.hid (fun w=>by rw [e1]; exact a5Q (x / y) w hlt1)
 have HL2:Hid (∀ w:World,Calls Tryz.prog 63 #[.int .u64 ((x:Int) % (y:Int))] w (aZ4 w (Lb.limbs (x % y)))):=Lib.hid (fun w=>by rw [e2]; exact a5Q (x % y) w hlt2)
 have HX:=Lib.hid (x1.trans x2)
 have e3:0 <= (x:Int) / y:=Int.ediv_nonneg (by omega) (by omega)
 have e4:(x:Int) / y < 1000000000000000000:=Int.lt_of_le_of_lt (Int.ediv_le_self _ (by omega)) (by omega)
 clear hv e1 e2 hlt1 hlt2
 go_wp2_with fail
 refine a2h (fun w'=>∃ x:Later w2,w'=x.w) 10 (.one [0,1,2,4,5,6] 3 (.one [] 7 (.leaf [8,9]))) (by kernel_rfl) (by kernel_rfl) (by kernel_rfl) ⟨⟨_,(Ext.refl _).drew⟩,rfl⟩ ?_
 simp only [List.take_succ_cons,List.take_zero]
 refine a4B fun K hK=>?_
 simp only [List.map_cons,List.map_nil,a1W,List.getElem?_cons_zero,List.getElem?_cons_succ,Option.getD_some]
 repeat (go_big_quiet_step (fail))
 refine wpQuiet_nil ?_
 go_wp2_with ((go_at_call 63; with_reducible refine (HL1.out _).mono ?_); rintro e w3 ⟨a3,m3,c3,rfl,s3,x3⟩)
 refine a1t (hK _ _ ⟨⟨_,(Ext.refl _).drew.trans x3⟩,rfl⟩ ?_); clear hK K
 refine a4X fun K hK=>?_
 simp only [a1W,List.getElem?_cons_zero,List.getElem?_cons_succ,Option.getD_some]
 go_wp2_with ((go_at_call 63; with_reducible refine (HL2.out _).mono ?_); rintro e w4 ⟨a4,m4,c4,rfl,s4,x4⟩)
 refine a1t (hK _ _ ⟨⟨_,((Ext.refl _).drew.trans x3).trans x4⟩,rfl⟩ ?_); clear hK K
 refine aOc ?_
 simp only [List.map_cons,List.map_nil,a1W,List.getElem?_cons_zero,List.getElem?_cons_succ,Option.getD_some]
 repeat (go_big_quiet_step (fail))
 refine wpQuiet_nil ?_
 simp only [List.drop_succ_cons,List.drop_zero]
 go_wp2_with fail
 go_ret2
 exact ⟨_,_,rfl,s3.later x4,s4,(HX.out.trans ((Ext.refl _).drew.trans x3)).trans x4⟩
set_option maxHeartbeats 16000000 in
theorem aOw (v1 v2:Value) (a b:List Nat) (w:World) (h1:SlU w v1 a) (h2:SlU w v2 b) (k1:Lb.Lt a) (k2:Lb.a5G b) (n1:a.length <= 90000000) (n2:b.length <= 90000000) (hb0:b ≠ []) (hyp:¬(a.length <= 2/\b.length <= 2)) :
    Calls Tryz.prog 129 #[v1,v2] w (aYg w (Lb.limbs (Lb.val a / Lb.val b)) (Lb.limbs (Lb.val a % Lb.val b))):=by
 obtain ⟨p1,q1,rfl⟩:=h1.form
 obtain ⟨p2,q2,rfl⟩:=h2.form
 obtain ⟨hq1,-⟩ | ⟨hq1,hq2⟩:(decide ((a.length:Int) <= 2)=false/\True) \/ (decide ((a.length:Int) <= 2)=true/\decide ((b.length:Int) <= 2)=false):=by
  by_cases h:a.length <= 2
  ·exact .inr ⟨by simp; omega,by simp; omega⟩
  ·exact .inl ⟨by simp; omega,trivial⟩
 all_goals
  have H1:=Lib.hid h1; have H2:=Lib.hid h2; have HK1:=Lib.hid k1; have HK2:=Lib.hid k2
  obtain ⟨n,hn⟩:∃ n,b.length=n+1:=⟨b.length - 1,by have:=List.length_pos_iff.2 hb0; omega⟩
  have hnb:n < b.length:=by omega
  obtain ⟨y,hy⟩:∃ y,b[n]?=some y:=⟨b[n],by simp [hnb]⟩
  obtain ⟨hy0,hyB,hs0,hsB,hsV,hsG⟩:=Lb.aH0 k2 hn hy
  obtain ⟨bb,bo,bc,hbe,hbb,hcell⟩:=a3f h2 n hnb
  have hbn:b[n]=y:=by simpa [hnb] using hy
  rw [hbn] at hcell
  cases hbe
  clear hbn
  rw [Lb.a4R] at hyB hs0 hsB hsV hsG
  have hsd:(1000000000:Int) / ((y:Int)+1)=((1000000000 / (y+1):Nat):Int):=by simp
  have hy1:(((y:Int)+1) == 0)=false:=by simp; omega
  have hy2:¬ ((y:Int)+1=0):=by omega
  have hb90:b.length <= 90000000:=n2
  have hHM:Hid (b.length=n+1):=Lib.hid hn
  have HDIV:Hid (Lb.val a*(1000000000 / (y+1)) < Lb.B ^ (a.length+1)):=Lib.hid (by
   have h:=Lb.a3l k1
   have h2:Lb.val a*(1000000000 / (y+1)) < Lb.B ^ a.length*Lb.B:=Nat.mul_lt_mul_of_lt_of_le h (by rw [Lb.a4R]; omega) (by rw [Lb.a4R]; omega)
   rwa [<- Nat.pow_succ] at h2)
  generalize hsc:1000000000 / (y+1)=s at *
  generalize hnn:b.length=nb at *
  have E1:(nb:Int) - 1=(n:Int):=by omega
  have HSV:Hid (Lb.val b*s < Lb.B ^ (n+1)):=Lib.hid (by rw [Lb.a4R]; exact hsV)
  have HSG:Hid (Lb.B ^ n <= Lb.val b*s):=Lib.hid (by rw [Lb.a4R]; exact hsG)
  have HCL:=Lib.hid hcell; have HNN:=Lib.hid hnn; have HNB:=Lib.hid hb90
  have hnlt:n < nb:=by omega
  clear h1 h2 k1 k2 hb0 hn hnb hy hsV hsG hsc hnn hHM n2
  go_enter Tryz.func129,Tryz.ntmps129
  go_wp2_with fail
  refine (a6I _ b s w H2.out HK2.out.1 (by have:=HNN.out; omega) (by omega)).mono ?_
  rintro e w1 ⟨av,nv,cv,rfl,sv,x1,-⟩
  have hVl:(Lb.limbs (Lb.val b*s)).length=n+1:=Lb.a7o HSV.out HSG.out
  obtain ⟨T,hT⟩:∃ T,(Lb.limbs (Lb.val b*s))[n]?=some T:=⟨(Lb.limbs (Lb.val b*s))[n]'(by omega),by simp [hVl]⟩
  have hTn:(Lb.limbs (Lb.val b*s))[n]'(by omega)=T:=by have h:n < (Lb.limbs (Lb.val b*s)).length:=by omega
                                                       simpa [h] using hT
  have hT0:0 < T:=by rw [<- hTn]; exact Lb.aWk hVl (by omega)
  have hTB:T < 1000000000:=by rw [<- hTn]; exact Lb.a1s (Lb.a0f _).1 n (by omega)
  have hTV:T*Lb.B ^ n <= Lb.val b*s:=by
   have:=Lb.aYD (l:=Lb.limbs (Lb.val b*s)) (n:=n) (by omega)
   rwa [hTn,Lb.a0a] at this
  obtain ⟨gv,ov,cv',hve,hgv,hvc⟩:=a3f sv n (by omega)
  rw [hTn] at hvc
  cases hve
  have HSVV:=Lib.hid sv; have HTV:=Lib.hid hTV; have HX1:=Lib.hid x1
  rw [hVl] at *
  have HVL:=Lib.hid (Lb.a7o HSV.out HSG.out)
  have hV0:0 < Lb.val b*s:=by have:=HSG.out; have:=Nat.pow_pos (n:=n) Lb.a3r; omega
  have HV0:=Lib.hid hV0
  have E2:((n+1:Nat):Int) - 1=(n:Int):=by omega
  have E2':((n:Int)+1) - 1=(n:Int):=by omega
  have hmk:=a3K (a.length+1) (by omega)
  rw [Int.natCast_add] at hmk
  have e1:((1:Nat):Int)=1:=rfl
  rw [e1] at hmk
  obtain ⟨W,hW,hA,hE,hz⟩:=a1P w1 (a.length+1)
  have HA0:=Lib.hid hA; have HE0:=Lib.hid (HX1.out.trans hE); have HE1:=Lib.hid hE
  have HUB:=Lib.hid (a6I _ a s W (H1.out.later HE0.out) HK1.out (by omega) (by omega))
  have HGV:Hid (gv < w1.heap.size):=Lib.hid hgv
  clear e1 hA hE hz hT hTn hTV sv x1 hV0 hcell HCL hVl
  go_wp2_with fail
  refine HUB.out.mono ?_
  rintro e w4 ⟨au,L,cu,rfl,su,x4,hbu⟩
  clear hW hmk
  have hL:=SlU.form' su
  obtain ⟨au',L',cu',hue,hLe⟩:=hL
  cases hue
  have hL1:L <= a.length+1:=by rw [hLe]; exact Lb.a0X HDIV.out
  have HUS:=Lib.hid su; have HLE:=Lib.hid hLe; have HBU:=Lib.hid hbu
  have HUV:=Lib.hid (Lb.a0a (Lb.val a*s)); have HUN:=Lib.hid (Lb.a0f (Lb.val a*s)).1
  have HV4:Hid (SlU w4 (.slice (some ⟨gv,ov,none⟩) (n+1) cv) (Lb.limbs (Lb.val b*s))):=Lib.hid (HSVV.out.later (HE1.out.trans x4))
  have HA4:=Lib.hid (HA0.out.ext x4)
  have HE4:=Lib.hid (HE0.out.trans x4)
  have HGW:Hid (w.heap.size <= w1.heap.size/\w1.heap.size < w4.heap.size/\w1.heap.size < W.heap.size):=Lib.hid ⟨HX1.out.size,HA4.out.lt,HA0.out.lt⟩
  generalize hUU:Lb.limbs (Lb.val a*s)=U at *
  generalize hgg:w1.heap.size=g at *
  have HGG:=Lib.hid hgg; have HUE:=Lib.hid hUU
  have hTn:¬ ((T:Int)=0):=by omega
  have hTz:((T:Int) == 0)=false:=by simp; omega
  have HVN:=Lib.hid (Lb.a0f (Lb.val b*s))
  have HP0:=Lib.hid (Lb.aCZ (U:=U) HV0.out)
  have HZ0:Hid (ArrU w4 g (List.replicate L 0 ++ ([] ++ List.replicate (a.length+1 - L) 0))):=Lib.hid (by
   have:=HA4.out
   have e:a.length+1=L+(a.length+1 - L):=by omega
   rw [e,<- List.replicate_append_replicate] at this
   rw [List.nil_append]
   exact this)
  rw [<- HLE.out] at HP0
  have hrest0:SlU w4 (.slice none 0 0) (Lb.limbs 0):=by rw [Lb.a1b]; exact SlU.nil _
  have HR0:=Lib.hid hrest0
  have hL90:L <= 90000001:=by omega
  have HNE0:Hid ((Value.slice none 0 0).ownBlock ≠ some g):=Lib.hid (by intro e; cases e)
  clear su x4 hLe hbu hUU hgg HA0 HA4 HUB hrest0 HX1 HE0 HE1 HSVV HDIV HUE
  go_wp2_with fail
  go_loopw [11,14] (fun rest i wr=>∃ (k:Nat) (j:Int) (Q:List Nat) (R:Nat),i=.int .i64 j/\j=(k:Int) - 1/\k <= L/\Hid (Lb.PartsAt U (Lb.val b*s) k Q R)/\Hid (SlU wr rest (Lb.limbs R))/\Hid (rest.ownBlock ≠ some g)/\Hid (ArrU wr g (List.replicate k 0 ++ (Q ++ List.replicate (a.length+1 - L) 0)))/\Hid (But g w4 wr)) (fun _ i _=>(intOf i+1).toNat)
  case atStart=>exact ⟨L,_,[],0,rfl,by omega,Nat.le_refl _,HP0,HR0,HNE0,HZ0,Lib.hid (But.refl _ _)⟩
  case round =>
   clear HP0 HR0 HNE0 HZ0
   obtain ⟨k,j,Q,R,rfl,hj,hk,HP,HR,HNE,HA,HB⟩:=hrel
   have HEW:Hid (Ext w wr):=Lib.hid (But.ext HE4.out HB.out HGW.out.1)
   by_cases hk0:0 < k
   ·obtain ⟨m,rfl⟩:∃ m,k=m+1:=⟨k - 1,by omega⟩
    obtain rfl:j=(m:Int):=by omega
    clear hj hk0
    have hmL:m < L:=by omega
    have hmU:m < U.length:=by rw [<- HLE.out]; exact hmL
    have HST:=Lib.hid (Lb.aEY HUN.out HP.out hmU)
    have hx:U[m] < 1000000000:=Lb.a1s HUN.out m hmU
    have HNU:Hid ((Value.slice au L cu).ownBlock ≠ some g):=Lib.hid (fun e=>by have:=HBU.out g e; have:=HGW.out; omega)
    have HNV:Hid ((Value.slice (some ⟨gv,ov,none⟩) (n+1) cv).ownBlock ≠ some g):=Lib.hid (fun e=>by have e':gv=g:=Option.some.inj e; have:=HGV.out; omega)
    have HSU:=Lib.hid (HUS.out.but HB.out HNU.out)
    have HSV1:=Lib.hid (HV4.out.but HB.out HNV.out)
    obtain ⟨gu,ou,cu',hue,hgu,hcu⟩:=a3f HSU.out m hmU
    cases hue
    generalize U[m]=x at *
    obtain ⟨X,hX,hAX,heX,hzX⟩:=a1L wr [x]
    have HOX:=Lib.hid (aRB (B:=wr.heap.size) hAX (Nat.le_refl _) (by unfold maxLen; simp))
    have HRX:=Lib.hid (HR.out.later heX); have HEX:=Lib.hid heX
    have HRB:Hid (R < Lb.val b*s/\(Lb.limbs R).length <= n+1):=Lib.hid ⟨HP.out.rlt,Lb.a0X (Nat.lt_trans HP.out.rlt HSV.out)⟩
    have HM:Hid ([x].length+(Lb.limbs R).length <= maxLen):=Lib.hid (by have:=HRB.out.2; unfold maxLen; simp; omega)
    have HN:Hid (([x].length+(Lb.limbs R).length)*4 <= 140737488355328):=Lib.hid (by have:=HRB.out.2; simp; omega)
    have HBX:Hid (wr.heap.size <= X.heap.size):=Lib.hid heX.size
    have HGR:Hid (g < wr.heap.size):=Lib.hid HA.out.lt
    have HTR:Hid (Lb.trim ([x] ++ Lb.limbs R)=Lb.limbs (x+Lb.B*R)/\([x] ++ Lb.limbs R).length <= 1000000000):=Lib.hid ⟨by
     rw [Lb.a4k (Lb.a2p (Lb.a2R hx Lb.a2Q) (Lb.a0f R).1)]
     simp [Lb.val,Lb.a0a],by have:=HRB.out.2; simp; omega⟩
    simp only [List.map_cons,List.map_nil,uV] at hX
    clear hAX heX hzX hmU
    go_wp2_with ((at_builtin; refine a2G rfl _ _ rfl Tryz.underlying31 Tryz.info_u32 rfl (by decide) a15 a3X wr.heap.size _ _ [x] (Lb.limbs R) rfl rfl HOX.out HRX.out HM.out HN.out HBX.out ?_; intro v6 w6 own6 hg6 hloc6))
    have x6:Ext wr w6:=HEX.out.grown hg6 (fun i hi=>by cases hi; exact Nat.le_refl _)
    have hb6:∀ b,v6.ownBlock=some b->wr.heap.size <= b:=fun b hb=>(own6.base hb).1
    refine (a3N v6 _ w6 (own6.sl a15) HTR.out.2).mono ?_
    rintro e w7 ⟨v7,rfl,s7,hb7,rfl⟩
    rw [HTR.out.1] at s7
    have HN7:Hid (v7.ownBlock ≠ some g):=Lib.hid (fun e=>by rw [hb7] at e; have:=hb6 g e; have:=HGR.out; omega)
    obtain ⟨a7,n7,c7,rfl,hn7⟩:=s7.form'
    have HX6:=Lib.hid x6; have HS7:=Lib.hid s7
    have HR1:Hid (x+Lb.B*R < Lb.B*(Lb.val b*s)):=Lib.hid (by
     have h:Lb.B*(R+1) <= Lb.B*(Lb.val b*s):=Nat.mul_le_mul_left _ HRB.out.1
     rw [Nat.mul_succ,Lb.a4R] at *
     omega)
    have hn72:n7 <= n+2:=by
     rw [hn7]
     refine Lb.a0X ?_
     have h1:=HR1.out
     have h2:Lb.B*(Lb.val b*s) <= Lb.B*Lb.B ^ (n+1):=Nat.mul_le_mul_left _ (Nat.le_of_lt HSV.out)
     rw [Nat.pow_succ Lb.B (n+1),Nat.mul_comm _ Lb.B]
     omega
    have HQ1:Hid ((x+Lb.B*R) / (Lb.val b*s) < 1000000000):=Lib.hid HST.out.1
    have HP2:=Lib.hid HST.out.2
    generalize x+Lb.B*R=R1 at *
    have HHS:=Lib.hid (Lb.aPY (l:=Lb.limbs R1) (n:=n) (Lb.a0f R1).1 (by rw [<- hn7]; exact hn72))
    have HES:=Lib.hid (Lb.aZr (R:=R1) HTV.out hT0 (Nat.pow_pos Lb.a3r))
    rw [Lb.a0a] at HHS
    have HL7:=Lib.hid hn7; have HV6:=Lib.hid (HSV1.out.later x6); have HA6:=Lib.hid (HA.out.ext x6)
    clear hcu hX hn7 x6 s7 hb6 hb7 own6 hg6 hloc6 HOX HRX HEX HM HN HBX HTR HR HNE HSU HSV1 HST
    by_cases hc1:n+1 < n7
    ·have hq3:decide ((n7:Int) > (n:Int)+1)=true:=by simp; omega
     have hq4:decide ((n7:Int) >= (n:Int)+1)=true:=by simp; omega
     obtain ⟨g7,o7,c7',he7,hg7,hc71⟩:=a3f HS7.out (n+1) (by rw [<- HL7.out]; exact hc1)
     cases he7
     obtain ⟨g8,o8,c8',he8,hg8,hc70⟩:=a3f HS7.out n (by rw [<- HL7.out]; omega)
     cases he8
     have HH:=HHS.out
     rw [dif_pos (by rw [<- HL7.out]; exact hc1),dif_pos (by rw [<- HL7.out]; omega)] at HH
     have hy1:(Lb.limbs R1)[n+1]'(by rw [<- HL7.out]; exact hc1) < 1000000000:=Lb.a1s (Lb.a0f R1).1 _ _
     have hy0:(Lb.limbs R1)[n]'(by rw [<- HL7.out]; omega) < 1000000000:=Lb.a1s (Lb.a0f R1).1 _ _
     generalize (Lb.limbs R1)[n+1]'(by rw [<- HL7.out]; exact hc1)=ya at *
     generalize (Lb.limbs R1)[n]'(by rw [<- HL7.out]; omega)=yb at *
     clear hg7 hg8
     have HHH:Hid (ya*1000000000+yb=R1 / Lb.B ^ n):=Lib.hid (by have h:=HH; rw [Lb.a4R] at h ⊢; omega)
     have e5:0 <= ((ya:Int)*1000000000+yb) / (T:Int):=Int.ediv_nonneg (by omega) (by omega)
     have e6:((ya:Int)*1000000000+yb) / (T:Int) < 1000000001000000000:=Int.lt_of_le_of_lt (Int.ediv_le_self _ (by omega)) (by omega)
     have E7:Hid (((ya:Int)*1000000000+yb) / (T:Int)=(((ya*1000000000+yb) / T:Nat):Int)):=Lib.hid (by simp)
     have hw:IntKind.u64.wrap (((ya:Int)*1000000000+yb) / (T:Int))=((ya:Int)*1000000000+yb) / (T:Int):=by rw [IntKind.wrap_u64]; exact Int.emod_eq_of_lt e5 (by omega)
     have HE5:=Lib.hid e5
     clear HHS HH e5 e6
     by_cases hbig:(ya*1000000000+yb) / T > 999999999
     ·have hq5:decide (((ya:Int)*1000000000+yb) / (T:Int) > 999999999)=true:=by rw [E7.out]; simp only [decide_eq_true_eq]; omega
      clear hbig
      as_aux_lemma =>
       have hDD:999999999 < 1000000000:=by omega
       have hQD:R1 / (Lb.val b*s) <= 999999999:=by have:=HQ1.out; omega
       have HEQ:Hid ((999999999:Int)=((999999999:Nat):Int)):=Lib.hid (rfl)
       have HBY:Hid (Calls Tryz.prog 221 #[.slice (some ⟨gv,ov,none⟩) (n+1) cv,.int .u32 (999999999)] w6 (aRN w6 (Lb.limbs (Lb.val b*s*(999999999))))):=Lib.hid (by
        rw [HEQ.out]
        have h:=a6I _ _ (999999999) w6 HV6.out HVN.out.1 (by rw [HVL.out]; omega) hDD
        rwa [Lb.a0a] at h)
       have HDD:=Lib.hid hDD; have HQD:=Lib.hid hQD
       clear hDD hQD
       obtain ⟨wo,rfl⟩:∃ wo:World,wo=wr:=⟨_,rfl⟩
       go_wp2_with fail
       refine HBY.out.mono ?_
       rintro e w8 ⟨a8,n8,c8,rfl,s8,x8,-⟩
       clear HBY
       go_wp2_with fail
       go_loopw [16,17] (fun dv pv wr=>∃ (d:Nat),dv=.int .u64 (d:Int)/\d < 1000000000/\Hid (R1 / (Lb.val b*s) <= d)/\Hid (SlU wr pv (Lb.limbs (Lb.val b*s*d)))/\Hid (Ext w6 wr)) (fun dv _ _=>(intOf dv).toNat)
       case atStart=>exact ⟨999999999,by rw [HEQ.out],HDD.out,HQD,Lib.hid s8,Lib.hid x8⟩
       case round =>
        clear HEQ HDD HQD s8 x8
        obtain ⟨d,rfl,hd,HQD,HPR,HXI⟩:=hrel
        obtain ⟨pa,pn,pc,rfl,hpn⟩:=HPR.out.form'
        have HPL:Hid ((Lb.limbs (Lb.val b*s*d)).length <= n+2/\(Lb.limbs R1).length <= n+2):=Lib.hid ⟨Lb.a0X (by
         have h1:=HSV.out
         rw [Nat.pow_succ]
         exact Nat.mul_lt_mul_of_lt_of_le h1 (by rw [Lb.a4R]; omega) (by rw [Lb.a4R]; omega)),by first | exact hn72 | (rw [<- HL7.out]; exact hn72)⟩
        have HC:=Lib.hid (a7h _ _ _ _ wr HPR.out (HS7.out.later HXI.out) (Lb.a0f _) (Lb.a0f _) (by have:=HPL.out; omega) (by have:=HPL.out; omega))
        rw [Lb.a0a,Lb.a0a] at HC
        clear hpn
        by_cases hgt:R1 < Lb.val b*s*d
        ·have hq6:decide (a3L (Lb.val b*s*d) R1 > 0)=true:=by rw [a3x hgt]; rfl
         have hd0:0 < d:=by
          rcases Nat.eq_zero_or_pos d with h | h
          ·subst h; simp at hgt
          ·exact h
         have HD1:Hid (R1 / (Lb.val b*s) <= d - 1):=Lib.hid (by
          have h:=(Nat.div_lt_iff_lt_mul HV0.out).2 (by rw [Nat.mul_comm]; exact hgt)
          omega)
         have HLE2:Hid (Lb.val b*s <= Lb.val b*s*d):=Lib.hid (by
          have:=Nat.mul_le_mul_left (Lb.val b*s) hd0
          rwa [Nat.mul_one] at this)
         have HSUB:Hid (Lb.val b*s*d - Lb.val b*s=Lb.val b*s*(d - 1)):=Lib.hid (by rw [Nat.mul_sub,Nat.mul_one])
         have e9:((d - 1:Nat):Int)=(d:Int) - 1:=by omega
         have E9:=Lib.hid e9
         clear hgt e9
         generalize a3L (Lb.val b*s*d) R1=cmp at *
         go_wp2_with fail
         refine HC.out.mono ?_
         rintro e w9 ⟨rfl,x9⟩
         have HMI:=Lib.hid (a2o _ _ _ _ w9 (HPR.out.later x9) (HV6.out.later (HXI.out.trans x9)) (Lb.a0f _).1 HVN.out.1 (by have:=HPL.out; omega) (Lb.a1n HLE2.out) (by rw [Lb.a0a,Lb.a0a]; exact HLE2.out))
         rw [Lb.a0a,Lb.a0a,HSUB.out] at HMI
         have HX9:=Lib.hid (HXI.out.trans x9)
         clear x9 HC
         go_wp2_with fail
         refine HMI.out.mono ?_
         rintro e w10 ⟨a10,n10,c10,rfl,s10,x10,-⟩
         go_wp2_with fail
         go_roundw
         case rel=>exact ⟨d - 1,by rw [E9.out],by omega,HD1,Lib.hid s10,Lib.hid (HX9.out.trans x10)⟩
         case measure=>simp [intOf]; omega
        ·have hq6:decide (a3L (Lb.val b*s*d) R1 > 0)=false:=by
          rcases Nat.lt_or_ge (Lb.val b*s*d) R1 with h | h
          ·rw [a3k h]; rfl
          ·rw [a3V (by omega)]; rfl
         have HLE2:Hid (Lb.val b*s*d <= R1):=Lib.hid (by omega)
         have HDQ:Hid (d=R1 / (Lb.val b*s)):=Lib.hid (Lb.a7C HLE2.out HV0.out HQD.out)
         have HSUB:Hid (R1 - Lb.val b*s*d=R1 % (Lb.val b*s)):=Lib.hid (by
          have h:=Nat.div_add_mod R1 (Lb.val b*s)
          rw [<- HDQ.out] at h
          omega)
         clear hgt
         generalize a3L (Lb.val b*s*d) R1=cmp at *
         go_wp2_with fail
         refine HC.out.mono ?_
         rintro e w9 ⟨rfl,x9⟩
         have HMI:=Lib.hid (a2o _ _ _ _ w9 (HS7.out.later (HXI.out.trans x9)) (HPR.out.later x9) (Lb.a0f _).1 (Lb.a0f _).1 (by have:=HPL.out; omega) (Lb.a1n HLE2.out) (by rw [Lb.a0a,Lb.a0a]; exact HLE2.out))
         rw [Lb.a0a,Lb.a0a,HSUB.out] at HMI
         have HX9:=Lib.hid (HXI.out.trans x9)
         clear x9 HC
         go_wp2_with fail
         refine HMI.out.mono ?_
         rintro e w10 ⟨a10,n10,c10,rfl,s10,x10,hb10⟩
         have HX10:=Lib.hid (HX9.out.trans x10)
         have HA10:=Lib.hid (HA6.out.ext HX10.out)
         have HB10:=Lib.hid (HB.out.later (HX6.out.trans HX10.out))
         have HNE10:Hid ((Value.slice a10 n10 c10).ownBlock ≠ some g):=Lib.hid (fun e=>by have h1:=hb10 g e; have h2:=HGR.out; have h3:=HX6.out.size; have h4:=HX9.out.size; omega)
         have hml:m < (List.replicate (m+1) 0 ++ (Q ++ List.replicate (a.length+1 - U.length) 0)).length:=by simp; omega
         have cs:=HA10.out.cell m hml
         have fs:=HA10.out.free m
         generalize ((List.replicate (m+1) 0 ++ (Q ++ List.replicate (a.length+1 - U.length) 0))[m]:Int)=old at cs
         have HAX:=Lib.hid (HA10.out.set m d)
         rw [Lb.a2l] at HAX
         have HS10:Hid (SlU (w10.setCell ⟨g,m,none⟩ (.int .u32 (d:Int))) (.slice a10 n10 c10) (Lb.limbs (R1 % (Lb.val b*s)))):=Lib.hid (s10.but ((But.refl g w10).set m _) HNE10.out)
         have HB11:=Lib.hid (HB10.out.set m (.int .u32 (d:Int)))
         clear hml s10 x10 hb10
         go_wp2_with fail
         go_roundw
         case rel=>exact ⟨m,_,d :: Q,_,rfl,rfl,by omega,by rw [HDQ.out]; exact HP2,HS10,HNE10,HAX,HB11⟩
         case measure=>simp [intOf]
     ·have hq5:decide (((ya:Int)*1000000000+yb) / (T:Int) > 999999999)=false:=by rw [E7.out]; simp only [decide_eq_false_iff_not]; omega
      have HBIG:Hid (¬ (ya*1000000000+yb) / T > 999999999):=Lib.hid hbig
      have hw3:((ya:Int)*1000000000+yb) / (T:Int) % 4294967296=((ya:Int)*1000000000+yb) / (T:Int):=Int.emod_eq_of_lt HE5.out (by rw [E7.out]; omega)
      clear hbig
      as_aux_lemma =>
       have hDD:(ya*1000000000+yb) / T < 1000000000:=by have:=HBIG.out; omega
       have hQD:R1 / (Lb.val b*s) <= (ya*1000000000+yb) / T:=by rw [HHH.out]; exact HES.out
       have HEQ:Hid ((((ya:Int)*1000000000+yb) / (T:Int):Int)=(((ya*1000000000+yb) / T:Nat):Int)):=Lib.hid (E7.out)
       have HBY:Hid (Calls Tryz.prog 221 #[.slice (some ⟨gv,ov,none⟩) (n+1) cv,.int .u32 (((ya:Int)*1000000000+yb) / (T:Int))] w6 (aRN w6 (Lb.limbs (Lb.val b*s*((ya*1000000000+yb) / T))))):=Lib.hid (by
        rw [HEQ.out]
        have h:=a6I _ _ ((ya*1000000000+yb) / T) w6 HV6.out HVN.out.1 (by rw [HVL.out]; omega) hDD
        rwa [Lb.a0a] at h)
       have HDD:=Lib.hid hDD; have HQD:=Lib.hid hQD
       clear hDD hQD
       obtain ⟨wo,rfl⟩:∃ wo:World,wo=wr:=⟨_,rfl⟩
       go_wp2_with fail
       refine HBY.out.mono ?_
       rintro e w8 ⟨a8,n8,c8,rfl,s8,x8,-⟩
       clear HBY
       go_wp2_with fail
       go_loopw [16,17] (fun dv pv wr=>∃ (d:Nat),dv=.int .u64 (d:Int)/\d < 1000000000/\Hid (R1 / (Lb.val b*s) <= d)/\Hid (SlU wr pv (Lb.limbs (Lb.val b*s*d)))/\Hid (Ext w6 wr)) (fun dv _ _=>(intOf dv).toNat)
       case atStart=>exact ⟨(ya*1000000000+yb) / T,by rw [HEQ.out],HDD.out,HQD,Lib.hid s8,Lib.hid x8⟩
       case round =>
        clear HEQ HDD HQD s8 x8
        obtain ⟨d,rfl,hd,HQD,HPR,HXI⟩:=hrel
        obtain ⟨pa,pn,pc,rfl,hpn⟩:=HPR.out.form'
        have HPL:Hid ((Lb.limbs (Lb.val b*s*d)).length <= n+2/\(Lb.limbs R1).length <= n+2):=Lib.hid ⟨Lb.a0X (by
         have h1:=HSV.out
         rw [Nat.pow_succ]
         exact Nat.mul_lt_mul_of_lt_of_le h1 (by rw [Lb.a4R]; omega) (by rw [Lb.a4R]; omega)),by first | exact hn72 | (rw [<- HL7.out]; exact hn72)⟩
        have HC:=Lib.hid (a7h _ _ _ _ wr HPR.out (HS7.out.later HXI.out) (Lb.a0f _) (Lb.a0f _) (by have:=HPL.out; omega) (by have:=HPL.out; omega))
        rw [Lb.a0a,Lb.a0a] at HC
        clear hpn
        by_cases hgt:R1 < Lb.val b*s*d
        ·have hq6:decide (a3L (Lb.val b*s*d) R1 > 0)=true:=by rw [a3x hgt]; rfl
         have hd0:0 < d:=by
          rcases Nat.eq_zero_or_pos d with h | h
          ·subst h; simp at hgt
          ·exact h
         have HD1:Hid (R1 / (Lb.val b*s) <= d - 1):=Lib.hid (by
          have h:=(Nat.div_lt_iff_lt_mul HV0.out).2 (by rw [Nat.mul_comm]; exact hgt)
          omega)
         have HLE2:Hid (Lb.val b*s <= Lb.val b*s*d):=Lib.hid (by
          have:=Nat.mul_le_mul_left (Lb.val b*s) hd0
          rwa [Nat.mul_one] at this)
         have HSUB:Hid (Lb.val b*s*d - Lb.val b*s=Lb.val b*s*(d - 1)):=Lib.hid (by rw [Nat.mul_sub,Nat.mul_one])
         have e9:((d - 1:Nat):Int)=(d:Int) - 1:=by omega
         have E9:=Lib.hid e9
         clear hgt e9
         generalize a3L (Lb.val b*s*d) R1=cmp at *
         go_wp2_with fail
         refine HC.out.mono ?_
         rintro e w9 ⟨rfl,x9⟩
         have HMI:=Lib.hid (a2o _ _ _ _ w9 (HPR.out.later x9) (HV6.out.later (HXI.out.trans x9)) (Lb.a0f _).1 HVN.out.1 (by have:=HPL.out; omega) (Lb.a1n HLE2.out) (by rw [Lb.a0a,Lb.a0a]; exact HLE2.out))
         rw [Lb.a0a,Lb.a0a,HSUB.out] at HMI
         have HX9:=Lib.hid (HXI.out.trans x9)
         clear x9 HC
         go_wp2_with fail
         refine HMI.out.mono ?_
         rintro e w10 ⟨a10,n10,c10,rfl,s10,x10,-⟩
         go_wp2_with fail
         go_roundw
         case rel=>exact ⟨d - 1,by rw [E9.out],by omega,HD1,Lib.hid s10,Lib.hid (HX9.out.trans x10)⟩
         case measure=>simp [intOf]; omega
        ·have hq6:decide (a3L (Lb.val b*s*d) R1 > 0)=false:=by
          rcases Nat.lt_or_ge (Lb.val b*s*d) R1 with h | h
          ·rw [a3k h]; rfl
          ·rw [a3V (by omega)]; rfl
         have HLE2:Hid (Lb.val b*s*d <= R1):=Lib.hid (by omega)
         have HDQ:Hid (d=R1 / (Lb.val b*s)):=Lib.hid (Lb.a7C HLE2.out HV0.out HQD.out)
         have HSUB:Hid (R1 - Lb.val b*s*d=R1 % (Lb.val b*s)):=Lib.hid (by
          have h:=Nat.div_add_mod R1 (Lb.val b*s)
          rw [<- HDQ.out] at h
          omega)
         clear hgt
         generalize a3L (Lb.val b*s*d) R1=cmp at *
         go_wp2_with fail
         refine HC.out.mono ?_
         rintro e w9 ⟨rfl,x9⟩
         have HMI:=Lib.hid (a2o _ _ _ _ w9 (HS7.out.later (HXI.out.trans x9)) (HPR.out.later x9) (Lb.a0f _).1 (Lb.a0f _).1 (by have:=HPL.out; omega) (Lb.a1n HLE2.out) (by rw [Lb.a0a,Lb.a0a]; exact HLE2.out))
         rw [Lb.a0a,Lb.a0a,HSUB.out] at HMI
         have HX9:=Lib.hid (HXI.out.trans x9)
         clear x9 HC
         go_wp2_with fail
         refine HMI.out.mono ?_
         rintro e w10 ⟨a10,n10,c10,rfl,s10,x10,hb10⟩
         have HX10:=Lib.hid (HX9.out.trans x10)
         have HA10:=Lib.hid (HA6.out.ext HX10.out)
         have HB10:=Lib.hid (HB.out.later (HX6.out.trans HX10.out))
         have HNE10:Hid ((Value.slice a10 n10 c10).ownBlock ≠ some g):=Lib.hid (fun e=>by have h1:=hb10 g e; have h2:=HGR.out; have h3:=HX6.out.size; have h4:=HX9.out.size; omega)
         have hml:m < (List.replicate (m+1) 0 ++ (Q ++ List.replicate (a.length+1 - U.length) 0)).length:=by simp; omega
         have cs:=HA10.out.cell m hml
         have fs:=HA10.out.free m
         generalize ((List.replicate (m+1) 0 ++ (Q ++ List.replicate (a.length+1 - U.length) 0))[m]:Int)=old at cs
         have HAX:=Lib.hid (HA10.out.set m d)
         rw [Lb.a2l] at HAX
         have HS10:Hid (SlU (w10.setCell ⟨g,m,none⟩ (.int .u32 (d:Int))) (.slice a10 n10 c10) (Lb.limbs (R1 % (Lb.val b*s)))):=Lib.hid (s10.but ((But.refl g w10).set m _) HNE10.out)
         have HB11:=Lib.hid (HB10.out.set m (.int .u32 (d:Int)))
         clear hml s10 x10 hb10
         go_wp2_with fail
         go_roundw
         case rel=>exact ⟨m,_,d :: Q,_,rfl,rfl,by omega,by rw [HDQ.out]; exact HP2,HS10,HNE10,HAX,HB11⟩
         case measure=>simp [intOf]
    ·have hq3:decide ((n7:Int) > (n:Int)+1)=false:=by simp; omega
     by_cases hc2:n < n7
     ·have hq4:decide ((n7:Int) >= (n:Int)+1)=true:=by simp; omega
      obtain ⟨g8,o8,c8',he8,hg8,hc70⟩:=a3f HS7.out n (by rw [<- HL7.out]; omega)
      cases he8
      have HH:=HHS.out
      rw [dif_neg (by rw [<- HL7.out]; exact hc1),dif_pos (by rw [<- HL7.out]; omega)] at HH
      have hy0:(Lb.limbs R1)[n]'(by rw [<- HL7.out]; omega) < 1000000000:=Lb.a1s (Lb.a0f R1).1 _ _
      generalize (Lb.limbs R1)[n]'(by rw [<- HL7.out]; omega)=yb at *
      clear hc1 hg8
      have HHH:Hid (yb=R1 / Lb.B ^ n):=Lib.hid (by have h:=HH; rw [Lb.a4R] at h ⊢; omega)
      have e5:0 <= ((yb:Int)) / (T:Int):=Int.ediv_nonneg (by omega) (by omega)
      have e6:((yb:Int)) / (T:Int) < 1000000001000000000:=Int.lt_of_le_of_lt (Int.ediv_le_self _ (by omega)) (by omega)
      have E7:Hid (((yb:Int)) / (T:Int)=(((yb) / T:Nat):Int)):=Lib.hid (by simp)
      have hw:IntKind.u64.wrap (((yb:Int)) / (T:Int))=((yb:Int)) / (T:Int):=by rw [IntKind.wrap_u64]; exact Int.emod_eq_of_lt e5 (by omega)
      have HE5:=Lib.hid e5
      clear HHS HH e5 e6
      by_cases hbig:(yb) / T > 999999999
      ·have hq5:decide (((yb:Int)) / (T:Int) > 999999999)=true:=by rw [E7.out]; simp only [decide_eq_true_eq]; omega
       clear hbig
       as_aux_lemma =>
        have hDD:999999999 < 1000000000:=by omega
        have hQD:R1 / (Lb.val b*s) <= 999999999:=by have:=HQ1.out; omega
        have HEQ:Hid ((999999999:Int)=((999999999:Nat):Int)):=Lib.hid (rfl)
        have HBY:Hid (Calls Tryz.prog 221 #[.slice (some ⟨gv,ov,none⟩) (n+1) cv,.int .u32 (999999999)] w6 (aRN w6 (Lb.limbs (Lb.val b*s*(999999999))))):=Lib.hid (by
         rw [HEQ.out]
         have h:=a6I _ _ (999999999) w6 HV6.out HVN.out.1 (by rw [HVL.out]; omega) hDD
         rwa [Lb.a0a] at h)
        have HDD:=Lib.hid hDD; have HQD:=Lib.hid hQD
        clear hDD hQD
        obtain ⟨wo,rfl⟩:∃ wo:World,wo=wr:=⟨_,rfl⟩
        go_wp2_with fail
        refine HBY.out.mono ?_
        rintro e w8 ⟨a8,n8,c8,rfl,s8,x8,-⟩
        clear HBY
        go_wp2_with fail
        go_loopw [16,17] (fun dv pv wr=>∃ (d:Nat),dv=.int .u64 (d:Int)/\d < 1000000000/\Hid (R1 / (Lb.val b*s) <= d)/\Hid (SlU wr pv (Lb.limbs (Lb.val b*s*d)))/\Hid (Ext w6 wr)) (fun dv _ _=>(intOf dv).toNat)
        case atStart=>exact ⟨999999999,by rw [HEQ.out],HDD.out,HQD,Lib.hid s8,Lib.hid x8⟩
        case round =>
         clear HEQ HDD HQD s8 x8
         obtain ⟨d,rfl,hd,HQD,HPR,HXI⟩:=hrel
         obtain ⟨pa,pn,pc,rfl,hpn⟩:=HPR.out.form'
         have HPL:Hid ((Lb.limbs (Lb.val b*s*d)).length <= n+2/\(Lb.limbs R1).length <= n+2):=Lib.hid ⟨Lb.a0X (by
          have h1:=HSV.out
          rw [Nat.pow_succ]
          exact Nat.mul_lt_mul_of_lt_of_le h1 (by rw [Lb.a4R]; omega) (by rw [Lb.a4R]; omega)),by first | exact hn72 | (rw [<- HL7.out]; exact hn72)⟩
         have HC:=Lib.hid (a7h _ _ _ _ wr HPR.out (HS7.out.later HXI.out) (Lb.a0f _) (Lb.a0f _) (by have:=HPL.out; omega) (by have:=HPL.out; omega))
         rw [Lb.a0a,Lb.a0a] at HC
         clear hpn
         by_cases hgt:R1 < Lb.val b*s*d
         ·have hq6:decide (a3L (Lb.val b*s*d) R1 > 0)=true:=by rw [a3x hgt]; rfl
          have hd0:0 < d:=by
           rcases Nat.eq_zero_or_pos d with h | h
           ·subst h; simp at hgt
           ·exact h
          have HD1:Hid (R1 / (Lb.val b*s) <= d - 1):=Lib.hid (by
           have h:=(Nat.div_lt_iff_lt_mul HV0.out).2 (by rw [Nat.mul_comm]; exact hgt)
           omega)
          have HLE2:Hid (Lb.val b*s <= Lb.val b*s*d):=Lib.hid (by
           have:=Nat.mul_le_mul_left (Lb.val b*s) hd0
           rwa [Nat.mul_one] at this)
          have HSUB:Hid (Lb.val b*s*d - Lb.val b*s=Lb.val b*s*(d - 1)):=Lib.hid (by rw [Nat.mul_sub,Nat.mul_one])
          have e9:((d - 1:Nat):Int)=(d:Int) - 1:=by omega
          have E9:=Lib.hid e9
          clear hgt e9
          generalize a3L (Lb.val b*s*d) R1=cmp at *
          go_wp2_with fail
          refine HC.out.mono ?_
          rintro e w9 ⟨rfl,x9⟩
          have HMI:=Lib.hid (a2o _ _ _ _ w9 (HPR.out.later x9) (HV6.out.later (HXI.out.trans x9)) (Lb.a0f _).1 HVN.out.1 (by have:=HPL.out; omega) (Lb.a1n HLE2.out) (by rw [Lb.a0a,Lb.a0a]; exact HLE2.out))
          rw [Lb.a0a,Lb.a0a,HSUB.out] at HMI
          have HX9:=Lib.hid (HXI.out.trans x9)
          clear x9 HC
          go_wp2_with fail
          refine HMI.out.mono ?_
          rintro e w10 ⟨a10,n10,c10,rfl,s10,x10,-⟩
          go_wp2_with fail
          go_roundw
          case rel=>exact ⟨d - 1,by rw [E9.out],by omega,HD1,Lib.hid s10,Lib.hid (HX9.out.trans x10)⟩
          case measure=>simp [intOf]; omega
         ·have hq6:decide (a3L (Lb.val b*s*d) R1 > 0)=false:=by
           rcases Nat.lt_or_ge (Lb.val b*s*d) R1 with h | h
           ·rw [a3k h]; rfl
           ·rw [a3V (by omega)]; rfl
          have HLE2:Hid (Lb.val b*s*d <= R1):=Lib.hid (by omega)
          have HDQ:Hid (d=R1 / (Lb.val b*s)):=Lib.hid (Lb.a7C HLE2.out HV0.out HQD.out)
          have HSUB:Hid (R1 - Lb.val b*s*d=R1 % (Lb.val b*s)):=Lib.hid (by
           have h:=Nat.div_add_mod R1 (Lb.val b*s)
           rw [<- HDQ.out] at h
           omega)
          clear hgt
          generalize a3L (Lb.val b*s*d) R1=cmp at *
          go_wp2_with fail
          refine HC.out.mono ?_
          rintro e w9 ⟨rfl,x9⟩
          have HMI:=Lib.hid (a2o _ _ _ _ w9 (HS7.out.later (HXI.out.trans x9)) (HPR.out.later x9) (Lb.a0f _).1 (Lb.a0f _).1 (by have:=HPL.out; omega) (Lb.a1n HLE2.out) (by rw [Lb.a0a,Lb.a0a]; exact HLE2.out))
          rw [Lb.a0a,Lb.a0a,HSUB.out] at HMI
          have HX9:=Lib.hid (HXI.out.trans x9)
          clear x9 HC
          go_wp2_with fail
          refine HMI.out.mono ?_
          rintro e w10 ⟨a10,n10,c10,rfl,s10,x10,hb10⟩
          have HX10:=Lib.hid (HX9.out.trans x10)
          have HA10:=Lib.hid (HA6.out.ext HX10.out)
          have HB10:=Lib.hid (HB.out.later (HX6.out.trans HX10.out))
          have HNE10:Hid ((Value.slice a10 n10 c10).ownBlock ≠ some g):=Lib.hid (fun e=>by have h1:=hb10 g e; have h2:=HGR.out; have h3:=HX6.out.size; have h4:=HX9.out.size; omega)
          have hml:m < (List.replicate (m+1) 0 ++ (Q ++ List.replicate (a.length+1 - U.length) 0)).length:=by simp; omega
          have cs:=HA10.out.cell m hml
          have fs:=HA10.out.free m
          generalize ((List.replicate (m+1) 0 ++ (Q ++ List.replicate (a.length+1 - U.length) 0))[m]:Int)=old at cs
          have HAX:=Lib.hid (HA10.out.set m d)
          rw [Lb.a2l] at HAX
          have HS10:Hid (SlU (w10.setCell ⟨g,m,none⟩ (.int .u32 (d:Int))) (.slice a10 n10 c10) (Lb.limbs (R1 % (Lb.val b*s)))):=Lib.hid (s10.but ((But.refl g w10).set m _) HNE10.out)
          have HB11:=Lib.hid (HB10.out.set m (.int .u32 (d:Int)))
          clear hml s10 x10 hb10
          go_wp2_with fail
          go_roundw
          case rel=>exact ⟨m,_,d :: Q,_,rfl,rfl,by omega,by rw [HDQ.out]; exact HP2,HS10,HNE10,HAX,HB11⟩
          case measure=>simp [intOf]
      ·have hq5:decide (((yb:Int)) / (T:Int) > 999999999)=false:=by rw [E7.out]; simp only [decide_eq_false_iff_not]; omega
       have HBIG:Hid (¬ (yb) / T > 999999999):=Lib.hid hbig
       have hw3:((yb:Int)) / (T:Int) % 4294967296=((yb:Int)) / (T:Int):=Int.emod_eq_of_lt HE5.out (by rw [E7.out]; omega)
       clear hbig
       as_aux_lemma =>
        have hDD:(yb) / T < 1000000000:=by have:=HBIG.out; omega
        have hQD:R1 / (Lb.val b*s) <= (yb) / T:=by rw [HHH.out]; exact HES.out
        have HEQ:Hid ((((yb:Int)) / (T:Int):Int)=(((yb) / T:Nat):Int)):=Lib.hid (E7.out)
        have HBY:Hid (Calls Tryz.prog 221 #[.slice (some ⟨gv,ov,none⟩) (n+1) cv,.int .u32 (((yb:Int)) / (T:Int))] w6 (aRN w6 (Lb.limbs (Lb.val b*s*((yb) / T))))):=Lib.hid (by
         rw [HEQ.out]
         have h:=a6I _ _ ((yb) / T) w6 HV6.out HVN.out.1 (by rw [HVL.out]; omega) hDD
         rwa [Lb.a0a] at h)
        have HDD:=Lib.hid hDD; have HQD:=Lib.hid hQD
        clear hDD hQD
        obtain ⟨wo,rfl⟩:∃ wo:World,wo=wr:=⟨_,rfl⟩
        go_wp2_with fail
        refine HBY.out.mono ?_
        rintro e w8 ⟨a8,n8,c8,rfl,s8,x8,-⟩
        clear HBY
        go_wp2_with fail
        go_loopw [16,17] (fun dv pv wr=>∃ (d:Nat),dv=.int .u64 (d:Int)/\d < 1000000000/\Hid (R1 / (Lb.val b*s) <= d)/\Hid (SlU wr pv (Lb.limbs (Lb.val b*s*d)))/\Hid (Ext w6 wr)) (fun dv _ _=>(intOf dv).toNat)
        case atStart=>exact ⟨(yb) / T,by rw [HEQ.out],HDD.out,HQD,Lib.hid s8,Lib.hid x8⟩
        case round =>
         clear HEQ HDD HQD s8 x8
         obtain ⟨d,rfl,hd,HQD,HPR,HXI⟩:=hrel
         obtain ⟨pa,pn,pc,rfl,hpn⟩:=HPR.out.form'
         have HPL:Hid ((Lb.limbs (Lb.val b*s*d)).length <= n+2/\(Lb.limbs R1).length <= n+2):=Lib.hid ⟨Lb.a0X (by
          have h1:=HSV.out
          rw [Nat.pow_succ]
          exact Nat.mul_lt_mul_of_lt_of_le h1 (by rw [Lb.a4R]; omega) (by rw [Lb.a4R]; omega)),by first | exact hn72 | (rw [<- HL7.out]; exact hn72)⟩
         have HC:=Lib.hid (a7h _ _ _ _ wr HPR.out (HS7.out.later HXI.out) (Lb.a0f _) (Lb.a0f _) (by have:=HPL.out; omega) (by have:=HPL.out; omega))
         rw [Lb.a0a,Lb.a0a] at HC
         clear hpn
         by_cases hgt:R1 < Lb.val b*s*d
         ·have hq6:decide (a3L (Lb.val b*s*d) R1 > 0)=true:=by rw [a3x hgt]; rfl
          have hd0:0 < d:=by
           rcases Nat.eq_zero_or_pos d with h | h
           ·subst h; simp at hgt
           ·exact h
          have HD1:Hid (R1 / (Lb.val b*s) <= d - 1):=Lib.hid (by
           have h:=(Nat.div_lt_iff_lt_mul HV0.out).2 (by rw [Nat.mul_comm]; exact hgt)
           omega)
          have HLE2:Hid (Lb.val b*s <= Lb.val b*s*d):=Lib.hid (by
           have:=Nat.mul_le_mul_left (Lb.val b*s) hd0
           rwa [Nat.mul_one] at this)
          have HSUB:Hid (Lb.val b*s*d - Lb.val b*s=Lb.val b*s*(d - 1)):=Lib.hid (by rw [Nat.mul_sub,Nat.mul_one])
          have e9:((d - 1:Nat):Int)=(d:Int) - 1:=by omega
          have E9:=Lib.hid e9
          clear hgt e9
          generalize a3L (Lb.val b*s*d) R1=cmp at *
          go_wp2_with fail
          refine HC.out.mono ?_
          rintro e w9 ⟨rfl,x9⟩
          have HMI:=Lib.hid (a2o _ _ _ _ w9 (HPR.out.later x9) (HV6.out.later (HXI.out.trans x9)) (Lb.a0f _).1 HVN.out.1 (by have:=HPL.out; omega) (Lb.a1n HLE2.out) (by rw [Lb.a0a,Lb.a0a]; exact HLE2.out))
          rw [Lb.a0a,Lb.a0a,HSUB.out] at HMI
          have HX9:=Lib.hid (HXI.out.trans x9)
          clear x9 HC
          go_wp2_with fail
          refine HMI.out.mono ?_
          rintro e w10 ⟨a10,n10,c10,rfl,s10,x10,-⟩
          go_wp2_with fail
          go_roundw
          case rel=>exact ⟨d - 1,by rw [E9.out],by omega,HD1,Lib.hid s10,Lib.hid (HX9.out.trans x10)⟩
          case measure=>simp [intOf]; omega
         ·have hq6:decide (a3L (Lb.val b*s*d) R1 > 0)=false:=by
           rcases Nat.lt_or_ge (Lb.val b*s*d) R1 with h | h
           ·rw [a3k h]; rfl
           ·rw [a3V (by omega)]; rfl
          have HLE2:Hid (Lb.val b*s*d <= R1):=Lib.hid (by omega)
          have HDQ:Hid (d=R1 / (Lb.val b*s)):=Lib.hid (Lb.a7C HLE2.out HV0.out HQD.out)
          have HSUB:Hid (R1 - Lb.val b*s*d=R1 % (Lb.val b*s)):=Lib.hid (by
           have h:=Nat.div_add_mod R1 (Lb.val b*s)
           rw [<- HDQ.out] at h
           omega)
          clear hgt
          generalize a3L (Lb.val b*s*d) R1=cmp at *
          go_wp2_with fail
          refine HC.out.mono ?_
          rintro e w9 ⟨rfl,x9⟩
          have HMI:=Lib.hid (a2o _ _ _ _ w9 (HS7.out.later (HXI.out.trans x9)) (HPR.out.later x9) (Lb.a0f _).1 (Lb.a0f _).1 (by have:=HPL.out; omega) (Lb.a1n HLE2.out) (by rw [Lb.a0a,Lb.a0a]; exact HLE2.out))
          rw [Lb.a0a,Lb.a0a,HSUB.out] at HMI
          have HX9:=Lib.hid (HXI.out.trans x9)
          clear x9 HC
          go_wp2_with fail
          refine HMI.out.mono ?_
          rintro e w10 ⟨a10,n10,c10,rfl,s10,x10,hb10⟩
          have HX10:=Lib.hid (HX9.out.trans x10)
          have HA10:=Lib.hid (HA6.out.ext HX10.out)
          have HB10:=Lib.hid (HB.out.later (HX6.out.trans HX10.out))
          have HNE10:Hid ((Value.slice a10 n10 c10).ownBlock ≠ some g):=Lib.hid (fun e=>by have h1:=hb10 g e; have h2:=HGR.out; have h3:=HX6.out.size; have h4:=HX9.out.size; omega)
          have hml:m < (List.replicate (m+1) 0 ++ (Q ++ List.replicate (a.length+1 - U.length) 0)).length:=by simp; omega
          have cs:=HA10.out.cell m hml
          have fs:=HA10.out.free m
          generalize ((List.replicate (m+1) 0 ++ (Q ++ List.replicate (a.length+1 - U.length) 0))[m]:Int)=old at cs
          have HAX:=Lib.hid (HA10.out.set m d)
          rw [Lb.a2l] at HAX
          have HS10:Hid (SlU (w10.setCell ⟨g,m,none⟩ (.int .u32 (d:Int))) (.slice a10 n10 c10) (Lb.limbs (R1 % (Lb.val b*s)))):=Lib.hid (s10.but ((But.refl g w10).set m _) HNE10.out)
          have HB11:=Lib.hid (HB10.out.set m (.int .u32 (d:Int)))
          clear hml s10 x10 hb10
          go_wp2_with fail
          go_roundw
          case rel=>exact ⟨m,_,d :: Q,_,rfl,rfl,by omega,by rw [HDQ.out]; exact HP2,HS10,HNE10,HAX,HB11⟩
          case measure=>simp [intOf]
     ·have hq4:decide ((n7:Int) >= (n:Int)+1)=false:=by simp; omega
      have HH:=HHS.out
      rw [dif_neg (by rw [<- HL7.out]; exact hc1),dif_neg (by rw [<- HL7.out]; omega)] at HH
      have HHH:Hid (R1 / Lb.B ^ n=0):=Lib.hid (by rw [<- HH])
      clear HHS HH hc1 hc2
      as_aux_lemma =>
       have hDD:0 < 1000000000:=by omega
       have hQD:R1 / (Lb.val b*s) <= 0:=by have h:=HES.out; rw [HHH.out] at h; simpa using h
       have HEQ:Hid ((0:Int)=((0:Nat):Int)):=Lib.hid (rfl)
       have HBY:Hid (Calls Tryz.prog 221 #[.slice (some ⟨gv,ov,none⟩) (n+1) cv,.int .u32 (0)] w6 (aRN w6 (Lb.limbs (Lb.val b*s*(0))))):=Lib.hid (by
        rw [HEQ.out]
        have h:=a6I _ _ (0) w6 HV6.out HVN.out.1 (by rw [HVL.out]; omega) hDD
        rwa [Lb.a0a] at h)
       have HDD:=Lib.hid hDD; have HQD:=Lib.hid hQD
       clear hDD hQD
       obtain ⟨wo,rfl⟩:∃ wo:World,wo=wr:=⟨_,rfl⟩
       go_wp2_with fail
       refine HBY.out.mono ?_
       rintro e w8 ⟨a8,n8,c8,rfl,s8,x8,-⟩
       clear HBY
       go_wp2_with fail
       go_loopw [16,17] (fun dv pv wr=>∃ (d:Nat),dv=.int .u64 (d:Int)/\d < 1000000000/\Hid (R1 / (Lb.val b*s) <= d)/\Hid (SlU wr pv (Lb.limbs (Lb.val b*s*d)))/\Hid (Ext w6 wr)) (fun dv _ _=>(intOf dv).toNat)
       case atStart=>exact ⟨0,by rw [HEQ.out],HDD.out,HQD,Lib.hid s8,Lib.hid x8⟩
       case round =>
        clear HEQ HDD HQD s8 x8
        obtain ⟨d,rfl,hd,HQD,HPR,HXI⟩:=hrel
        obtain ⟨pa,pn,pc,rfl,hpn⟩:=HPR.out.form'
        have HPL:Hid ((Lb.limbs (Lb.val b*s*d)).length <= n+2/\(Lb.limbs R1).length <= n+2):=Lib.hid ⟨Lb.a0X (by
         have h1:=HSV.out
         rw [Nat.pow_succ]
         exact Nat.mul_lt_mul_of_lt_of_le h1 (by rw [Lb.a4R]; omega) (by rw [Lb.a4R]; omega)),by first | exact hn72 | (rw [<- HL7.out]; exact hn72)⟩
        have HC:=Lib.hid (a7h _ _ _ _ wr HPR.out (HS7.out.later HXI.out) (Lb.a0f _) (Lb.a0f _) (by have:=HPL.out; omega) (by have:=HPL.out; omega))
        rw [Lb.a0a,Lb.a0a] at HC
        clear hpn
        by_cases hgt:R1 < Lb.val b*s*d
        ·have hq6:decide (a3L (Lb.val b*s*d) R1 > 0)=true:=by rw [a3x hgt]; rfl
         have hd0:0 < d:=by
          rcases Nat.eq_zero_or_pos d with h | h
          ·subst h; simp at hgt
          ·exact h
         have HD1:Hid (R1 / (Lb.val b*s) <= d - 1):=Lib.hid (by
          have h:=(Nat.div_lt_iff_lt_mul HV0.out).2 (by rw [Nat.mul_comm]; exact hgt)
          omega)
         have HLE2:Hid (Lb.val b*s <= Lb.val b*s*d):=Lib.hid (by
          have:=Nat.mul_le_mul_left (Lb.val b*s) hd0
          rwa [Nat.mul_one] at this)
         have HSUB:Hid (Lb.val b*s*d - Lb.val b*s=Lb.val b*s*(d - 1)):=Lib.hid (by rw [Nat.mul_sub,Nat.mul_one])
         have e9:((d - 1:Nat):Int)=(d:Int) - 1:=by omega
         have E9:=Lib.hid e9
         clear hgt e9
         generalize a3L (Lb.val b*s*d) R1=cmp at *
         go_wp2_with fail
         refine HC.out.mono ?_
         rintro e w9 ⟨rfl,x9⟩
         have HMI:=Lib.hid (a2o _ _ _ _ w9 (HPR.out.later x9) (HV6.out.later (HXI.out.trans x9)) (Lb.a0f _).1 HVN.out.1 (by have:=HPL.out; omega) (Lb.a1n HLE2.out) (by rw [Lb.a0a,Lb.a0a]; exact HLE2.out))
         rw [Lb.a0a,Lb.a0a,HSUB.out] at HMI
         have HX9:=Lib.hid (HXI.out.trans x9)
         clear x9 HC
         go_wp2_with fail
         refine HMI.out.mono ?_
         rintro e w10 ⟨a10,n10,c10,rfl,s10,x10,-⟩
         go_wp2_with fail
         go_roundw
         case rel=>exact ⟨d - 1,by rw [E9.out],by omega,HD1,Lib.hid s10,Lib.hid (HX9.out.trans x10)⟩
         case measure=>simp [intOf]; omega
        ·have hq6:decide (a3L (Lb.val b*s*d) R1 > 0)=false:=by
          rcases Nat.lt_or_ge (Lb.val b*s*d) R1 with h | h
          ·rw [a3k h]; rfl
          ·rw [a3V (by omega)]; rfl
         have HLE2:Hid (Lb.val b*s*d <= R1):=Lib.hid (by omega)
         have HDQ:Hid (d=R1 / (Lb.val b*s)):=Lib.hid (Lb.a7C HLE2.out HV0.out HQD.out)
         have HSUB:Hid (R1 - Lb.val b*s*d=R1 % (Lb.val b*s)):=Lib.hid (by
          have h:=Nat.div_add_mod R1 (Lb.val b*s)
          rw [<- HDQ.out] at h
          omega)
         clear hgt
         generalize a3L (Lb.val b*s*d) R1=cmp at *
         go_wp2_with fail
         refine HC.out.mono ?_
         rintro e w9 ⟨rfl,x9⟩
         have HMI:=Lib.hid (a2o _ _ _ _ w9 (HS7.out.later (HXI.out.trans x9)) (HPR.out.later x9) (Lb.a0f _).1 (Lb.a0f _).1 (by have:=HPL.out; omega) (Lb.a1n HLE2.out) (by rw [Lb.a0a,Lb.a0a]; exact HLE2.out))
         rw [Lb.a0a,Lb.a0a,HSUB.out] at HMI
         have HX9:=Lib.hid (HXI.out.trans x9)
         clear x9 HC
         go_wp2_with fail
         refine HMI.out.mono ?_
         rintro e w10 ⟨a10,n10,c10,rfl,s10,x10,hb10⟩
         have HX10:=Lib.hid (HX9.out.trans x10)
         have HA10:=Lib.hid (HA6.out.ext HX10.out)
         have HB10:=Lib.hid (HB.out.later (HX6.out.trans HX10.out))
         have HNE10:Hid ((Value.slice a10 n10 c10).ownBlock ≠ some g):=Lib.hid (fun e=>by have h1:=hb10 g e; have h2:=HGR.out; have h3:=HX6.out.size; have h4:=HX9.out.size; omega)
         have hml:m < (List.replicate (m+1) 0 ++ (Q ++ List.replicate (a.length+1 - U.length) 0)).length:=by simp; omega
         have cs:=HA10.out.cell m hml
         have fs:=HA10.out.free m
         generalize ((List.replicate (m+1) 0 ++ (Q ++ List.replicate (a.length+1 - U.length) 0))[m]:Int)=old at cs
         have HAX:=Lib.hid (HA10.out.set m d)
         rw [Lb.a2l] at HAX
         have HS10:Hid (SlU (w10.setCell ⟨g,m,none⟩ (.int .u32 (d:Int))) (.slice a10 n10 c10) (Lb.limbs (R1 % (Lb.val b*s)))):=Lib.hid (s10.but ((But.refl g w10).set m _) HNE10.out)
         have HB11:=Lib.hid (HB10.out.set m (.int .u32 (d:Int)))
         clear hml s10 x10 hb10
         go_wp2_with fail
         go_roundw
         case rel=>exact ⟨m,_,d :: Q,_,rfl,rfl,by omega,by rw [HDQ.out]; exact HP2,HS10,HNE10,HAX,HB11⟩
         case measure=>simp [intOf]
   ·obtain rfl:k=0:=by omega
    obtain rfl:j=-1:=by omega
    clear hj hk0
    have HSC:=Lib.hid (Lb.aBY (a:=Lb.val a) (b:=Lb.val b) (s:=s) (Q:=Lb.val Q) (R:=R) (by have:=HP.out.val; rw [List.drop_zero,HUV.out] at this; exact this) HP.out.rlt)
    have HQL:Hid (Q.length=L/\Lb.Lt Q):=Lib.hid ⟨by have:=HP.out.len; rw [this,<- HLE.out]; rfl,HP.out.lt⟩
    have HRL:Hid ((Lb.limbs R).length <= n+1):=Lib.hid (Lb.a0X (Nat.lt_trans HP.out.rlt HSV.out))
    obtain ⟨ar,nr,cr,rfl,hnr⟩:=HR.out.form'
    have HNR:=Lib.hid hnr
    have hnr9:nr <= 90000001:=by rw [hnr]; have:=HRL.out; omega
    have hmk:=a3K nr (by omega)
    obtain ⟨W2,hW2,hA2,hE2,hz2⟩:=a1P wr nr
    have HA2:Hid (ArrU W2 wr.heap.size (List.replicate nr 0 ++ [])):=Lib.hid (by rw [List.append_nil]; exact hA2)
    have HB0:=Lib.hid (Lb.aHh (l:=Lb.limbs R) (s:=s) (by omega))
    rw [<- hnr] at HB0
    have HX2:=Lib.hid hE2; have HGW2:Hid (wr.heap.size < W2.heap.size):=Lib.hid hA2.lt
    have HRN:Hid (∀ b',(Value.slice ar nr cr).ownBlock=some b'->Lb.limbs R ≠ []->b' < wr.heap.size):=Lib.hid (fun b' e hne=>HR.out.blk e hne)
    have HRW:=Lib.hid (HR.out.later hE2)
    have HAW:=Lib.hid (HA.out.ext hE2)
    have HGA:Hid (g < wr.heap.size):=Lib.hid HA.out.lt
    clear hnr hA2 hE2 hz2 HP HUS HV4
    obtain ⟨wo,rfl⟩:∃ wo:World,wo=wr:=⟨_,rfl⟩
    go_wp2_with fail
    clear hmk hW2
    go_loopw [18,20] (fun c i wr=>∃ (k2:Nat) (j:Int) (o:List Nat) (cn:Nat),c=.int .u64 (cn:Int)/\i=.int .i64 j/\j=(k2:Int) - 1/\k2 <= nr/\Hid (Lb.aHG (Lb.limbs R) s k2 o cn)/\Hid (ArrU wr wo.heap.size (List.replicate k2 0 ++ o))/\Hid (But wo.heap.size W2 wr)) (fun _ i _=>(intOf i+1).toNat)
    case atStart=>exact ⟨nr,_,[],0,rfl,rfl,by omega,Nat.le_refl _,HB0,HA2,Lib.hid (But.refl _ _)⟩
    case round =>
     clear HB0 HA2
     obtain ⟨k2,j,o,cn,rfl,rfl,hj,hk2,HP,HA2,HB2⟩:=hrel
     have HEW2:Hid (Ext wo wr):=Lib.hid (But.ext HX2.out HB2.out (Nat.le_refl _))
     have HRR:=Lib.hid (HR.out.later HEW2.out)
     by_cases hk0:0 < k2
     ·obtain ⟨m,rfl⟩:∃ m,k2=m+1:=⟨k2 - 1,by omega⟩
      obtain rfl:j=(m:Int):=by omega
      clear hj hk0
      have hmr:m < nr:=by omega
      have hml:m < (Lb.limbs R).length:=by rw [<- HNR.out]; exact hmr
      have HST:=Lib.hid (Lb.aJQ (Lb.a0f R).1 HP.out hml)
      have hx:(Lb.limbs R)[m] < 1000000000:=Lb.a1s (Lb.a0f R).1 m hml
      obtain ⟨gr,orr,cr',hre,hgr,hcr⟩:=a3f HRR.out m hml
      cases hre
      generalize (Lb.limbs R)[m]=x at *
      have hcn:cn < s:=HP.out.clt
      have hlen2:m < (List.replicate (m+1) 0 ++ o).length:=by simp; omega
      have cs:=HA2.out.cell m hlen2
      have fs:=HA2.out.free m
      generalize ((List.replicate (m+1) 0 ++ o)[m]:Int)=old at cs
      rw [Lb.a4R] at HST
      have HDG:Hid ((cn*1000000000+x) / s < 1000000000):=Lib.hid HST.out.1
      have e5:0 <= ((cn:Int)*1000000000+x) / (s:Int):=Int.ediv_nonneg (by omega) (by omega)
      have E7:Hid (((cn:Int)*1000000000+x) / (s:Int)=(((cn*1000000000+x) / s:Nat):Int)):=Lib.hid (by simp)
      have E8:Hid (((cn:Int)*1000000000+x) % (s:Int)=(((cn*1000000000+x) % s:Nat):Int)):=Lib.hid (by simp)
      have e6:((cn:Int)*1000000000+x) / (s:Int) < 1000000000:=by rw [E7.out]; have:=HDG.out; omega
      have hw:IntKind.u64.wrap (((cn:Int)*1000000000+x) / (s:Int))=((cn:Int)*1000000000+x) / (s:Int):=by rw [IntKind.wrap_u64]; exact Int.emod_eq_of_lt e5 (by omega)
      have hw3:((cn:Int)*1000000000+x) / (s:Int) % 4294967296=((cn:Int)*1000000000+x) / (s:Int):=Int.emod_eq_of_lt e5 (by omega)
      have hsz:((s:Int) == 0)=false:=by simp; omega
      have hsn:¬ (s:Int)=0:=by omega
      have HAX:Hid (∀ u:Int,u=((cn:Int)*1000000000+x) / (s:Int)->ArrU (wr.setCell ⟨wo.heap.size,m,none⟩ (.int .u32 u)) wo.heap.size (List.replicate m 0 ++ ((cn*1000000000+x) / s :: o))):=Lib.hid (fun u hu=>by
       rw [E7.out] at hu
       subst hu
       have:=HA2.out.set m ((cn*1000000000+x) / s)
       rwa [Lb.a2l] at this)
      have HBX:Hid (∀ u:Value,But wo.heap.size W2 (wr.setCell ⟨wo.heap.size,m,none⟩ u)):=Lib.hid (fun u=>HB2.out.set m u)
      clear hlen2 e5 e6 hml HP
      go_wp2_with fail
      go_roundw
      case rel=>exact ⟨m,_,_,_,by rw [E8.out],rfl,rfl,by omega,Lib.hid HST.out.2,Lib.hid (HAX.out _ rfl),Lib.hid (HBX.out _)⟩
      case measure=>simp [intOf]
     ·obtain rfl:k2=0:=by omega
      obtain rfl:j=-1:=by omega
      clear hj hk0
      have HVO:=Lib.hid (Lb.aJR HP.out (by rw [Lb.a0a]; exact HSC.out.2))
      have HAG:Hid (ArrU wr g (Q ++ List.replicate (a.length+1 - L) 0)):=Lib.hid (by
       have h:=HAW.out
       have h2:=HB2.out.block g (by have:=HGA.out; have:=HGW2.out; omega) (by have:=HGA.out; omega)
       unfold ArrU at h ⊢
       rw [h2]
       simpa using h)
      have HSG2:Hid (SlU wr (.slice (some ⟨g,0,none⟩) L (a.length+1)) Q):=Lib.hid (by
       have h:=HAG.out.sl (n:=L) (cap:=a.length+1) (by simp [HQL.out.1]) (by omega)
       rwa [List.take_append_of_le_length (by rw [HQL.out.1]; exact Nat.le_refl _),List.take_of_length_le (by rw [HQL.out.1]; exact Nat.le_refl _)] at h)
      have HSO:Hid (SlU wr (.slice (some ⟨wo.heap.size,0,none⟩) nr nr) o):=Lib.hid (by
       have h:=HA2.out
       rw [List.replicate_zero,List.nil_append] at h
       exact h.all (by rw [HP.out.len,<- HNR.out]; rfl) (Nat.le_refl _))
      have HOL:Hid (o.length <= 1000000000/\Lb.Lt o):=Lib.hid ⟨by rw [HP.out.len,<- HNR.out]; omega,HP.out.lt⟩
      have HEF:Hid (Ext w wr):=Lib.hid (HEW.out.trans HEW2.out)
      clear HP HA2
      go_wp2_with fail
      refine (a3N _ _ _ HSG2.out (by rw [HQL.out.1]; omega)).mono ?_
      rintro e w11 ⟨v11,rfl,s11,-,rfl⟩
      obtain ⟨a11,c11,rfl⟩:=SlU.form s11
      go_wp2_with fail
      refine (a3N _ _ _ HSO.out HOL.out.1).mono ?_
      rintro e w12 ⟨v12,rfl,s12,-,rfl⟩
      obtain ⟨a12,c12,rfl⟩:=SlU.form s12
      go_wp2_with fail
      go_ret2
      refine ⟨_,_,rfl,?_,?_,HEF.out⟩
      ·rw [<- HSC.out.1,<- Lb.a4k HQL.out.2]; exact s11
      ·rw [<- HVO.out,<- Lb.a4k HOL.out.2]; exact s12
end Go.Proofs.YtbohkigffejhoaaGreat
namespace Go.Proofs.YtbohkigffejhoaaGreat
open Go.RowKit
set_option maxRecDepth 8000
theorem aMk (v1 v2:Value) (a b:List Nat) (w:World) (h1:SlU w v1 a) (h2:SlU w v2 b) (k1:Lb.Lt a) (k2:Lb.a5G b) (n1:a.length <= 90000000) (n2:b.length <= 90000000) (hv:Lb.val b ≠ 0) :
    Calls Tryz.prog 129 #[v1,v2] w (aYg w (Lb.limbs (Lb.val a / Lb.val b)) (Lb.limbs (Lb.val a % Lb.val b))):=by
 have hb0:b ≠ []:=by rintro rfl; exact hv rfl
 by_cases hb:a.length <= 2/\b.length <= 2
 ·exact aER v1 v2 a b w h1 h2 k1 k2.1 hb.1 hb.2 hv
 ·exact aOw v1 v2 a b w h1 h2 k1 k2 n1 n2 hb0 hb
end Go.Proofs.YtbohkigffejhoaaGreat
namespace Go.Proofs.YtbohkigffejhoaaGreat
open Go.RowKit
namespace Vc
def aDJ:Ctr:=⟨63,fun | [.c (.v (.int .u64 u))]=>.yes (0 <= u/\u < 18446744073709551616) (.k (.c (.sl (Lb.limbs u.toNat)))) | _=>.no⟩
theorem aM9:CtrOK Tryz.prog aDJ:=.of (by kernel_rfl) (fun bs w xs vs pre r hr hA hG h hp=>by
 simp only [aDJ] at h
 split at h
 ·cases h
  rename_i u
  obtain ⟨v,rfl,h1,_⟩:=a5b hr
  subst h1
  have hu:((u.toNat:Nat):Int)=u:=Int.toNat_of_nonneg hp.1
  have:=a5Q u.toNat w (by omega)
  rw [hu] at this
  refine this.mono fun e w' h=>?_
  obtain ⟨a,n,c,rfl,hs,hx⟩:=h
  exact ⟨_,rfl,hx,hs,trivial⟩
 ·cases h) (fun xs α pre φ r=>by simp only [aDJ]; split <;> (intro h; cases h))
def aLA:Ctr:=⟨25,fun | [.c (.v (.int .i64 n))]=>.yes (-9223372036854775808 <= n/\n <= 9223372036854775807) (.k (.g [.I n])) | _=>.no⟩
theorem aQH:CtrOK Tryz.prog aLA:=.of (by kernel_rfl) (fun bs w xs vs pre r hr hA hG h hp=>by
 simp only [aLA] at h
 split at h
 ·cases h
  obtain ⟨u,rfl,h1,_⟩:=a5b hr
  subst h1
  exact (aES _ w hp.1 hp.2).mono fun e w' h=>aH5 hA hG h
 ·cases h) (fun xs α pre φ r=>by simp only [aLA]; split <;> (intro h; cases h))
def aLz:Ctr:=⟨224,fun | [.c (.sl a),.c (.sl b)]=>.yes ((Lb.Lt a/\Lb.Lt b)/\a.length <= 100000000/\b.length <= 100000000) (.k (.c (.sl (Lb.limbs (Lb.val a+Lb.val b))))) | _=>.no⟩
theorem aQG:CtrOK Tryz.prog aLz:=.of (by kernel_rfl) (fun bs w xs vs pre r hr hA hG h hp=>by
 simp only [aLz] at h
 split at h
 ·cases h
  obtain ⟨u,v,rfl,h1,h2⟩:=a3c hr
  refine (aOv u v _ _ w h1.1 h2.1 hp.1.1 hp.1.2 hp.2.1 hp.2.2).mono fun e w' h=>?_
  obtain ⟨a,n,c,rfl,hs,hx,_⟩:=h
  exact ⟨_,rfl,hx,hs,trivial⟩
 ·cases h) (fun xs α pre φ r=>by simp only [aLz]; split <;> (intro h; cases h))
def aDI:Ctr:=⟨223,fun | [.c (.sl a),.c (.sl b)]=>.yes ((Lb.Lt a/\Lb.Lt b)/\(a.length <= 100000000/\b.length <= a.length)/\Lb.val b <= Lb.val a) (.k (.c (.sl (Lb.limbs (Lb.val a - Lb.val b))))) | _=>.no⟩
theorem aM8:CtrOK Tryz.prog aDI:=.of (by kernel_rfl) (fun bs w xs vs pre r hr hA hG h hp=>by
 simp only [aDI] at h
 split at h
 ·cases h
  obtain ⟨u,v,rfl,h1,h2⟩:=a3c hr
  refine (a2o u v _ _ w h1.1 h2.1 hp.1.1 hp.1.2 hp.2.1.1 hp.2.1.2 hp.2.2).mono fun e w' h=>?_
  obtain ⟨a,n,c,rfl,hs,hx,_⟩:=h
  exact ⟨_,rfl,hx,hs,trivial⟩
 ·cases h) (fun xs α pre φ r=>by simp only [aDI]; split <;> (intro h; cases h))
def aDE:Ctr:=⟨328,fun | [.c (.sl a),.c (.sl b)]=>.yes ((Lb.Lt a/\Lb.Lt b)/\a.length <= 100000000/\b.length <= 100000000) (.k (.c (.sl (Lb.limbs (Lb.val a*Lb.val b))))) | _=>.no⟩
theorem aM3:CtrOK Tryz.prog aDE:=.of (by kernel_rfl) (fun bs w xs vs pre r hr hA hG h hp=>by
 simp only [aDE] at h
 split at h
 ·cases h
  obtain ⟨u,v,rfl,h1,h2⟩:=a3c hr
  refine (aB0 u v _ _ w h1.1 h2.1 hp.1.1 hp.1.2 hp.2.1 hp.2.2).mono fun e w' h=>?_
  obtain ⟨a,n,c,rfl,hs,hx,_⟩:=h
  exact ⟨_,rfl,hx,hs,trivial⟩
 ·cases h) (fun xs α pre φ r=>by simp only [aDE]; split <;> (intro h; cases h))
def aDH:Ctr:=⟨129,fun | [.c (.sl a),.c (.sl b)]=>.yes ((Lb.Lt a/\Lb.a5G b)/\(a.length <= 90000000/\b.length <= 90000000)/\Lb.val b ≠ 0) (.t [.c (.sl (Lb.limbs (Lb.val a / Lb.val b))),.c (.sl (Lb.limbs (Lb.val a % Lb.val b)))]) | _=>.no⟩
theorem aM5:CtrOK Tryz.prog aDH:=.of (by kernel_rfl) (fun bs w xs vs pre r hr hA hG h hp=>by
 simp only [aDH] at h
 split at h
 ·cases h
  obtain ⟨u,v,rfl,h1,h2⟩:=a3c hr
  refine (aMk u v _ _ w h1.1 h2.1 hp.1.1 hp.1.2 hp.2.1.1 hp.2.1.2 hp.2.2).mono fun e w' h=>?_
  obtain ⟨s,t,rfl,k1,k2,hx⟩:=h
  exact ⟨_,rfl,hx,_,rfl,⟨k1,trivial⟩,⟨k2,trivial⟩,trivial⟩
 ·cases h) (fun xs α pre φ r=>by simp only [aDH]; split <;> (intro h; cases h))
def RT5:List Ctr:=RT4 ++ [aDJ,aLA,aLz,aDI,aDE,aDH]
theorem aRP:∀ c ∈ RT5,CtrOK Tryz.prog c:=a0O aZ5 (a03 aM9 (a03 aQH (a03 aQG (a03 aM8 (a03 aM3 (a03 aM5 (a2L)))))))
theorem aDb (x y:Nat):(Lb.limbs (x*y)).length <= (Lb.limbs x).length+(Lb.limbs y).length:=by
 refine Lb.a0X ?_
 rw [Nat.pow_add]
 exact Nat.mul_lt_mul_of_lt_of_le (Lb.a01 x) (Nat.le_of_lt (Lb.a01 y)) (Nat.pow_pos Lb.a3r)
theorem aDc (x y:Nat):(Lb.limbs (x+y)).length <= (Lb.limbs x).length+(Lb.limbs y).length+1:=by
 refine Lb.a0X ?_
 have h1:=Lb.a01 x
 have h2:=Lb.a01 y
 have h3:Lb.B ^ (Lb.limbs x).length <= Lb.B ^ ((Lb.limbs x).length+(Lb.limbs y).length):=Nat.pow_le_pow_right Lb.a3r (by omega)
 have h4:Lb.B ^ (Lb.limbs y).length <= Lb.B ^ ((Lb.limbs x).length+(Lb.limbs y).length):=Nat.pow_le_pow_right Lb.a3r (by omega)
 rw [Nat.pow_succ,Lb.a4R] at *
 omega
theorem aWz (x y:Int):sgn (decide (x < 0) != decide (y < 0)) (x.natAbs*y.natAbs)=x*y:=by
 unfold sgn
 rw [<- Int.natAbs_mul]
 rcases Int.lt_or_le x 0 with h | h <;> rcases Int.lt_or_le y 0 with h' | h'
 ·have:=Int.mul_pos_of_neg_of_neg h h'
  simp [h,h']; omega
 ·have:=Int.mul_nonpos_of_nonpos_of_nonneg (Int.le_of_lt h) h'
  have e:¬ y < 0:=by omega
  simp [h,e]; omega
 ·have:=Int.mul_nonpos_of_nonneg_of_nonpos h (Int.le_of_lt h')
  have e:¬ x < 0:=by omega
  simp [h',e]; omega
 ·have:=Int.mul_nonneg h h'
  have e:¬ x < 0:=by omega
  have e':¬ y < 0:=by omega
  simp [e,e']; omega
def aZG:Ctr:=⟨213,spY (gI.c (gI.c r0)) (fun (x,y,_)=>szI x <= 10000000/\szI y <= 10000000) (fun (x,y,_)=>.k (.g [.I ((x*y))]))⟩
theorem aM7 (x y:Int) (hp:szI x <= 10000000/\szI y <= 10000000):owes LT RT5 [] Tryz.f213 (bd Tryz.f213) [.g [.I (x)],.g [.I (y)]] (.k (.g [.I ((x*y))])):=by
 refine Eq.mp (show (((Lb.Lt (Lb.limbs x.natAbs)/\Lb.Lt (Lb.limbs y.natAbs))/\(Lb.limbs x.natAbs).length <= 100000000/\(Lb.limbs y.natAbs).length <= 100000000)/\((Lb.Lt (Lb.limbs (Lb.val (Lb.limbs x.natAbs)*Lb.val (Lb.limbs y.natAbs)))/\(Lb.limbs (Lb.val (Lb.limbs x.natAbs)*Lb.val (Lb.limbs y.natAbs))).length <= 1000000000)/\(((sgn ((decide (x < 0)) != (decide (y < 0))) (Lb.val (Lb.limbs (Lb.val (Lb.limbs x.natAbs)*Lb.val (Lb.limbs y.natAbs)))))=(x*y))/\True)))=_ by kernel_rfl) ?_
 unfold szI at hp
 have hL:=aDb x.natAbs y.natAbs
 refine ⟨⟨⟨(Lb.a0f _).1,(Lb.a0f _).1⟩,by omega,by omega⟩,⟨(Lb.a0f _).1,?_⟩,?_,trivial⟩
 ·rw [Lb.a0a,Lb.a0a]; omega
 ·rw [Lb.a0a,Lb.a0a,Lb.a0a]
  exact aWz x y
theorem aTT:CtrOK Tryz.prog aZG:=yOK a1w aRP Tryz.func213 fun _ hp=>aM7 _ _ hp
def aZI:Ctr:=⟨132,spY (gI.c (gI.c r0)) (fun (x,y,_)=>szI x <= 10000000/\szI y <= 10000000) (fun (x,y,_)=>.k (.g [.I ((x+y))]))⟩
def aS7 (x:Int) (y:Int):=(Lb.limbs (Lb.val (Lb.limbs x.natAbs)+Lb.val (Lb.limbs y.natAbs)))
def aS6 (x:Int) (y:Int):=(Lb.limbs (Lb.val (Lb.limbs x.natAbs) - Lb.val (Lb.limbs y.natAbs)))
def aS5 (y:Int) (x:Int):=(Lb.limbs (Lb.val (Lb.limbs y.natAbs) - Lb.val (Lb.limbs x.natAbs)))
theorem aNd (x y:Int) (hp:szI x <= 10000000/\szI y <= 10000000):owes LT RT5 [] Tryz.f132 (bd Tryz.f132) [.g [.I (x)],.g [.I (y)]] (.k (.g [.I ((x+y))])):=by
 refine Eq.mp (show ((((decide (x < 0)) == (decide (y < 0)))=true->(((Lb.Lt (Lb.limbs x.natAbs)/\Lb.Lt (Lb.limbs y.natAbs))/\(Lb.limbs x.natAbs).length <= 100000000/\(Lb.limbs y.natAbs).length <= 100000000)/\((Lb.Lt (aS7 x y)/\(aS7 x y).length <= 1000000000)/\(((sgn (decide (x < 0)) (Lb.val (aS7 x y)))=(x+y))/\True))))/\(((decide (x < 0)) == (decide (y < 0)))=false->(((Lb.a5G (Lb.limbs x.natAbs)/\Lb.a5G (Lb.limbs y.natAbs))/\(Lb.limbs x.natAbs).length <= 1000000000/\(Lb.limbs y.natAbs).length <= 1000000000)/\(((decide ((a3L (Lb.val (Lb.limbs x.natAbs)) (Lb.val (Lb.limbs y.natAbs))) >= (0:Int)))=true->(((Lb.Lt (Lb.limbs x.natAbs)/\Lb.Lt (Lb.limbs y.natAbs))/\((Lb.limbs x.natAbs).length <= 100000000/\(Lb.limbs y.natAbs).length <= (Lb.limbs x.natAbs).length)/\Lb.val (Lb.limbs y.natAbs) <= Lb.val (Lb.limbs x.natAbs))/\((Lb.Lt (aS6 x y)/\(aS6 x y).length <= 1000000000)/\(((sgn (decide (x < 0)) (Lb.val (aS6 x y)))=(x+y))/\True))))/\((decide ((a3L (Lb.val (Lb.limbs x.natAbs)) (Lb.val (Lb.limbs y.natAbs))) >= (0:Int)))=false->(((Lb.Lt (Lb.limbs y.natAbs)/\Lb.Lt (Lb.limbs x.natAbs))/\((Lb.limbs y.natAbs).length <= 100000000/\(Lb.limbs x.natAbs).length <= (Lb.limbs y.natAbs).length)/\Lb.val (Lb.limbs x.natAbs) <= Lb.val (Lb.limbs y.natAbs))/\((Lb.Lt (aS5 y x)/\(aS5 y x).length <= 1000000000)/\(((sgn (decide (y < 0)) (Lb.val (aS5 y x)))=(x+y))/\True))))))))=_ by kernel_rfl) ?_
 delta aS5 aS6 aS7
 unfold szI at hp
 have hA:=aDc x.natAbs y.natAbs
 have hs1:=Lb.a1n (Nat.sub_le x.natAbs y.natAbs)
 have hs2:=Lb.a1n (Nat.sub_le y.natAbs x.natAbs)
 have hN:=fun n=>Lb.a0f n
 simp only [Lb.a0a]
 refine ⟨fun h=>⟨⟨⟨(hN _).1,(hN _).1⟩,by omega,by omega⟩,⟨(hN _).1,by omega⟩,?_,trivial⟩,fun h=>⟨⟨⟨hN _,hN _⟩,by omega,by omega⟩,fun h1=>?_,fun h1=>?_⟩⟩
 ·unfold sgn
  by_cases h2:x < 0 <;> by_cases h3:y < 0 <;> simp [h2,h3] at h ⊢ <;> omega
 ·have hle:y.natAbs <= x.natAbs:=by
   rcases Nat.lt_or_ge x.natAbs y.natAbs with h' | h'
   ·rw [a3k h'] at h1; cases h1
   ·exact h'
  refine ⟨⟨⟨(hN _).1,(hN _).1⟩,⟨by omega,Lb.a1n hle⟩,hle⟩,⟨(hN _).1,by omega⟩,?_,trivial⟩
  unfold sgn
  by_cases h2:x < 0 <;> by_cases h3:y < 0 <;> simp [h2,h3] at h ⊢ <;> omega
 ·have hle:x.natAbs <= y.natAbs:=by
   rcases Nat.lt_trichotomy x.natAbs y.natAbs with h' | h' | h'
   ·omega
   ·rw [a3V h'] at h1; cases h1
   ·rw [a3x h'] at h1; cases h1
  refine ⟨⟨⟨(hN _).1,(hN _).1⟩,⟨by omega,Lb.a1n hle⟩,hle⟩,⟨(hN _).1,by omega⟩,?_,trivial⟩
  unfold sgn
  by_cases h2:x < 0 <;> by_cases h3:y < 0 <;> simp [h2,h3] at h ⊢ <;> omega
theorem aTW:CtrOK Tryz.prog aZI:=yOK a1w aRP Tryz.func132 fun _ hp=>aNd _ _ hp
def RT6:List Ctr:=RT5 ++ [aZG,aZI]
theorem aVY:∀ c ∈ RT6,CtrOK Tryz.prog c:=a0O aRP (a03 aTT (a03 aTW (a2L)))
def aZE:Ctr:=⟨131,spY (gI.c (gI.c r0)) (fun (x,y,_)=>szI x <= 10000000/\szI y <= 10000000) (fun (x,y,_)=>.k (.g [.I ((x - y))]))⟩
theorem aM4 (x y:Int) (hp:szI x <= 10000000/\szI y <= 10000000):owes LT RT6 [] Tryz.f131 (bd Tryz.f131) [.g [.I (x)],.g [.I (y)]] (.k (.g [.I ((x - y))])):=by
 refine Eq.mp (show ((szI y <= 10000000)/\((szI x <= 10000000/\szI (-y) <= 10000000)/\(((x+(-y))=(x - y))/\True)))=_ by kernel_rfl) ?_
 obtain ⟨h1,h2⟩:=hp
 refine ⟨h2,⟨h1,?_⟩,?_,trivial⟩
 ·unfold szI at *; rw [Int.natAbs_neg]; exact h2
 ·omega
theorem aTR:CtrOK Tryz.prog aZE:=yOK a1w aVY Tryz.func131 fun _ hp=>aM4 _ _ hp
def RT7:List Ctr:=RT6 ++ [aZE]
theorem aRO:∀ c ∈ RT7,CtrOK Tryz.prog c:=a0O aVY (a03 aTR (a2L))
def b1h:Ctr:=⟨61,spY (gI.c (gI.c r0)) (fun (x,y,_)=>(0 < y/\x % y=0)/\(szI x <= 5000000/\szI y <= 5000000)) (fun (x,y,_)=>.t [.g [.I ((x / y))],.g [.I ((0:Int))],.c (.v (.int .i64 ((0:Int))))])⟩
def aIv (x:Int) (y:Int):=(Lb.limbs (Lb.val (Lb.limbs x.natAbs) % Lb.val (Lb.limbs y.natAbs)))
def aS2 (x:Int) (y:Int):=(Lb.limbs (Lb.val (Lb.limbs x.natAbs) / Lb.val (Lb.limbs y.natAbs)))
def aS1 (x:Int) (y:Int):=(sgn ((decide (x < 0)) != (decide (y < 0))) (Lb.val (aS2 x y)))
def aS4 (x:Int) (y:Int):=((((((((aS1 x y) - (1:Int))=(x / y))/\True)/\(((((sgn (decide (x < 0)) (Lb.val (aIv x y)))+y)=(0:Int))/\True)/\((Value.int .i64 (0:Int)=(.int .i64 (0:Int)))/\True)))/\True)/\True)/\True)
def aS3 (x:Int) (y:Int):=(((((((aS1 x y)=(x / y))/\True)/\((((sgn (decide (x < 0)) (Lb.val (aIv x y)))=(0:Int))/\True)/\((Value.int .i64 (0:Int)=(.int .i64 (0:Int)))/\True)))/\True)/\True)/\True)
def aW7 (x:Int) (y:Int):=(bif (decide (((aIv x y).length:Int) > (0:Int))) then ((decide (x < 0)) != (decide (y < 0))) else false)
theorem aQJ (x y:Int) (hp:(0 < y/\x % y=0)/\(szI x <= 5000000/\szI y <= 5000000)):owes LT RT7 [] Tryz.f61 (bd Tryz.f61) [.g [.I (x)],.g [.I (y)]] (.t [.g [.I ((x / y))],.g [.I ((0:Int))],.c (.v (.int .i64 ((0:Int))))]):=by
 refine Eq.mp (show (((((Lb.limbs y.natAbs).length:Int) == (0:Int))=true->(((Value.bool false=.bool (decide ((x / y) < 0)))/\((([]:List Nat)=Lb.limbs (x / y).natAbs)/\True))/\(((Value.bool false=.bool (decide ((0:Int) < 0)))/\((([]:List Nat)=Lb.limbs (0:Int).natAbs)/\True))/\((Value.int .i64 (6:Int)=(.int .i64 (0:Int)))/\True))))/\((((Lb.limbs y.natAbs).length:Int) == (0:Int))=false->(((Lb.Lt (Lb.limbs x.natAbs)/\Lb.a5G (Lb.limbs y.natAbs))/\((Lb.limbs x.natAbs).length <= 90000000/\(Lb.limbs y.natAbs).length <= 90000000)/\Lb.val (Lb.limbs y.natAbs) ≠ 0)/\((Lb.Lt (aS2 x y)/\(aS2 x y).length <= 1000000000)/\((Lb.Lt (aIv x y)/\(aIv x y).length <= 1000000000)/\(((aW7 x y)=true->((-9223372036854775808 <= (1:Int)/\(1:Int) <= 9223372036854775807)/\((szI (aS1 x y) <= 10000000/\szI (1:Int) <= 10000000)/\((szI (sgn (decide (x < 0)) (Lb.val (aIv x y))) <= 10000000/\szI y <= 10000000)/\(((aS4 x y)/\((aS4 x y)/\True))/\(((aS4 x y)/\True)/\True))))))/\((aW7 x y)=false->(((aS3 x y)/\((aS3 x y)/\True))/\(((aS3 x y)/\True)/\True)))))))))=_ by kernel_rfl) ?_
 delta aW7 aS3 aS4 aS1 aS2 aIv
 obtain ⟨⟨hy,hxy⟩,hx5,hy5⟩:=hp
 unfold szI at hx5 hy5
 have hny:y.natAbs ≠ 0:=by omega
 have hly:(Lb.limbs y.natAbs).length ≠ 0:=by rw [Lb.a2q hny]; simp
 have hN:=fun n=>Lb.a0f n
 have hd:=Lb.a1n (Nat.div_le_self x.natAbs y.natAbs)
 have hr:x.natAbs % y.natAbs=0:=Nat.mod_eq_zero_of_dvd (Int.natAbs_dvd_natAbs.2 (Int.dvd_of_emod_eq_zero hxy))
 simp only [Lb.a0a,hr,Lb.a1b]
 refine ⟨fun h=>absurd h (by simpa using hly),fun _=>⟨⟨⟨(hN _).1,hN _⟩,⟨by omega,by omega⟩,hny⟩,⟨(hN _).1,by omega⟩,⟨Lb.a2Q,by simp⟩,fun h=>?_,fun _=>?_⟩⟩
 ·exfalso
  simp at h
 ·rw [aOo x y hy hxy]
  simp [sgn,Lb.val]
theorem aXW:CtrOK Tryz.prog b1h:=yOK a1w aRO Tryz.func61 fun _ hp=>aQJ _ _ hp
def RT8:List Ctr:=RT7 ++ [b1h]
theorem aVX:∀ c ∈ RT8,CtrOK Tryz.prog c:=a0O aRO (a03 aXW (a2L))
def aZH:Ctr:=⟨60,spY (gI.c (gI.c r0)) (fun (x,y,_)=>szI x <= 5000000/\szI y <= 5000000) (fun (x,y,_)=>.k (.g [.I ((Int.gcd x y:Int))]))⟩
def aPz (x:Int) (y:Int):=(((x=x)/\True)/\(((y=y)/\True)/\(((Value.bool false=(.bool false))/\((([]:List Nat)=([]:List Nat))/\True))/\True)))
def aW6 (x1:Nat × Nat):=(bif (decide (((Lb.limbs x1.2).length:Int) > (0:Int))) then (bif (decide (((Lb.limbs x1.1).length:Int) > (2:Int))) then true else (decide (((Lb.limbs x1.2).length:Int) > (2:Int)))) else false)
theorem aNa (x y:Int) (hp:szI x <= 5000000/\szI y <= 5000000):owes LT RT8 [.inv 2 (Nat × Nat) (fun ξ=>⟨[.u,.u,.k (.c (.bx 0 0)),.k (.c (.bx 1 0)),.k (.c (.bx 2 0)),.k (.c (.sl ((Lb.limbs (ξ.1))))),.k (.c (.sl ((Lb.limbs (ξ.2))))),.u,.u,.u,.u,.u,.u,.u,.u,.u,.u,.u,.u,.u,.u,.u,.u,.u,.u,.u,.u,.u,.u,.u,.u,.u,.u,.u,.u,.u,.u,.u,.u,.u,.u,.u,.u,.u,.u,.u,.u,.u,.u,.u,.u,.u,.u,.u],[⟨33,[.I (x)]⟩,⟨33,[.I (y)]⟩,⟨33,[.v (.bool (false)),.sl (([]:List Nat))]⟩]⟩) (fun _ ξ=>(Nat.gcd ξ.1 ξ.2=Int.gcd x y/\(Lb.limbs ξ.1).length <= 5000000/\(Lb.limbs ξ.2).length <= 5000000)) (fun ξ=>ξ.2),.inv 8 (Nat × Nat) (fun ξ=>⟨[.u,.u,.u,.u,.k (.c (.bx 2 0)),.u,.u,.u,.u,.k (.c (.v (.int .u64 ((ξ.1:Int))))),.k (.c (.v (.int .u64 ((ξ.2:Int))))),.u,.u,.u,.u,.u,.u,.u,.u,.u,.u,.u,.u,.u,.u,.u,.u,.u,.u,.u,.u,.u,.u,.u,.u,.u,.u,.u,.u,.u,.u,.u,.u,.u,.u,.u,.u,.u,.u,.u,.u,.u,.u,.u],[⟨33,[.I (x)]⟩,⟨33,[.I (y)]⟩,⟨33,[.v (.bool (false)),.sl (([]:List Nat))]⟩]⟩) (fun _ ξ=>(Nat.gcd ξ.1 ξ.2=Int.gcd x y/\ξ.1 < 18446744073709551616/\ξ.2 < 18446744073709551616)) (fun ξ=>ξ.2)] Tryz.f60 (bd Tryz.f60) [.g [.I (x)],.g [.I (y)]] (.k (.g [.I ((Int.gcd x y:Int))])):=by
 refine Eq.mp (show ((∃ x1:Nat × Nat,((Nat.gcd x1.1 x1.2=Int.gcd x y/\(Lb.limbs x1.1).length <= 5000000/\(Lb.limbs x1.2).length <= 5000000)/\((True/\(True/\(True/\((Lb.limbs x.natAbs=(Lb.limbs x1.1))/\((Lb.limbs y.natAbs=(Lb.limbs x1.2))/\True)))))/\(aPz x y))))/\(∀ x1:Nat × Nat,((Nat.gcd x1.1 x1.2=Int.gcd x y/\(Lb.limbs x1.1).length <= 5000000/\(Lb.limbs x1.2).length <= 5000000)->(((aW6 x1)=true->(((Lb.Lt (Lb.limbs x1.1)/\Lb.a5G (Lb.limbs x1.2))/\((Lb.limbs x1.1).length <= 90000000/\(Lb.limbs x1.2).length <= 90000000)/\Lb.val (Lb.limbs x1.2) ≠ 0)/\(∃ y1:Nat × Nat,((Nat.gcd y1.1 y1.2=Int.gcd x y/\(Lb.limbs y1.1).length <= 5000000/\(Lb.limbs y1.2).length <= 5000000)/\((y1.2 < x1.2)/\((True/\(True/\(True/\(((Lb.limbs x1.2)=(Lb.limbs y1.1))/\(((Lb.limbs (Lb.val (Lb.limbs x1.1) % Lb.val (Lb.limbs x1.2)))=(Lb.limbs y1.2))/\True)))))/\(aPz x y)))))))/\((aW6 x1)=false->(((((Lb.limbs x1.2).length:Int) == (0:Int))=true->((Lb.Lt (Lb.limbs x1.1)/\(Lb.limbs x1.1).length <= 1000000000)/\(((sgn false (Lb.val (Lb.limbs x1.1)))=(Int.gcd x y:Int))/\True)))/\((((Lb.limbs x1.2).length:Int) == (0:Int))=false->((Lb.Lt (Lb.limbs x1.1)/\(Lb.limbs x1.1).length <= 2)/\((Lb.Lt (Lb.limbs x1.2)/\(Lb.limbs x1.2).length <= 2)/\((∃ x2:Nat × Nat,((Nat.gcd x2.1 x2.2=Int.gcd x y/\x2.1 < 18446744073709551616/\x2.2 < 18446744073709551616)/\((True/\((Value.int .u64 (Lb.val (Lb.limbs x1.1):Int)=(.int .u64 (x2.1:Int)))/\((Value.int .u64 (Lb.val (Lb.limbs x1.2):Int)=(.int .u64 (x2.2:Int)))/\True)))/\(aPz x y))))/\(∀ x2:Nat × Nat,((Nat.gcd x2.1 x2.2=Int.gcd x y/\x2.1 < 18446744073709551616/\x2.2 < 18446744073709551616)->(((decide ((x2.2:Int) > (0:Int)))=true->((0 <= (x2.1:Int)/\0 < (x2.2:Int))/\(∃ y2:Nat × Nat,((Nat.gcd y2.1 y2.2=Int.gcd x y/\y2.1 < 18446744073709551616/\y2.2 < 18446744073709551616)/\((y2.2 < x2.2)/\((True/\((Value.int .u64 (x2.2:Int)=(.int .u64 (y2.1:Int)))/\((Value.int .u64 ((x2.1:Int) % (x2.2:Int))=(.int .u64 (y2.2:Int)))/\True)))/\(aPz x y)))))))/\((decide ((x2.2:Int) > (0:Int)))=false->((0 <= (x2.1:Int)/\(x2.1:Int) < 18446744073709551616)/\((Lb.Lt (Lb.limbs (x2.1:Int).toNat)/\(Lb.limbs (x2.1:Int).toNat).length <= 1000000000)/\(((sgn false (Lb.val (Lb.limbs (x2.1:Int).toNat)))=(Int.gcd x y:Int))/\True)))))))))))))))))=_ by kernel_rfl) ?_
 delta aW6 aPz
 obtain ⟨hx5,hy5⟩:=hp
 have hgcd:Int.gcd x y=Nat.gcd x.natAbs y.natAbs:=rfl
 generalize hg:Int.gcd x y=g at *
 have sgn0:∀ n:Nat,sgn false n=(n:Int):=fun n=>by simp [sgn]
 have hN:=fun n=>Lb.a0f n
 unfold szI at hx5 hy5
 simp only [Lb.a0a,sgn0]
 have hpos:∀ n:Nat,n ≠ 0->0 < (Lb.limbs n).length:=fun n hn=>by rw [Lb.a2q hn]; simp
 refine ⟨⟨(x.natAbs,y.natAbs),⟨hgcd.symm,hx5,hy5⟩,by simp,by simp⟩,?_⟩
 rintro ⟨a,b⟩ ⟨hab,ha,hb⟩
 simp only at *
 refine ⟨fun h0=>?_,fun h0=>⟨fun h1=>?_,fun h1=>?_⟩⟩
 ·have hb0:b ≠ 0:=by rintro rfl; simp [Lb.a1b] at h0
  have hlt:=Nat.mod_lt a (show 0 < b by omega)
  refine ⟨⟨⟨(hN _).1,hN _⟩,⟨by omega,by omega⟩,hb0⟩,(b,a % b),⟨?_,hb,?_⟩,hlt,by simp,by simp⟩
  ·rw [<- hab,Nat.gcd_comm a b,Nat.gcd_rec b a,Nat.gcd_comm]
  ·exact Nat.le_trans (Lb.a1n (by omega)) hb
 ·have hb0:b=0:=by
   rcases Nat.eq_zero_or_pos b with h | h
   ·exact h
   ·have:=hpos b (by omega)
    have h2:((Lb.limbs b).length:Int)=0:=by simpa using h1
    omega
  subst hb0
  rw [Nat.gcd_zero_right] at hab
  exact ⟨⟨(hN _).1,by omega⟩,by rw [hab],trivial⟩
 ·have hb0:b ≠ 0:=by rintro rfl; simp [Lb.a1b] at h1
  have hb1:=hpos b hb0
  have hd:decide (((Lb.limbs b).length:Int) > 0)=true:=by simp; omega
  rw [hd] at h0
  have ha2:(Lb.limbs a).length <= 2:=by
   rcases Nat.lt_or_ge 2 (Lb.limbs a).length with h | h
   ·have h3:decide (((Lb.limbs a).length:Int) > 2)=true:=by simp; omega
    rw [h3] at h0; cases h0
   ·exact h
  have hb2:(Lb.limbs b).length <= 2:=by
   rcases Nat.lt_or_ge 2 (Lb.limbs b).length with h | h
   ·have h3:decide (((Lb.limbs b).length:Int) > 2)=true:=by simp; omega
    rw [h3] at h0
    cases h4:decide (((Lb.limbs a).length:Int) > 2) <;> rw [h4] at h0 <;> cases h0
   ·exact h
  have k2:∀ n,(Lb.limbs n).length <= 2->n < 18446744073709551616:=fun n hn=>by
   have h1:=Lb.a01 n
   have h2:Lb.B ^ (Lb.limbs n).length <= Lb.B ^ 2:=Nat.pow_le_pow_right Lb.a3r hn
   have h3:Lb.B ^ 2=1000000000000000000:=rfl
   omega
  refine ⟨⟨(hN _).1,ha2⟩,⟨(hN _).1,hb2⟩,⟨(a,b),⟨hab,k2 _ ha2,k2 _ hb2⟩,by simp,by simp⟩,?_⟩
  rintro ⟨u,v⟩ ⟨huv,hu,hv⟩
  simp only at *
  refine ⟨fun h2=>?_,fun h2=>?_⟩
  ·have hv0:0 < v:=by have:=of_decide_eq_true h2; omega
   have hlt:=Nat.mod_lt u hv0
   refine ⟨⟨by omega,by omega⟩,(v,u % v),⟨?_,hv,by simp only; omega⟩,hlt,by simp,by simp⟩
   rw [<- huv,Nat.gcd_comm u v,Nat.gcd_rec v u,Nat.gcd_comm]
  ·have hv0:v=0:=by have:=of_decide_eq_false h2; omega
   subst hv0
   rw [Nat.gcd_zero_right] at huv
   subst huv
   rw [Int.toNat_natCast]
   have hl:=Lb.a0X (n:=u) (k:=3) (by
    have:Lb.B ^ 3=1000000000000000000000000000:=rfl
    omega)
   exact ⟨⟨by omega,by omega⟩,⟨(hN _).1,by omega⟩,rfl,trivial⟩
theorem aTU:CtrOK Tryz.prog aZH:=yOK a1w aVX Tryz.func60 fun _ hp=>aNa _ _ hp
def RT9:List Ctr:=RT8 ++ [aZH]
theorem aL6:∀ c ∈ RT9,CtrOK Tryz.prog c:=a0O aVX (a03 aTU (a2L))
end Vc
end Go.Proofs.YtbohkigffejhoaaGreat
namespace Go.Proofs.YtbohkigffejhoaaGreat
open Go.RowKit
namespace Vc
theorem aOY (n d:Int) (hd:0 < d) (h1:szI n <= 5000000) (h2:szI d <= 5000000) :
    ((0 < ((Int.gcd n d:Nat):Int)/\n % ((Int.gcd n d:Nat):Int)=0)/\szI n <= 5000000/\szI ((Int.gcd n d:Nat):Int) <= 5000000) /\
    ((0 < ((Int.gcd n d:Nat):Int)/\d % ((Int.gcd n d:Nat):Int)=0)/\szI d <= 5000000/\szI ((Int.gcd n d:Nat):Int) <= 5000000) /\
    n / ((Int.gcd n d:Nat):Int)=(Rat.divInt n d).num/\d / ((Int.gcd n d:Nat):Int)=((Rat.divInt n d).den:Int):=by
 have hg:0 < Int.gcd n d:=Int.gcd_pos_of_ne_zero_right _ (by omega)
 have hgd:szI ((Int.gcd n d:Nat):Int) <= szI d:=a2I (by rw [Int.natAbs_natCast]; exact Nat.le_of_dvd (by omega) (Nat.gcd_dvd_right n.natAbs d.natAbs))
 have d1:n % ((Int.gcd n d:Nat):Int)=0:=Int.emod_eq_zero_of_dvd (Int.gcd_dvd_left ..)
 have d2:d % ((Int.gcd n d:Nat):Int)=0:=Int.emod_eq_zero_of_dvd (Int.gcd_dvd_right ..)
 exact ⟨⟨⟨by omega,d1⟩,h1,by omega⟩,⟨⟨by omega,d2⟩,h2,by omega⟩,(Rt.aCT hd).symm,(Rt.aCV hd).symm⟩
def aVl:Ctr:=⟨122,spY r0 (fun _=>True) (fun _=>.k (.g [.I ((1:Int))]))⟩
theorem aI0 :owes LT RT9 [] Tryz.f122 (bd Tryz.f122) [] (.k (.g [.I ((1:Int))])):=by
 refine Eq.mp (show ((-9223372036854775808 <= (1:Int)/\(1:Int) <= 9223372036854775807)/\(((1:Int)=(1:Int))/\True))=_ by kernel_rfl) ?_
 simp
theorem aQt:CtrOK Tryz.prog aVl:=yOK a1w aL6 Tryz.func122 fun _ _=>aI0
def b1f:Ctr:=⟨24,spY (gI.c (gI.c r0)) (fun (n,d,_)=>d ≠ 0/\szI n <= 5000000/\szI d <= 5000000) (fun (n,d,_)=>.k (.g [.R ((Rat.divInt n d))]))⟩
def aDi (n:Int) (d:Int):=((Int.gcd (-n) (-d):Nat):Int)
def aDh (n:Int) (d:Int):=((Int.gcd n d:Nat):Int)
theorem aQy (n d:Int) (hp:d ≠ 0/\szI n <= 5000000/\szI d <= 5000000):owes LT RT9 [] Tryz.f24 (bd Tryz.f24) [.g [.I (n)],.g [.I (d)]] (.k (.g [.R ((Rat.divInt n d))])):=by
 refine Eq.mp (show (True/\(((decide (d.sign < (0:Int)))=true->((szI n <= 10000000)/\((szI d <= 10000000)/\((szI (-n) <= 5000000/\szI (-d) <= 5000000)/\(((0 < (aDi n d)/\(-n) % (aDi n d)=0)/\(szI (-n) <= 5000000/\szI (aDi n d) <= 5000000))/\(((0 < (aDi n d)/\(-d) % (aDi n d)=0)/\(szI (-d) <= 5000000/\szI (aDi n d) <= 5000000))/\((((-n) / (aDi n d))=(Rat.divInt n d).num)/\((((-d) / (aDi n d))=((Rat.divInt n d).den:Int))/\True))))))))/\((decide (d.sign < (0:Int)))=false->((szI n <= 5000000/\szI d <= 5000000)/\(((0 < (aDh n d)/\n % (aDh n d)=0)/\(szI n <= 5000000/\szI (aDh n d) <= 5000000))/\(((0 < (aDh n d)/\d % (aDh n d)=0)/\(szI d <= 5000000/\szI (aDh n d) <= 5000000))/\(((n / (aDh n d))=(Rat.divInt n d).num)/\(((d / (aDh n d))=((Rat.divInt n d).den:Int))/\True))))))))=_ by kernel_rfl) ?_
 delta aDh aDi
 obtain ⟨h0,h1,h2⟩:=hp
 have sg1:d.sign < 0 ↔ d < 0:=by rw [Int.sign_neg_iff]
 refine ⟨trivial,fun h=>?_,fun h=>?_⟩
 ·have hd:d < 0:=sg1.1 (of_decide_eq_true h)
  obtain ⟨k1,k2,k3,k4⟩:=aOY (-n) (-d) (by omega) (Nat.le_trans (a2W n) h1) (Nat.le_trans (a2W d) h2)
  rw [Rt.aCU] at k3 k4
  exact ⟨by omega,by omega,⟨Nat.le_trans (a2W n) h1,Nat.le_trans (a2W d) h2⟩,k1,k2,k3,k4,trivial⟩
 ·have hd:¬ d < 0:=fun c=>(of_decide_eq_false h) (sg1.2 c)
  obtain ⟨k1,k2,k3,k4⟩:=aOY n d (by omega) h1 h2
  exact ⟨⟨h1,h2⟩,k1,k2,k3,k4,trivial⟩
theorem aXQ:CtrOK Tryz.prog b1f:=yOK a1w aL6 Tryz.func24 fun _ hp=>aQy _ _ hp
def aQw:Ctr:=⟨26,spY (gR.c r0) (fun _=>True) (fun (p,_)=>.k (.c (.v (.int .i64 ((Rt.sg p))))))⟩
theorem aI1 (p:Rat):owes LT RT9 [] Tryz.f26 (bd Tryz.f26) [.g [.R (p)]] (.k (.c (.v (.int .i64 ((Rt.sg p)))))):=by
 refine Eq.mp (show (True/\(Value.int .i64 p.num.sign=(.int .i64 (Rt.sg p))))=_ by kernel_rfl) ?_
 simp [Rt.sg]
theorem aGe:CtrOK Tryz.prog aQw:=yOK a1w aL6 Tryz.func26 fun _ _=>aI1 _
def ST0:List Ctr:=RT9 ++ [aVl,b1f,aQw]
theorem aHA:∀ c ∈ ST0,CtrOK Tryz.prog c:=a0O aL6 (a03 aQt (a03 aXQ (a03 aGe (a2L))))
def aXR:Ctr:=⟨334,spY (gR.c r0) (fun (p,_)=>szR p <= 5000000) (fun (p,_)=>.k (.g [.R ((-p))]))⟩
theorem aMX (p:Rat) (hp:szR p <= 5000000):owes LT ST0 [] Tryz.f334 (bd Tryz.f334) [.g [.R (p)]] (.k (.g [.R ((-p))])):=by
 refine Eq.mp (show ((szI p.num <= 10000000)/\(((-p.num)=(-p).num)/\(((p.den:Int)=((-p).den:Int))/\True)))=_ by kernel_rfl) ?_
 have a1:=a1f p
 refine ⟨by omega,?_⟩
 simp
theorem aLt:CtrOK Tryz.prog aXR:=yOK a1w aHA Tryz.func334 fun _ hp=>aMX _ hp
def aVo:Ctr:=⟨54,spY (rI.c r0) (fun (n,_)=>-9223372036854775808 <= n/\n <= 9223372036854775807) (fun (n,_)=>.k (.g [.R ((n:Rat))]))⟩
theorem aI4 (n:Int) (hp:-9223372036854775808 <= n/\n <= 9223372036854775807):owes LT ST0 [] Tryz.f54 (bd Tryz.f54) [.c (.v (.int .i64 (n)))] (.k (.g [.R ((n:Rat))])):=by
 refine Eq.mp (show ((-9223372036854775808 <= n/\n <= 9223372036854775807)/\(True/\((n=(n:Rat).num)/\(((1:Int)=((n:Rat).den:Int))/\True))))=_ by kernel_rfl) ?_
 refine ⟨hp,?_⟩
 simp
theorem aQA:CtrOK Tryz.prog aVo:=yOK a1w aHA Tryz.func54 fun _ hp=>aI4 _ hp
def aXU:Ctr:=⟨332,spY (gR.c (gR.c r0)) (fun (p,q,_)=>szR p <= 1000000/\szR q <= 1000000) (fun (p,q,_)=>.k (.g [.R ((p+q))]))⟩
theorem aM1 (p q:Rat) (hp:szR p <= 1000000/\szR q <= 1000000):owes LT ST0 [] Tryz.f332 (bd Tryz.f332) [.g [.R (p)],.g [.R (q)]] (.k (.g [.R ((p+q))])):=by
 refine Eq.mp (show ((szI p.num <= 10000000/\szI (q.den:Int) <= 10000000)/\((szI q.num <= 10000000/\szI (p.den:Int) <= 10000000)/\((szI (p.num*(q.den:Int)) <= 10000000/\szI (q.num*(p.den:Int)) <= 10000000)/\((szI (p.den:Int) <= 10000000/\szI (q.den:Int) <= 10000000)/\((((p.den:Int)*(q.den:Int)) ≠ 0/\szI ((p.num*(q.den:Int))+(q.num*(p.den:Int))) <= 5000000/\szI ((p.den:Int)*(q.den:Int)) <= 5000000)/\(((Rat.divInt ((p.num*(q.den:Int))+(q.num*(p.den:Int))) ((p.den:Int)*(q.den:Int)))=(p+q))/\True))))))=_ by kernel_rfl) ?_
 obtain ⟨hp,hq⟩:=hp
 have a1:=a1f p; have a2:=a1p p; have a3:=a1f q; have a4:=a1p q
 have m1:=a02 p.num q.den; have m2:=a02 q.num p.den; have m3:=a02 p.den q.den
 have m5:=a7b (p.num*q.den) (q.num*p.den)
 exact ⟨⟨by omega,by omega⟩,⟨by omega,by omega⟩,⟨by omega,by omega⟩,⟨by omega,by omega⟩,⟨Int.mul_ne_zero (a3p p) (a3p q),by omega,by omega⟩,Rt.aHu p q,trivial⟩
theorem aLx:CtrOK Tryz.prog aXU:=yOK a1w aHA Tryz.func332 fun _ hp=>aM1 _ _ hp
def aXS:Ctr:=⟨331,spY (gR.c (gR.c r0)) (fun (p,q,_)=>szR p <= 1000000/\szR q <= 1000000) (fun (p,q,_)=>.k (.g [.R ((p*q))]))⟩
theorem aMY (p q:Rat) (hp:szR p <= 1000000/\szR q <= 1000000):owes LT ST0 [] Tryz.f331 (bd Tryz.f331) [.g [.R (p)],.g [.R (q)]] (.k (.g [.R ((p*q))])):=by
 refine Eq.mp (show ((szI p.num <= 10000000/\szI q.num <= 10000000)/\((szI (p.den:Int) <= 10000000/\szI (q.den:Int) <= 10000000)/\((((p.den:Int)*(q.den:Int)) ≠ 0/\szI (p.num*q.num) <= 5000000/\szI ((p.den:Int)*(q.den:Int)) <= 5000000)/\(((Rat.divInt (p.num*q.num) ((p.den:Int)*(q.den:Int)))=(p*q))/\True))))=_ by kernel_rfl) ?_
 obtain ⟨hp,hq⟩:=hp
 have a1:=a1f p; have a2:=a1p p; have a3:=a1f q; have a4:=a1p q
 have m1:=a02 p.num q.num; have m3:=a02 p.den q.den
 exact ⟨⟨by omega,by omega⟩,⟨by omega,by omega⟩,⟨Int.mul_ne_zero (a3p p) (a3p q),by omega,by omega⟩,Rt.aE9 p q,trivial⟩
theorem aLu:CtrOK Tryz.prog aXS:=yOK a1w aHA Tryz.func331 fun _ hp=>aMY _ _ hp
def ST1:List Ctr:=ST0 ++ [aXR,aVo,aXU,aXS]
theorem aRM:∀ c ∈ ST1,CtrOK Tryz.prog c:=a0O aHA (a03 aLt (a03 aQA (a03 aLx (a03 aLu (a2L)))))
def aXP:Ctr:=⟨333,spY (gR.c (gR.c r0)) (fun (p,q,_)=>szR p <= 1000000/\szR q <= 1000000) (fun (p,q,_)=>.k (.g [.R ((p - q))]))⟩
theorem aMU (p q:Rat) (hp:szR p <= 1000000/\szR q <= 1000000):owes LT ST1 [] Tryz.f333 (bd Tryz.f333) [.g [.R (p)],.g [.R (q)]] (.k (.g [.R ((p - q))])):=by
 refine Eq.mp (show ((szR q <= 5000000)/\((szR p <= 1000000/\szR (-q) <= 1000000)/\(((p+(-q))=(p - q))/\True)))=_ by kernel_rfl) ?_
 obtain ⟨hp,hq⟩:=hp
 exact ⟨by omega,⟨hp,Nat.le_trans (a18 q) hq⟩,(Rat.sub_eq_add_neg p q).symm,trivial⟩
theorem aLs:CtrOK Tryz.prog aXP:=yOK a1w aRM Tryz.func333 fun _ hp=>aMU _ _ hp
def aDD:Ctr:=⟨36,fun | [.c (.v (.int .i64 (m))),.c (.v (.int .i64 (n)))]=>.yes ((-9223372036854775808 <= m/\m <= 9223372036854775807)/\-9223372036854775808 <= n/\n <= 9223372036854775807) (.k (.g [.R ((m:Rat)),.R ((n:Rat))])) | _=>.no⟩
theorem aGa (m n:Int) (hp:(-9223372036854775808 <= m/\m <= 9223372036854775807)/\-9223372036854775808 <= n/\n <= 9223372036854775807):owes LT ST1 [] Tryz.f36 (bd Tryz.f36) [.c (.v (.int .i64 (m))),.c (.v (.int .i64 (n)))] (.k (.g [.R ((m:Rat)),.R ((n:Rat))])):=by
 refine Eq.mp (show ((-9223372036854775808 <= m/\m <= 9223372036854775807)/\((-9223372036854775808 <= n/\n <= 9223372036854775807)/\(((m:Rat)=(m:Rat))/\(((n:Rat)=(n:Rat))/\True))))=_ by kernel_rfl) ?_
 exact ⟨hp.1,hp.2,rfl,rfl,trivial⟩
theorem aCs:CtrOK Tryz.prog aDD:=.of (by kernel_rfl) (fun bs w xs vs pre r hr hA hG h hp=>by
 simp only [aDD] at h
 split at h
 ·cases h
  exact a13 mixed a1w aRM Tryz.func36 (by kernel_rfl) hr hA hG rfl rfl (aGa _ _ hp)
 ·cases h) (fun xs α pre φ r=>by simp only [aDD]; split <;> (intro h; cases h))
def ST2:List Ctr:=ST1 ++ [aXP,aDD]
theorem aZ3:∀ c ∈ ST2,CtrOK Tryz.prog c:=a0O aRM (a03 aLs (a03 aCs (a2L)))
def ST3:List Ctr:=ST2
theorem aZ2:∀ c ∈ ST3,CtrOK Tryz.prog c:=aZ3
def ST4:List Ctr:=ST3
theorem aVW:∀ c ∈ ST4,CtrOK Tryz.prog c:=aZ2
end Vc
end Go.Proofs.YtbohkigffejhoaaGreat
namespace Go.Proofs.YtbohkigffejhoaaGreat
namespace Rt
def b06 (f:Nat->Int):Nat->Int
 | 0=>0
 | n+1=>b06 f n+f n
def side (a b p:V2):Int:=sg (crs (b.sub a) (p.sub a))
def wA (v a b:V2):Int:=if a.y <= v.y/\¬ b.y <= v.y/\0 < side a b v then 1 else if ¬ a.y <= v.y/\b.y <= v.y/\side a b v < 0 then -1 else 0
def mark (v p:V2):Int:=if p.y=v.y/\v.x < p.x then 1 else 0
end Rt
end Go.Proofs.YtbohkigffejhoaaGreat
