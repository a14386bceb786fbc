import Derived.Test.YtkdjilgddbjcaaaGreatR15
namespace Go.Proofs.YtkdjilgddbjcaaaGreat
open Go.RowKit
set_option maxRecDepth 8000
def RetF (w:World) (l:List Nat) (e:Ending) (w':World):Prop:=∃ a n c,e=.returned (.slice a n c)/\SlU w' (.slice a n c) l/\Ext w w'/\∀ b,(Value.slice a n c).ownBlock=some b->w.heap.size <= b
set_option maxHeartbeats 1000000 in
theorem rtrim_blk (v:Value) (l:List Nat) (w:World) (h:SlU w v l) (hn:l.length <= 1000000000) :
    Calls Tryz.prog 75 #[v] w (RetLimbsBlk w v (Lb.trim l)):=by
 rcases h.cases with ⟨rfl,a,cap,rfl,hc⟩ | ⟨h0,b,off,cap,rfl,hcap,hb,hcell⟩
 ·go_enter Tryz.func75,Tryz.ntmps75
  go_wp2
  go_loop [0] (fun t=>t=.slice a 0 cap) (fun _=>0)
  case atStart=>rfl
  case round =>
   subst hrel
   go_wp2
   go_ret
   exact ⟨_,rfl,SlU.empty hc,rfl,rfl⟩
 ·have HC:=Lib.hid hcell
  have HL:=Lib.hid hcap
  clear hcell hcap h
  go_enter Tryz.func75,Tryz.ntmps75
  go_wp2
  go_loop [0] (fun t=>∃ m,m <= l.length/\t=.slice (some ⟨b,off,none⟩) m cap/\Lb.trim (l.take m)=Lb.trim l) (fun t=>match t with | .slice _ m _=>m | _=>0)
  case atStart=>exact ⟨l.length,Nat.le_refl _,rfl,by rw [List.take_length]⟩
  case round =>
   obtain ⟨m,hm,rfl,htr⟩:=hrel
   have HT:=Lib.hid htr
   clear htr
   cases m with
   | zero =>
     go_wp2
     go_ret
     refine ⟨_,rfl,?_,rfl,rfl⟩
     rw [<- HT.out]
     exact SlU.empty (fun h=>by cases h)
   | succ j =>
     have hj:j < l.length:=by omega
     have c:=HC.out j hj
     have hjc:j+1 <= cap:=by have:=HL.out; omega
     have hlast:=take_last hj
     by_cases hz:l[j]=0
     ·rw [hz] at c
      have HZ:Hid (Lb.trim (l.take j)=Lb.trim l):=Lib.hid (by rw [<- HT.out,hlast,hz,Lb.trim_snoc_zero])
      clear hlast hz
      go_wp2
      go_round
      case rel=>exact ⟨j,by omega,by go_num,HZ.out⟩
      case measure=>simp
     ·have hne:((l[j]:Int) == 0)=false:=by simp; omega
      have HZ:Hid (l.take (j+1)=Lb.trim l):=Lib.hid (by
       rw [<- HT.out,Lb.trim_norm]
       intro h
       simp only [hlast,List.getLast_concat]
       exact hz)
      generalize (l[j]:Int)=x at c hne
      clear hlast hz
      go_wp2
      go_ret
      refine ⟨_,rfl,?_,rfl,rfl⟩
      rw [<- HZ.out]
      refine SlU.mk (by simp; omega) hjc (fun _=>hb) fun i hi=>?_
      have hi':i < l.length:=by simp at hi; omega
      rw [HC.out i hi']
      simp
end Go.Proofs.YtkdjilgddbjcaaaGreat
namespace Go.Proofs.YtkdjilgddbjcaaaGreat
open Go.RowKit
set_option maxRecDepth 8000
theorem plusAt_any {a b o:List Nat} {k c s:Nat} (h:PlusAt a b k c o) (hs:s=a.getD k 0+b.getD k 0+c):PlusAt a b (k+1) (s / 1000000000) (o ++ [s % 1000000000]) :=
 ⟨by simp [h.len],Lb.lt_append h.lt (Lb.lt_cons (by rw [Lb.B_eq]; omega) Lb.lt_nil),Lb.plus_step h.len h.sum (by rw [Lb.B_eq]; omega)⟩
set_option maxHeartbeats 16000000 in
theorem rplus_ge (v1 v2:Value) (a b:List Nat) (w:World) (h1:SlU w v1 a) (h2:SlU w v2 b) (k1:Lb.Lt a) (k2:Lb.Lt b) (n1:a.length <= 100000000) (hab:b.length <= a.length) :
    Calls Tryz.prog 168 #[v1,v2] w (RetF w (Lb.limbs (Lb.val a+Lb.val b))):=by
 obtain ⟨p1,q1,rfl⟩:=h1.form
 obtain ⟨p2,q2,rfl⟩:=h2.form
 have hlt:decide (a.length < b.length)=false:=by simp; omega
 have hmk:=make_run (a.length+1) (by omega)
 rw [Int.natCast_add] at hmk
 have e1:((1:Nat):Int)=1:=rfl
 rw [e1] at hmk
 obtain ⟨W,hW,hA,hE,hz⟩:=zeros_alloc w (a.length+1)
 have HA0:=Lib.hid hA
 have HE:=Lib.hid hE
 have H1:=Lib.hid h1; have H2:=Lib.hid h2; have HK1:=Lib.hid k1; have HK2:=Lib.hid k2; have HAB:Hid (b.length <= a.length):=Lib.hid (by omega)
 clear e1 hA hE hz h1 h2 k1 k2 hab
 go_enter Tryz.func168,Tryz.ntmps168
 go_wp2_with fail
 clear hmk
 go_loopw [6,7] (fun c i wr=>∃ (k cn:Nat) (o:List Nat),k <= a.length/\i=.int .i64 k/\c=.int .u32 cn/\cn <= 1/\Hid (PlusAt a b k cn o)/\Hid (ArrU wr w.heap.size (o ++ List.replicate (a.length+1 - k) 0))/\Hid (Ext w wr)) (fun _ i _=>a.length - (intOf i).toNat)
 case atStart=>exact ⟨0,0,[],Nat.zero_le _,rfl,rfl,by omega,Lib.hid (plusAt_start a b),HA0,HE⟩
 case round =>
  clear hW HA0 HE hlt
  obtain ⟨k,cn,o,hk,rfl,rfl,hcn,HP,HA,HE⟩:=hrel
  have HL:Hid (o.length=k):=Lib.hid HP.out.len
  have hlen:k < (o ++ List.replicate (a.length+1 - k) 0).length:=by have:=HL.out; simp; omega
  have cs:=HA.out.cell k hlen
  have fs:=HA.out.free k
  generalize ((o ++ List.replicate (a.length+1 - k) 0)[k]:Int)=old at cs
  clear hlen
  by_cases hka:k < a.length
  ·have hx:a[k] < 1000000000:=Lb.lt_get HK1.out k hka
   have HX:Hid (a.getD k 0=a[k]):=Lib.hid (by simp [hka])
   obtain ⟨g1,o1,rfl,cell1⟩:=(H1.out.later HE.out).at k hka
   generalize a[k]=x at *
   by_cases hkb:k < b.length
   ·have hy:b[k] < 1000000000:=Lb.lt_get HK2.out k hkb
    have HY:Hid (b.getD k 0=b[k]):=Lib.hid (by simp [hkb])
    obtain ⟨g2,o2,rfl,cell2⟩:=(H2.out.later HE.out).at k hkb
    generalize b[k]=y at *
    have HP2:=Lib.hid (plusAt_any (s:=cn+x+y) HP.out (by rw [HX.out,HY.out]; omega))
    have HAX:Hid (∀ u:Int,u=((cn:Int)+x+y) % 1000000000->ArrU (wr.setCell ⟨w.heap.size,k,none⟩ (.int .u32 u)) w.heap.size ((o ++ [(cn+x+y) % 1000000000]) ++ List.replicate (a.length+1 - (k+1)) 0)):=Lib.hid (fun u hu=>by
     have e:u=(((cn+x+y) % 1000000000:Nat):Int):=by rw [hu]; simp
     subst e; have:=HA.out.set k ((cn+x+y) % 1000000000); rwa [Lb.set_zeros HL.out (by omega)] at this)
    have HC:Hid (((cn:Int)+x+y) / 1000000000=(((cn+x+y) / 1000000000:Nat):Int)):=Lib.hid (by simp)
    have hc2:(cn+x+y) / 1000000000 <= 1:=by omega
    have HC2:=Lib.hid hc2
    clear hc2 HX HY HP HA HL
    go_wp2_with fail
    go_roundw
    case rel=>exact ⟨k+1,_,_,by omega,by go_num,by rw [HC.out],HC2.out,HP2,Lib.hid (HAX.out _ rfl),Lib.hid (HE.out.setCell (Nat.le_refl _) _)⟩
    case measure=>simp [intOf]; omega
   ·have HY:Hid (b.getD k 0=0):=Lib.hid (by simp [Nat.le_of_not_lt hkb])
    have HP2:=Lib.hid (plusAt_any (s:=cn+x) HP.out (by rw [HX.out,HY.out]; omega))
    have HAX:Hid (∀ u:Int,u=((cn:Int)+x) % 1000000000->ArrU (wr.setCell ⟨w.heap.size,k,none⟩ (.int .u32 u)) w.heap.size ((o ++ [(cn+x) % 1000000000]) ++ List.replicate (a.length+1 - (k+1)) 0)):=Lib.hid (fun u hu=>by
     have e:u=(((cn+x) % 1000000000:Nat):Int):=by rw [hu]; simp
     subst e; have:=HA.out.set k ((cn+x) % 1000000000); rwa [Lb.set_zeros HL.out (by omega)] at this)
    have HC:Hid (((cn:Int)+x) / 1000000000=(((cn+x) / 1000000000:Nat):Int)):=Lib.hid (by simp)
    have hc2:(cn+x) / 1000000000 <= 1:=by omega
    have HC2:=Lib.hid hc2
    clear hc2 HX HY HP HA HL
    go_wp2_with fail
    go_roundw
    case rel=>exact ⟨k+1,_,_,by omega,by go_num,by rw [HC.out],HC2.out,HP2,Lib.hid (HAX.out _ rfl),Lib.hid (HE.out.setCell (Nat.le_refl _) _)⟩
    case measure=>simp [intOf]; omega
  ·obtain rfl:k=a.length:=by omega
   have HC:=Lib.hid (plusAt_end HP.out rfl HAB.out hcn)
   have HAX:Hid (ArrU (wr.setCell ⟨w.heap.size,a.length,none⟩ (.int .u32 (cn:Int))) w.heap.size (o ++ [cn])):=Lib.hid (by
    have:=HA.out.set a.length cn
    rw [Lb.set_zeros HL.out (by omega),Nat.sub_self] at this
    simpa using this)
   clear hka
   have HEF:Hid (Ext w (wr.setCell ⟨w.heap.size,a.length,none⟩ (.int .u32 (cn:Int)))):=Lib.hid (HE.out.setCell (Nat.le_refl _) _)
   have HS:Hid (SlU (wr.setCell ⟨w.heap.size,a.length,none⟩ (.int .u32 (cn:Int))) (.slice (some ⟨w.heap.size,0,none⟩) (a.length+1) (a.length+1)) (o ++ [cn])):=Lib.hid (HAX.out.all (by simp [HL.out]) (Nat.le_refl _))
   have HLN:Hid ((o ++ [cn]).length <= 1000000000):=Lib.hid (by simp [HL.out]; omega)
   clear HA HAX HP
   go_wp2_with fail
   refine (rtrim_blk _ _ _ HS.out HLN.out).mono ?_
   rintro e w3 ⟨v3,rfl,hs3,hb3,rfl⟩
   rw [Lb.trim_eq HC.out.1,HC.out.2] at hs3
   obtain ⟨a3,c3,rfl⟩:=SlU.form hs3
   go_wp2_with fail
   go_ret
   exact ⟨_,_,_,rfl,hs3,HEF.out,fun b hb=>by rw [hb3] at hb; cases hb; exact Nat.le_refl _⟩
set_option maxHeartbeats 16000000 in
theorem rplus_lt (v1 v2:Value) (a b:List Nat) (w:World) (h1:SlU w v1 a) (h2:SlU w v2 b) (k1:Lb.Lt a) (k2:Lb.Lt b) (n1:a.length <= 100000000) (hab:b.length < a.length) :
    Calls Tryz.prog 168 #[v2,v1] w (RetF w (Lb.limbs (Lb.val a+Lb.val b))):=by
 obtain ⟨p1,q1,rfl⟩:=h1.form
 obtain ⟨p2,q2,rfl⟩:=h2.form
 have hlt:decide (b.length < a.length)=true:=by simp; omega
 have hmk:=make_run (a.length+1) (by omega)
 rw [Int.natCast_add] at hmk
 have e1:((1:Nat):Int)=1:=rfl
 rw [e1] at hmk
 obtain ⟨W,hW,hA,hE,hz⟩:=zeros_alloc w (a.length+1)
 have HA0:=Lib.hid hA
 have HE:=Lib.hid hE
 have H1:=Lib.hid h1; have H2:=Lib.hid h2; have HK1:=Lib.hid k1; have HK2:=Lib.hid k2; have HAB:Hid (b.length <= a.length):=Lib.hid (by omega)
 clear e1 hA hE hz h1 h2 k1 k2 hab
 go_enter Tryz.func168,Tryz.ntmps168
 go_wp2_with fail
 clear hmk
 go_loopw [6,7] (fun c i wr=>∃ (k cn:Nat) (o:List Nat),k <= a.length/\i=.int .i64 k/\c=.int .u32 cn/\cn <= 1/\Hid (PlusAt a b k cn o)/\Hid (ArrU wr w.heap.size (o ++ List.replicate (a.length+1 - k) 0))/\Hid (Ext w wr)) (fun _ i _=>a.length - (intOf i).toNat)
 case atStart=>exact ⟨0,0,[],Nat.zero_le _,rfl,rfl,by omega,Lib.hid (plusAt_start a b),HA0,HE⟩
 case round =>
  clear hW HA0 HE hlt
  obtain ⟨k,cn,o,hk,rfl,rfl,hcn,HP,HA,HE⟩:=hrel
  have HL:Hid (o.length=k):=Lib.hid HP.out.len
  have hlen:k < (o ++ List.replicate (a.length+1 - k) 0).length:=by have:=HL.out; simp; omega
  have cs:=HA.out.cell k hlen
  have fs:=HA.out.free k
  generalize ((o ++ List.replicate (a.length+1 - k) 0)[k]:Int)=old at cs
  clear hlen
  by_cases hka:k < a.length
  ·have hx:a[k] < 1000000000:=Lb.lt_get HK1.out k hka
   have HX:Hid (a.getD k 0=a[k]):=Lib.hid (by simp [hka])
   obtain ⟨g1,o1,rfl,cell1⟩:=(H1.out.later HE.out).at k hka
   generalize a[k]=x at *
   by_cases hkb:k < b.length
   ·have hy:b[k] < 1000000000:=Lb.lt_get HK2.out k hkb
    have HY:Hid (b.getD k 0=b[k]):=Lib.hid (by simp [hkb])
    obtain ⟨g2,o2,rfl,cell2⟩:=(H2.out.later HE.out).at k hkb
    generalize b[k]=y at *
    have HP2:=Lib.hid (plusAt_any (s:=cn+x+y) HP.out (by rw [HX.out,HY.out]; omega))
    have HAX:Hid (∀ u:Int,u=((cn:Int)+x+y) % 1000000000->ArrU (wr.setCell ⟨w.heap.size,k,none⟩ (.int .u32 u)) w.heap.size ((o ++ [(cn+x+y) % 1000000000]) ++ List.replicate (a.length+1 - (k+1)) 0)):=Lib.hid (fun u hu=>by
     have e:u=(((cn+x+y) % 1000000000:Nat):Int):=by rw [hu]; simp
     subst e; have:=HA.out.set k ((cn+x+y) % 1000000000); rwa [Lb.set_zeros HL.out (by omega)] at this)
    have HC:Hid (((cn:Int)+x+y) / 1000000000=(((cn+x+y) / 1000000000:Nat):Int)):=Lib.hid (by simp)
    have hc2:(cn+x+y) / 1000000000 <= 1:=by omega
    have HC2:=Lib.hid hc2
    clear hc2 HX HY HP HA HL
    go_wp2_with fail
    go_roundw
    case rel=>exact ⟨k+1,_,_,by omega,by go_num,by rw [HC.out],HC2.out,HP2,Lib.hid (HAX.out _ rfl),Lib.hid (HE.out.setCell (Nat.le_refl _) _)⟩
    case measure=>simp [intOf]; omega
   ·have HY:Hid (b.getD k 0=0):=Lib.hid (by simp [Nat.le_of_not_lt hkb])
    have HP2:=Lib.hid (plusAt_any (s:=cn+x) HP.out (by rw [HX.out,HY.out]; omega))
    have HAX:Hid (∀ u:Int,u=((cn:Int)+x) % 1000000000->ArrU (wr.setCell ⟨w.heap.size,k,none⟩ (.int .u32 u)) w.heap.size ((o ++ [(cn+x) % 1000000000]) ++ List.replicate (a.length+1 - (k+1)) 0)):=Lib.hid (fun u hu=>by
     have e:u=(((cn+x) % 1000000000:Nat):Int):=by rw [hu]; simp
     subst e; have:=HA.out.set k ((cn+x) % 1000000000); rwa [Lb.set_zeros HL.out (by omega)] at this)
    have HC:Hid (((cn:Int)+x) / 1000000000=(((cn+x) / 1000000000:Nat):Int)):=Lib.hid (by simp)
    have hc2:(cn+x) / 1000000000 <= 1:=by omega
    have HC2:=Lib.hid hc2
    clear hc2 HX HY HP HA HL
    go_wp2_with fail
    go_roundw
    case rel=>exact ⟨k+1,_,_,by omega,by go_num,by rw [HC.out],HC2.out,HP2,Lib.hid (HAX.out _ rfl),Lib.hid (HE.out.setCell (Nat.le_refl _) _)⟩
    case measure=>simp [intOf]; omega
  ·obtain rfl:k=a.length:=by omega
   have HC:=Lib.hid (plusAt_end HP.out rfl HAB.out hcn)
   have HAX:Hid (ArrU (wr.setCell ⟨w.heap.size,a.length,none⟩ (.int .u32 (cn:Int))) w.heap.size (o ++ [cn])):=Lib.hid (by
    have:=HA.out.set a.length cn
    rw [Lb.set_zeros HL.out (by omega),Nat.sub_self] at this
    simpa using this)
   clear hka
   have HEF:Hid (Ext w (wr.setCell ⟨w.heap.size,a.length,none⟩ (.int .u32 (cn:Int)))):=Lib.hid (HE.out.setCell (Nat.le_refl _) _)
   have HS:Hid (SlU (wr.setCell ⟨w.heap.size,a.length,none⟩ (.int .u32 (cn:Int))) (.slice (some ⟨w.heap.size,0,none⟩) (a.length+1) (a.length+1)) (o ++ [cn])):=Lib.hid (HAX.out.all (by simp [HL.out]) (Nat.le_refl _))
   have HLN:Hid ((o ++ [cn]).length <= 1000000000):=Lib.hid (by simp [HL.out]; omega)
   clear HA HAX HP
   go_wp2_with fail
   refine (rtrim_blk _ _ _ HS.out HLN.out).mono ?_
   rintro e w3 ⟨v3,rfl,hs3,hb3,rfl⟩
   rw [Lb.trim_eq HC.out.1,HC.out.2] at hs3
   obtain ⟨a3,c3,rfl⟩:=SlU.form hs3
   go_wp2_with fail
   go_ret
   exact ⟨_,_,_,rfl,hs3,HEF.out,fun b hb=>by rw [hb3] at hb; cases hb; exact Nat.le_refl _⟩
theorem rplus_any (v1 v2:Value) (a b:List Nat) (w:World) (h1:SlU w v1 a) (h2:SlU w v2 b) (k1:Lb.Lt a) (k2:Lb.Lt b) (n1:a.length <= 100000000) (n2:b.length <= 100000000) :
    Calls Tryz.prog 168 #[v1,v2] w (RetF w (Lb.limbs (Lb.val a+Lb.val b))):=by
 by_cases h:b.length <= a.length
 ·exact rplus_ge v1 v2 a b w h1 h2 k1 k2 n1 h
 ·rw [Nat.add_comm]
  exact rplus_lt v2 v1 b a w h2 h1 k2 k1 n2 (by omega)
set_option maxHeartbeats 16000000 in
theorem rminus_any (v1 v2:Value) (a b:List Nat) (w:World) (h1:SlU w v1 a) (h2:SlU w v2 b) (k1:Lb.Lt a) (k2:Lb.Lt b) (n1:a.length <= 100000000) (hab:b.length <= a.length) (hle:Lb.val b <= Lb.val a) :
    Calls Tryz.prog 124 #[v1,v2] w (RetF w (Lb.limbs (Lb.val a - Lb.val b))):=by
 obtain ⟨p1,q1,rfl⟩:=h1.form
 obtain ⟨p2,q2,rfl⟩:=h2.form
 have hmk:=make_run a.length (by omega)
 obtain ⟨W,hW,hA,hE,hz⟩:=zeros_alloc w a.length
 have HA0:=Lib.hid hA
 have HE:=Lib.hid hE
 have H1:=Lib.hid h1; have H2:=Lib.hid h2; have HK1:=Lib.hid k1; have HK2:=Lib.hid k2; have HAB:=Lib.hid hab; have HLE:=Lib.hid hle
 clear hA hE hz h1 h2 k1 k2 hab hle
 go_enter Tryz.func124,Tryz.ntmps124
 go_wp2_with fail
 clear hmk
 go_loopw [6,7] (fun c i wr=>∃ (k cn:Nat) (o:List Nat),k <= a.length/\i=.int .i64 k/\c=.int .u32 cn/\cn <= 1/\Hid (MinusAt a b k cn o)/\Hid (ArrU wr w.heap.size (o ++ List.replicate (a.length - k) 0))/\Hid (Ext w wr)) (fun _ i _=>a.length - (intOf i).toNat)
 case atStart=>exact ⟨0,0,[],Nat.zero_le _,rfl,rfl,by omega,Lib.hid (minusAt_start a b),HA0,HE⟩
 case round =>
  clear hW HA0 HE
  obtain ⟨k,cn,o,hk,rfl,rfl,hcn,HP,HA,HE⟩:=hrel
  have HL:Hid (o.length=k):=Lib.hid HP.out.len
  by_cases hka:k < a.length
  ·have hx:a[k] < 1000000000:=Lb.lt_get HK1.out k hka
   have HX:Hid (a.getD k 0=a[k]):=Lib.hid (by simp [hka])
   obtain ⟨g1,o1,rfl,cell1⟩:=(H1.out.later HE.out).at k hka
   have hlen:k < (o ++ List.replicate (a.length - k) 0).length:=by have:=HL.out; simp; omega
   have cs:=HA.out.cell k hlen
   have fs:=HA.out.free k
   generalize ((o ++ List.replicate (a.length - k) 0)[k]:Int)=old at cs
   clear hlen
   generalize a[k]=x at *
   by_cases hkb:k < b.length
   ·have hy:b[k] < 1000000000:=Lb.lt_get HK2.out k hkb
    have HY:Hid (b.getD k 0=b[k]):=Lib.hid (by simp [hkb])
    obtain ⟨g2,o2,rfl,cell2⟩:=(H2.out.later HE.out).at k hkb
    generalize b[k]=y at *
    by_cases hge:x+1000000000 - cn - y < 1000000000
    ·have hq:decide ((x:Int)+1000000000 - cn - y >= 1000000000)=false:=by simp; omega
     obtain ⟨s,hs⟩:∃ s,x+1000000000=s+(cn+y):=⟨x+1000000000 - (cn+y),by omega⟩
     have hsi:(x:Int)+1000000000 - cn - y=(s:Int):=by omega
     have HP2:=Lib.hid (minusAt_high (s:=s) HP.out (by rw [HX.out,HY.out]; omega) (by omega))
     have HAX:Hid (∀ u:Int,u=(s:Int)->ArrU (wr.setCell ⟨w.heap.size,k,none⟩ (.int .u32 u)) w.heap.size ((o ++ [s]) ++ List.replicate (a.length - (k+1)) 0)):=Lib.hid (fun u hu=>by subst hu; have:=HA.out.set k s; rwa [Lb.set_zeros HL.out hka] at this)
     have HSI:=Lib.hid hsi
     clear hsi hs hge HX HY HP HA HL
     go_wp2_with fail
     go_roundw
     case rel=>exact ⟨k+1,1,o ++ [s],by omega,by go_num,rfl,by omega,HP2,Lib.hid (HAX.out _ HSI.out),Lib.hid (HE.out.setCell (Nat.le_refl _) _)⟩
     case measure=>simp [intOf]; omega
    ·have hq:decide ((x:Int)+1000000000 - cn - y >= 1000000000)=true:=by simp; omega
     obtain ⟨s,hs⟩:∃ s,x=s+(cn+y):=⟨x - (cn+y),by omega⟩
     have hsi:(x:Int)+1000000000 - cn - y - 1000000000=(s:Int):=by omega
     have hge2:0 <= (x:Int)+1000000000 - cn - y - 1000000000:=by omega
     have HP2:=Lib.hid (minusAt_low (s:=s) HP.out (by rw [HX.out,HY.out]; omega) (by omega))
     have HAX:Hid (∀ u:Int,u=(s:Int)->ArrU (wr.setCell ⟨w.heap.size,k,none⟩ (.int .u32 u)) w.heap.size ((o ++ [s]) ++ List.replicate (a.length - (k+1)) 0)):=Lib.hid (fun u hu=>by subst hu; have:=HA.out.set k s; rwa [Lb.set_zeros HL.out hka] at this)
     have HSI:=Lib.hid hsi
     clear hsi hs hge HX HY HP HA HL
     go_wp2_with fail
     go_roundw
     case rel=>exact ⟨k+1,0,o ++ [s],by omega,by go_num,rfl,by omega,HP2,Lib.hid (HAX.out _ HSI.out),Lib.hid (HE.out.setCell (Nat.le_refl _) _)⟩
     case measure=>simp [intOf]; omega
   ·have HY:Hid (b.getD k 0=0):=Lib.hid (by simp [Nat.le_of_not_lt hkb])
    by_cases hge:x+1000000000 - cn < 1000000000
    ·have hq:decide ((x:Int)+1000000000 - cn >= 1000000000)=false:=by simp; omega
     obtain ⟨s,hs⟩:∃ s,x+1000000000=s+(cn):=⟨x+1000000000 - (cn),by omega⟩
     have hsi:(x:Int)+1000000000 - cn=(s:Int):=by omega
     have HP2:=Lib.hid (minusAt_high (s:=s) HP.out (by rw [HX.out,HY.out]; omega) (by omega))
     have HAX:Hid (∀ u:Int,u=(s:Int)->ArrU (wr.setCell ⟨w.heap.size,k,none⟩ (.int .u32 u)) w.heap.size ((o ++ [s]) ++ List.replicate (a.length - (k+1)) 0)):=Lib.hid (fun u hu=>by subst hu; have:=HA.out.set k s; rwa [Lb.set_zeros HL.out hka] at this)
     have HSI:=Lib.hid hsi
     clear hsi hs hge HX HY HP HA HL
     go_wp2_with fail
     go_roundw
     case rel=>exact ⟨k+1,1,o ++ [s],by omega,by go_num,rfl,by omega,HP2,Lib.hid (HAX.out _ HSI.out),Lib.hid (HE.out.setCell (Nat.le_refl _) _)⟩
     case measure=>simp [intOf]; omega
    ·have hq:decide ((x:Int)+1000000000 - cn >= 1000000000)=true:=by simp; omega
     obtain ⟨s,hs⟩:∃ s,x=s+(cn):=⟨x - (cn),by omega⟩
     have hsi:(x:Int)+1000000000 - cn - 1000000000=(s:Int):=by omega
     have hge2:0 <= (x:Int)+1000000000 - cn - 1000000000:=by omega
     have HP2:=Lib.hid (minusAt_low (s:=s) HP.out (by rw [HX.out,HY.out]; omega) (by omega))
     have HAX:Hid (∀ u:Int,u=(s:Int)->ArrU (wr.setCell ⟨w.heap.size,k,none⟩ (.int .u32 u)) w.heap.size ((o ++ [s]) ++ List.replicate (a.length - (k+1)) 0)):=Lib.hid (fun u hu=>by subst hu; have:=HA.out.set k s; rwa [Lb.set_zeros HL.out hka] at this)
     have HSI:=Lib.hid hsi
     clear hsi hs hge HX HY HP HA HL
     go_wp2_with fail
     go_roundw
     case rel=>exact ⟨k+1,0,o ++ [s],by omega,by go_num,rfl,by omega,HP2,Lib.hid (HAX.out _ HSI.out),Lib.hid (HE.out.setCell (Nat.le_refl _) _)⟩
     case measure=>simp [intOf]; omega
  ·obtain rfl:k=a.length:=by omega
   have HV:=Lib.hid (Lb.minus_end rfl HAB.out HP.out.len HP.out.lt hcn HP.out.sum HLE.out)
   have HLT:=Lib.hid HP.out.lt
   have HS:Hid (SlU wr (.slice (some ⟨w.heap.size,0,none⟩) a.length a.length) o):=Lib.hid (by
    have:=HA.out
    rw [Nat.sub_self] at this
    simp only [List.replicate_zero,List.append_nil] at this
    exact this.all (by simp [HL.out]) (Nat.le_refl _))
   have HLN:Hid (o.length <= 1000000000):=Lib.hid (by simp [HL.out]; omega)
   clear hka HP HA
   go_wp2_with fail
   refine (rtrim_blk _ _ _ HS.out HLN.out).mono ?_
   rintro e w3 ⟨v3,rfl,hs3,hb3,rfl⟩
   rw [Lb.trim_eq HLT.out,HV.out] at hs3
   obtain ⟨a3,c3,rfl⟩:=SlU.form hs3
   go_wp2_with fail
   go_ret
   exact ⟨_,_,_,rfl,hs3,HE.out,fun b hb=>by rw [hb3] at hb; cases hb; exact Nat.le_refl _⟩
end Go.Proofs.YtkdjilgddbjcaaaGreat
namespace Go.Proofs.YtkdjilgddbjcaaaGreat
open Go.RowKit
set_option maxRecDepth 8000
set_option maxHeartbeats 16000000 in
theorem rtimes_any (v1 v2:Value) (a b:List Nat) (w:World) (h1:SlU w v1 a) (h2:SlU w v2 b) (k1:Lb.Lt a) (k2:Lb.Lt b) (n1:a.length <= 100000000) (n2:b.length <= 100000000) :
    Calls Tryz.prog 81 #[v1,v2] w (RetF w (Lb.limbs (Lb.val a*Lb.val b))):=by
 obtain ⟨p1,q1,rfl⟩:=h1.form
 obtain ⟨p2,q2,rfl⟩:=h2.form
 have hmk:=make_run (a.length+b.length) (by omega)
 rw [Int.natCast_add] at hmk
 obtain ⟨W,hW,hA,hE,hz⟩:=zeros_alloc w (a.length+b.length)
 have HA0:=Lib.hid hA
 have HE:=Lib.hid hE
 have H1:=Lib.hid h1; have H2:=Lib.hid h2; have HK1:=Lib.hid k1; have HK2:=Lib.hid k2
 clear hA hE hz h1 h2 k1 k2
 go_enter Tryz.func81,Tryz.ntmps81
 go_wp2_with fail
 clear hmk
 go_loopw [6] (fun i wr=>∃ (m:Nat) (o:List Nat),m <= a.length/\i=.int .i64 m/\Hid (TimesAt a b m o)/\Hid (ArrU wr w.heap.size o)/\Hid (Ext w wr)) (fun i _=>a.length - (intOf i).toNat)
 case atStart=>exact ⟨0,_,Nat.zero_le _,rfl,Lib.hid (timesAt_start a b),HA0,HE⟩
 case round =>
  clear hW HA0 HE
  obtain ⟨m,o,hm,rfl,HP,HA,HE⟩:=hrel
  by_cases hma:m < a.length
  ·have hx:a[m] < 1000000000:=Lb.lt_get HK1.out m hma
   have HX:Hid (a.getD m 0=a[m]):=Lib.hid (by simp [hma])
   obtain ⟨g1,o1,rfl,cell1⟩:=(H1.out.later HE.out).at m hma
   have HX1:Hid (∃ x,a[m]=x/\x < 1000000000/\a.getD m 0=x):=Lib.hid ⟨_,rfl,hx,HX.out⟩
   clear hx HX cell1
   obtain ⟨x,hxm,hx,hX⟩:=HX1.out
   have HX:=Lib.hid hX; have HXM:=Lib.hid hxm
   clear hxm hX HX1
   have HI0:=Lib.hid (timesIn_start HP.out x)
   obtain ⟨wo,rfl⟩:∃ wo:World,wo=wr:=⟨_,rfl⟩
   clear HP
   go_wp2_with fail
   go_loopw [7,8] (fun c i wr=>∃ (k cn:Nat) (o:List Nat),k <= b.length/\i=.int .i64 k/\c=.int .u64 cn/\Hid (TimesIn a b m k x cn (Lb.val (a.take m)*Lb.val b) o)/\Hid (ArrU wr w.heap.size o)/\Hid (Ext w wr)) (fun _ i _=>b.length - (intOf i).toNat)
   case atStart=>exact ⟨0,0,o,Nat.zero_le _,rfl,rfl,HI0,HA,HE⟩
   case round =>
    clear HI0 HA HE
    obtain ⟨k,cn,o2,hk,rfl,rfl,HP,HA,HE⟩:=hrel
    obtain ⟨g3,o3,he3,cell1⟩:=(H1.out.later HE.out).at m hma
    cases he3
    rw [HXM.out] at cell1
    by_cases hkb:k < b.length
    ·have hy:b[k] < 1000000000:=Lb.lt_get HK2.out k hkb
     have HY:Hid (b.getD k 0=b[k]):=Lib.hid (by simp [hkb])
     obtain ⟨g2,s2,rfl,cell2⟩:=(H2.out.later HE.out).at k hkb
     generalize b[k]=y at *
     have hlen:m+k < o2.length:=by have:=HP.out.len; omega
     obtain ⟨ov,hov⟩:∃ ov,o2[m+k]?=some ov:=⟨o2[m+k],by simp [hlen]⟩
     have cs:=HA.out.cell (m+k) hlen
     have hoo:o2[m+k]=ov:=by simpa [hlen] using hov
     rw [hoo] at cs
     have fs:=HA.out.free (m+k)
     obtain ⟨st,hov9⟩:=timesIn_step HP.out hma hkb hx hy HY.out hov
     have hcl:cn < 1000000000:=HP.out.clt
     have hxy0:0 <= (x:Int)*y:=Int.mul_nonneg (by omega) (by omega)
     have hxy:(x:Int)*y <= 999999998000000001:=by
      have h1:x*y <= 999999999*999999999:=Nat.mul_le_mul (by omega) (by omega)
      have h2:((x*y:Nat):Int) <= ((999999999*999999999:Nat):Int):=Int.ofNat_le.2 h1
      rw [Int.natCast_mul] at h2
      exact h2
     have HST:=Lib.hid st; have HOO:=Lib.hid hoo
     have E9:Hid ((cn:Int)+ov+x*y=((ov+x*y+cn:Nat):Int)):=Lib.hid (by simp; omega)
     have e10:(cn:Int)+ov+x*y < 18446744073709551616:=by omega
     have e11:0 <= (cn:Int)+ov+x*y:=by omega
     clear hov hoo HY st
     go_wp2_with fail
     have K1:=Later.cell cell1; have K2:=Later.cell cell2; have K3:=Later.cell cs
     clear cell1 cell2 cs fs
     refine wp_region_later (by kernel_rfl) (by kernel_rfl) ?_
     repeat (go_big_quiet_step (fail))
     refine wpQuiet_nil ?_
     rintro _ ⟨z,rfl⟩
     have HAZ:=Lib.hid (HA.out.ext z.ext); have HEZ:=Lib.hid (HE.out.trans z.ext)
     have cs:=HAZ.out.cell (m+k) hlen
     rw [show o2[m+k]=ov from HOO.out] at cs
     have fs:=HAZ.out.free (m+k)
     rw [E9.out]
     generalize hT:ov+x*y+cn=T at *
     have HAX:Hid (∀ u:Int,u=(T:Int) % 1000000000->ArrU (z.w.setCell ⟨w.heap.size,m+k,none⟩ (.int .u32 u)) w.heap.size (o2.set (m+k) (T % 1000000000))):=Lib.hid (fun u hu=>by
      have e:u=((T % 1000000000:Nat):Int):=by rw [hu]; simp
      subst e; exact HAZ.out.set (m+k) _)
     have HCN:Hid ((T:Int) / 1000000000=((T / 1000000000:Nat):Int)):=Lib.hid (by simp)
     have hT0:T < 18446744073709551616:=by omega
     have e12:(T:Int) % 1000000000 < 1000000000:=by omega
     have e13:0 <= (T:Int) % 1000000000:=by omega
     clear E9 hT e10 e11 hxy hxy0 K1 K2 K3 HA HE HOO hlen
     go_wp2_with fail
     go_roundw
     case rel=>exact ⟨k+1,_,_,by omega,by go_num,by rw [HCN.out],HST,Lib.hid (HAX.out _ rfl),Lib.hid (HEZ.out.setCell (Nat.le_refl _) _)⟩
     case measure=>simp [intOf]; omega
    ·obtain rfl:k=b.length:=by omega
     have HN:=Lib.hid (timesIn_end HP.out hma HX.out)
     have hcl:cn < 1000000000:=HP.out.clt
     have hlen:m+b.length < o2.length:=by have:=HP.out.len; omega
     have cs:=HA.out.cell (m+b.length) hlen
     have fs:=HA.out.free (m+b.length)
     generalize (o2[m+b.length]:Int)=old at cs
     have HAX:=Lib.hid (HA.out.set (m+b.length) cn)
     clear hlen hkb HX
     go_wp2_with fail
     go_roundw
     case rel=>exact ⟨m+1,_,by omega,by go_num,HN,HAX,Lib.hid (HE.out.setCell (Nat.le_refl _) _)⟩
     case measure=>simp [intOf]; omega
  ·obtain rfl:m=a.length:=by omega
   have HM:=Lib.hid (timesAt_end HP.out)
   have HLT:=Lib.hid HP.out.lt
   have HS:Hid (SlU wr (.slice (some ⟨w.heap.size,0,none⟩) (a.length+b.length) (a.length+b.length)) o):=Lib.hid (HA.out.all (by simp [HP.out.len]) (Nat.le_refl _))
   have HLN:Hid (o.length <= 1000000000):=Lib.hid (by simp [HP.out.len]; omega)
   clear hma HA HP
   go_wp2_with fail
   refine (rtrim_blk _ _ _ HS.out HLN.out).mono ?_
   rintro e w3 ⟨v3,rfl,hs3,hb3,rfl⟩
   rw [Lb.trim_eq HLT.out,HM.out] at hs3
   obtain ⟨a3,c3,rfl⟩:=SlU.form hs3
   go_wp2_with fail
   go_ret
   exact ⟨_,_,_,rfl,hs3,HE.out,fun b hb=>by rw [hb3] at hb; cases hb; exact Nat.le_refl _⟩
set_option maxHeartbeats 4000000 in
theorem rby_any (v1:Value) (a:List Nat) (n:Nat) (w:World) (h1:SlU w v1 a) (k1:Lb.Lt a) (n1:a.length <= 100000000) (hn:n < 1000000000) :
    Calls Tryz.prog 123 #[v1,.int .u32 (n:Int)] w (RetF w (Lb.limbs (Lb.val a*n))):=by
 obtain ⟨p1,q1,rfl⟩:=h1.form
 obtain ⟨X,hX,hAX,heX,hzX⟩:=arr_alloc w [n]
 have HSX:=Lib.hid (hAX.all (n:=1) (cap:=1) rfl (Nat.le_refl _)); have HX:=Lib.hid heX; have H1:=Lib.hid h1; have HK:=Lib.hid k1
 simp only [List.map_cons,List.map_nil,uV] at hX
 clear hAX heX hzX h1 k1
 go_enter Tryz.func123,Tryz.ntmps123
 go_wp2_with fail
 refine (rtrim_blk _ _ _ HSX.out (by simp)).mono ?_
 rintro e w3 ⟨v3,rfl,hs3,hb3,rfl⟩
 obtain ⟨a3,c3,rfl⟩:=SlU.form hs3
 clear hb3
 have HT:Hid (Lb.Lt (Lb.trim [n])/\(Lb.trim [n]).length <= 100000000/\Lb.val (Lb.trim [n])=n):=Lib.hid (by
  have hl:Lb.Lt [n]:=Lb.lt_cons (by rw [Lb.B_eq]; exact hn) Lb.lt_nil
  refine ⟨Lb.lt_trim hl,?_,by rw [Lb.val_trim]; simp [Lb.val]⟩
  have:=Lb.trim_length [n]
  simp at this
  omega)
 have HS3:=Lib.hid hs3; have HS1:=Lib.hid (H1.out.later HX.out); have HE3:=Lib.hid HX.out
 clear hs3
 go_wp2_with fail
 refine (rtimes_any _ _ _ _ _ HS1.out HS3.out HK.out HT.out.1 n1 HT.out.2.1).mono ?_
 rintro e w4 ⟨a4,m4,c4,rfl,hs4,hx4,hb4⟩
 rw [HT.out.2.2] at hs4
 go_wp2_with fail
 go_ret
 exact ⟨_,_,_,rfl,hs4,HE3.out.trans hx4,fun b hb=>Nat.le_trans HE3.out.size (hb4 b hb)⟩
end Go.Proofs.YtkdjilgddbjcaaaGreat
namespace Go.Proofs.YtkdjilgddbjcaaaGreat
namespace Lb
theorem limbs_mono {m n:Nat} (h:m <= n):(limbs m).length <= (limbs n).length:=by
 rcases Nat.lt_or_ge (limbs n).length (limbs m).length with h' | h'
 ·have:=lt_of_len (norm_limbs n) (norm_limbs m) h'
  rw [val_limbs,val_limbs] at this
  omega
 ·exact h'
theorem val_lt_pow_of_len {n k:Nat} (h:(limbs n).length <= k):n < B ^ k:=Nat.lt_of_lt_of_le (lt_pow_limbs n) (Nat.pow_le_pow_right B_pos h)
structure PartsAt (U:List Nat) (V k:Nat) (Q:List Nat) (R:Nat):Prop where
 le:k <= U.length
 len:Q.length=U.length - k
 lt:Lt Q
 val:val (U.drop k)=val Q*V+R
 rlt:R < V
theorem partsAt_start {U:List Nat} {V:Nat} (hV:0 < V):PartsAt U V U.length [] 0 :=
 ⟨Nat.le_refl _,by simp,lt_nil,by simp [Lb.val],hV⟩
theorem partsAt_step {U Q:List Nat} {V k R:Nat} (hU:Lt U) (h:PartsAt U V (k+1) Q R) (hk:k < U.length):(U[k]+B*R) / V < B/\PartsAt U V k ((U[k]+B*R) / V :: Q) ((U[k]+B*R) % V):=by
 have hx:=lt_get hU k hk
 have hR:=h.rlt
 have hV:0 < V:=by omega
 have hlt:U[k]+B*R < B*V:=by
  have:B*(R+1) <= B*V:=Nat.mul_le_mul_left B hR
  rw [Nat.mul_succ] at this
  omega
 have hq:(U[k]+B*R) / V < B:=Nat.div_lt_of_lt_mul (by rw [Nat.mul_comm V B]; exact hlt)
 refine ⟨hq,by omega,by simp [h.len]; omega,lt_cons hq h.lt,?_,Nat.mod_lt _ hV⟩
 have h1:=Nat.div_add_mod (U[k]+B*R) V
 rw [val_drop U k hk,h.val,val_cons]
 generalize (U[k]+B*R) / V=q at *
 generalize (U[k]+B*R) % V=r at *
 generalize Lb.val Q=Z at *
 rw [Nat.mul_add,Nat.add_mul]
 have e1:B*(Z*V)=B*Z*V:=(Nat.mul_assoc _ _ _).symm
 have e2:V*q=q*V:=Nat.mul_comm _ _
 omega
theorem high_spec {l:List Nat} {n:Nat} (hl:Lt l) (hn:l.length <= n+2) :
    (if h:n+1 < l.length then l[n+1]*B else 0)+(if h:n < l.length then l[n] else 0)=val l / B ^ n:=by
 have hp:0 < B ^ n:=Nat.pow_pos B_pos
 rcases Nat.lt_or_ge n l.length with h | h
 ·have hlt:val (l.take n) < B ^ n:=take_lt hl n (by omega)
  have hv:=val_take_drop l n (by omega)
  have hd:val l / B ^ n=val (l.drop n):=by
   rw [hv,Nat.add_mul_div_left _ _ hp,Nat.div_eq_of_lt hlt,Nat.zero_add]
  rw [hd,val_drop l n h]
  rcases Nat.lt_or_ge (n+1) l.length with h' | h'
  ·have e:l.length=n+2:=by omega
   have hn2:l.drop (n+2)=[]:=List.drop_of_length_le (by omega)
   rw [val_drop l (n+1) h',hn2]
   simp only [h,h',dif_pos,val_nil,Nat.mul_zero,Nat.add_zero]
   rw [Nat.mul_comm]
   omega
  ·have hn1:l.drop (n+1)=[]:=List.drop_of_length_le (by omega)
   have h2:¬ n+1 < l.length:=by omega
   rw [hn1]
   simp [h,h2,Lb.val]
 ·have hlt:val l < B ^ n:=Nat.lt_of_lt_of_le (val_lt hl) (Nat.pow_le_pow_right B_pos h)
  have h1:¬ n < l.length:=by omega
  have h2:¬ n+1 < l.length:=by omega
  rw [Nat.div_eq_of_lt hlt]
  simp [h1,h2]
theorem est_ge {R V T P:Nat} (h:T*P <= V) (hT:0 < T) (hP:0 < P):R / V <= R / P / T:=by
 rw [Nat.div_div_eq_div_mul]
 exact Nat.div_le_div_left (by rw [Nat.mul_comm]; exact h) (Nat.mul_pos hP hT)
theorem est_done {R V d:Nat} (h:V*d <= R) (hV:0 < V) (hq:R / V <= d):d=R / V:=by
 have:d <= R / V:=(Nat.le_div_iff_mul_le hV).2 (by rw [Nat.mul_comm]; exact h)
 omega
structure BackAt (l:List Nat) (s k:Nat) (o:List Nat) (c:Nat):Prop where
 le:k <= l.length
 len:o.length=l.length - k
 lt:Lt o
 val:val (l.drop k)=val o*s+c
 clt:c < s
theorem backAt_start {l:List Nat} {s:Nat} (hs:0 < s):BackAt l s l.length [] 0:=⟨Nat.le_refl _,by simp,lt_nil,by simp [Lb.val],hs⟩
theorem backAt_step {l o:List Nat} {s k c:Nat} (hl:Lt l) (h:BackAt l s (k+1) o c) (hk:k < l.length):(c*B+l[k]) / s < B/\BackAt l s k ((c*B+l[k]) / s :: o) ((c*B+l[k]) % s):=by
 have hx:=lt_get hl k hk
 have hc:=h.clt
 have hlt:c*B+l[k] < B*s:=by
  have:(c+1)*B <= s*B:=Nat.mul_le_mul_right B hc
  rw [Nat.succ_mul,Nat.mul_comm s B] at this
  omega
 have hq:(c*B+l[k]) / s < B:=Nat.div_lt_of_lt_mul (by rw [Nat.mul_comm s B]; exact hlt)
 refine ⟨hq,by omega,by simp [h.len]; omega,lt_cons hq h.lt,?_,Nat.mod_lt _ (by omega)⟩
 have h1:=Nat.div_add_mod (c*B+l[k]) s
 rw [val_drop l k hk,h.val,val_cons]
 generalize (c*B+l[k]) / s=q at *
 generalize (c*B+l[k]) % s=r at *
 generalize Lb.val o=Z at *
 rw [Nat.mul_add,Nat.add_mul]
 have e1:B*(Z*s)=B*Z*s:=(Nat.mul_assoc _ _ _).symm
 have e2:s*q=q*s:=Nat.mul_comm _ _
 have e3:B*c=c*B:=Nat.mul_comm _ _
 omega
theorem backAt_done {l o:List Nat} {s c M:Nat} (h:BackAt l s 0 o c) (hM:val l=M*s):val o=M:=by
 have h1:=h.val
 have hs:0 < s:=by have:=h.clt; omega
 rw [List.drop_zero,hM] at h1
 have h2:M=(val o*s+c) / s:=by rw [<- h1,Nat.mul_div_cancel _ hs]
 rw [h2,Nat.mul_comm,Nat.mul_add_div hs,Nat.div_eq_of_lt h.clt,Nat.add_zero]
theorem scale_parts {b:List Nat} {n y:Nat} (hb:Norm b) (hn:b.length=n+1) (hy:b[n]?=some y) :
    0 < y/\y < B/\0 < B / (y+1)/\B / (y+1) < B/\val b*(B / (y+1)) < B ^ (n+1)/\B ^ n <= val b*(B / (y+1)):=by
 have hb0:b ≠ []:=by intro e; rw [e] at hn; simp at hn
 have hlt:n < b.length:=by omega
 have hyb:b[n]=y:=by simpa [hlt] using hy
 have hy1:y < B:=by rw [<- hyb]; exact lt_get hb.1 n hlt
 have hy0:y ≠ 0:=by
  have h:=hb.2 hb0
  have e:b.getLast hb0=b[n]:=by
   rw [List.getLast_eq_getElem]
   congr 1
   omega
  rw [e,hyb] at h
  exact h
 have hs0:0 < B / (y+1):=Nat.div_pos hy1 (by omega)
 have hs1:B / (y+1) < B:=Nat.div_lt_self B_pos (by omega)
 have hv:val b=val (b.take n)+B ^ n*y:=by
  have:=val_take_drop b n (by omega)
  rw [this,val_drop b n hlt,List.drop_of_length_le (by omega),hyb]
  simp [Lb.val]
 have ht:=take_lt hb.1 n (by omega)
 refine ⟨by omega,hy1,hs0,hs1,?_,?_⟩
 ·refine scale_fits (t:=y) ?_
  rw [hv,Nat.add_mul,Nat.one_mul,Nat.mul_comm]
  omega
 ·have h1:B ^ n*1 <= val b*(B / (y+1)):=by
   refine Nat.mul_le_mul ?_ hs0
   rw [hv]
   have:B ^ n*1 <= B ^ n*y:=Nat.mul_le_mul_left _ (by omega)
   omega
  omega
theorem len_of_bounds {V n:Nat} (h1:V < B ^ (n+1)) (h2:B ^ n <= V):(limbs V).length=n+1:=by
 have a1:=limbs_length h1
 rcases Nat.lt_or_ge n (limbs V).length with h | h
 ·omega
 ·have:=val_lt_pow_of_len h
  omega
theorem top_le {l:List Nat} {n:Nat} (h:n < l.length):l[n]*B ^ n <= val l:=by
 have h1:=val_take_drop l n (by omega)
 rw [val_drop l n h] at h1
 rw [h1,Nat.mul_add,Nat.mul_comm]
 omega
theorem top_pos {V n:Nat} (h:(limbs V).length=n+1) (hlt:n < (limbs V).length):0 < (limbs V)[n]:=by
 have h1:=(norm_limbs V).2 (by intro e; rw [e] at h; simp at h)
 rw [List.getLast_eq_getElem] at h1
 have e:(limbs V).length - 1=n:=by omega
 simp only [e] at h1
 omega
theorem set_zeros_front {X:List Nat} {k x:Nat}:(List.replicate (k+1) 0 ++ X).set k x=List.replicate k 0 ++ (x :: X):=by
 rw [List.set_append_left _ _ (by simp),show List.replicate (k+1) 0=List.replicate k 0 ++ [0] by rw [<- List.replicate_succ'],List.set_append_right _ _ (by simp)]
 simp
end Lb
end Go.Proofs.YtkdjilgddbjcaaaGreat
namespace Go.Proofs.YtkdjilgddbjcaaaGreat
open Go.RowKit
set_option maxRecDepth 8000
structure But (g:Nat) (w w':World):Prop where
 os:w'.os=w.os
 tape:w'.tape=w.tape
 output:w'.output=w.output
 size:w.heap.size <= w'.heap.size
 block:∀ j,j < w.heap.size->j ≠ g->w'.heap[j]?=w.heap[j]?
theorem But.refl (g:Nat) (w:World):But g w w:=⟨rfl,rfl,rfl,Nat.le_refl _,fun _ _ _=>rfl⟩
theorem But.later {g:Nat} {a b c:World} (h:But g a b) (k:Ext b c):But g a c :=
 ⟨k.out.os.trans h.os,k.out.tape.trans h.tape,k.out.output.trans h.output,Nat.le_trans h.size k.size,fun j hj hg=>(k.out.block j (Nat.lt_of_lt_of_le hj h.size)).trans (h.block j hj hg)⟩
theorem But.set {g:Nat} {a w:World} (h:But g a w) (i:Nat) (u:Value):But g a (w.setCell ⟨g,i,none⟩ u) :=
 ⟨h.os,h.tape,h.output,by simpa [World.setCell] using h.size,fun j hj hg=>by rw [Below.heap_setCell _ _ _ _ (by exact hg)]; exact h.block j hj hg⟩
theorem But.ext {g:Nat} {a w w':World} (h:Ext a w) (k:But g w w') (hg:a.heap.size <= g):Ext a w' :=
 Ext.of ⟨k.os.trans h.out.os,k.tape.trans h.out.tape,k.output.trans h.out.output,Nat.le_trans h.size k.size,fun j hj=>(k.block j (Nat.lt_of_lt_of_le hj h.size) (by omega)).trans (h.out.block j hj)⟩
theorem SlU.but {g:Nat} {w w':World} {v:Value} {l:List Nat} (h:SlU w v l) (k:But g w w') (hv:v.ownBlock ≠ some g):SlU w' v l:=by
 obtain ⟨a,n,cap,b,off,rfl,h2,h3,h4,h5,h6⟩:=h
 refine ⟨a,n,cap,b,off,rfl,h2,h3,h4,h5,fun i x hx=>?_⟩
 obtain ⟨p,q⟩:=h6 i x hx
 have hn:n ≠ 0:=by
  intro e
  rw [e] at h2
  have:=List.length_eq_zero_iff.1 h2.symm
  subst this
  simp at hx
 have ha:=h3.resolve_left hn
 subst ha
 have hbg:b ≠ g:=fun e=>hv (by rw [<- e]; rfl)
 refine ⟨Nat.lt_of_lt_of_le p k.size,fun r u hu=>?_⟩
 have:=q r u hu
 unfold World.cell? at *
 simp only at *
 rw [k.block b p hbg]
 exact this
theorem SlU.blk {w:World} {v:Value} {l:List Nat} {g:Nat} (h:SlU w v l) (e:v.ownBlock=some g) (hl:l ≠ []):g < w.heap.size:=by
 rcases h.cases with ⟨rfl,_⟩ | ⟨_,b,off,cap,rfl,_,hb,_⟩
 ·exact absurd rfl hl
 ·cases e; exact hb
theorem SlU.new {g:Nat} {w w1 w':World} {v:Value} {l:List Nat} (h:SlU w v l) (hg:w.heap.size <= g) (hx:Ext w w1) (k:But g w1 w'):SlU w' v l:=h.later (But.ext hx k hg)
def RetUU (w:World) (l m:List Nat) (e:Ending) (w':World):Prop:=∃ s t,e=.returned (.tuple #[s,t])/\SlU w' s l/\SlU w' t m/\Ext w w'
theorem rcmp_any (v1 v2:Value) (a b:List Nat) (w:World) (h1:SlU w v1 a) (h2:SlU w v2 b) (k1:Lb.Norm a) (k2:Lb.Norm b) (n1:a.length <= 1000000000) (n2:b.length <= 1000000000) :
    Calls Tryz.prog 76 #[v1,v2] w fun e w'=>e=.returned (.int .i64 (cmpN (Lb.val a) (Lb.val b)))/\Ext w w':=by
 refine (Vc.cJcmp_ok.yes ⟨w.heap.size,[],[],[]⟩ w [.c (.sl a),.c (.sl b)] [v1,v2] _ _ ⟨⟨h1,Vc.Away.none rfl rfl _ _⟩,⟨h2,Vc.Away.none rfl rfl _ _⟩,trivial⟩ rfl rfl rfl ⟨⟨k1,k2⟩,n1,n2⟩).mono ?_
 rintro e w' ⟨v,rfl,hx,hv,_⟩
 exact ⟨by rw [hv],hx⟩
theorem rshort_any (v1:Value) (a:List Nat) (w:World) (h1:SlU w v1 a) (k1:Lb.Lt a) (n1:a.length <= 2) :
    Calls Tryz.prog 78 #[v1] w fun e w'=>e=.returned (.int .u64 (Lb.val a:Int))/\Ext w w':=by
 refine (Vc.cJshort_ok.yes ⟨w.heap.size,[],[],[]⟩ w [.c (.sl a)] [v1] _ _ ⟨⟨h1,Vc.Away.none rfl rfl _ _⟩,trivial⟩ rfl rfl rfl ⟨k1,n1⟩).mono ?_
 rintro e w' ⟨v,rfl,hx,hv,_⟩
 exact ⟨by rw [hv],hx⟩
theorem val_two {a:List Nat} (k:Lb.Lt a) (n:a.length <= 2):Lb.val a < 1000000000000000000:=by
 have h:=Lb.val_lt k
 have h2:Lb.B ^ a.length <= Lb.B ^ 2:=Nat.pow_le_pow_right Lb.B_pos n
 have h3:Lb.B ^ 2=1000000000000000000:=rfl
 omega
set_option maxHeartbeats 8000000 in
theorem rparts_short (v1 v2:Value) (a b:List Nat) (w:World) (h1:SlU w v1 a) (h2:SlU w v2 b) (k1:Lb.Lt a) (k2:Lb.Lt b) (n1:a.length <= 2) (n2:b.length <= 2) (hv:Lb.val b ≠ 0) :
    Calls Tryz.prog 77 #[v1,v2] w (RetUU w (Lb.limbs (Lb.val a / Lb.val b)) (Lb.limbs (Lb.val a % Lb.val b))):=by
 obtain ⟨p1,q1,rfl⟩:=h1.form
 obtain ⟨p2,q2,rfl⟩:=h2.form
 have hq1:decide ((a.length:Int) <= 2)=true:=by simp; omega
 have hq2:decide ((b.length:Int) <= 2)=true:=by simp; omega
 have H1:=Lib.hid h1; have H2:=Lib.hid h2; have HK1:=Lib.hid k1; have HK2:=Lib.hid k2
 have ha:=val_two k1 n1; have hb:=val_two k2 n2
 have HN1:=Lib.hid n1; have HN2:=Lib.hid n2
 clear h1 h2 k1 k2
 go_enter Tryz.func77,Tryz.ntmps77
 go_wp2_with fail
 refine (rshort_any _ _ _ H1.out HK1.out HN1.out).mono ?_
 rintro e w1 ⟨rfl,x1⟩
 have H2':=Lib.hid (H2.out.later x1)
 go_wp2_with fail
 refine (rshort_any _ _ _ H2'.out HK2.out HN2.out).mono ?_
 rintro e w2 ⟨rfl,x2⟩
 generalize Lb.val a=x at *
 generalize Lb.val b=y at *
 have hy0:((y:Int) == 0)=false:=by simp; omega
 have hy1:¬ (y:Int)=0:=by omega
 have hlt1:x / y < 18446744073709551616:=Nat.lt_of_le_of_lt (Nat.div_le_self _ _) (by omega)
 have hlt2:x % y < 18446744073709551616:=Nat.lt_of_le_of_lt (Nat.mod_le _ _) (by omega)
 have e1:(x:Int) / y=((x / y:Nat):Int):=by simp
 have e2:(x:Int) % y=((x % y:Nat):Int):=by simp
 have HL1:Hid (∀ w:World,Calls Tryz.prog 79 #[.int .u64 ((x:Int) / (y:Int))] w (RetU w (Lb.limbs (x / y)))):=Lib.hid (fun w=>by rw [e1]; exact limbs_any (x / y) w hlt1)
 have HL2:Hid (∀ w:World,Calls Tryz.prog 79 #[.int .u64 ((x:Int) % (y:Int))] w (RetU w (Lb.limbs (x % y)))):=Lib.hid (fun w=>by rw [e2]; exact limbs_any (x % y) w hlt2)
 have HX:=Lib.hid (x1.trans x2)
 have e3:0 <= (x:Int) / y:=Int.ediv_nonneg (by omega) (by omega)
 have e4:(x:Int) / y < 1000000000000000000:=Int.lt_of_le_of_lt (Int.ediv_le_self _ (by omega)) (by omega)
 clear hv e1 e2 hlt1 hlt2
 go_wp2_with fail
 refine wp_region_tree (fun w'=>∃ x:Later w2,w'=x.w) 10 (.one [0,1,2,4,5,6] 3 (.one [] 7 (.leaf [8,9]))) (by kernel_rfl) (by kernel_rfl) (by kernel_rfl) ⟨⟨_,(Ext.refl _).drew⟩,rfl⟩ ?_
 simp only [List.take_succ_cons,List.take_zero]
 refine tree_one fun K hK=>?_
 simp only [List.map_cons,List.map_nil,pickOp,List.getElem?_cons_zero,List.getElem?_cons_succ,Option.getD_some]
 repeat (go_big_quiet_step (fail))
 refine wpQuiet_nil ?_
 go_wp2_with ((go_at_call 79; with_reducible refine (HL1.out _).mono ?_); rintro e w3 ⟨a3,m3,c3,rfl,s3,x3⟩)
 refine onlyK_normal (hK _ _ ⟨⟨_,(Ext.refl _).drew.trans x3⟩,rfl⟩ ?_); clear hK K
 refine tree_one0 fun K hK=>?_
 simp only [pickOp,List.getElem?_cons_zero,List.getElem?_cons_succ,Option.getD_some]
 go_wp2_with ((go_at_call 79; with_reducible refine (HL2.out _).mono ?_); rintro e w4 ⟨a4,m4,c4,rfl,s4,x4⟩)
 refine onlyK_normal (hK _ _ ⟨⟨_,((Ext.refl _).drew.trans x3).trans x4⟩,rfl⟩ ?_); clear hK K
 refine tree_leaf ?_
 simp only [List.map_cons,List.map_nil,pickOp,List.getElem?_cons_zero,List.getElem?_cons_succ,Option.getD_some]
 repeat (go_big_quiet_step (fail))
 refine wpQuiet_nil ?_
 simp only [List.drop_succ_cons,List.drop_zero]
 go_wp2_with fail
 go_ret2
 exact ⟨_,_,rfl,s3.later x4,s4,(HX.out.trans ((Ext.refl _).drew.trans x3)).trans x4⟩
set_option maxHeartbeats 16000000 in
theorem rparts_a (v1 v2:Value) (a b:List Nat) (w:World) (h1:SlU w v1 a) (h2:SlU w v2 b) (k1:Lb.Lt a) (k2:Lb.Norm b) (n1:a.length <= 90000000) (n2:b.length <= 90000000) (hb0:b ≠ []) (hyp:2 < a.length) :
    Calls Tryz.prog 77 #[v1,v2] w (RetUU w (Lb.limbs (Lb.val a / Lb.val b)) (Lb.limbs (Lb.val a % Lb.val b))):=by
 obtain ⟨p1,q1,rfl⟩:=h1.form
 obtain ⟨p2,q2,rfl⟩:=h2.form
 have hq1:decide ((a.length:Int) <= 2)=false:=by simp; omega
 have H1:=Lib.hid h1; have H2:=Lib.hid h2; have HK1:=Lib.hid k1; have HK2:=Lib.hid k2
 obtain ⟨n,hn⟩:∃ n,b.length=n+1:=⟨b.length - 1,by have:=List.length_pos_iff.2 hb0; omega⟩
 have hnb:n < b.length:=by omega
 obtain ⟨y,hy⟩:∃ y,b[n]?=some y:=⟨b[n],by simp [hnb]⟩
 obtain ⟨hy0,hyB,hs0,hsB,hsV,hsG⟩:=Lb.scale_parts k2 hn hy
 obtain ⟨bb,bo,bc,hbe,hbb,hcell⟩:=getD_cell h2 n hnb
 have hbn:b[n]=y:=by simpa [hnb] using hy
 rw [hbn] at hcell
 cases hbe
 clear hbn
 rw [Lb.B_eq] at hyB hs0 hsB hsV hsG
 have hsd:(1000000000:Int) / ((y:Int)+1)=((1000000000 / (y+1):Nat):Int):=by simp
 have hy1:(((y:Int)+1) == 0)=false:=by simp; omega
 have hy2:¬ ((y:Int)+1=0):=by omega
 have hb90:b.length <= 90000000:=n2
 have hHM:Hid (b.length=n+1):=Lib.hid hn
 have HDIV:Hid (Lb.val a*(1000000000 / (y+1)) < Lb.B ^ (a.length+1)):=Lib.hid (by
  have h:=Lb.val_lt k1
  have h2:Lb.val a*(1000000000 / (y+1)) < Lb.B ^ a.length*Lb.B:=Nat.mul_lt_mul_of_lt_of_le h (by rw [Lb.B_eq]; omega) (by rw [Lb.B_eq]; omega)
  rwa [<- Nat.pow_succ] at h2)
 generalize hsc:1000000000 / (y+1)=s at *
 generalize hnn:b.length=nb at *
 have E1:(nb:Int) - 1=(n:Int):=by omega
 have HSV:Hid (Lb.val b*s < Lb.B ^ (n+1)):=Lib.hid (by rw [Lb.B_eq]; exact hsV)
 have HSG:Hid (Lb.B ^ n <= Lb.val b*s):=Lib.hid (by rw [Lb.B_eq]; exact hsG)
 have HCL:=Lib.hid hcell; have HNN:=Lib.hid hnn; have HNB:=Lib.hid hb90
 have hnlt:n < nb:=by omega
 clear h1 h2 k1 k2 hb0 hn hnb hy hsV hsG hsc hnn hHM n2
 go_enter Tryz.func77,Tryz.ntmps77
 go_wp2_with fail
 refine (rby_any _ b s w H2.out HK2.out.1 (by have:=HNN.out; omega) (by omega)).mono ?_
 rintro e w1 ⟨av,nv,cv,rfl,sv,x1,-⟩
 have hVl:(Lb.limbs (Lb.val b*s)).length=n+1:=Lb.len_of_bounds HSV.out HSG.out
 obtain ⟨T,hT⟩:∃ T,(Lb.limbs (Lb.val b*s))[n]?=some T:=⟨(Lb.limbs (Lb.val b*s))[n]'(by omega),by simp [hVl]⟩
 have hTn:(Lb.limbs (Lb.val b*s))[n]'(by omega)=T:=by have h:n < (Lb.limbs (Lb.val b*s)).length:=by omega
                                                      simpa [h] using hT
 have hT0:0 < T:=by rw [<- hTn]; exact Lb.top_pos hVl (by omega)
 have hTB:T < 1000000000:=by rw [<- hTn]; exact Lb.lt_get (Lb.norm_limbs _).1 n (by omega)
 have hTV:T*Lb.B ^ n <= Lb.val b*s:=by
  have:=Lb.top_le (l:=Lb.limbs (Lb.val b*s)) (n:=n) (by omega)
  rwa [hTn,Lb.val_limbs] at this
 obtain ⟨gv,ov,cv',hve,hgv,hvc⟩:=getD_cell sv n (by omega)
 rw [hTn] at hvc
 cases hve
 have HSVV:=Lib.hid sv; have HTV:=Lib.hid hTV; have HX1:=Lib.hid x1
 rw [hVl] at *
 have HVL:=Lib.hid (Lb.len_of_bounds HSV.out HSG.out)
 have hV0:0 < Lb.val b*s:=by have:=HSG.out; have:=Nat.pow_pos (n:=n) Lb.B_pos; omega
 have HV0:=Lib.hid hV0
 have E2:((n+1:Nat):Int) - 1=(n:Int):=by omega
 have E2':((n:Int)+1) - 1=(n:Int):=by omega
 have hmk:=make_run (a.length+1) (by omega)
 rw [Int.natCast_add] at hmk
 have e1:((1:Nat):Int)=1:=rfl
 rw [e1] at hmk
 obtain ⟨W,hW,hA,hE,hz⟩:=zeros_alloc w1 (a.length+1)
 have HA0:=Lib.hid hA; have HE0:=Lib.hid (HX1.out.trans hE); have HE1:=Lib.hid hE
 have HUB:=Lib.hid (rby_any _ a s W (H1.out.later HE0.out) HK1.out (by omega) (by omega))
 have HGV:Hid (gv < w1.heap.size):=Lib.hid hgv
 clear e1 hA hE hz hT hTn hTV sv x1 hV0 hcell HCL hVl
 go_wp2_with fail
 refine HUB.out.mono ?_
 rintro e w4 ⟨au,L,cu,rfl,su,x4,hbu⟩
 clear hW hmk
 have hL:=SlU.form' su
 obtain ⟨au',L',cu',hue,hLe⟩:=hL
 cases hue
 have hL1:L <= a.length+1:=by rw [hLe]; exact Lb.limbs_length HDIV.out
 have HUS:=Lib.hid su; have HLE:=Lib.hid hLe; have HBU:=Lib.hid hbu
 have HUV:=Lib.hid (Lb.val_limbs (Lb.val a*s)); have HUN:=Lib.hid (Lb.norm_limbs (Lb.val a*s)).1
 have HV4:Hid (SlU w4 (.slice (some ⟨gv,ov,none⟩) (n+1) cv) (Lb.limbs (Lb.val b*s))):=Lib.hid (HSVV.out.later (HE1.out.trans x4))
 have HA4:=Lib.hid (HA0.out.ext x4)
 have HE4:=Lib.hid (HE0.out.trans x4)
 have HGW:Hid (w.heap.size <= w1.heap.size/\w1.heap.size < w4.heap.size/\w1.heap.size < W.heap.size):=Lib.hid ⟨HX1.out.size,HA4.out.lt,HA0.out.lt⟩
 generalize hUU:Lb.limbs (Lb.val a*s)=U at *
 generalize hgg:w1.heap.size=g at *
 have HGG:=Lib.hid hgg; have HUE:=Lib.hid hUU
 have hTn:¬ ((T:Int)=0):=by omega
 have hTz:((T:Int) == 0)=false:=by simp; omega
 have HVN:=Lib.hid (Lb.norm_limbs (Lb.val b*s))
 have HP0:=Lib.hid (Lb.partsAt_start (U:=U) HV0.out)
 have HZ0:Hid (ArrU w4 g (List.replicate L 0 ++ ([] ++ List.replicate (a.length+1 - L) 0))):=Lib.hid (by
  have:=HA4.out
  have e:a.length+1=L+(a.length+1 - L):=by omega
  rw [e,<- List.replicate_append_replicate] at this
  rw [List.nil_append]
  exact this)
 rw [<- HLE.out] at HP0
 have hrest0:SlU w4 (.slice none 0 0) (Lb.limbs 0):=by rw [Lb.limbs_zero]; exact SlU.nil _
 have HR0:=Lib.hid hrest0
 have hL90:L <= 90000001:=by omega
 have HNE0:Hid ((Value.slice none 0 0).ownBlock ≠ some g):=Lib.hid (by intro e; cases e)
 clear su x4 hLe hbu hUU hgg HA0 HA4 HUB hrest0 HX1 HE0 HE1 HSVV HDIV HUE
 go_wp2_with fail
 go_loopw [11,14] (fun rest i wr=>∃ (k:Nat) (j:Int) (Q:List Nat) (R:Nat),i=.int .i64 j/\j=(k:Int) - 1/\k <= L/\Hid (Lb.PartsAt U (Lb.val b*s) k Q R)/\Hid (SlU wr rest (Lb.limbs R))/\Hid (rest.ownBlock ≠ some g)/\Hid (ArrU wr g (List.replicate k 0 ++ (Q ++ List.replicate (a.length+1 - L) 0)))/\Hid (But g w4 wr)) (fun _ i _=>(intOf i+1).toNat)
 case atStart=>exact ⟨L,_,[],0,rfl,by omega,Nat.le_refl _,HP0,HR0,HNE0,HZ0,Lib.hid (But.refl _ _)⟩
 case round =>
  clear HP0 HR0 HNE0 HZ0
  obtain ⟨k,j,Q,R,rfl,hj,hk,HP,HR,HNE,HA,HB⟩:=hrel
  have HEW:Hid (Ext w wr):=Lib.hid (But.ext HE4.out HB.out HGW.out.1)
  by_cases hk0:0 < k
  ·obtain ⟨m,rfl⟩:∃ m,k=m+1:=⟨k - 1,by omega⟩
   obtain rfl:j=(m:Int):=by omega
   clear hj hk0
   have hmL:m < L:=by omega
   have hmU:m < U.length:=by rw [<- HLE.out]; exact hmL
   have HST:=Lib.hid (Lb.partsAt_step HUN.out HP.out hmU)
   have hx:U[m] < 1000000000:=Lb.lt_get HUN.out m hmU
   have HNU:Hid ((Value.slice au L cu).ownBlock ≠ some g):=Lib.hid (fun e=>by have:=HBU.out g e; have:=HGW.out; omega)
   have HNV:Hid ((Value.slice (some ⟨gv,ov,none⟩) (n+1) cv).ownBlock ≠ some g):=Lib.hid (fun e=>by have e':gv=g:=Option.some.inj e; have:=HGV.out; omega)
   have HSU:=Lib.hid (HUS.out.but HB.out HNU.out)
   have HSV1:=Lib.hid (HV4.out.but HB.out HNV.out)
   obtain ⟨gu,ou,cu',hue,hgu,hcu⟩:=getD_cell HSU.out m hmU
   cases hue
   generalize U[m]=x at *
   obtain ⟨X,hX,hAX,heX,hzX⟩:=arr_alloc wr [x]
   have HOX:=Lib.hid (arr_own (B:=wr.heap.size) hAX (Nat.le_refl _) (by unfold maxLen; simp))
   have HRX:=Lib.hid (HR.out.later heX); have HEX:=Lib.hid heX
   have HRB:Hid (R < Lb.val b*s/\(Lb.limbs R).length <= n+1):=Lib.hid ⟨HP.out.rlt,Lb.limbs_length (Nat.lt_trans HP.out.rlt HSV.out)⟩
   have HM:Hid ([x].length+(Lb.limbs R).length <= maxLen):=Lib.hid (by have:=HRB.out.2; unfold maxLen; simp; omega)
   have HN:Hid (([x].length+(Lb.limbs R).length)*4 <= 140737488355328):=Lib.hid (by have:=HRB.out.2; simp; omega)
   have HBX:Hid (wr.heap.size <= X.heap.size):=Lib.hid heX.size
   have HGR:Hid (g < wr.heap.size):=Lib.hid HA.out.lt
   have HTR:Hid (Lb.trim ([x] ++ Lb.limbs R)=Lb.limbs (x+Lb.B*R)/\([x] ++ Lb.limbs R).length <= 1000000000):=Lib.hid ⟨by
    rw [Lb.trim_eq (Lb.lt_append (Lb.lt_cons hx Lb.lt_nil) (Lb.norm_limbs R).1)]
    simp [Lb.val,Lb.val_limbs],by have:=HRB.out.2; simp; omega⟩
   simp only [List.map_cons,List.map_nil,uV] at hX
   clear hAX heX hzX hmU
   go_wp2_with ((at_builtin; refine appG_at rfl _ _ rfl Tryz.underlying28 Tryz.info_u32 rfl (by decide) uC_len uC_one wr.heap.size _ _ [x] (Lb.limbs R) rfl rfl HOX.out HRX.out HM.out HN.out HBX.out ?_; intro v6 w6 own6 hg6 hloc6))
   have x6:Ext wr w6:=HEX.out.grown hg6 (fun i hi=>by cases hi; exact Nat.le_refl _)
   have hb6:∀ b,v6.ownBlock=some b->wr.heap.size <= b:=fun b hb=>(own6.base hb).1
   refine (rtrim_blk v6 _ w6 (own6.sl uC_len) HTR.out.2).mono ?_
   rintro e w7 ⟨v7,rfl,s7,hb7,rfl⟩
   rw [HTR.out.1] at s7
   have HN7:Hid (v7.ownBlock ≠ some g):=Lib.hid (fun e=>by rw [hb7] at e; have:=hb6 g e; have:=HGR.out; omega)
   obtain ⟨a7,n7,c7,rfl,hn7⟩:=s7.form'
   have HX6:=Lib.hid x6; have HS7:=Lib.hid s7
   have HR1:Hid (x+Lb.B*R < Lb.B*(Lb.val b*s)):=Lib.hid (by
    have h:Lb.B*(R+1) <= Lb.B*(Lb.val b*s):=Nat.mul_le_mul_left _ HRB.out.1
    rw [Nat.mul_succ,Lb.B_eq] at *
    omega)
   have hn72:n7 <= n+2:=by
    rw [hn7]
    refine Lb.limbs_length ?_
    have h1:=HR1.out
    have h2:Lb.B*(Lb.val b*s) <= Lb.B*Lb.B ^ (n+1):=Nat.mul_le_mul_left _ (Nat.le_of_lt HSV.out)
    rw [Nat.pow_succ Lb.B (n+1),Nat.mul_comm _ Lb.B]
    omega
   have HQ1:Hid ((x+Lb.B*R) / (Lb.val b*s) < 1000000000):=Lib.hid HST.out.1
   have HP2:=Lib.hid HST.out.2
   generalize x+Lb.B*R=R1 at *
   have HHS:=Lib.hid (Lb.high_spec (l:=Lb.limbs R1) (n:=n) (Lb.norm_limbs R1).1 (by rw [<- hn7]; exact hn72))
   have HES:=Lib.hid (Lb.est_ge (R:=R1) HTV.out hT0 (Nat.pow_pos Lb.B_pos))
   rw [Lb.val_limbs] at HHS
   have HL7:=Lib.hid hn7; have HV6:=Lib.hid (HSV1.out.later x6); have HA6:=Lib.hid (HA.out.ext x6)
   clear hcu hX hn7 x6 s7 hb6 hb7 own6 hg6 hloc6 HOX HRX HEX HM HN HBX HTR HR HNE HSU HSV1 HST
   by_cases hc1:n+1 < n7
   ·have hq3:decide ((n7:Int) > (n:Int)+1)=true:=by simp; omega
    have hq4:decide ((n7:Int) >= (n:Int)+1)=true:=by simp; omega
    obtain ⟨g7,o7,c7',he7,hg7,hc71⟩:=getD_cell HS7.out (n+1) (by rw [<- HL7.out]; exact hc1)
    cases he7
    obtain ⟨g8,o8,c8',he8,hg8,hc70⟩:=getD_cell HS7.out n (by rw [<- HL7.out]; omega)
    cases he8
    have HH:=HHS.out
    rw [dif_pos (by rw [<- HL7.out]; exact hc1),dif_pos (by rw [<- HL7.out]; omega)] at HH
    have hy1:(Lb.limbs R1)[n+1]'(by rw [<- HL7.out]; exact hc1) < 1000000000:=Lb.lt_get (Lb.norm_limbs R1).1 _ _
    have hy0:(Lb.limbs R1)[n]'(by rw [<- HL7.out]; omega) < 1000000000:=Lb.lt_get (Lb.norm_limbs R1).1 _ _
    generalize (Lb.limbs R1)[n+1]'(by rw [<- HL7.out]; exact hc1)=ya at *
    generalize (Lb.limbs R1)[n]'(by rw [<- HL7.out]; omega)=yb at *
    clear hg7 hg8
    have HHH:Hid (ya*1000000000+yb=R1 / Lb.B ^ n):=Lib.hid (by have h:=HH; rw [Lb.B_eq] at h ⊢; omega)
    have e5:0 <= ((ya:Int)*1000000000+yb) / (T:Int):=Int.ediv_nonneg (by omega) (by omega)
    have e6:((ya:Int)*1000000000+yb) / (T:Int) < 1000000001000000000:=Int.lt_of_le_of_lt (Int.ediv_le_self _ (by omega)) (by omega)
    have E7:Hid (((ya:Int)*1000000000+yb) / (T:Int)=(((ya*1000000000+yb) / T:Nat):Int)):=Lib.hid (by simp)
    have hw:IntKind.u64.wrap (((ya:Int)*1000000000+yb) / (T:Int))=((ya:Int)*1000000000+yb) / (T:Int):=by rw [IntKind.wrap_u64]; exact Int.emod_eq_of_lt e5 (by omega)
    have HE5:=Lib.hid e5
    clear HHS HH e5 e6
    by_cases hbig:(ya*1000000000+yb) / T > 999999999
    ·have hq5:decide (((ya:Int)*1000000000+yb) / (T:Int) > 999999999)=true:=by rw [E7.out]; simp only [decide_eq_true_eq]; omega
     clear hbig
     as_aux_lemma =>
      have hDD:999999999 < 1000000000:=by omega
      have hQD:R1 / (Lb.val b*s) <= 999999999:=by have:=HQ1.out; omega
      have HEQ:Hid ((999999999:Int)=((999999999:Nat):Int)):=Lib.hid (rfl)
      have HBY:Hid (Calls Tryz.prog 123 #[.slice (some ⟨gv,ov,none⟩) (n+1) cv,.int .u32 (999999999)] w6 (RetF w6 (Lb.limbs (Lb.val b*s*(999999999))))):=Lib.hid (by
       rw [HEQ.out]
       have h:=rby_any _ _ (999999999) w6 HV6.out HVN.out.1 (by rw [HVL.out]; omega) hDD
       rwa [Lb.val_limbs] at h)
      have HDD:=Lib.hid hDD; have HQD:=Lib.hid hQD
      clear hDD hQD
      obtain ⟨wo,rfl⟩:∃ wo:World,wo=wr:=⟨_,rfl⟩
      go_wp2_with fail
      refine HBY.out.mono ?_
      rintro e w8 ⟨a8,n8,c8,rfl,s8,x8,-⟩
      clear HBY
      go_wp2_with fail
      go_loopw [16,17] (fun dv pv wr=>∃ (d:Nat),dv=.int .u64 (d:Int)/\d < 1000000000/\Hid (R1 / (Lb.val b*s) <= d)/\Hid (SlU wr pv (Lb.limbs (Lb.val b*s*d)))/\Hid (Ext w6 wr)) (fun dv _ _=>(intOf dv).toNat)
      case atStart=>exact ⟨999999999,by rw [HEQ.out],HDD.out,HQD,Lib.hid s8,Lib.hid x8⟩
      case round =>
       clear HEQ HDD HQD s8 x8
       obtain ⟨d,rfl,hd,HQD,HPR,HXI⟩:=hrel
       obtain ⟨pa,pn,pc,rfl,hpn⟩:=HPR.out.form'
       have HPL:Hid ((Lb.limbs (Lb.val b*s*d)).length <= n+2/\(Lb.limbs R1).length <= n+2):=Lib.hid ⟨Lb.limbs_length (by
        have h1:=HSV.out
        rw [Nat.pow_succ]
        exact Nat.mul_lt_mul_of_lt_of_le h1 (by rw [Lb.B_eq]; omega) (by rw [Lb.B_eq]; omega)),by first | exact hn72 | (rw [<- HL7.out]; exact hn72)⟩
       have HC:=Lib.hid (rcmp_any _ _ _ _ wr HPR.out (HS7.out.later HXI.out) (Lb.norm_limbs _) (Lb.norm_limbs _) (by have:=HPL.out; omega) (by have:=HPL.out; omega))
       rw [Lb.val_limbs,Lb.val_limbs] at HC
       clear hpn
       by_cases hgt:R1 < Lb.val b*s*d
       ·have hq6:decide (cmpN (Lb.val b*s*d) R1 > 0)=true:=by rw [cmpN_gt hgt]; rfl
        have hd0:0 < d:=by
         rcases Nat.eq_zero_or_pos d with h | h
         ·subst h; simp at hgt
         ·exact h
        have HD1:Hid (R1 / (Lb.val b*s) <= d - 1):=Lib.hid (by
         have h:=(Nat.div_lt_iff_lt_mul HV0.out).2 (by rw [Nat.mul_comm]; exact hgt)
         omega)
        have HLE2:Hid (Lb.val b*s <= Lb.val b*s*d):=Lib.hid (by
         have:=Nat.mul_le_mul_left (Lb.val b*s) hd0
         rwa [Nat.mul_one] at this)
        have HSUB:Hid (Lb.val b*s*d - Lb.val b*s=Lb.val b*s*(d - 1)):=Lib.hid (by rw [Nat.mul_sub,Nat.mul_one])
        have e9:((d - 1:Nat):Int)=(d:Int) - 1:=by omega
        have E9:=Lib.hid e9
        clear hgt e9
        generalize cmpN (Lb.val b*s*d) R1=cmp at *
        go_wp2_with fail
        refine HC.out.mono ?_
        rintro e w9 ⟨rfl,x9⟩
        have HMI:=Lib.hid (rminus_any _ _ _ _ w9 (HPR.out.later x9) (HV6.out.later (HXI.out.trans x9)) (Lb.norm_limbs _).1 HVN.out.1 (by have:=HPL.out; omega) (Lb.limbs_mono HLE2.out) (by rw [Lb.val_limbs,Lb.val_limbs]; exact HLE2.out))
        rw [Lb.val_limbs,Lb.val_limbs,HSUB.out] at HMI
        have HX9:=Lib.hid (HXI.out.trans x9)
        clear x9 HC
        go_wp2_with fail
        refine HMI.out.mono ?_
        rintro e w10 ⟨a10,n10,c10,rfl,s10,x10,-⟩
        go_wp2_with fail
        go_roundw
        case rel=>exact ⟨d - 1,by rw [E9.out],by omega,HD1,Lib.hid s10,Lib.hid (HX9.out.trans x10)⟩
        case measure=>simp [intOf]; omega
       ·have hq6:decide (cmpN (Lb.val b*s*d) R1 > 0)=false:=by
         rcases Nat.lt_or_ge (Lb.val b*s*d) R1 with h | h
         ·rw [cmpN_lt h]; rfl
         ·rw [cmpN_eq (by omega)]; rfl
        have HLE2:Hid (Lb.val b*s*d <= R1):=Lib.hid (by omega)
        have HDQ:Hid (d=R1 / (Lb.val b*s)):=Lib.hid (Lb.est_done HLE2.out HV0.out HQD.out)
        have HSUB:Hid (R1 - Lb.val b*s*d=R1 % (Lb.val b*s)):=Lib.hid (by
         have h:=Nat.div_add_mod R1 (Lb.val b*s)
         rw [<- HDQ.out] at h
         omega)
        clear hgt
        generalize cmpN (Lb.val b*s*d) R1=cmp at *
        go_wp2_with fail
        refine HC.out.mono ?_
        rintro e w9 ⟨rfl,x9⟩
        have HMI:=Lib.hid (rminus_any _ _ _ _ w9 (HS7.out.later (HXI.out.trans x9)) (HPR.out.later x9) (Lb.norm_limbs _).1 (Lb.norm_limbs _).1 (by have:=HPL.out; omega) (Lb.limbs_mono HLE2.out) (by rw [Lb.val_limbs,Lb.val_limbs]; exact HLE2.out))
        rw [Lb.val_limbs,Lb.val_limbs,HSUB.out] at HMI
        have HX9:=Lib.hid (HXI.out.trans x9)
        clear x9 HC
        go_wp2_with fail
        refine HMI.out.mono ?_
        rintro e w10 ⟨a10,n10,c10,rfl,s10,x10,hb10⟩
        have HX10:=Lib.hid (HX9.out.trans x10)
        have HA10:=Lib.hid (HA6.out.ext HX10.out)
        have HB10:=Lib.hid (HB.out.later (HX6.out.trans HX10.out))
        have HNE10:Hid ((Value.slice a10 n10 c10).ownBlock ≠ some g):=Lib.hid (fun e=>by have h1:=hb10 g e; have h2:=HGR.out; have h3:=HX6.out.size; have h4:=HX9.out.size; omega)
        have hml:m < (List.replicate (m+1) 0 ++ (Q ++ List.replicate (a.length+1 - U.length) 0)).length:=by simp; omega
        have cs:=HA10.out.cell m hml
        have fs:=HA10.out.free m
        generalize ((List.replicate (m+1) 0 ++ (Q ++ List.replicate (a.length+1 - U.length) 0))[m]:Int)=old at cs
        have HAX:=Lib.hid (HA10.out.set m d)
        rw [Lb.set_zeros_front] at HAX
        have HS10:Hid (SlU (w10.setCell ⟨g,m,none⟩ (.int .u32 (d:Int))) (.slice a10 n10 c10) (Lb.limbs (R1 % (Lb.val b*s)))):=Lib.hid (s10.but ((But.refl g w10).set m _) HNE10.out)
        have HB11:=Lib.hid (HB10.out.set m (.int .u32 (d:Int)))
        clear hml s10 x10 hb10
        go_wp2_with fail
        go_roundw
        case rel=>exact ⟨m,_,d :: Q,_,rfl,rfl,by omega,by rw [HDQ.out]; exact HP2,HS10,HNE10,HAX,HB11⟩
        case measure=>simp [intOf]
    ·have hq5:decide (((ya:Int)*1000000000+yb) / (T:Int) > 999999999)=false:=by rw [E7.out]; simp only [decide_eq_false_iff_not]; omega
     have HBIG:Hid (¬ (ya*1000000000+yb) / T > 999999999):=Lib.hid hbig
     have hw3:((ya:Int)*1000000000+yb) / (T:Int) % 4294967296=((ya:Int)*1000000000+yb) / (T:Int):=Int.emod_eq_of_lt HE5.out (by rw [E7.out]; omega)
     clear hbig
     as_aux_lemma =>
      have hDD:(ya*1000000000+yb) / T < 1000000000:=by have:=HBIG.out; omega
      have hQD:R1 / (Lb.val b*s) <= (ya*1000000000+yb) / T:=by rw [HHH.out]; exact HES.out
      have HEQ:Hid ((((ya:Int)*1000000000+yb) / (T:Int):Int)=(((ya*1000000000+yb) / T:Nat):Int)):=Lib.hid (E7.out)
      have HBY:Hid (Calls Tryz.prog 123 #[.slice (some ⟨gv,ov,none⟩) (n+1) cv,.int .u32 (((ya:Int)*1000000000+yb) / (T:Int))] w6 (RetF w6 (Lb.limbs (Lb.val b*s*((ya*1000000000+yb) / T))))):=Lib.hid (by
       rw [HEQ.out]
       have h:=rby_any _ _ ((ya*1000000000+yb) / T) w6 HV6.out HVN.out.1 (by rw [HVL.out]; omega) hDD
       rwa [Lb.val_limbs] at h)
      have HDD:=Lib.hid hDD; have HQD:=Lib.hid hQD
      clear hDD hQD
      obtain ⟨wo,rfl⟩:∃ wo:World,wo=wr:=⟨_,rfl⟩
      go_wp2_with fail
      refine HBY.out.mono ?_
      rintro e w8 ⟨a8,n8,c8,rfl,s8,x8,-⟩
      clear HBY
      go_wp2_with fail
      go_loopw [16,17] (fun dv pv wr=>∃ (d:Nat),dv=.int .u64 (d:Int)/\d < 1000000000/\Hid (R1 / (Lb.val b*s) <= d)/\Hid (SlU wr pv (Lb.limbs (Lb.val b*s*d)))/\Hid (Ext w6 wr)) (fun dv _ _=>(intOf dv).toNat)
      case atStart=>exact ⟨(ya*1000000000+yb) / T,by rw [HEQ.out],HDD.out,HQD,Lib.hid s8,Lib.hid x8⟩
      case round =>
       clear HEQ HDD HQD s8 x8
       obtain ⟨d,rfl,hd,HQD,HPR,HXI⟩:=hrel
       obtain ⟨pa,pn,pc,rfl,hpn⟩:=HPR.out.form'
       have HPL:Hid ((Lb.limbs (Lb.val b*s*d)).length <= n+2/\(Lb.limbs R1).length <= n+2):=Lib.hid ⟨Lb.limbs_length (by
        have h1:=HSV.out
        rw [Nat.pow_succ]
        exact Nat.mul_lt_mul_of_lt_of_le h1 (by rw [Lb.B_eq]; omega) (by rw [Lb.B_eq]; omega)),by first | exact hn72 | (rw [<- HL7.out]; exact hn72)⟩
       have HC:=Lib.hid (rcmp_any _ _ _ _ wr HPR.out (HS7.out.later HXI.out) (Lb.norm_limbs _) (Lb.norm_limbs _) (by have:=HPL.out; omega) (by have:=HPL.out; omega))
       rw [Lb.val_limbs,Lb.val_limbs] at HC
       clear hpn
       by_cases hgt:R1 < Lb.val b*s*d
       ·have hq6:decide (cmpN (Lb.val b*s*d) R1 > 0)=true:=by rw [cmpN_gt hgt]; rfl
        have hd0:0 < d:=by
         rcases Nat.eq_zero_or_pos d with h | h
         ·subst h; simp at hgt
         ·exact h
        have HD1:Hid (R1 / (Lb.val b*s) <= d - 1):=Lib.hid (by
         have h:=(Nat.div_lt_iff_lt_mul HV0.out).2 (by rw [Nat.mul_comm]; exact hgt)
         omega)
        have HLE2:Hid (Lb.val b*s <= Lb.val b*s*d):=Lib.hid (by
         have:=Nat.mul_le_mul_left (Lb.val b*s) hd0
         rwa [Nat.mul_one] at this)
        have HSUB:Hid (Lb.val b*s*d - Lb.val b*s=Lb.val b*s*(d - 1)):=Lib.hid (by rw [Nat.mul_sub,Nat.mul_one])
        have e9:((d - 1:Nat):Int)=(d:Int) - 1:=by omega
        have E9:=Lib.hid e9
        clear hgt e9
        generalize cmpN (Lb.val b*s*d) R1=cmp at *
        go_wp2_with fail
        refine HC.out.mono ?_
        rintro e w9 ⟨rfl,x9⟩
        have HMI:=Lib.hid (rminus_any _ _ _ _ w9 (HPR.out.later x9) (HV6.out.later (HXI.out.trans x9)) (Lb.norm_limbs _).1 HVN.out.1 (by have:=HPL.out; omega) (Lb.limbs_mono HLE2.out) (by rw [Lb.val_limbs,Lb.val_limbs]; exact HLE2.out))
        rw [Lb.val_limbs,Lb.val_limbs,HSUB.out] at HMI
        have HX9:=Lib.hid (HXI.out.trans x9)
        clear x9 HC
        go_wp2_with fail
        refine HMI.out.mono ?_
        rintro e w10 ⟨a10,n10,c10,rfl,s10,x10,-⟩
        go_wp2_with fail
        go_roundw
        case rel=>exact ⟨d - 1,by rw [E9.out],by omega,HD1,Lib.hid s10,Lib.hid (HX9.out.trans x10)⟩
        case measure=>simp [intOf]; omega
       ·have hq6:decide (cmpN (Lb.val b*s*d) R1 > 0)=false:=by
         rcases Nat.lt_or_ge (Lb.val b*s*d) R1 with h | h
         ·rw [cmpN_lt h]; rfl
         ·rw [cmpN_eq (by omega)]; rfl
        have HLE2:Hid (Lb.val b*s*d <= R1):=Lib.hid (by omega)
        have HDQ:Hid (d=R1 / (Lb.val b*s)):=Lib.hid (Lb.est_done HLE2.out HV0.out HQD.out)
        have HSUB:Hid (R1 - Lb.val b*s*d=R1 % (Lb.val b*s)):=Lib.hid (by
         have h:=Nat.div_add_mod R1 (Lb.val b*s)
         rw [<- HDQ.out] at h
         omega)
        clear hgt
        generalize cmpN (Lb.val b*s*d) R1=cmp at *
        go_wp2_with fail
        refine HC.out.mono ?_
        rintro e w9 ⟨rfl,x9⟩
        have HMI:=Lib.hid (rminus_any _ _ _ _ w9 (HS7.out.later (HXI.out.trans x9)) (HPR.out.later x9) (Lb.norm_limbs _).1 (Lb.norm_limbs _).1 (by have:=HPL.out; omega) (Lb.limbs_mono HLE2.out) (by rw [Lb.val_limbs,Lb.val_limbs]; exact HLE2.out))
        rw [Lb.val_limbs,Lb.val_limbs,HSUB.out] at HMI
        have HX9:=Lib.hid (HXI.out.trans x9)
        clear x9 HC
        go_wp2_with fail
        refine HMI.out.mono ?_
        rintro e w10 ⟨a10,n10,c10,rfl,s10,x10,hb10⟩
        have HX10:=Lib.hid (HX9.out.trans x10)
        have HA10:=Lib.hid (HA6.out.ext HX10.out)
        have HB10:=Lib.hid (HB.out.later (HX6.out.trans HX10.out))
        have HNE10:Hid ((Value.slice a10 n10 c10).ownBlock ≠ some g):=Lib.hid (fun e=>by have h1:=hb10 g e; have h2:=HGR.out; have h3:=HX6.out.size; have h4:=HX9.out.size; omega)
        have hml:m < (List.replicate (m+1) 0 ++ (Q ++ List.replicate (a.length+1 - U.length) 0)).length:=by simp; omega
        have cs:=HA10.out.cell m hml
        have fs:=HA10.out.free m
        generalize ((List.replicate (m+1) 0 ++ (Q ++ List.replicate (a.length+1 - U.length) 0))[m]:Int)=old at cs
        have HAX:=Lib.hid (HA10.out.set m d)
        rw [Lb.set_zeros_front] at HAX
        have HS10:Hid (SlU (w10.setCell ⟨g,m,none⟩ (.int .u32 (d:Int))) (.slice a10 n10 c10) (Lb.limbs (R1 % (Lb.val b*s)))):=Lib.hid (s10.but ((But.refl g w10).set m _) HNE10.out)
        have HB11:=Lib.hid (HB10.out.set m (.int .u32 (d:Int)))
        clear hml s10 x10 hb10
        go_wp2_with fail
        go_roundw
        case rel=>exact ⟨m,_,d :: Q,_,rfl,rfl,by omega,by rw [HDQ.out]; exact HP2,HS10,HNE10,HAX,HB11⟩
        case measure=>simp [intOf]
   ·have hq3:decide ((n7:Int) > (n:Int)+1)=false:=by simp; omega
    by_cases hc2:n < n7
    ·have hq4:decide ((n7:Int) >= (n:Int)+1)=true:=by simp; omega
     obtain ⟨g8,o8,c8',he8,hg8,hc70⟩:=getD_cell HS7.out n (by rw [<- HL7.out]; omega)
     cases he8
     have HH:=HHS.out
     rw [dif_neg (by rw [<- HL7.out]; exact hc1),dif_pos (by rw [<- HL7.out]; omega)] at HH
     have hy0:(Lb.limbs R1)[n]'(by rw [<- HL7.out]; omega) < 1000000000:=Lb.lt_get (Lb.norm_limbs R1).1 _ _
     generalize (Lb.limbs R1)[n]'(by rw [<- HL7.out]; omega)=yb at *
     clear hc1 hg8
     have HHH:Hid (yb=R1 / Lb.B ^ n):=Lib.hid (by have h:=HH; rw [Lb.B_eq] at h ⊢; omega)
     have e5:0 <= ((yb:Int)) / (T:Int):=Int.ediv_nonneg (by omega) (by omega)
     have e6:((yb:Int)) / (T:Int) < 1000000001000000000:=Int.lt_of_le_of_lt (Int.ediv_le_self _ (by omega)) (by omega)
     have E7:Hid (((yb:Int)) / (T:Int)=(((yb) / T:Nat):Int)):=Lib.hid (by simp)
     have hw:IntKind.u64.wrap (((yb:Int)) / (T:Int))=((yb:Int)) / (T:Int):=by rw [IntKind.wrap_u64]; exact Int.emod_eq_of_lt e5 (by omega)
     have HE5:=Lib.hid e5
     clear HHS HH e5 e6
     by_cases hbig:(yb) / T > 999999999
     ·have hq5:decide (((yb:Int)) / (T:Int) > 999999999)=true:=by rw [E7.out]; simp only [decide_eq_true_eq]; omega
      clear hbig
      as_aux_lemma =>
       have hDD:999999999 < 1000000000:=by omega
       have hQD:R1 / (Lb.val b*s) <= 999999999:=by have:=HQ1.out; omega
       have HEQ:Hid ((999999999:Int)=((999999999:Nat):Int)):=Lib.hid (rfl)
       have HBY:Hid (Calls Tryz.prog 123 #[.slice (some ⟨gv,ov,none⟩) (n+1) cv,.int .u32 (999999999)] w6 (RetF w6 (Lb.limbs (Lb.val b*s*(999999999))))):=Lib.hid (by
        rw [HEQ.out]
        have h:=rby_any _ _ (999999999) w6 HV6.out HVN.out.1 (by rw [HVL.out]; omega) hDD
        rwa [Lb.val_limbs] at h)
       have HDD:=Lib.hid hDD; have HQD:=Lib.hid hQD
       clear hDD hQD
       obtain ⟨wo,rfl⟩:∃ wo:World,wo=wr:=⟨_,rfl⟩
       go_wp2_with fail
       refine HBY.out.mono ?_
       rintro e w8 ⟨a8,n8,c8,rfl,s8,x8,-⟩
       clear HBY
       go_wp2_with fail
       go_loopw [16,17] (fun dv pv wr=>∃ (d:Nat),dv=.int .u64 (d:Int)/\d < 1000000000/\Hid (R1 / (Lb.val b*s) <= d)/\Hid (SlU wr pv (Lb.limbs (Lb.val b*s*d)))/\Hid (Ext w6 wr)) (fun dv _ _=>(intOf dv).toNat)
       case atStart=>exact ⟨999999999,by rw [HEQ.out],HDD.out,HQD,Lib.hid s8,Lib.hid x8⟩
       case round =>
        clear HEQ HDD HQD s8 x8
        obtain ⟨d,rfl,hd,HQD,HPR,HXI⟩:=hrel
        obtain ⟨pa,pn,pc,rfl,hpn⟩:=HPR.out.form'
        have HPL:Hid ((Lb.limbs (Lb.val b*s*d)).length <= n+2/\(Lb.limbs R1).length <= n+2):=Lib.hid ⟨Lb.limbs_length (by
         have h1:=HSV.out
         rw [Nat.pow_succ]
         exact Nat.mul_lt_mul_of_lt_of_le h1 (by rw [Lb.B_eq]; omega) (by rw [Lb.B_eq]; omega)),by first | exact hn72 | (rw [<- HL7.out]; exact hn72)⟩
        have HC:=Lib.hid (rcmp_any _ _ _ _ wr HPR.out (HS7.out.later HXI.out) (Lb.norm_limbs _) (Lb.norm_limbs _) (by have:=HPL.out; omega) (by have:=HPL.out; omega))
        rw [Lb.val_limbs,Lb.val_limbs] at HC
        clear hpn
        by_cases hgt:R1 < Lb.val b*s*d
        ·have hq6:decide (cmpN (Lb.val b*s*d) R1 > 0)=true:=by rw [cmpN_gt hgt]; rfl
         have hd0:0 < d:=by
          rcases Nat.eq_zero_or_pos d with h | h
          ·subst h; simp at hgt
          ·exact h
         have HD1:Hid (R1 / (Lb.val b*s) <= d - 1):=Lib.hid (by
          have h:=(Nat.div_lt_iff_lt_mul HV0.out).2 (by rw [Nat.mul_comm]; exact hgt)
          omega)
         have HLE2:Hid (Lb.val b*s <= Lb.val b*s*d):=Lib.hid (by
          have:=Nat.mul_le_mul_left (Lb.val b*s) hd0
          rwa [Nat.mul_one] at this)
         have HSUB:Hid (Lb.val b*s*d - Lb.val b*s=Lb.val b*s*(d - 1)):=Lib.hid (by rw [Nat.mul_sub,Nat.mul_one])
         have e9:((d - 1:Nat):Int)=(d:Int) - 1:=by omega
         have E9:=Lib.hid e9
         clear hgt e9
         generalize cmpN (Lb.val b*s*d) R1=cmp at *
         go_wp2_with fail
         refine HC.out.mono ?_
         rintro e w9 ⟨rfl,x9⟩
         have HMI:=Lib.hid (rminus_any _ _ _ _ w9 (HPR.out.later x9) (HV6.out.later (HXI.out.trans x9)) (Lb.norm_limbs _).1 HVN.out.1 (by have:=HPL.out; omega) (Lb.limbs_mono HLE2.out) (by rw [Lb.val_limbs,Lb.val_limbs]; exact HLE2.out))
         rw [Lb.val_limbs,Lb.val_limbs,HSUB.out] at HMI
         have HX9:=Lib.hid (HXI.out.trans x9)
         clear x9 HC
         go_wp2_with fail
         refine HMI.out.mono ?_
         rintro e w10 ⟨a10,n10,c10,rfl,s10,x10,-⟩
         go_wp2_with fail
         go_roundw
         case rel=>exact ⟨d - 1,by rw [E9.out],by omega,HD1,Lib.hid s10,Lib.hid (HX9.out.trans x10)⟩
         case measure=>simp [intOf]; omega
        ·have hq6:decide (cmpN (Lb.val b*s*d) R1 > 0)=false:=by
          rcases Nat.lt_or_ge (Lb.val b*s*d) R1 with h | h
          ·rw [cmpN_lt h]; rfl
          ·rw [cmpN_eq (by omega)]; rfl
         have HLE2:Hid (Lb.val b*s*d <= R1):=Lib.hid (by omega)
         have HDQ:Hid (d=R1 / (Lb.val b*s)):=Lib.hid (Lb.est_done HLE2.out HV0.out HQD.out)
         have HSUB:Hid (R1 - Lb.val b*s*d=R1 % (Lb.val b*s)):=Lib.hid (by
          have h:=Nat.div_add_mod R1 (Lb.val b*s)
          rw [<- HDQ.out] at h
          omega)
         clear hgt
         generalize cmpN (Lb.val b*s*d) R1=cmp at *
         go_wp2_with fail
         refine HC.out.mono ?_
         rintro e w9 ⟨rfl,x9⟩
         have HMI:=Lib.hid (rminus_any _ _ _ _ w9 (HS7.out.later (HXI.out.trans x9)) (HPR.out.later x9) (Lb.norm_limbs _).1 (Lb.norm_limbs _).1 (by have:=HPL.out; omega) (Lb.limbs_mono HLE2.out) (by rw [Lb.val_limbs,Lb.val_limbs]; exact HLE2.out))
         rw [Lb.val_limbs,Lb.val_limbs,HSUB.out] at HMI
         have HX9:=Lib.hid (HXI.out.trans x9)
         clear x9 HC
         go_wp2_with fail
         refine HMI.out.mono ?_
         rintro e w10 ⟨a10,n10,c10,rfl,s10,x10,hb10⟩
         have HX10:=Lib.hid (HX9.out.trans x10)
         have HA10:=Lib.hid (HA6.out.ext HX10.out)
         have HB10:=Lib.hid (HB.out.later (HX6.out.trans HX10.out))
         have HNE10:Hid ((Value.slice a10 n10 c10).ownBlock ≠ some g):=Lib.hid (fun e=>by have h1:=hb10 g e; have h2:=HGR.out; have h3:=HX6.out.size; have h4:=HX9.out.size; omega)
         have hml:m < (List.replicate (m+1) 0 ++ (Q ++ List.replicate (a.length+1 - U.length) 0)).length:=by simp; omega
         have cs:=HA10.out.cell m hml
         have fs:=HA10.out.free m
         generalize ((List.replicate (m+1) 0 ++ (Q ++ List.replicate (a.length+1 - U.length) 0))[m]:Int)=old at cs
         have HAX:=Lib.hid (HA10.out.set m d)
         rw [Lb.set_zeros_front] at HAX
         have HS10:Hid (SlU (w10.setCell ⟨g,m,none⟩ (.int .u32 (d:Int))) (.slice a10 n10 c10) (Lb.limbs (R1 % (Lb.val b*s)))):=Lib.hid (s10.but ((But.refl g w10).set m _) HNE10.out)
         have HB11:=Lib.hid (HB10.out.set m (.int .u32 (d:Int)))
         clear hml s10 x10 hb10
         go_wp2_with fail
         go_roundw
         case rel=>exact ⟨m,_,d :: Q,_,rfl,rfl,by omega,by rw [HDQ.out]; exact HP2,HS10,HNE10,HAX,HB11⟩
         case measure=>simp [intOf]
     ·have hq5:decide (((yb:Int)) / (T:Int) > 999999999)=false:=by rw [E7.out]; simp only [decide_eq_false_iff_not]; omega
      have HBIG:Hid (¬ (yb) / T > 999999999):=Lib.hid hbig
      have hw3:((yb:Int)) / (T:Int) % 4294967296=((yb:Int)) / (T:Int):=Int.emod_eq_of_lt HE5.out (by rw [E7.out]; omega)
      clear hbig
      as_aux_lemma =>
       have hDD:(yb) / T < 1000000000:=by have:=HBIG.out; omega
       have hQD:R1 / (Lb.val b*s) <= (yb) / T:=by rw [HHH.out]; exact HES.out
       have HEQ:Hid ((((yb:Int)) / (T:Int):Int)=(((yb) / T:Nat):Int)):=Lib.hid (E7.out)
       have HBY:Hid (Calls Tryz.prog 123 #[.slice (some ⟨gv,ov,none⟩) (n+1) cv,.int .u32 (((yb:Int)) / (T:Int))] w6 (RetF w6 (Lb.limbs (Lb.val b*s*((yb) / T))))):=Lib.hid (by
        rw [HEQ.out]
        have h:=rby_any _ _ ((yb) / T) w6 HV6.out HVN.out.1 (by rw [HVL.out]; omega) hDD
        rwa [Lb.val_limbs] at h)
       have HDD:=Lib.hid hDD; have HQD:=Lib.hid hQD
       clear hDD hQD
       obtain ⟨wo,rfl⟩:∃ wo:World,wo=wr:=⟨_,rfl⟩
       go_wp2_with fail
       refine HBY.out.mono ?_
       rintro e w8 ⟨a8,n8,c8,rfl,s8,x8,-⟩
       clear HBY
       go_wp2_with fail
       go_loopw [16,17] (fun dv pv wr=>∃ (d:Nat),dv=.int .u64 (d:Int)/\d < 1000000000/\Hid (R1 / (Lb.val b*s) <= d)/\Hid (SlU wr pv (Lb.limbs (Lb.val b*s*d)))/\Hid (Ext w6 wr)) (fun dv _ _=>(intOf dv).toNat)
       case atStart=>exact ⟨(yb) / T,by rw [HEQ.out],HDD.out,HQD,Lib.hid s8,Lib.hid x8⟩
       case round =>
        clear HEQ HDD HQD s8 x8
        obtain ⟨d,rfl,hd,HQD,HPR,HXI⟩:=hrel
        obtain ⟨pa,pn,pc,rfl,hpn⟩:=HPR.out.form'
        have HPL:Hid ((Lb.limbs (Lb.val b*s*d)).length <= n+2/\(Lb.limbs R1).length <= n+2):=Lib.hid ⟨Lb.limbs_length (by
         have h1:=HSV.out
         rw [Nat.pow_succ]
         exact Nat.mul_lt_mul_of_lt_of_le h1 (by rw [Lb.B_eq]; omega) (by rw [Lb.B_eq]; omega)),by first | exact hn72 | (rw [<- HL7.out]; exact hn72)⟩
        have HC:=Lib.hid (rcmp_any _ _ _ _ wr HPR.out (HS7.out.later HXI.out) (Lb.norm_limbs _) (Lb.norm_limbs _) (by have:=HPL.out; omega) (by have:=HPL.out; omega))
        rw [Lb.val_limbs,Lb.val_limbs] at HC
        clear hpn
        by_cases hgt:R1 < Lb.val b*s*d
        ·have hq6:decide (cmpN (Lb.val b*s*d) R1 > 0)=true:=by rw [cmpN_gt hgt]; rfl
         have hd0:0 < d:=by
          rcases Nat.eq_zero_or_pos d with h | h
          ·subst h; simp at hgt
          ·exact h
         have HD1:Hid (R1 / (Lb.val b*s) <= d - 1):=Lib.hid (by
          have h:=(Nat.div_lt_iff_lt_mul HV0.out).2 (by rw [Nat.mul_comm]; exact hgt)
          omega)
         have HLE2:Hid (Lb.val b*s <= Lb.val b*s*d):=Lib.hid (by
          have:=Nat.mul_le_mul_left (Lb.val b*s) hd0
          rwa [Nat.mul_one] at this)
         have HSUB:Hid (Lb.val b*s*d - Lb.val b*s=Lb.val b*s*(d - 1)):=Lib.hid (by rw [Nat.mul_sub,Nat.mul_one])
         have e9:((d - 1:Nat):Int)=(d:Int) - 1:=by omega
         have E9:=Lib.hid e9
         clear hgt e9
         generalize cmpN (Lb.val b*s*d) R1=cmp at *
         go_wp2_with fail
         refine HC.out.mono ?_
         rintro e w9 ⟨rfl,x9⟩
         have HMI:=Lib.hid (rminus_any _ _ _ _ w9 (HPR.out.later x9) (HV6.out.later (HXI.out.trans x9)) (Lb.norm_limbs _).1 HVN.out.1 (by have:=HPL.out; omega) (Lb.limbs_mono HLE2.out) (by rw [Lb.val_limbs,Lb.val_limbs]; exact HLE2.out))
         rw [Lb.val_limbs,Lb.val_limbs,HSUB.out] at HMI
         have HX9:=Lib.hid (HXI.out.trans x9)
         clear x9 HC
         go_wp2_with fail
         refine HMI.out.mono ?_
         rintro e w10 ⟨a10,n10,c10,rfl,s10,x10,-⟩
         go_wp2_with fail
         go_roundw
         case rel=>exact ⟨d - 1,by rw [E9.out],by omega,HD1,Lib.hid s10,Lib.hid (HX9.out.trans x10)⟩
         case measure=>simp [intOf]; omega
        ·have hq6:decide (cmpN (Lb.val b*s*d) R1 > 0)=false:=by
          rcases Nat.lt_or_ge (Lb.val b*s*d) R1 with h | h
          ·rw [cmpN_lt h]; rfl
          ·rw [cmpN_eq (by omega)]; rfl
         have HLE2:Hid (Lb.val b*s*d <= R1):=Lib.hid (by omega)
         have HDQ:Hid (d=R1 / (Lb.val b*s)):=Lib.hid (Lb.est_done HLE2.out HV0.out HQD.out)
         have HSUB:Hid (R1 - Lb.val b*s*d=R1 % (Lb.val b*s)):=Lib.hid (by
          have h:=Nat.div_add_mod R1 (Lb.val b*s)
          rw [<- HDQ.out] at h
          omega)
         clear hgt
         generalize cmpN (Lb.val b*s*d) R1=cmp at *
         go_wp2_with fail
         refine HC.out.mono ?_
         rintro e w9 ⟨rfl,x9⟩
         have HMI:=Lib.hid (rminus_any _ _ _ _ w9 (HS7.out.later (HXI.out.trans x9)) (HPR.out.later x9) (Lb.norm_limbs _).1 (Lb.norm_limbs _).1 (by have:=HPL.out; omega) (Lb.limbs_mono HLE2.out) (by rw [Lb.val_limbs,Lb.val_limbs]; exact HLE2.out))
         rw [Lb.val_limbs,Lb.val_limbs,HSUB.out] at HMI
         have HX9:=Lib.hid (HXI.out.trans x9)
         clear x9 HC
         go_wp2_with fail
         refine HMI.out.mono ?_
         rintro e w10 ⟨a10,n10,c10,rfl,s10,x10,hb10⟩
         have HX10:=Lib.hid (HX9.out.trans x10)
         have HA10:=Lib.hid (HA6.out.ext HX10.out)
         have HB10:=Lib.hid (HB.out.later (HX6.out.trans HX10.out))
         have HNE10:Hid ((Value.slice a10 n10 c10).ownBlock ≠ some g):=Lib.hid (fun e=>by have h1:=hb10 g e; have h2:=HGR.out; have h3:=HX6.out.size; have h4:=HX9.out.size; omega)
         have hml:m < (List.replicate (m+1) 0 ++ (Q ++ List.replicate (a.length+1 - U.length) 0)).length:=by simp; omega
         have cs:=HA10.out.cell m hml
         have fs:=HA10.out.free m
         generalize ((List.replicate (m+1) 0 ++ (Q ++ List.replicate (a.length+1 - U.length) 0))[m]:Int)=old at cs
         have HAX:=Lib.hid (HA10.out.set m d)
         rw [Lb.set_zeros_front] at HAX
         have HS10:Hid (SlU (w10.setCell ⟨g,m,none⟩ (.int .u32 (d:Int))) (.slice a10 n10 c10) (Lb.limbs (R1 % (Lb.val b*s)))):=Lib.hid (s10.but ((But.refl g w10).set m _) HNE10.out)
         have HB11:=Lib.hid (HB10.out.set m (.int .u32 (d:Int)))
         clear hml s10 x10 hb10
         go_wp2_with fail
         go_roundw
         case rel=>exact ⟨m,_,d :: Q,_,rfl,rfl,by omega,by rw [HDQ.out]; exact HP2,HS10,HNE10,HAX,HB11⟩
         case measure=>simp [intOf]
    ·have hq4:decide ((n7:Int) >= (n:Int)+1)=false:=by simp; omega
     have HH:=HHS.out
     rw [dif_neg (by rw [<- HL7.out]; exact hc1),dif_neg (by rw [<- HL7.out]; omega)] at HH
     have HHH:Hid (R1 / Lb.B ^ n=0):=Lib.hid (by rw [<- HH])
     clear HHS HH hc1 hc2
     as_aux_lemma =>
      have hDD:0 < 1000000000:=by omega
      have hQD:R1 / (Lb.val b*s) <= 0:=by have h:=HES.out; rw [HHH.out] at h; simpa using h
      have HEQ:Hid ((0:Int)=((0:Nat):Int)):=Lib.hid (rfl)
      have HBY:Hid (Calls Tryz.prog 123 #[.slice (some ⟨gv,ov,none⟩) (n+1) cv,.int .u32 (0)] w6 (RetF w6 (Lb.limbs (Lb.val b*s*(0))))):=Lib.hid (by
       rw [HEQ.out]
       have h:=rby_any _ _ (0) w6 HV6.out HVN.out.1 (by rw [HVL.out]; omega) hDD
       rwa [Lb.val_limbs] at h)
      have HDD:=Lib.hid hDD; have HQD:=Lib.hid hQD
      clear hDD hQD
      obtain ⟨wo,rfl⟩:∃ wo:World,wo=wr:=⟨_,rfl⟩
      go_wp2_with fail
      refine HBY.out.mono ?_
      rintro e w8 ⟨a8,n8,c8,rfl,s8,x8,-⟩
      clear HBY
      go_wp2_with fail
      go_loopw [16,17] (fun dv pv wr=>∃ (d:Nat),dv=.int .u64 (d:Int)/\d < 1000000000/\Hid (R1 / (Lb.val b*s) <= d)/\Hid (SlU wr pv (Lb.limbs (Lb.val b*s*d)))/\Hid (Ext w6 wr)) (fun dv _ _=>(intOf dv).toNat)
      case atStart=>exact ⟨0,by rw [HEQ.out],HDD.out,HQD,Lib.hid s8,Lib.hid x8⟩
      case round =>
       clear HEQ HDD HQD s8 x8
       obtain ⟨d,rfl,hd,HQD,HPR,HXI⟩:=hrel
       obtain ⟨pa,pn,pc,rfl,hpn⟩:=HPR.out.form'
       have HPL:Hid ((Lb.limbs (Lb.val b*s*d)).length <= n+2/\(Lb.limbs R1).length <= n+2):=Lib.hid ⟨Lb.limbs_length (by
        have h1:=HSV.out
        rw [Nat.pow_succ]
        exact Nat.mul_lt_mul_of_lt_of_le h1 (by rw [Lb.B_eq]; omega) (by rw [Lb.B_eq]; omega)),by first | exact hn72 | (rw [<- HL7.out]; exact hn72)⟩
       have HC:=Lib.hid (rcmp_any _ _ _ _ wr HPR.out (HS7.out.later HXI.out) (Lb.norm_limbs _) (Lb.norm_limbs _) (by have:=HPL.out; omega) (by have:=HPL.out; omega))
       rw [Lb.val_limbs,Lb.val_limbs] at HC
       clear hpn
       by_cases hgt:R1 < Lb.val b*s*d
       ·have hq6:decide (cmpN (Lb.val b*s*d) R1 > 0)=true:=by rw [cmpN_gt hgt]; rfl
        have hd0:0 < d:=by
         rcases Nat.eq_zero_or_pos d with h | h
         ·subst h; simp at hgt
         ·exact h
        have HD1:Hid (R1 / (Lb.val b*s) <= d - 1):=Lib.hid (by
         have h:=(Nat.div_lt_iff_lt_mul HV0.out).2 (by rw [Nat.mul_comm]; exact hgt)
         omega)
        have HLE2:Hid (Lb.val b*s <= Lb.val b*s*d):=Lib.hid (by
         have:=Nat.mul_le_mul_left (Lb.val b*s) hd0
         rwa [Nat.mul_one] at this)
        have HSUB:Hid (Lb.val b*s*d - Lb.val b*s=Lb.val b*s*(d - 1)):=Lib.hid (by rw [Nat.mul_sub,Nat.mul_one])
        have e9:((d - 1:Nat):Int)=(d:Int) - 1:=by omega
        have E9:=Lib.hid e9
        clear hgt e9
        generalize cmpN (Lb.val b*s*d) R1=cmp at *
        go_wp2_with fail
        refine HC.out.mono ?_
        rintro e w9 ⟨rfl,x9⟩
        have HMI:=Lib.hid (rminus_any _ _ _ _ w9 (HPR.out.later x9) (HV6.out.later (HXI.out.trans x9)) (Lb.norm_limbs _).1 HVN.out.1 (by have:=HPL.out; omega) (Lb.limbs_mono HLE2.out) (by rw [Lb.val_limbs,Lb.val_limbs]; exact HLE2.out))
        rw [Lb.val_limbs,Lb.val_limbs,HSUB.out] at HMI
        have HX9:=Lib.hid (HXI.out.trans x9)
        clear x9 HC
        go_wp2_with fail
        refine HMI.out.mono ?_
        rintro e w10 ⟨a10,n10,c10,rfl,s10,x10,-⟩
        go_wp2_with fail
        go_roundw
        case rel=>exact ⟨d - 1,by rw [E9.out],by omega,HD1,Lib.hid s10,Lib.hid (HX9.out.trans x10)⟩
        case measure=>simp [intOf]; omega
       ·have hq6:decide (cmpN (Lb.val b*s*d) R1 > 0)=false:=by
         rcases Nat.lt_or_ge (Lb.val b*s*d) R1 with h | h
         ·rw [cmpN_lt h]; rfl
         ·rw [cmpN_eq (by omega)]; rfl
        have HLE2:Hid (Lb.val b*s*d <= R1):=Lib.hid (by omega)
        have HDQ:Hid (d=R1 / (Lb.val b*s)):=Lib.hid (Lb.est_done HLE2.out HV0.out HQD.out)
        have HSUB:Hid (R1 - Lb.val b*s*d=R1 % (Lb.val b*s)):=Lib.hid (by
         have h:=Nat.div_add_mod R1 (Lb.val b*s)
         rw [<- HDQ.out] at h
         omega)
        clear hgt
        generalize cmpN (Lb.val b*s*d) R1=cmp at *
        go_wp2_with fail
        refine HC.out.mono ?_
        rintro e w9 ⟨rfl,x9⟩
        have HMI:=Lib.hid (rminus_any _ _ _ _ w9 (HS7.out.later (HXI.out.trans x9)) (HPR.out.later x9) (Lb.norm_limbs _).1 (Lb.norm_limbs _).1 (by have:=HPL.out; omega) (Lb.limbs_mono HLE2.out) (by rw [Lb.val_limbs,Lb.val_limbs]; exact HLE2.out))
        rw [Lb.val_limbs,Lb.val_limbs,HSUB.out] at HMI
        have HX9:=Lib.hid (HXI.out.trans x9)
        clear x9 HC
        go_wp2_with fail
        refine HMI.out.mono ?_
        rintro e w10 ⟨a10,n10,c10,rfl,s10,x10,hb10⟩
        have HX10:=Lib.hid (HX9.out.trans x10)
        have HA10:=Lib.hid (HA6.out.ext HX10.out)
        have HB10:=Lib.hid (HB.out.later (HX6.out.trans HX10.out))
        have HNE10:Hid ((Value.slice a10 n10 c10).ownBlock ≠ some g):=Lib.hid (fun e=>by have h1:=hb10 g e; have h2:=HGR.out; have h3:=HX6.out.size; have h4:=HX9.out.size; omega)
        have hml:m < (List.replicate (m+1) 0 ++ (Q ++ List.replicate (a.length+1 - U.length) 0)).length:=by simp; omega
        have cs:=HA10.out.cell m hml
        have fs:=HA10.out.free m
        generalize ((List.replicate (m+1) 0 ++ (Q ++ List.replicate (a.length+1 - U.length) 0))[m]:Int)=old at cs
        have HAX:=Lib.hid (HA10.out.set m d)
        rw [Lb.set_zeros_front] at HAX
        have HS10:Hid (SlU (w10.setCell ⟨g,m,none⟩ (.int .u32 (d:Int))) (.slice a10 n10 c10) (Lb.limbs (R1 % (Lb.val b*s)))):=Lib.hid (s10.but ((But.refl g w10).set m _) HNE10.out)
        have HB11:=Lib.hid (HB10.out.set m (.int .u32 (d:Int)))
        clear hml s10 x10 hb10
        go_wp2_with fail
        go_roundw
        case rel=>exact ⟨m,_,d :: Q,_,rfl,rfl,by omega,by rw [HDQ.out]; exact HP2,HS10,HNE10,HAX,HB11⟩
        case measure=>simp [intOf]
  ·obtain rfl:k=0:=by omega
   obtain rfl:j=-1:=by omega
   clear hj hk0
   have HSC:=Lib.hid (Lb.scaled_rem (a:=Lb.val a) (b:=Lb.val b) (s:=s) (Q:=Lb.val Q) (R:=R) (by have:=HP.out.val; rw [List.drop_zero,HUV.out] at this; exact this) HP.out.rlt)
   have HQL:Hid (Q.length=L/\Lb.Lt Q):=Lib.hid ⟨by have:=HP.out.len; rw [this,<- HLE.out]; rfl,HP.out.lt⟩
   have HRL:Hid ((Lb.limbs R).length <= n+1):=Lib.hid (Lb.limbs_length (Nat.lt_trans HP.out.rlt HSV.out))
   obtain ⟨ar,nr,cr,rfl,hnr⟩:=HR.out.form'
   have HNR:=Lib.hid hnr
   have hnr9:nr <= 90000001:=by rw [hnr]; have:=HRL.out; omega
   have hmk:=make_run nr (by omega)
   obtain ⟨W2,hW2,hA2,hE2,hz2⟩:=zeros_alloc wr nr
   have HA2:Hid (ArrU W2 wr.heap.size (List.replicate nr 0 ++ [])):=Lib.hid (by rw [List.append_nil]; exact hA2)
   have HB0:=Lib.hid (Lb.backAt_start (l:=Lb.limbs R) (s:=s) (by omega))
   rw [<- hnr] at HB0
   have HX2:=Lib.hid hE2; have HGW2:Hid (wr.heap.size < W2.heap.size):=Lib.hid hA2.lt
   have HRN:Hid (∀ b',(Value.slice ar nr cr).ownBlock=some b'->Lb.limbs R ≠ []->b' < wr.heap.size):=Lib.hid (fun b' e hne=>HR.out.blk e hne)
   have HRW:=Lib.hid (HR.out.later hE2)
   have HAW:=Lib.hid (HA.out.ext hE2)
   have HGA:Hid (g < wr.heap.size):=Lib.hid HA.out.lt
   clear hnr hA2 hE2 hz2 HP HUS HV4
   obtain ⟨wo,rfl⟩:∃ wo:World,wo=wr:=⟨_,rfl⟩
   go_wp2_with fail
   clear hmk hW2
   go_loopw [18,20] (fun c i wr=>∃ (k2:Nat) (j:Int) (o:List Nat) (cn:Nat),c=.int .u64 (cn:Int)/\i=.int .i64 j/\j=(k2:Int) - 1/\k2 <= nr/\Hid (Lb.BackAt (Lb.limbs R) s k2 o cn)/\Hid (ArrU wr wo.heap.size (List.replicate k2 0 ++ o))/\Hid (But wo.heap.size W2 wr)) (fun _ i _=>(intOf i+1).toNat)
   case atStart=>exact ⟨nr,_,[],0,rfl,rfl,by omega,Nat.le_refl _,HB0,HA2,Lib.hid (But.refl _ _)⟩
   case round =>
    clear HB0 HA2
    obtain ⟨k2,j,o,cn,rfl,rfl,hj,hk2,HP,HA2,HB2⟩:=hrel
    have HEW2:Hid (Ext wo wr):=Lib.hid (But.ext HX2.out HB2.out (Nat.le_refl _))
    have HRR:=Lib.hid (HR.out.later HEW2.out)
    by_cases hk0:0 < k2
    ·obtain ⟨m,rfl⟩:∃ m,k2=m+1:=⟨k2 - 1,by omega⟩
     obtain rfl:j=(m:Int):=by omega
     clear hj hk0
     have hmr:m < nr:=by omega
     have hml:m < (Lb.limbs R).length:=by rw [<- HNR.out]; exact hmr
     have HST:=Lib.hid (Lb.backAt_step (Lb.norm_limbs R).1 HP.out hml)
     have hx:(Lb.limbs R)[m] < 1000000000:=Lb.lt_get (Lb.norm_limbs R).1 m hml
     obtain ⟨gr,orr,cr',hre,hgr,hcr⟩:=getD_cell HRR.out m hml
     cases hre
     generalize (Lb.limbs R)[m]=x at *
     have hcn:cn < s:=HP.out.clt
     have hlen2:m < (List.replicate (m+1) 0 ++ o).length:=by simp; omega
     have cs:=HA2.out.cell m hlen2
     have fs:=HA2.out.free m
     generalize ((List.replicate (m+1) 0 ++ o)[m]:Int)=old at cs
     rw [Lb.B_eq] at HST
     have HDG:Hid ((cn*1000000000+x) / s < 1000000000):=Lib.hid HST.out.1
     have e5:0 <= ((cn:Int)*1000000000+x) / (s:Int):=Int.ediv_nonneg (by omega) (by omega)
     have E7:Hid (((cn:Int)*1000000000+x) / (s:Int)=(((cn*1000000000+x) / s:Nat):Int)):=Lib.hid (by simp)
     have E8:Hid (((cn:Int)*1000000000+x) % (s:Int)=(((cn*1000000000+x) % s:Nat):Int)):=Lib.hid (by simp)
     have e6:((cn:Int)*1000000000+x) / (s:Int) < 1000000000:=by rw [E7.out]; have:=HDG.out; omega
     have hw:IntKind.u64.wrap (((cn:Int)*1000000000+x) / (s:Int))=((cn:Int)*1000000000+x) / (s:Int):=by rw [IntKind.wrap_u64]; exact Int.emod_eq_of_lt e5 (by omega)
     have hw3:((cn:Int)*1000000000+x) / (s:Int) % 4294967296=((cn:Int)*1000000000+x) / (s:Int):=Int.emod_eq_of_lt e5 (by omega)
     have hsz:((s:Int) == 0)=false:=by simp; omega
     have hsn:¬ (s:Int)=0:=by omega
     have HAX:Hid (∀ u:Int,u=((cn:Int)*1000000000+x) / (s:Int)->ArrU (wr.setCell ⟨wo.heap.size,m,none⟩ (.int .u32 u)) wo.heap.size (List.replicate m 0 ++ ((cn*1000000000+x) / s :: o))):=Lib.hid (fun u hu=>by
      rw [E7.out] at hu
      subst hu
      have:=HA2.out.set m ((cn*1000000000+x) / s)
      rwa [Lb.set_zeros_front] at this)
     have HBX:Hid (∀ u:Value,But wo.heap.size W2 (wr.setCell ⟨wo.heap.size,m,none⟩ u)):=Lib.hid (fun u=>HB2.out.set m u)
     clear hlen2 e5 e6 hml HP
     go_wp2_with fail
     go_roundw
     case rel=>exact ⟨m,_,_,_,by rw [E8.out],rfl,rfl,by omega,Lib.hid HST.out.2,Lib.hid (HAX.out _ rfl),Lib.hid (HBX.out _)⟩
     case measure=>simp [intOf]
    ·obtain rfl:k2=0:=by omega
     obtain rfl:j=-1:=by omega
     clear hj hk0
     have HVO:=Lib.hid (Lb.backAt_done HP.out (by rw [Lb.val_limbs]; exact HSC.out.2))
     have HAG:Hid (ArrU wr g (Q ++ List.replicate (a.length+1 - L) 0)):=Lib.hid (by
      have h:=HAW.out
      have h2:=HB2.out.block g (by have:=HGA.out; have:=HGW2.out; omega) (by have:=HGA.out; omega)
      unfold ArrU at h ⊢
      rw [h2]
      simpa using h)
     have HSG2:Hid (SlU wr (.slice (some ⟨g,0,none⟩) L (a.length+1)) Q):=Lib.hid (by
      have h:=HAG.out.sl (n:=L) (cap:=a.length+1) (by simp [HQL.out.1]) (by omega)
      rwa [List.take_append_of_le_length (by rw [HQL.out.1]; exact Nat.le_refl _),List.take_of_length_le (by rw [HQL.out.1]; exact Nat.le_refl _)] at h)
     have HSO:Hid (SlU wr (.slice (some ⟨wo.heap.size,0,none⟩) nr nr) o):=Lib.hid (by
      have h:=HA2.out
      rw [List.replicate_zero,List.nil_append] at h
      exact h.all (by rw [HP.out.len,<- HNR.out]; rfl) (Nat.le_refl _))
     have HOL:Hid (o.length <= 1000000000/\Lb.Lt o):=Lib.hid ⟨by rw [HP.out.len,<- HNR.out]; omega,HP.out.lt⟩
     have HEF:Hid (Ext w wr):=Lib.hid (HEW.out.trans HEW2.out)
     clear HP HA2
     go_wp2_with fail
     refine (rtrim_blk _ _ _ HSG2.out (by rw [HQL.out.1]; omega)).mono ?_
     rintro e w11 ⟨v11,rfl,s11,-,rfl⟩
     obtain ⟨a11,c11,rfl⟩:=SlU.form s11
     go_wp2_with fail
     refine (rtrim_blk _ _ _ HSO.out HOL.out.1).mono ?_
     rintro e w12 ⟨v12,rfl,s12,-,rfl⟩
     obtain ⟨a12,c12,rfl⟩:=SlU.form s12
     go_wp2_with fail
     go_ret2
     refine ⟨_,_,rfl,?_,?_,HEF.out⟩
     ·rw [<- HSC.out.1,<- Lb.trim_eq HQL.out.2]; exact s11
     ·rw [<- HVO.out,<- Lb.trim_eq HOL.out.2]; exact s12
end Go.Proofs.YtkdjilgddbjcaaaGreat
