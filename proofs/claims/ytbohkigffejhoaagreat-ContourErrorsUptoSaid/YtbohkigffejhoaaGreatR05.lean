import Derived.Test.YtbohkigffejhoaaGreatR04
import Derived.LoopTactic
import Derived.Laws.AppendOwn
import Derived.Test.YtbohkigffejhoaaGreatChecked
namespace Go.Proofs.YtbohkigffejhoaaGreat
open Go.RowKit
set_option maxRecDepth 8000
def uC (x:Nat):List Value:=[.int .u32 x]
theorem a15 (x:Nat):(uC x).length=1:=rfl
theorem a3X (x:Nat):∀ u ∈ uC x,u.oneCell'=true:=by
 intro u h
 simp only [uC,List.mem_singleton] at h
 subst h; rfl
def SlU (w:World) (v:Value) (l:List Nat):Prop:=SlG 1 uC w v l
theorem SlU.later {w w':World} {v:Value} {l:List Nat} (h:SlU w v l) (he:Ext w w'):SlU w' v l:=SlG.later h he
theorem SlU.nil (w:World):SlU w (.slice none 0 0) []:=SlG.nil w
theorem SlU.cases {w:World} {v:Value} {l:List Nat} (h:SlU w v l) :
    (l=[]/\∃ a cap,v=.slice a 0 cap/\(a=none->cap=0)) \/
    (0 < l.length/\∃ b off cap,v=.slice (some ⟨b,off,none⟩) l.length cap/\l.length <= cap/\b < w.heap.size/\∀ i (hi:i < l.length),w.cell? ⟨b,off+i,none⟩=some (.int .u32 (l[i]:Int))):=by
 obtain ⟨a,n,cap,b,off,rfl,rfl,h3,h4,h5,h6⟩:=h
 rcases Nat.eq_zero_or_pos l.length with h0 | h0
 ·exact .inl ⟨List.length_eq_zero_iff.1 h0,a,cap,by rw [h0],h4⟩
 ·have h7:=h3.resolve_left (by omega)
  subst h7
  refine .inr ⟨h0,b,off,cap,rfl,h5,(h6 0 l[0] (by simp [h0])).1,fun i hi=>?_⟩
  have:=(h6 i l[i] (by simp [hi])).2 0 (.int .u32 l[i]) rfl
  rwa [Nat.mul_one,Nat.add_zero] at this
theorem SlU.mk {w:World} {b off n cap:Nat} {l:List Nat} (hn:n=l.length) (hc:n <= cap) (hb:0 < l.length->b < w.heap.size) (h:∀ i (hi:i < l.length),w.cell? ⟨b,off+i,none⟩=some (.int .u32 (l[i]:Int))):SlU w (.slice (some ⟨b,off,none⟩) n cap) l:=by
 subst hn
 refine ⟨_,_,cap,b,off,rfl,rfl,.inr rfl,fun h=>(by cases h),hc,fun i x hx=>?_⟩
 have hi:i < l.length:=by
  rcases Nat.lt_or_ge i l.length with h' | h'
  ·exact h'
  ·rw [List.getElem?_eq_none h'] at hx; cases hx
 have hxx:l[i]=x:=by simpa [hi] using hx
 refine ⟨hb (by omega),fun r u hu=>?_⟩
 cases r with
 | zero =>
   have:u=.int .u32 x:=by simpa [uC] using hu.symm
   subst this
   rw [Nat.mul_one,Nat.add_zero,<- hxx]
   exact h i hi
 | succ r=>simp [uC] at hu
theorem SlU.empty {w:World} {a:Option Addr} {cap:Nat} (h:a=none->cap=0):SlU w (.slice a 0 cap) [] :=
 ⟨a,0,cap,0,0,rfl,rfl,.inl rfl,h,Nat.zero_le _,fun i x hx=>by simp at hx⟩
def aHB (w:World) (l:List Nat) (e:Ending) (w':World):Prop:=∃ v,e=.returned v/\SlU w v l/\w=w'
def aBf (w:World) (v0:Value) (l:List Nat) (e:Ending) (w':World):Prop:=∃ v,e=.returned v/\SlU w v l/\v.ownBlock=v0.ownBlock/\w=w'
theorem a9I {l:List Nat} {j:Nat} (hj:j < l.length):l.take (j+1)=l.take j ++ [l[j]]:=List.take_succ_eq_append_getElem hj
set_option maxHeartbeats 1000000 in
theorem aEG (v:Value) (l:List Nat) (w:World) (h:SlU w v l) (hn:l.length <= 1000000000) :
    Calls Tryz.prog 281 #[v] w (aBf w v (Lb.trim l)):=by
 rcases h.cases with ⟨rfl,a,cap,rfl,hc⟩ | ⟨h0,b,off,cap,rfl,hcap,hb,hcell⟩
 ·go_enter Tryz.func281,Tryz.ntmps281
  go_wp2
  go_loop [0] (fun t=>t=.slice a 0 cap) (fun _=>0)
  case atStart=>rfl
  case round =>
   subst hrel
   go_wp2
   go_ret
   exact ⟨_,rfl,SlU.empty hc,rfl,rfl⟩
 ·have HC:=Lib.hid hcell
  have HL:=Lib.hid hcap
  clear hcell hcap h
  go_enter Tryz.func281,Tryz.ntmps281
  go_wp2
  go_loop [0] (fun t=>∃ m,m <= l.length/\t=.slice (some ⟨b,off,none⟩) m cap/\Lb.trim (l.take m)=Lb.trim l) (fun t=>match t with | .slice _ m _=>m | _=>0)
  case atStart=>exact ⟨l.length,Nat.le_refl _,rfl,by rw [List.take_length]⟩
  case round =>
   obtain ⟨m,hm,rfl,htr⟩:=hrel
   have HT:=Lib.hid htr
   clear htr
   cases m with
   | zero =>
     go_wp2
     go_ret
     refine ⟨_,rfl,?_,rfl,rfl⟩
     rw [<- HT.out]
     exact SlU.empty (fun h=>by cases h)
   | succ j =>
     have hj:j < l.length:=by omega
     have c:=HC.out j hj
     have hjc:j+1 <= cap:=by have:=HL.out; omega
     have hlast:=a9I hj
     by_cases hz:l[j]=0
     ·rw [hz] at c
      have HZ:Hid (Lb.trim (l.take j)=Lb.trim l):=Lib.hid (by rw [<- HT.out,hlast,hz,Lb.a3a])
      clear hlast hz
      go_wp2
      go_round
      case rel=>exact ⟨j,by omega,by go_num,HZ.out⟩
      case measure=>simp
     ·have hne:((l[j]:Int) == 0)=false:=by simp; omega
      have HZ:Hid (l.take (j+1)=Lb.trim l):=Lib.hid (by
       rw [<- HT.out,Lb.a4W]
       intro h
       simp only [hlast,List.getLast_concat]
       exact hz)
      generalize (l[j]:Int)=x at c hne
      clear hlast hz
      go_wp2
      go_ret
      refine ⟨_,rfl,?_,rfl,rfl⟩
      rw [<- HZ.out]
      refine SlU.mk (by simp; omega) hjc (fun _=>hb) fun i hi=>?_
      have hi':i < l.length:=by simp at hi; omega
      rw [HC.out i hi']
      simp
theorem a3s (v:Value) (l:List Nat) (w:World) (h:SlU w v l) (hn:l.length <= 1000000000) :
    Calls Tryz.prog 281 #[v] w (aHB w (Lb.trim l)):=(aEG v l w h hn).mono fun _ _ ⟨v',h1,h2,_,h4⟩=>⟨v',h1,h2,h4⟩
end Go.Proofs.YtbohkigffejhoaaGreat
namespace Go.Proofs.YtbohkigffejhoaaGreat
open Go.RowKit
set_option maxRecDepth 8000
def a3L (a b:Nat):Int:=if a < b then -1 else if b < a then 1 else 0
theorem a3k {a b:Nat} (h:a < b):a3L a b=-1:=if_pos h
theorem a3x {a b:Nat} (h:b < a):a3L a b=1:=by unfold a3L; rw [if_neg (by omega),if_pos h]
theorem a3V {a b:Nat} (h:a=b):a3L a b=0:=by unfold a3L; rw [if_neg (by omega),if_neg (by omega)]
theorem a4H {k:IntKind} {a b:Int} (h:a=b):Ending.returned (.int k a)=.returned (.int k b):=by rw [h]
set_option maxHeartbeats 4000000 in
theorem a6f (v1 v2:Value) (l1 l2:List Nat) (w:World) (h1:SlU w v1 l1) (h2:SlU w v2 l2) (k1:Lb.Lt l1) (k2:Lb.Lt l2) (n1:l1.length <= 1000000000) (n2:l2.length <= 1000000000) :
    Calls Tryz.prog 175 #[v1,v2] w fun e w'=>e=.returned (.int .i64 (a3L (Lb.val l1) (Lb.val l2)))/\Ext w w':=by
 have e1:=Lb.a2t l1; have e2:=Lb.a2t l2
 have m1:=Lb.a2P k1; have m2:=Lb.a2P k2
 have t1:=Lb.a2i l1; have t2:=Lb.a2i l2
 obtain ⟨c,hc⟩:∃ c,a3L (Lb.val l1) (Lb.val l2)=c:=⟨_,rfl⟩
 rw [hc]
 have HR:Hid (a3L (Lb.val (Lb.trim l1)) (Lb.val (Lb.trim l2))=c):=Lib.hid (by rw [e1,e2]; exact hc)
 have C1:=Lib.hid (a3s v1 l1 w h1 n1); have C2:=Lib.hid (a3s v2 l2 w h2 n2)
 clear e1 e2 h1 h2 hc
 go_enter Tryz.func175,Tryz.ntmps175
 go_wp2_with fail
 refine C1.out.mono ?_
 rintro e w1 ⟨x1,rfl,s1,rfl⟩
 go_wp2_with fail
 refine C2.out.mono ?_
 rintro e w1 ⟨x2,rfl,s2,rfl⟩
 clear C1 C2
 generalize Lb.trim l1=a at *
 generalize Lb.trim l2=b at *
 have HM1:=Lib.hid m1; have HM2:=Lib.hid m2
 clear m1 m2 k1 k2
 by_cases hlen:a.length=b.length
 ·have hne:((a.length:Int) != b.length)=false:=by simp [hlen]
  rcases s1.cases with ⟨rfl,p1,q1,rfl,r1⟩ | ⟨h01,b1,o1,q1,rfl,r1,hb1,c1⟩
  ·obtain rfl:b=[]:=List.length_eq_zero_iff.1 hlen.symm
   rcases s2.cases with ⟨_,p2,q2,rfl,r2⟩ | ⟨h02,_⟩
   rotate_left
   ·simp at h02
   clear r1 r2 hne
   go_wp2_with fail
   go_loop [5] (fun t=>t=.int .i64 (-1)) (fun _=>0)
   case atStart=>rfl
   case round =>
    subst hrel
    go_wp2_with fail
    go_ret
    exact ⟨a4H HR.out,Ext.refl _⟩
  ·rcases s2.cases with ⟨rfl,p2,q2,rfl,r2⟩ | ⟨h02,b2,o2,q2,rfl,r2,hb2,c2⟩
   ·simp at hlen; subst hlen; simp at h01
   rw [<- hlen]
   have HLEN:=Lib.hid hlen
   have HC1:=Lib.hid c1; have HC2:=Lib.hid c2
   have hne':((a.length:Int) != a.length)=false:=by simp
   clear hlen hne c1 c2 s1 s2 r1 r2
   go_wp2_with fail
   go_loopw [5] (fun t wr=>∃ j,j <= a.length/\t=.int .i64 ((j:Int) - 1)/\a.drop j=b.drop j/\Ext w wr) (fun t _=>(intOf t+1).toNat)
   case atStart=>exact ⟨a.length,Nat.le_refl _,rfl,by rw [List.drop_of_length_le (Nat.le_refl _),List.drop_of_length_le (by have:=HLEN.out; omega)],Ext.refl _⟩
   case round =>
    obtain ⟨j,hj,rfl,hd,hE⟩:=hrel
    have HD:=Lib.hid hd; have HE:=Lib.hid hE
    clear hd hE
    cases j with
    | zero =>
      have hz:Lb.val a=Lb.val b:=by have:=HD.out; simp at this; rw [this]
      have HZ:=Lib.hid ((a3V hz).symm.trans HR.out)
      clear hz
      go_wp2_with fail
      go_ret
      exact ⟨a4H HZ.out,HE.out⟩
    | succ i =>
      have hia:i < a.length:=by omega
      have hib:i < b.length:=by have:=HLEN.out; omega
      have d1:=Later.cell (HE.out.cell (p:=⟨b1,o1+i,none⟩) hb1 |>.trans (HC1.out i hia))
      have d2:=Later.cell (HE.out.cell (p:=⟨b2,o2+i,none⟩) hb2 |>.trans (HC2.out i hib))
      have hii:((i+1:Nat):Int) - 1=i:=by omega
      rw [hii]
      clear hii
      have HX:Hid (∀ c,(a[i] < b[i]->c=(-1:Int))->(b[i] < a[i]->c=1)->a[i] ≠ b[i]->a3L (Lb.val a) (Lb.val b)=c):=Lib.hid (fun c f1 f2 f3=>by
       rcases Nat.lt_trichotomy a[i] b[i] with h | h | h
       ·rw [f1 h,a3k (Lb.a7n HM1.out.1 i hia hib HD.out h)]
       ·exact absurd h f3
       ·rw [f2 h,a3x (Lb.a7n HM2.out.1 i hib hia HD.out.symm h)])
      have HY:Hid (a[i]=b[i]->a.drop i=b.drop i):=Lib.hid (fun h=>by rw [List.drop_eq_getElem_cons hia,List.drop_eq_getElem_cons hib,h,HD.out])
      generalize a[i]=x at *
      generalize b[i]=y at *
      rcases Nat.lt_trichotomy x y with h | h | h
      ·have hl:decide (x < y)=true:=by simp [h]
       have HZ:=Lib.hid ((HX.out (-1) (fun _=>rfl) (fun h'=>by omega) (by omega)).symm.trans HR.out)
       clear h
       go_wp2_with fail
       refine a2K (by kernel_rfl) (by kernel_rfl) ?_
       repeat (go_big_quiet_step (fail))
       refine wpQuiet_nil ?_
       rintro _ ⟨y1,rfl⟩
       go_wp2_with fail
       go_ret
       exact ⟨a4H HZ.out,HE.out.trans y1.ext⟩
      ·have hl:decide (x < y)=false:=by simp; omega
       have hg:decide (y < x)=false:=by simp; omega
       have HY2:=Lib.hid (HY.out h)
       clear h HX
       go_wp2_with fail
       refine a2K (by kernel_rfl) (by kernel_rfl) ?_
       repeat (go_big_quiet_step (fail))
       refine wpQuiet_nil ?_
       rintro _ ⟨y1,rfl⟩
       go_wp2_with fail
       refine a1M y1 (by kernel_rfl) (by kernel_rfl) ?_
       repeat (go_big_quiet_step (fail))
       refine wpQuiet_nil ?_
       rintro _ ⟨y2,rfl⟩
       go_wp2_with fail
       go_roundw
       case rel=>exact ⟨i,by omega,rfl,HY2.out,HE.out.trans y2.ext⟩
       case measure=>simp [intOf]
      ·have hl:decide (x < y)=false:=by simp; omega
       have hg:decide (y < x)=true:=by simp [h]
       have HZ:=Lib.hid ((HX.out 1 (fun h'=>by omega) (fun _=>rfl) (by omega)).symm.trans HR.out)
       clear h
       go_wp2_with fail
       refine a2K (by kernel_rfl) (by kernel_rfl) ?_
       repeat (go_big_quiet_step (fail))
       refine wpQuiet_nil ?_
       rintro _ ⟨y1,rfl⟩
       go_wp2_with fail
       refine a1M y1 (by kernel_rfl) (by kernel_rfl) ?_
       repeat (go_big_quiet_step (fail))
       refine wpQuiet_nil ?_
       rintro _ ⟨y2,rfl⟩
       go_wp2_with fail
       go_ret
       exact ⟨a4H HZ.out,HE.out.trans y2.ext⟩
 ·have hne:((a.length:Int) != b.length)=true:=by simp; omega
  have HS1:=Lib.hid s1; have HS2:=Lib.hid s2
  have fa:∃ p q,x1=.slice p a.length q:=by
   rcases s1.cases with ⟨rfl,p1,q1,rfl,_⟩ | ⟨_,b1,o1,q1,rfl,_⟩ <;> exact ⟨_,_,rfl⟩
  have fb:∃ p q,x2=.slice p b.length q:=by
   rcases s2.cases with ⟨rfl,p1,q1,rfl,_⟩ | ⟨_,b1,o1,q1,rfl,_⟩ <;> exact ⟨_,_,rfl⟩
  obtain ⟨p1,q1,rfl⟩:=fa
  obtain ⟨p2,q2,rfl⟩:=fb
  clear s1 s2
  by_cases hl:a.length < b.length
  ·have HZ:=Lib.hid ((a3k (Lb.a5e HM1.out HM2.out hl)).symm.trans HR.out)
   clear hlen
   go_wp2_with fail
   go_ret
   exact ⟨a4H HZ.out,Ext.refl _⟩
  ·have HZ:=Lib.hid ((a3x (Lb.a5e HM2.out HM1.out (by omega))).symm.trans HR.out)
   clear hlen
   go_wp2_with fail
   go_ret
   exact ⟨a4H HZ.out,Ext.refl _⟩
end Go.Proofs.YtbohkigffejhoaaGreat
namespace Go.Proofs.YtbohkigffejhoaaGreat
open Go.RowKit
set_option maxRecDepth 8000
def sgn (b:Bool) (n:Nat):Int:=if b=true then -(n:Int) else n
def IsI (w:World) (b:Bool) (s:Value) (z:Int):Prop:=b=decide (z < 0)/\SlU w s (Lb.limbs z.natAbs)
theorem IsI.later {w w':World} {b:Bool} {s:Value} {z:Int} (h:IsI w b s z) (he:Ext w w'):IsI w' b s z:=⟨h.1,SlU.later h.2 he⟩
theorem SlU.form {w:World} {s:Value} {l:List Nat} (h:SlU w s l):∃ a c,s=.slice a l.length c:=by
 obtain ⟨a,n,cap,b,off,rfl,rfl,_⟩:=h
 exact ⟨a,cap,rfl⟩
theorem IsI.form {w:World} {b:Bool} {s:Value} {z:Int} (h:IsI w b s z):∃ a c,s=.slice a (Lb.limbs z.natAbs).length c:=h.2.form
def aEt (w:World) (z:Int) (e:Ending) (w':World):Prop:=∃ b a n c,e=.returned (.agg #[.bool b,.slice a n c])/\IsI w' b (.slice a n c) z/\Ext w w'
def aZ4 (w:World) (l:List Nat) (e:Ending) (w':World):Prop:=∃ a n c,e=.returned (.slice a n c)/\SlU w' (.slice a n c) l/\Ext w w'
theorem a5a (b:Bool) (n:Nat):(sgn b n).natAbs=n:=by unfold sgn; split <;> simp
theorem aHY (b:Bool) (n:Nat):decide (sgn b n < 0)=(b && decide (0 < n)):=by
 unfold sgn
 cases b
 ·simp
 ·simp
theorem a0y (w:World) (cs:Array Value) (t:TypeId):∃ W:World,w.alloc (.cells cs t)=W/\W.heap[w.heap.size]?=some (.cells cs t (0,0))/\Ext w W/\W.heap.size=w.heap.size+1 :=
 ⟨_,rfl,by unfold World.alloc; simp,(Ext.refl w).alloc _,by simp⟩
theorem aCS {x:Value} {v:Value} {w w':World} {z:Int} {b:Bool} {a:Option Addr} {n c:Nat} (hx:x=.agg #[.bool b,.slice a n c]) (hb:b=decide (z < 0)) (h:SlU w' (.slice a n c) (Lb.limbs z.natAbs)) (he:Ext w w') (hv:v=x):aEt w z (.returned v) w':=by
 subst hv hx
 exact ⟨b,a,n,c,rfl,⟨hb,h⟩,he⟩
set_option maxHeartbeats 4000000 in
theorem a3m (b:Bool) (v:Value) (l:List Nat) (w:World) (h:SlU w v l) (k:Lb.Lt l) (hn:l.length <= 1000000000) :
    Calls Tryz.prog 173 #[.bool b,v] w (aEt w (sgn b (Lb.val l))):=by
 have HK:=Lib.hid k
 obtain ⟨z,hz⟩:∃ z,z=sgn b (Lb.val l):=⟨_,rfl⟩
 rw [<- hz]
 have HZ:=Lib.hid hz
 clear hz k
 rcases h.cases with ⟨rfl,a,cap,rfl,hc⟩ | ⟨h0,B,off,cap,rfl,hcap,hb,hcell⟩
 ·have HC:=Lib.hid hc
  clear hc h
  go_enter Tryz.func173,Tryz.ntmps173
  go_wp2_with fail
  go_loop [5] (fun t=>t=.int .i64 0) (fun _=>0)
  case atStart=>rfl
  case round =>
   subst hrel
   cases b
   all_goals
    go_wp2_with fail
    refine bodyPost_ret (v:=.agg #[.bool false,.slice a 0 0]) (by simp [results,Tryz.results173,go_sem]) rfl ?_
    refine aCS rfl ?_ ?_ ?_ rfl
    ·rw [HZ.out]; rfl
    ·rw [HZ.out,a5a,Lb.a7X,Lb.a1b]
     exact SlU.empty (fun _=>rfl)
    ·exact ((Ext.refl w).alloc _)
 ·have HC:=Lib.hid hcell
  have HL:=Lib.hid hcap
  clear hcell hcap h
  go_enter Tryz.func173,Tryz.ntmps173
  go_wp2_with fail
  have HEX:Hid (∀ i (hi:i < l.length),(w.alloc (.cells #[.bool false,.slice none 0 0] 33)).cell? ⟨B,off+i,none⟩=some (.int .u32 (l[i]:Int))):=Lib.hid fun i hi=>by
   rw [((Ext.refl w).alloc _).cell (by exact hb)]; exact HC.out i hi
  go_loop [5] (fun t=>∃ m,m <= l.length/\t=.int .i64 m/\Lb.trim (l.take m)=Lb.trim l) (fun t=>(intOf t).toNat)
  case atStart=>exact ⟨l.length,Nat.le_refl _,rfl,by rw [List.take_length]⟩
  case round =>
   obtain ⟨m,hm,rfl,htr⟩:=hrel
   have HT:=Lib.hid htr
   clear htr
   have hcm:m <= cap:=by have:=HL.out; omega
   cases m with
   | zero =>
     have HV:Hid (Lb.val l=0):=Lib.hid (by rw [<- Lb.a2t l,<- HT.out]; rfl)
     cases b
     all_goals
      go_wp2_with fail
      refine bodyPost_ret (v:=.agg #[.bool false,.slice (some ⟨B,off,none⟩) 0 0]) (by simp [results,Tryz.results173,go_sem]) rfl ?_
      refine aCS rfl ?_ ?_ ?_ rfl
      ·rw [HZ.out,HV.out]; rfl
      ·rw [HZ.out,a5a,HV.out,Lb.a1b]
       exact SlU.empty (fun h=>by cases h)
      ·exact (Ext.refl w).alloc _
   | succ j =>
     have hj:j < l.length:=by omega
     have c:=HEX.out j hj
     have hlast:=a9I hj
     by_cases hz:l[j]=0
     ·rw [hz] at c
      have HZ:Hid (Lb.trim (l.take j)=Lb.trim l):=Lib.hid (by rw [<- HT.out,hlast,hz,Lb.a3a])
      clear hlast hz
      go_wp2_with fail
      go_round
      case rel=>exact ⟨j,by omega,by go_num,HZ.out⟩
      case measure=>simp [intOf]
     ·have hne:((l[j]:Int) == 0)=false:=by simp; omega
      have HY:Hid (l.take (j+1)=Lb.limbs (Lb.val l)):=Lib.hid (by
       rw [<- Lb.a4k HK.out,<- HT.out,Lb.a4W]
       intro h
       simp only [hlast,List.getLast_concat]
       exact hz)
      have HV:Hid (0 < Lb.val l):=Lib.hid (by
       rcases Nat.eq_zero_or_pos (Lb.val l) with h | h
       ·have h2:l.take (j+1)=[]:=by rw [HY.out,h,Lb.a1b]
        have h3:=congrArg List.length h2
        rw [List.length_take,List.length_nil] at h3
        omega
       ·exact h)
      generalize (l[j]:Int)=x at c hne
      clear hlast hz
      cases b
      ·go_wp2_with fail
       refine bodyPost_ret (v:=.agg #[.bool false,.slice (some ⟨B,off,none⟩) (j+1) (j+1)]) (by simp [results,Tryz.results173,go_sem]) rfl ?_
       refine aCS rfl ?_ ?_ ?_ rfl
       ·rw [HZ.out,aHY]; simp [HV.out]
       ·rw [HZ.out,a5a,<- HY.out]
        refine SlU.later (w:=w) (SlU.mk (by simp; omega) (Nat.le_refl _) (fun _=>hb) fun i hi=>?_) ((Ext.refl w).alloc _)
        have hi':i < l.length:=by simp at hi; omega
        rw [HC.out i hi']
        simp
       ·exact (Ext.refl w).alloc _
      ·go_wp2_with fail
       refine bodyPost_ret (v:=.agg #[.bool true,.slice (some ⟨B,off,none⟩) (j+1) (j+1)]) (by simp [results,Tryz.results173,go_sem]) rfl ?_
       refine aCS rfl ?_ ?_ ?_ rfl
       ·rw [HZ.out,aHY]; simp [HV.out]
       ·rw [HZ.out,a5a,<- HY.out]
        refine SlU.later (w:=w) (SlU.mk (by simp; omega) (Nat.le_refl _) (fun _=>hb) fun i hi=>?_) ((Ext.refl w).alloc _)
        have hi':i < l.length:=by simp at hi; omega
        rw [HC.out i hi']
        simp
       ·exact (Ext.refl w).alloc _
end Go.Proofs.YtbohkigffejhoaaGreat
