import Derived.Test.YtbohkigffejhoaaGreatR26
open List (all_eq_true mem_range)
open Nat (le_refl le_trans lt_irrefl lt_of_lt_of_le lt_or_ge lt_or_gt_of_ne not_lt_zero zero_add zero_le)
open Option.some (injEq)
noncomputable section
namespace Go.Proofs.YtbohkigffejhoaaGreat
open Go.RowKit
namespace Zc
open Vc (a0O a01 a1A a1i a1j a1w Fresh a2K)
def a8e (l:List Oper):Bool :=
 (List.range l.length).all fun i =>
  match l[i]? with
  | some o =>
    (o.op.operands.toList.all fun x =>
     match x with
     | .tmp t =>
       match a1A l 0 t with
       | none=>true
       | some j=>a01 o j || (match l[j]? with | some oj=>a01 oj i | none=>false)
     | _=>true) && (match o.guard with | none=>true | some g=>a01 o g.1)
  | none=>true
theorem aFS {l:List Oper} (h:a8e l=true) {i:Nat} {o:Oper} (ho:l[i]?=some o) :
    (∀ t,.tmp t ∈ o.op.operands->a1A l 0 t=none \/ ∃ j oj,a1A l 0 t=some j/\(a01 o j=true \/ (l[j]?=some oj/\a01 oj i=true)))/\∀ g,o.guard=some g->a01 o g.1=true:=by
 unfold a8e at h;simp only [all_eq_true,mem_range] at h;have hi:i < l.length:=(List.getElem?_eq_some_iff.1 ho).1;have:=h i hi;rw [ho] at this;simp only [Bool.and_eq_true] at this;refine ⟨fun t ht=>?_,fun g hg=>?_⟩
 ·have h1:=all_eq_true.1 this.1 (.tmp t) (by simpa using ht);simp only at h1;split at h1
  ·rename_i h2; exact .inl h2
  ·rename_i j h2;simp only [Bool.or_eq_true] at h1;rcases h1 with h1 | h1
   ·exact .inr ⟨j,o,h2,.inl h1⟩
   ·split at h1
    ·rename_i oj hoj;exact .inr ⟨j,oj,h2,.inr ⟨hoj,h1⟩⟩
    ·cases h1
 ·have h1:=this.2;rw [hg] at h1;exact h1
def Ord (l:List Oper) (i j:Nat):Prop:=Reach l i j \/ Reach l j i
theorem aKv {l:List Oper} {i j:Nat} (h:b1p (masks l []) i j=true):Ord l i j:=by
 obtain ⟨k1,_⟩:=aCX (l:=l) l [] [] rfl rfl (fun i m hi=>by simp at hi)
 have key:∀ i j,Nat.testBit (((masks l [])[i]?).getD 0) j=true->Reach l i j:=fun i j h=>by
  cases hm:(masks l [])[i]? with
  | none=>rw [hm] at h; simp at h
  | some q=>rw [hm] at h; exact k1 i q hm j h
 unfold b1p at h;simp only [Bool.or_eq_true] at h;exact h.imp (key i j) (key j i)
def aMp (W:Nat->Bool) (l:List Oper):Bool :=
 (List.range l.length).all fun i=>!Nat.beq (kd W l i) 2 || (List.range l.length).all fun j=>Nat.beq i j || !(Nat.beq (kd W l j) 2 || Nat.beq (kd W l j) 4) || b1p (masks l []) i j
theorem a5U {W:Nat->Bool} {l:List Oper} (h:aMp W l=true) {i j:Nat} (hi:i < l.length) (hj:j < l.length) (hne:i ≠ j) (h2:kd W l i=2) (h4:kd W l j=2 \/ kd W l j=4):Ord l i j:=by
 unfold aMp at h;simp only [all_eq_true,mem_range,Bool.or_eq_true,Bool.not_eq_true'] at h;rcases h i hi with h | h
 ·rw [h2] at h; cases h
 ·rcases h j hj with (h | h) | h
  ·exact absurd (a0l h) hne
  ·rcases h4 with e | e <;> rw [e] at h <;> cases h
  ·exact aKv h
theorem a9N:∀ (l:List Oper) (vals:Nat->Value) (i:Nat) (a:Act),(a0E l vals i a).tmps.size=a.tmps.size
 | [],_,_,_=>rfl
 | o :: r,vals,i,a=>by
   unfold a0E;rw [a9N r,aCL]
theorem a6Z:∀ (l:List Oper) (vals:Nat->Value) (i:Nat) (a:Act),(a0E l vals i a).defers=a.defers
 | [],_,_,_=>rfl
 | o :: r,vals,i,a=>by
   unfold a0E;rw [a6Z r];cases o.dst <;> rfl
section
variable {P:Program} {L:Tr ZL} {W:Nat->Bool} {m N:Nat} {l:List Oper} {T:Nat->Sx} {R:Nat->KV} {B:Nat->Bool} {Kk:Nat->Nat}
structure FH (P:Program) (L:Tr ZL) (W:Nat->Bool) (m N:Nat) (l:List Oper) (T:Nat->Sx) (R:Nat->KV) (B:Nat->Bool) (Kk:Nat->Nat):Prop where
 tr:∀ i o,l[i]?=some o->a8R l (T i).tm o=some (B i)/\aJL (T i).tm o.dst (R i) (T (i+1)).tm /\
  (B i=true->aUQ P L m ⟨o,i,kd W l i,b1h W l i⟩ (T i) (T (i+1)) (R i) (Kk i))/\(B i=false->R i=.t []/\(T (i+1)).H=(T i).H/\(T (i+1)).n=(T i).n)
 seen:∀ i j,i < j->j < l.length->B i=true->B j=true->Ord l i j \/ ((kd W l j=1->kd W l i=2->(T i).H.get (Kk j)=(T (i+1)).H.get (Kk j)) /\
  (kd W l j=2->kd W l i=1->(T j).H.get (Kk i)=(T (j+1)).H.get (Kk i))/\(kd W l j=2->kd W l i=3->(T j).H.get (T i).n=(T (j+1)).H.get (T i).n))
 hA:a2l l=true
 hlow:aC0 l=true
 hI:a1L l N=true
 hfl:a8e l=true
 hord:aMp W l=true
 mn:m <= (T 0).n
 low0:Low (T 0).H (T 0).n
theorem aDd {i:Nat} {o:Oper} (ho:l[i]?=some o):(aVt W l)[i]?=some ⟨o,i,kd W l i,b1h W l i⟩:=by
 unfold aVt;rw [List.getElem?_map,List.getElem?_zipIdx,ho];simp [kd,ho]
theorem aT2:(aVt W l).length=l.length:=by simp [aVt]
theorem FH.of (hT:Trace P L m l (aVt W l) T R B Kk) (hS:Seen (aVt W l) T B Kk) (hA:a2l l=true) (hlow:aC0 l=true) (hI:a1L l N=true) (hfl:a8e l=true) (hord:aMp W l=true) (mn:m <= (T 0).n) (low0:Low (T 0).H (T 0).n):FH P L W m N l T R B Kk:=by
 refine ⟨fun i o ho=>hT i _ (aDd ho),fun i j hij hj hb hb'=>?_,hA,hlow,hI,hfl,hord,mn,low0⟩
 cases hq:b1p (masks l []) j i with
 | true=>exact .inl ((aKv hq).symm)
 | false =>
   refine .inr ?_
   have hi:l[i]?=some (l[i]'(by omega)):=by simp
   have hj':l[j]?=some l[j]:=by simp
   have hin:b1l (kd W l j) (kd W l i)=true->i ∈ b1h W l j:=fun hp=>by
    unfold b1h;simp only [List.mem_filter,mem_range,Bool.and_eq_true,Bool.not_eq_true'];exact ⟨hij,hp,hq⟩
   have hs:=fun hm=>hS i j _ _ hij (aDd hi) (aDd hj') hb hb' hm;simp only at hs;refine ⟨fun q1 q2=>(hs (hin (by rw [q1,q2]; rfl))).1 q1 q2,fun q1 q2=>(hs (hin (by rw [q1,q2]; rfl))).2.1 q1 q2,fun q1 q2=>(hs (hin (by rw [q1,q2]; rfl))).2.2 q1 q2⟩
theorem FH.low (h:FH P L W m N l T R B Kk) {i:Nat} {o:Oper} (ho:l[i]?=some o) {e:Edge} (he:e ∈ o.after) (hb:Region.binds .any e=true):e.on < i:=by
 have hi:i < l.length:=(List.getElem?_eq_some_iff.1 ho).1;have hlow:=h.hlow;simp only [aC0,all_eq_true,mem_range] at hlow;have:=hlow i hi;rw [ho] at this;simp only [Option.map_some,Option.getD_some,Array.all_eq_true'] at this;simpa [hb] using this e he
theorem FH.reach (h:FH P L W m N l T R B Kk) {i k:Nat} (hr:Reach l i k):k < i:=by
 have wf:∀ i k,Region.waitsFor .any l.toArray i k=true->k < i:=fun i k hw=>by
  obtain ⟨oj,hoj,e,he,hb,hon⟩:=Region.waitsFor_spec hw;rw [<- hon];exact h.low (by simpa using hoj) he hb
 induction hr with
 | one hw=>exact wf _ _ hw
 | step hw r ih =>
   have:=wf _ _ hw;omega
theorem FH.step1 (h:FH P L W m N l T R B Kk) {i:Nat} (hi:i < l.length) (hl:Low (T i).H (T i).n) (hmi:m <= (T i).n):Low (T (i+1)).H (T (i+1)).n/\(T i).n <= (T (i+1)).n/\((kd W l i=2->B i=false)->∀ k,k < (T i).n->(T (i+1)).H.get k=(T i).H.get k):=by
 have ho:l[i]?=some l[i]:=by simp
 obtain ⟨_,_,h1,h2⟩:=h.tr i l[i] ho
 cases hb:B i with
 | false =>
   obtain ⟨_,e1,e2⟩:=h2 hb;rw [e1,e2]
   exact ⟨hl,le_refl _,fun _ _ _=>rfl⟩
 | true =>
   have st:=h1 hb;by_cases k0:kd W l i=0
   ·obtain ⟨_,e1,e2⟩:=st.p k0;rw [e1,e2];exact ⟨hl,le_refl _,fun _ _ _=>rfl⟩
   ·by_cases k1:kd W l i=1
    ·obtain ⟨_,_,e1,e2⟩:=st.ld k1;rw [e1,e2];exact ⟨hl,le_refl _,fun _ _ _=>rfl⟩
    ·by_cases k3:kd W l i=3
     ·obtain ⟨x,_,e1,_,e2⟩:=st.al k3;rw [e1,e2];exact ⟨hl.new,by omega,fun _ k hk=>Hp.put_ne _ _ _ _ (by omega)⟩
     ·by_cases k2:kd W l i=2
      ·have s:=(st.sy k2 hmi hl).1;exact ⟨s.low,s.le,fun hc=>by simp_all⟩
      ·have s:=(st.mkb k0 k1 k2 k3 (le_refl _) hl).1;exact ⟨s.low,s.le,fun _ k hk=>s.same k hk⟩
theorem FH.mono (h:FH P L W m N l T R B Kk):∀ i,i <= l.length->Low (T i).H (T i).n/\∀ j,j <= i->(T j).n <= (T i).n:=by
 intro i
 induction i with
 | zero =>
   refine fun _=>⟨h.low0,fun j hj=>?_⟩
   obtain rfl:j=0:=by omega
   exact le_refl _
 | succ i ih =>
   intro hi;obtain ⟨h1,h2⟩:=ih (by omega);obtain ⟨g1,g2,_⟩:=h.step1 (show i < l.length by omega) h1 (le_trans h.mn (h2 0 (by omega)));refine ⟨g1,fun j hj=>?_⟩;rcases lt_or_ge i j with hlt | hge
   ·obtain rfl:j=i+1:=by omega
    exact le_refl _
   ·exact le_trans (h2 j hge) g2
theorem FH.chain (h:FH P L W m N l T R B Kk) {i k:Nat} (hk:k < (T i).n):∀ j,i <= j->j <= l.length->(∀ x,i <= x->x < j->kd W l x=2->B x=true->(T x).H.get k=(T (x+1)).H.get k)->(T j).H.get k=(T i).H.get k:=by
 intro j
 induction j with
 | zero =>
   intro hij _ _
   obtain rfl:i=0:=by omega
   rfl
 | succ j ih =>
   intro hij hj hx;rcases lt_or_ge j i with hlt | hge
   ·obtain rfl:i=j+1:=by omega
    rfl
   ·rw [<- ih hge (by omega) fun x h1 h2=>hx x h1 (by omega)];by_cases hs:kd W l j=2/\B j=true
    ·exact (hx j hge (by omega) hs.1 hs.2).symm
    ·have hm:=h.mono j (by omega)
     exact (h.step1 (show j < l.length by omega) hm.1 (le_trans h.mn (hm.2 0 (by omega)))).2.2 (fun h2=>by
      cases hb:B j with
      | false=>rfl
      | true=>exact absurd ⟨h2,hb⟩ hs) k (lt_of_lt_of_le hk (hm.2 i hge))
theorem b5R {k a:Nat}:∀ b,a <= b->(T a).n <= k->k < (T b).n->∃ x,a <= x/\x < b/\(T x).n <= k/\k < (T (x+1)).n:=by
 intro b
 induction b with
 | zero =>
   intro hab h1 h2
   obtain rfl:a=0:=by omega
   omega
 | succ b ih =>
   intro hab h1 h2;rcases lt_or_ge b a with hlt | hge
   ·obtain rfl:a=b+1:=by omega
    omega
   ·rcases lt_or_ge k (T b).n with hkb | hkb
    ·obtain ⟨x,q1,q2,q3⟩:=ih hge h1 hkb;exact ⟨x,q1,by omega,q3⟩
    ·exact ⟨b,hge,by omega,hkb,h2⟩
theorem nxt (W:Nat->Bool) (l:List Oper):∀ d i,i+d=l.length->∃ e,i <= e/\e <= l.length/\(e < l.length->kd W l e=2)/\∀ x,i <= x->x < e->kd W l x ≠ 2:=by
 intro d
 induction d with
 | zero=>intro i h; exact ⟨i,le_refl _,by omega,fun h=>by omega,fun x h1 h2=>by omega⟩
 | succ d ih =>
   intro i h;by_cases hi:kd W l i=2
   ·exact ⟨i,le_refl _,by omega,fun _=>hi,fun x h1 h2=>by omega⟩
   ·obtain ⟨e,h1,h2,h3,h4⟩:=ih (i+1) (by omega);refine ⟨e,by omega,h2,h3,fun x q1 q2=>?_⟩;by_cases hx:x=i
    ·subst hx; exact hi
    ·exact h4 x (by omega) q2
variable {bm0:BM} {a0:Act} {w0:World}
structure FI (L:Tr ZL) (W:Nat->Bool) (m:Nat) (l:List Oper) (T:Nat->Sx) (R:Nat->KV) (B:Nat->Bool) (bm0:BM) (w0:World) (ls:Array Bool) (vals:Nat->Value) (w:World) (bm:BM) (s e:Nat):Prop where
 se:s <= e
 ep:e <= l.length
 s0:∀ i,i < s->kd W l i=2->ls.getD i true=true
 sl:s=0 \/ ∃ j,s=j+1/\kd W l j=2/\ls.getD j true=true
 e0:e < l.length->kd W l e=2/\ls.getD e true=false
 mid:∀ i,s <= i->i < e->kd W l i ≠ 2
 ok:Ok (T e).H bm w
 none:∀ i,i < l.length->ls.getD i true=false->Room bm (T i).n (T (i+1)).n
 same:∀ k,¬ ((T 0).n <= k/\k < (T l.length).n)->bm k=bm0 k
 fresh:∀ k b,(T 0).n <= k->k < (T l.length).n->bm k=some b->w0.heap.size <= b \/ ∃ j,m <= j/\j < (T 0).n/\bm0 j=some b
 z:∀ b,bm0.z b->bm.z b
 zn:∀ b,bm.z b->bm0.z b \/ w0.heap.size <= b
 frame:Frame m (T 0).n bm0 w0 w
 val:∀ i,i < l.length->ls.getD i true=true->relV bm w (R i) (vals i)
 early:∀ j o,l[j]?=some o->kd W l j=3->B j=true->ls.getD j true=true->e <= j->∀ b,bm (T j).n=some b->(∃ x,(T (j+1)).H.get (T j).n=some x/\BoxAt bm w b x)/\∀ k,k ≠ (T j).n->bm k ≠ some b
 dn:∀ j oj,l[j]?=some oj->ls.getD j true=true->∀ e ∈ oj.after,Region.binds .any e=true->ls.getD e.on true=true
theorem Ok.re {H H':Hp Bx} {bm:BM} {w:World} (h:Ok H bm w) (hs:∀ k b x,bm k=some b->H'.get k=some x->H.get k=some x):Ok H' bm w :=
 ⟨fun k b x h1 h2=>h.box k b x h1 (hs k b x h1 h2),h.lt,h.nz,fun k j b x y h1 h2 h3 h4=>h.inj k j b x y h1 h2 (hs k b x h1 h3) (hs j b y h2 h4),h.zlt⟩
theorem Ok.frame {H:Hp Bx} {bm:BM} {w w':World} {n:Nat} (h:Ok H bm w) (f:Frame n n bm w w'):Ok H bm w':=by
 have hk:Keep bm bm w w':=Keep.of h (Grow.refl n n w bm) (fun k h1 h2=>by omega) f;exact ⟨fun k b x h1 h2=>(h.box k b x h1 h2).keep hk (f.same b (h.lt k b h1) fun k h1 h2=>by omega),fun k b h1=>lt_of_lt_of_le (h.lt k b h1) f.le,h.nz,h.inj,fun b h1=>lt_of_lt_of_le (h.zlt b h1) f.le⟩
theorem FI.keep {ls:Array Bool} {vals:Nat->Value} {w:World} {bm:BM} {s e:Nat} (h:FH P L W m N l T R B Kk) (hR:Rz N (T 0).tm (T 0).H bm0 a0 w0) (hroom:Room bm0 (T 0).n (T l.length).n) (hF:FI L W m l T R B bm0 w0 ls vals w bm s e):Keep bm0 bm w0 w/\Grow m (T 0).n (T l.length).n w0 bm0 bm :=
 have g:Grow m (T 0).n (T l.length).n w0 bm0 bm:=⟨(h.mono l.length (le_refl _)).2 0 (zero_le _),hF.same,hF.fresh,hF.z,hF.zn⟩
 ⟨Keep.of hR.ok g hroom hF.frame,g⟩
theorem FI.done {ls:Array Bool} {vals:Nat->Value} {w:World} {bm:BM} {s e:Nat} (h:FH P L W m N l T R B Kk) (hF:FI L W m l T R B bm0 w0 ls vals w bm s e) (hs:ls.size=l.length) {i k:Nat} (hr:Reach l i k) (hi:i < l.length) (hd:∀ o,l[i]?=some o->∀ e ∈ o.after,Region.binds .any e=true->ls.getD e.on true=true):ls.getD k true=true:=by
 have hf:∀ x,x < l.length->ls.getD x true=true->ls.getD x false=true:=fun x hx h1=>by
  have:x < ls.size:=by omega
  simp [this] at h1 ⊢;exact h1
 have hk:=h.reach hr
 have ho:l[i]?=some l[i]:=by simp
 have:=hr.done (ls:=ls) (fun j oj hoj hlj e he hb=>by
  have hoj':l[j]?=some oj:=by simpa using hoj
  have hj:j < l.length:=(List.getElem?_eq_some_iff.1 hoj').1;have:=h.low hoj' he hb
  exact hf _ (by omega) (hF.dn j oj hoj' hlj e he hb)) l[i] (by simp) (fun e he hb=>by
  have:=h.low ho he hb
  exact hf _ (by omega) (hd _ ho e he hb))
 have hks:k < ls.size:=by omega
 simp [hks] at this ⊢;exact this
theorem FH.old (h:FH P L W m N l T R B Kk) {t:Nat}:∀ i,i <= l.length->(∀ j o,j < i->l[j]?=some o->o.dst ≠ some t)->∀ x,(T i).tm.get t=some x->(T 0).tm.get t=some x:=by
 intro i
 induction i with
 | zero=>intro _ _ x hx; exact hx
 | succ i ih =>
   intro hi hn x hx
   have ho:l[i]?=some l[i]:=by simp
   obtain ⟨_,hp,_⟩:=h.tr i l[i] ho
   rcases hp t x hx with ⟨e,_⟩ | ⟨_,hx⟩
   ·exact absurd e (hn i l[i] (by omega) ho)
   ·exact ih (by omega) (fun j o hj=>hn j o (by omega)) x hx
theorem FH.new (h:FH P L W m N l T R B Kk) {t j:Nat} {oj:Oper} (hj:l[j]?=some oj) (hd:oj.dst=some t):∀ i,i <= l.length->j < i->∀ x,(T i).tm.get t=some x->x=R j:=by
 intro i
 induction i with
 | zero=>intro _ h; omega
 | succ i ih =>
   intro hi hji x hx
   have ho:l[i]?=some l[i]:=by simp
   obtain ⟨_,hp,_⟩:=h.tr i l[i] ho
   rcases hp t x hx with ⟨e,rfl⟩ | ⟨hne,hx⟩
   ·rw [a2K h.hA ho hj e hd]
   ·have:i ≠ j:=by
     rintro rfl;rw [ho] at hj
     obtain rfl:l[i]=oj:=by simpa using hj
     exact hne hd
    exact ih (by omega) (by omega) x hx
theorem aKb (h:FH P L W m N l T R B Kk) (hR:Rz N (T 0).tm (T 0).H bm0 a0 w0) {ls:Array Bool} {vals:Nat->Value} {w:World} {bm:BM} (hk:Keep bm0 bm w0 w)
    (hval:∀ i,i < l.length->ls.getD i true=true->relV bm w (R i) (vals i)) {i:Nat} {o:Oper} (ho:l[i]?=some o) (hd:∀ e ∈ o.after,Region.binds .any e=true->ls.getD e.on true=true)
    (hf:Fresh l vals a0 (fun _ oj=>∃ e ∈ oj.after,Region.binds .any e=true/\e.on=i)) {t:Nat}
    (hst:a1A l 0 t=none \/ ∃ j oj,a1A l 0 t=some j/\(a01 o j=true \/ (l[j]?=some oj/\a01 oj i=true))) {x:KV} (hx:(T i).tm.get t=some x):relV bm w x ((a0E l vals 0 a0).eval (.tmp t)):=by
 have hi:i < l.length:=(List.getElem?_eq_some_iff.1 ho).1
 rcases hst with hn | ⟨j,oj,hj,hor⟩
 ·have hnd:=a1w hn;rw [a14 l vals 0 a0 (.tmp t) (fun o ho d hd' e=>by cases e; exact hnd o ho hd')];have:=h.old i (by omega) (fun j o _ hj=>hnd o (List.mem_of_getElem? hj)) x hx;exact hk.relV (hR.tmp t x this)
 ·obtain ⟨j',o',e1,ho',hdo⟩:=a1j hj;rw [zero_add] at e1;subst e1
  rcases hor with hed | ⟨hoj,hed⟩
  ·obtain ⟨e,he,hb,hon⟩:=a1i hed;have hji:=h.low ho he hb;have hdone:=hd e he hb;subst hon;have:=h.new ho' hdo i (by omega) hji x hx;subst this;rw [a1T l vals 0 e.on a0 o' t h.hA (by rw [hR.size]; exact h.hI) ho' hdo,zero_add];exact hval e.on (by omega) hdone
  ·rw [ho'] at hoj
   obtain rfl:o'=oj:=by simpa using hoj
   obtain ⟨e,he,hb,hon⟩:=a1i hed;have hij:=h.low ho' he hb;rw [hf j o' t ho' ⟨e,he,hb,hon⟩ hdo]
   have:=h.old i (by omega) (fun k ok hki hok hdk=>by
    have:=a2K h.hA hok ho' hdk hdo
    omega) x hx
   exact hk.relV (hR.tmp t x this)
end
open Vc (a0O a01 a1A a1i a1j a1w Fresh a2K a0B)
section
variable {P:Program} {L:Tr ZL} {W:Nat->Bool} {m N:Nat} {l:List Oper} {T:Nat->Sx} {R:Nat->KV} {B:Nat->Bool} {Kk:Nat->Nat} {bm0:BM} {a0:Act} {w0:World}
theorem FI.start (h:FH P L W m N l T R B Kk) (hR:Rz N (T 0).tm (T 0).H bm0 a0 w0) (hroom:Room bm0 (T 0).n (T l.length).n) (vals:Nat->Value):∃ s e,FI L W m l T R B bm0 w0 (Array.replicate l.length false) vals w0.drew bm0 s e:=by
 obtain ⟨e,_,h2,h3,h4⟩:=nxt W l l.length 0 (zero_add _);have hm:=h.mono;have hdr:Frame (T 0).n (T 0).n bm0 w0 w0.drew:=Frame.of_ext ((Ext.refl w0).drew)
 have hls:∀ i,i < l.length->(Array.replicate l.length false).getD i true=true->False:=fun i hi ht=>by simp [hi] at ht
 have hle:=(hm l.length (le_refl _)).2 e h2
 have okE:Ok (T e).H bm0 w0:=hR.ok.re fun k b x hb hx=>by
  have hke:=(hm e h2).1.lt hx;rcases lt_or_ge k (T 0).n with hk | hk
  ·rw [<- h.chain hk e (zero_le _) h2 fun x q1 q2 q3 _=>absurd q3 (h4 x q1 q2)];exact hx
  ·rw [hroom k hk (by omega)] at hb;cases hb
 refine ⟨0,e,zero_le _,h2,fun i hi=>by omega,.inl rfl,fun he=>⟨h3 he,by simp [he]⟩,h4,okE.frame hdr,fun i hi _ k k1 k2=>?_,fun k _=>rfl,fun k b k1 k2 k3=>?_,fun _ h=>h,fun _ h=>.inl h,hdr.mono h.mn,fun i hi ht=>(hls i hi ht).elim,fun j o hj _ _ ht=>(hls j ((List.getElem?_eq_some_iff.1 hj).1) ht).elim,fun j oj hj ht=>(hls j ((List.getElem?_eq_some_iff.1 hj).1) ht).elim⟩
 ·have q1:=(hm i (by omega)).2 0 (zero_le _);have q2:=(hm l.length (le_refl _)).2 (i+1) (by omega);exact hroom k (by omega) (by omega)
 ·rw [hroom k k1 k2] at k3;cases k3
theorem FI.stop {ls:Array Bool} {vals:Nat->Value} {w:World} {bm:BM} {s e:Nat} (h:FH P L W m N l T R B Kk) (hR:Rz N (T 0).tm (T 0).H bm0 a0 w0) (hroom:Room bm0 (T 0).n (T l.length).n) (hF:FI L W m l T R B bm0 w0 ls vals w bm s e) (hall:∀ i,i < l.length->ls.getD i true=true) :
    Rz N (T l.length).tm (T l.length).H bm (a0E l vals 0 a0) w/\Grow m (T 0).n (T l.length).n w0 bm0 bm/\Frame m (T 0).n bm0 w0 w:=by
 obtain ⟨hk,hg⟩:=hF.keep h hR hroom
 have he:e=l.length:=by
  rcases lt_or_ge e l.length with hlt | hge
  ·have:=(hF.e0 hlt).2;rw [hall e hlt] at this;cases this
  ·have:=hF.ep;omega
 refine ⟨⟨by have:=hF.ok; rwa [he] at this,fun t x hx=>?_,by rw [a9N,hR.size],by rw [a6Z,hR.dfr]⟩,hg,hF.frame⟩;show relV bm w x ((a0E l vals 0 a0).eval (.tmp t))
 cases hfd:a1A l 0 t with
 | none =>
   have hnd:=a1w hfd;rw [a14 l vals 0 a0 (.tmp t) (fun o ho d hd' e=>by cases e; exact hnd o ho hd')];have:=h.old _ (le_refl _) (fun j o _ hj=>hnd o (List.mem_of_getElem? hj)) x hx
   exact hk.relV (hR.tmp t x this)
 | some j =>
   obtain ⟨k,o',e1,ho',hd'⟩:=a1j hfd;rw [zero_add] at e1;subst e1;have hjl:j < l.length:=(List.getElem?_eq_some_iff.1 ho').1;have:=h.new ho' hd' _ (le_refl _) hjl x hx;subst this;rw [a1T l vals 0 j a0 o' t h.hA (by rw [hR.size]; exact h.hI) ho' hd',zero_add];exact hF.val j hjl (hall j hjl)
theorem FI.next {ls:Array Bool} {vals:Nat->Value} {w w':World} {bm bm':BM} {s e i:Nat} {o:Oper} {v:Value} (h:FH P L W m N l T R B Kk) (hF:FI L W m l T R B bm0 w0 ls vals w bm s e) (hs:ls.size=l.length) (ho:l[i]?=some o) (hd:∀ e ∈ o.after,Region.binds .any e=true->ls.getD e.on true=true) (hie:i ≠ e)
    (g:Grow (T i).n (T i).n (T (i+1)).n w bm bm') (f:Frame (T i).n (T i).n bm w w') (hrm:Room bm (T i).n (T (i+1)).n) (okE:Ok (T e).H bm' w') (hv:relV bm' w' (R i) v)
    (hearly:kd W l i=3->B i=true->e <= i->∀ b,bm' (T i).n=some b->(∃ x,(T (i+1)).H.get (T i).n=some x/\BoxAt bm' w' b x)/\∀ k,k ≠ (T i).n->bm' k ≠ some b) :
    FI L W m l T R B bm0 w0 (ls.setIfInBounds i true) (Go.Proofs.YtbohkigffejhoaaGreat.upd vals i v) w' bm' s e:=by
 have hi:i < l.length:=(List.getElem?_eq_some_iff.1 ho).1;have hm:=h.mono;have hni:=(hm i (by omega)).2;have hnp:=(hm l.length (le_refl _)).2
 have hset:∀ k,ls.getD k true=true->(ls.setIfInBounds i true).getD k true=true:=fun k hk=>by
  by_cases hki:k=i
  ·subst hki
   have:k < ls.size:=by omega
   simp [this]
  ·rw [getD_set_ne true (by omega)]; exact hk
 have hkp:Keep bm bm' w w':=Keep.of hF.ok g hrm f;have hold:∀ k b,bm k=some b->b < w.heap.size:=fun k b h=>hF.ok.lt k b h
 have hfresh:∀ k b,(T i).n <= k->k < (T (i+1)).n->bm' k=some b->w.heap.size <= b:=fun k b k1 k2 k3=>by
  rcases g.fresh k b k1 k2 k3 with h | ⟨j,j1,j2,_⟩
  ·exact h
  ·omega
 refine ⟨hF.se,hF.ep,fun j hj hk=>hset j (hF.s0 j hj hk),?_,fun he=>?_,hF.mid,okE,fun j hj hlj=>?_,fun k hk1=>?_,fun k b k1 k2 k3=>?_,fun b hz=>g.z b (hF.z b hz),fun b hz=>(g.zn b hz).elim (hF.zn b) fun q=>.inr (le_trans hF.frame.le q),⟨?_,fun b hb1 hn=>?_,fun b M hb1=>f.sz b M (hF.frame.sz b M hb1),f.env.1.trans hF.frame.env.1,f.env.2.1.trans hF.frame.env.2.1,f.env.2.2.trans hF.frame.env.2.2⟩,fun j hj hlj=>?_,fun j oj hoj hk3 hbj hlj hej b hb=>?_,fun j oj hoj hlj e' he' hb'=>?_⟩
 ·rcases hF.sl with q | ⟨j,q1,q2,q3⟩
  ·exact .inl q
  ·exact .inr ⟨j,q1,q2,hset j q3⟩
 ·obtain ⟨q1,q2⟩:=hF.e0 he;exact ⟨q1,by rw [getD_set_ne true (by omega)]; exact q2⟩
 ·have hji:j ≠ i:=by
   rintro rfl
   have:j < ls.size:=by omega
   simp [this] at hlj
  rw [getD_set_ne true (by omega)] at hlj;intro k k1 k2;rw [g.same k ?_]
  ·exact hF.none j hj hlj k k1 k2
  ·rcases lt_or_gt_of_ne hji with h | h
   ·have:=hni (j+1) (by omega);omega
   ·have:=(hm j (by omega)).2 (i+1) (by omega);omega
 ·have q1:=hni 0 (by omega);have q2:=hnp (i+1) (by omega);rw [g.same k (by omega)];exact hF.same k hk1
 ·by_cases hin:(T i).n <= k/\k < (T (i+1)).n
  ·have:=hfresh k b hin.1 hin.2 k3;have:=hF.frame.le;exact .inl (by omega)
  ·rw [g.same k hin] at k3;exact hF.fresh k b k1 k2 k3
 ·have:=hF.frame.le;have:=f.le;omega
 ·have q:=hF.frame.le;rw [f.same b (by omega) (fun k k1 k2=>by omega),hF.frame.same b hb1 hn]
 ·by_cases hji:j=i
  ·subst hji;rw [upd_same];exact hv
  ·rw [upd_ne _ _ hji];rw [getD_set_ne true (by omega)] at hlj;exact hkp.relV (hF.val j hj hlj)
 ·by_cases hji:j=i
  ·subst hji
   obtain rfl:o=oj:=by rw [ho] at hoj; simpa using hoj
   exact hearly hk3 hbj hej b hb
  ·rw [getD_set_ne true (by omega)] at hlj;have hj:j < l.length:=(List.getElem?_eq_some_iff.1 hoj).1;obtain ⟨_,_,_,_,en⟩:=((h.tr j oj hoj).2.2.1 hbj).al hk3
   have hout:¬ ((T i).n <= (T j).n/\(T j).n < (T (i+1)).n):=by
    rcases lt_or_gt_of_ne hji with h' | h'
    ·have:=hni (j+1) (by omega);omega
    ·have:=(hm j (by omega)).2 (i+1) (by omega);omega
   have hb2:=hb;rw [g.same _ hout] at hb2;obtain ⟨⟨x,e1,e3⟩,e4⟩:=hF.early j oj hoj hk3 hbj hlj hej b hb2;refine ⟨⟨x,e1,e3.keep hkp (f.same b (hold _ b hb2) fun k k1 k2=>by omega)⟩,fun k hk hkb=>?_⟩;by_cases hin:(T i).n <= k/\k < (T (i+1)).n
   ·have q1:=hfresh k b hin.1 hin.2 hkb;have q2:=hold _ b hb2;omega
   ·rw [g.same k hin] at hkb;exact e4 k hk hkb
 ·by_cases hji:j=i
  ·subst hji
   obtain rfl:o=oj:=by rw [ho] at hoj; simpa using hoj
   exact hset _ (hd e' he' hb')
  ·rw [getD_set_ne true (by omega)] at hlj;exact hset _ (hF.dn j oj hoj hlj e' he' hb')
end
open Vc (a0O a01 a1A a1i a1j a1w Fresh a2K a0B)
theorem a94 (W:Nat->Bool) (o:Oper):knd W o=0 \/ knd W o=1 \/ knd W o=2 \/ knd W o=3 \/ knd W o=4:=by
 unfold knd;split
 all_goals first
  | simp; done
  | (rename_i c _ _; cases Nat.beq c 0 <;> simp; done)
  | (split <;> first | (simp; done) | (cases W _ <;> simp; done) | (split <;> first | (simp; done) | (cases b2a _ <;> simp; done)))
section
variable {P:Program} {L:Tr ZL} {W:Nat->Bool} {m N:Nat} {l:List Oper} {T:Nat->Sx} {R:Nat->KV} {B:Nat->Bool} {Kk:Nat->Nat} {bm0:BM} {a0:Act} {w0:World}
theorem FI.notdone {ls:Array Bool} {vals:Nat->Value} {w:World} {bm:BM} {s e:Nat} (h:FH P L W m N l T R B Kk) (hF:FI L W m l T R B bm0 w0 ls vals w bm s e) (hs:ls.size=l.length) {x:Nat} (hex:e < x) (hx:x < l.length) (hk:kd W l x=2 \/ kd W l x=4):ls.getD x true=false:=by
 have he:e < l.length:=by omega
 obtain ⟨q1,q2⟩:=hF.e0 he
 cases hb:ls.getD x true with
 | false=>rfl
 | true =>
   exfalso;rcases a5U h.hord he hx (by omega) q1 hk with r | r
   ·have:=h.reach r;omega
   ·have:=hF.done h hs r hx (fun o ho=>hF.dn x o ho hb);rw [q2] at this;cases this
theorem FI.ahead {ls:Array Bool} {vals:Nat->Value} {w:World} {bm:BM} {s e e':Nat} (h:FH P L W m N l T R B Kk) (hF:FI L W m l T R B bm0 w0 ls vals w bm s e) (hs:ls.size=l.length) (hee:e+1 <= e') (he':e' <= l.length) (h4:∀ x,e+1 <= x->x < e'->kd W l x ≠ 2) {k b:Nat} {z:Bx} (hb:bm k=some b) (hk:(T (e+1)).n <= k) (hz:(T e').H.get k=some z) :
    ∃ (j:Nat) (o:Oper),l[j]?=some o/\e < j/\k=(T j).n/\BoxAt bm w b z/\∀ q,q ≠ k->bm q ≠ some b:=by
 have hm:=h.mono;have hke:=(hm e' he').1.lt hz;obtain ⟨x,x1,x2,x3,x4⟩:=b5R (T:=T) e' hee hk hke
 have hxl:x < l.length:=by omega
 have ho:l[x]?=some l[x]:=by simp
 have hdx:ls.getD x true=true:=by
  cases hq:ls.getD x true with
  | true=>rfl
  | false=>rw [hF.none x hxl hq k x3 x4] at hb; cases hb
 obtain ⟨_,_,t1,t2⟩:=h.tr x l[x] ho
 cases hB:B x with
 | false =>
   obtain ⟨_,_,e3⟩:=t2 hB
   omega
 | true =>
   have st:=t1 hB
   have hkk:kd W l x=knd W l[x]:=by simp [kd,ho]
   have k3:kd W l x=3:=by
    rcases a94 W l[x] with q | q | q | q | q
    ·have:=(st.p (hkk.trans q)).2.2;omega
    ·have:=(st.ld (hkk.trans q)).2.2.2;omega
    ·exact absurd (hkk.trans q) (h4 x x1 x2)
    ·exact hkk.trans q
    ·rw [hF.notdone h hs (x:=x) (by omega) hxl (.inr (hkk.trans q))] at hdx;cases hdx
   obtain ⟨x0,_,_,_,o5⟩:=st.al k3
   have hkx:k=(T x).n:=by omega
   subst hkx;obtain ⟨⟨x1,e1,e3⟩,e4⟩:=hF.early x l[x] ho k3 hB hdx (by omega) b hb
   have hz2:z=x1:=by
    rw [h.chain (i:=x+1) (by omega) e' (by omega) he' fun y y1 y2 y3 _=>absurd y3 (h4 y (by omega) y2),e1] at hz;simpa using hz.symm
   subst hz2;exact ⟨x,l[x],ho,by omega,rfl,e3,e4⟩
theorem FI.adv {ls:Array Bool} {vals:Nat->Value} {w w':World} {bm bm':BM} {s e:Nat} {o:Oper} {v:Value} (h:FH P L W m N l T R B Kk) (hF:FI L W m l T R B bm0 w0 ls vals w bm s e) (hs:ls.size=l.length) (ho:l[e]?=some o) (hd:∀ e' ∈ o.after,Region.binds .any e'=true->ls.getD e'.on true=true)
    (g:Grow m (T e).n (T (e+1)).n w bm bm') (f:Frame m (T e).n bm w w') (okN:Ok (T (e+1)).H bm' w') (hv:relV bm' w' (R e) v) :
    ∃ s' e',FI L W m l T R B bm0 w0 (ls.setIfInBounds e true) (Go.Proofs.YtbohkigffejhoaaGreat.upd vals e v) w' bm' s' e':=by
 have he:e < l.length:=(List.getElem?_eq_some_iff.1 ho).1;obtain ⟨ke,le⟩:=hF.e0 he;obtain ⟨e',h1,h2,h3,h4⟩:=nxt W l (l.length - (e+1)) (e+1) (by omega);have hm:=h.mono;have hrm:=hF.none e he le;have hkp:Keep bm bm' w w':=Keep.of hF.ok g hrm f;have hold:∀ k b,bm k=some b->b < w.heap.size:=fun k b h=>hF.ok.lt k b h;have hne:=(hm (e+1) (by omega)).2 e (by omega)
 have hset:∀ k,ls.getD k true=true->(ls.setIfInBounds e true).getD k true=true:=fun k hk=>by
  by_cases hki:k=e
  ·subst hki
   have:k < ls.size:=by omega
   simp [this]
  ·rw [getD_set_ne true (by omega)]; exact hk
 have hsete:(ls.setIfInBounds e true).getD e true=true:=by
  have:e < ls.size:=by omega
  simp [this]
 have apart:∀ k b,bm k=some b->(T (e+1)).n <= k->(∀ q,q ≠ k->bm q ≠ some b)->∀ q,q ≠ k->bm' q ≠ some b:=fun k b hk hge hq q hqk hqb=>by
  by_cases hin:(T e).n <= q/\q < (T (e+1)).n
  ·rcases g.fresh q b hin.1 hin.2 hqb with r | ⟨j,_,j2,j3⟩
   ·have:=hold k b hk;omega
   ·exact hq j (by omega) j3
  ·rw [g.same q hin] at hqb;exact hq q hqk hqb
 have stays:∀ k b,bm k=some b->(T (e+1)).n <= k->(∀ q,q ≠ k->bm q ≠ some b)->w'.heap[b]?=w.heap[b]?:=fun k b hk hge hq=>f.same b (hold k b hk) fun q _ q2 hqb=>hq q (by omega) hqb;have lo:∀ k,k < (T (e+1)).n->(T e').H.get k=(T (e+1)).H.get k:=fun k hk=>h.chain hk e' h1 h2 fun x x1 x2 x3 _=>absurd x3 (h4 x x1 x2);refine ⟨e+1,e',h1,h2,fun i hi hk=>?_,.inr ⟨e,rfl,ke,hsete⟩,fun hle=>⟨h3 hle,?_⟩,h4,⟨fun k b x hb hx=>?_,okN.lt,okN.nz,fun k j b x y hk1 hj1 hx hy=>?_,okN.zlt⟩,fun j hj hlj=>?_,fun k hk1=>?_,fun k b k1 k2 k3=>?_,fun b hz=>g.z b (hF.z b hz),fun b hz=>(g.zn b hz).elim (hF.zn b) fun q=>.inr (le_trans hF.frame.le q),⟨?_,fun b hb1 hn=>?_,fun b M hb1=>f.sz b M (hF.frame.sz b M hb1),f.env.1.trans hF.frame.env.1,f.env.2.1.trans hF.frame.env.2.1,f.env.2.2.trans hF.frame.env.2.2⟩,fun j hj hlj=>?_,fun j oj hoj hk3 hbj hlj hej b hb=>?_,fun j oj hoj hlj e1 he1 hb1=>?_⟩
 ·by_cases hie:i=e
  ·subst hie; exact hsete
  ·rcases lt_or_ge i s with q | q
   ·exact hset i (hF.s0 i q hk)
   ·exact absurd hk (hF.mid i q (by omega))
 ·rw [getD_set_ne true (by omega)];exact hF.notdone h hs (by omega) hle (.inl (h3 hle))
 ·rcases lt_or_ge k (T (e+1)).n with q | q
  ·exact okN.box k b x hb (by rw [<- lo k q]; exact hx)
  ·have hb2:=hb;rw [g.same k (by omega)] at hb2;obtain ⟨j,oj,_,_,_,z2,z3⟩:=hF.ahead h hs h1 h2 h4 hb2 q hx;exact z2.keep hkp (stays k b hb2 q z3)
 ·have one:∀ k x,bm' k=some b->(T e').H.get k=some x->(T (e+1)).n <= k->∀ q,q ≠ k->bm' q ≠ some b:=fun k x hb hx q=>by
   have hb2:=hb;rw [g.same k (by omega)] at hb2;obtain ⟨j,oj,_,_,_,z2,z3⟩:=hF.ahead h hs h1 h2 h4 hb2 q hx;exact apart k b hb2 q z3
  rcases lt_or_ge k (T (e+1)).n with q | q
  ·rcases lt_or_ge j (T (e+1)).n with q' | q'
   ·exact okN.inj k j b x y hk1 hj1 (by rw [<- lo k q]; exact hx) (by rw [<- lo j q']; exact hy)
   ·exact absurd hk1 (one j y hj1 hy q' k (by omega))
  ·by_cases hjk:j=k
   ·exact hjk.symm
   ·exact absurd hj1 (one k x hk1 hx q j hjk)
 ·have hji:j ≠ e:=by
   rintro rfl;rw [hsete] at hlj;cases hlj
  rw [getD_set_ne true (by omega)] at hlj;intro k k1 k2;rw [g.same k ?_]
  ·exact hF.none j hj hlj k k1 k2
  ·rcases lt_or_gt_of_ne hji with h' | h'
   ·have:=(hm e (by omega)).2 (j+1) (by omega);omega
   ·have:=(hm j (by omega)).2 (e+1) (by omega);omega
 ·have q1:=(hm e (by omega)).2 0 (by omega);have q2:=(hm l.length (le_refl _)).2 (e+1) (by omega);rw [g.same k (by omega)];exact hF.same k hk1
 ·by_cases hin:(T e).n <= k/\k < (T (e+1)).n
  ·rcases g.fresh k b hin.1 hin.2 k3 with r | ⟨j,j1,j2,j3⟩
   ·have:=hF.frame.le;exact .inl (by omega)
   ·rcases lt_or_ge j (T 0).n with q | q
    ·rw [hF.same j (by omega)] at j3;exact .inr ⟨j,j1,q,j3⟩
    ·have:=(hm l.length (le_refl _)).2 e (by omega);exact hF.fresh j b q (by omega) j3
  ·rw [g.same k hin] at k3;exact hF.fresh k b k1 k2 k3
 ·have:=hF.frame.le;have:=f.le;omega
 ·have q:=hF.frame.le;rw [f.same b (by omega) (fun k k1 k2 hkb=>?_),hF.frame.same b hb1 hn];rcases lt_or_ge k (T 0).n with r | r
  ·rw [hF.same k (by omega)] at hkb;exact hn k k1 r hkb
  ·have:=(hm l.length (le_refl _)).2 e (by omega)
   rcases hF.fresh k b r (by omega) hkb with q1 | ⟨j,j1,j2,j3⟩
   ·omega
   ·exact hn j j1 j2 j3
 ·by_cases hji:j=e
  ·subst hji;rw [upd_same];exact hv
  ·rw [upd_ne _ _ hji];rw [getD_set_ne true (by omega)] at hlj;exact hkp.relV (hF.val j hj hlj)
 ·have hji:j ≠ e:=by omega
  rw [getD_set_ne true (by omega)] at hlj;have hj:j < l.length:=(List.getElem?_eq_some_iff.1 hoj).1;have hge:=(hm j (by omega)).2 (e+1) (by omega);have hb2:=hb;rw [g.same _ (by omega)] at hb2;obtain ⟨⟨x,e1,e3⟩,e4⟩:=hF.early j oj hoj hk3 hbj hlj (by omega) b hb2;exact ⟨⟨x,e1,e3.keep hkp (stays _ b hb2 hge e4)⟩,apart _ b hb2 hge e4⟩
 ·by_cases hji:j=e
  ·subst hji
   obtain rfl:o=oj:=by rw [ho] at hoj; simpa using hoj
   exact hset _ (hd e1 he1 hb1)
  ·rw [getD_set_ne true (by omega)] at hlj;exact hset _ (hF.dn j oj hoj hlj e1 he1 hb1)
end
open Vc (a4M a6F a2S a0O a01 a1A a1i a1j a1w Fresh a2K a0B)
section
variable {P:Program} {L:Tr ZL} {W:Nat->Bool} {m N:Nat} {l:List Oper} {T:Nat->Sx} {R:Nat->KV} {B:Nat->Bool} {Kk:Nat->Nat} {bm0:BM} {a0:Act} {w0:World}
theorem aNZ (hL:a5q P L) {H:Hp Bx} {bm:BM} {w:World} {Ty k off b:Nat} {r:KV} {x:Bx} (h:a9A L H Ty (.k (.c (.p k off)))=some r) (hx:H.get k=some x) (hB:BoxAt bm w b x) :
    ∃ v,(Instr.loadAt Ty (.pointer (some ⟨b,off,none⟩))).run P w=.ok v w/\relV bm w r v:=by
 simp only [a9A] at h
 split at h <;> try (cases h; done)
 rename_i l hl;rw [hx] at h;simp only at h
 split at h <;> try (cases h; done)
 rename_i cs hc;obtain ⟨vs,rs,h1,h2⟩:=hB;obtain ⟨e1,e2,e3⟩:=a4I hc;have hvl:=h2.len
 have hrel:relL bm w (a0d cs) ((vs.drop off).take l.size):=by rw [e1]; exact (h2.drop off).take _
 have hrange:w.rangeAt b off ((vs.drop off).take l.size):=by
  have:=a0B (w:=w) (b:=b) (vs:=vs ++ rs) (T:=x.T) (fz:=(0,0)) h1 off l.size;rw [List.drop_append_of_le_length (by omega),List.take_append_of_le_length (by rw [List.length_drop]; omega)] at this;exact this
 exact ⟨_,a6L (hL Ty l hl) b off w _ (by rw [<- hrel.len,e3]) hrange,a3A h hrel⟩
theorem a7p (hL:a5q P L) (h:FH P L W m N l T R B Kk) (hR:Rz N (T 0).tm (T 0).H bm0 a0 w0) (hroom:Room bm0 (T 0).n (T l.length).n) {Q:Exit->Act->World->Prop} {i:Nat} {o:Oper} (ho:l[i]?=some o) :
    a4M P Q l a0 (fun ls vals w=>∃ bm s e,FI L W m l T R B bm0 w0 ls vals w bm s e) i o:=by
 rintro ls vals w hs hu hd ⟨bm,s,e,hF⟩ hf;have hi:i < l.length:=(List.getElem?_eq_some_iff.1 ho).1;have hm:=h.mono;obtain ⟨hk,_⟩:=hF.keep h hR hroom;obtain ⟨hwt,_,h1,h2⟩:=h.tr i o ho;obtain ⟨hop,hgd⟩:=aFS h.hfl ho
 have hoa:l.toArray[i]?=some o:=by simpa using ho
 have hrm:=hF.none i hi hu
 have hkk:kd W l i=knd W o:=by simp [kd,ho]
 have hold:∀ k b,bm k=some b->b < w.heap.size:=fun k b h=>hF.ok.lt k b h
 have hdone:∀ k,Reach l i k->ls.getD k true=true:=fun k hr=>hF.done h hs hr hi (fun o' ho'=>by
  obtain rfl:o=o':=by rw [ho] at ho'; simpa using ho'
  exact hd)
 have hdone2:∀ j k,j < l.length->ls.getD j true=true->Reach l j k->ls.getD k true=true:=fun j k hj hlj hr=>hF.done h hs hr hj (fun o' ho'=>hF.dn j o' ho' hlj)
 have hwr:Region.wanted o (yielded l.toArray (a0E l vals 0 a0).tmps)=B i:=a9y hwt fun g og t x hg hog hdt hx=>by
  refine aKb h hR hk hF.val ho hd hf ?_ hx
  cases hfd:a1A l 0 t with
  | none=>exact absurd hdt (a1w hfd og (List.mem_of_getElem? hog))
  | some j =>
    obtain ⟨k,o',e1,ho',hd'⟩:=a1j hfd;rw [zero_add] at e1;subst e1;have:=a2K h.hA hog ho' hdt hd';subst this;exact .inr ⟨g.1,og,rfl,.inl (hgd g hg)⟩
 have hev:∀ x ∈ o.op.operands,relV bm w (evO (T i).tm x) ((a0E l vals 0 a0).eval x):=fun x hx=>by
  cases x with
  | tmp t =>
    simp only [evO]
    cases hget:(T i).tm.get t with
    | none=>trivial
    | some x=>exact aKb h hR hk hF.val ho hd hf (hop t hx) hget
  | const v=>exact aQK bm w v
  | func f=>exact ⟨[],trivial,rfl⟩
  | global g=>trivial
 unfold wpOp;simp only [hoa]
 cases hb:B i with
 | false =>
   rw [hb] at hwr;rw [if_neg (by rw [hwr]; decide)];obtain ⟨e1,e2,e3⟩:=h2 hb;by_cases hie:i=e
   ·subst hie;obtain ⟨s',e',hF'⟩:=hF.adv (bm':=bm) (w':=w) (v:=undef) h hs ho hd (by rw [e3]; exact Grow.refl ..) (Frame.refl ..) (by rw [e2]; exact hF.ok) (by rw [e1]; exact a9C bm w);exact ⟨undef,rfl,bm,s',e',hF'⟩
   ·exact ⟨undef,rfl,bm,s,e,hF.next h hs ho hd hie (by rw [e3]; exact Grow.refl ..) (Frame.refl ..) hrm hF.ok (by rw [e1]; exact a9C bm w) (fun _ hb'=>by rw [hb] at hb'; cases hb')⟩
 | true =>
   rw [hb] at hwr;rw [if_pos hwr];have st:=h1 hb
   have hne:kd W l i ≠ 2->i ≠ e:=fun hk hie=>by
    subst hie;exact hk (hF.e0 hi).1
   rcases a94 W o with q | q | q | q | q
   ·obtain ⟨z1,z2,z3⟩:=st.p (hkk.trans q)
    have okl:Ok Hp.mk0 bm w:=hF.ok.re fun k b x _ hx=>by rw [Hp.mk_none] at hx; cases hx
    obtain ⟨v,r1,r2⟩:=a6x (ρ:=(a0E l vals 0 a0).eval) hL okl hev z1;refine .inl (OpRun.wp (.val v w r1 (R:=fun v' w'=>v'=v/\w'=w) ⟨rfl,rfl⟩) fun v' w' hv=>?_);obtain ⟨rfl,rfl⟩:=hv;exact ⟨v',rfl,bm,s,e,hF.next h hs ho hd (hne (by omega)) (by rw [z3]; exact Grow.refl ..) (Frame.refl ..) hrm hF.ok r2 (fun hk3=>by omega)⟩
   ·obtain ⟨⟨Ty,x,z0',zx⟩,z1,z2,z3⟩:=st.ld (hkk.trans q);have z0:o.op=.load Ty x:=z0'
    rcases zx with ⟨off,zx⟩ | ⟨v,zx⟩
    rotate_left
    ·have z1':a2w L Hp.mk0 (evO (T i).tm) o.op=some (R i):=by
      have z1:a2w L (T i).H (evO (T i).tm) o.op=some (R i):=z1;rw [<- z1,z0];simp only [a2w];rw [zx];rfl
     have okl:Ok Hp.mk0 bm w:=hF.ok.re fun k b x _ hx=>by rw [Hp.mk_none] at hx; cases hx
     obtain ⟨v,r1,r2⟩:=a6x (ρ:=(a0E l vals 0 a0).eval) hL okl hev z1';refine .inl (OpRun.wp (.val v w r1 (R:=fun v' w'=>v'=v/\w'=w) ⟨rfl,rfl⟩) fun v' w' hv=>?_);obtain ⟨rfl,rfl⟩:=hv;exact ⟨v',rfl,bm,s,e,hF.next h hs ho hd (hne (by omega)) (by rw [z3]; exact Grow.refl ..) (Frame.refl ..) hrm hF.ok r2 (fun hk3=>by omega)⟩
    have z1:a2w L (T i).H (evO (T i).tm) o.op=some (R i):=z1;have hx:=hev x (by rw [z0]; simp [Op.operands]);rw [zx] at hx;obtain ⟨b,hbm,hv⟩:=hx;rw [z0] at z1;simp only [a2w] at z1;rw [zx] at z1
    have hbox:∃ y,(T i).H.get (Kk i)=some y/\BoxAt bm w b y:=by
     have hsome:∃ y,(T i).H.get (Kk i)=some y:=by
      simp only [a9A] at z1
      split at z1 <;> try (cases z1; done)
      split at z1 <;> try (cases z1; done)
      rename_i y hy;exact ⟨y,hy⟩
     obtain ⟨y,hy⟩:=hsome;refine ⟨y,hy,?_⟩;have hki:=(hm i (by omega)).1.lt hy
     have unord:∀ x,kd W l x=2->B x=true->x < l.length->(Ord l x i->False)->x ≠ i->(T x).H.get (Kk i)=(T (x+1)).H.get (Kk i):=fun x k2 bx xl hno hxi=>by
      rcases lt_or_gt_of_ne hxi with hlt | hgt
      ·rcases h.seen x i hlt hi bx hb with hr | hr
       ·exact (hno hr).elim
       ·exact hr.1 (hkk.trans q) k2
      ·rcases h.seen i x hgt xl hb bx with hr | hr
       ·exact (hno hr.symm).elim
       ·exact hr.2.1 k2 (hkk.trans q)
     rcases lt_or_ge (Kk i) (T e).n with hke | hke
     ·refine hF.ok.box (Kk i) b y hbm ?_;rw [<- hy];rcases lt_or_ge i e with hie | hie
      ·refine h.chain hki e (by omega) hF.ep fun x x1 x2 k2 bx=>?_
       have hxi:x ≠ i:=by
        rintro rfl;have:=hkk.trans q;omega
       have hxs:x < s:=by
        rcases lt_or_ge x s with r | r
        ·exact r
        ·exact absurd k2 (hF.mid x r x2)
       refine unord x k2 bx (by have:=hF.ep; omega) (fun hr=>?_) hxi;rcases hr with r | r
       ·have:=hdone2 x i (by have:=hF.ep; omega) (hF.s0 x hxs k2) r;rw [hu] at this;cases this
       ·have:=h.reach r;omega
      ·symm;refine h.chain hke i hie (by omega) fun x x1 x2 k2 bx=>unord x k2 bx (by omega) (fun hr=>?_) (by omega)
       have hnd:ls.getD x true=false:=by
        rcases lt_or_ge e x with r | r
        ·exact hF.notdone h hs r (by omega) (.inl k2)
        ·obtain rfl:e=x:=by omega
         exact (hF.e0 (by omega)).2
       rcases hr with r | r
       ·have:=h.reach r;omega
       ·have:=hdone x r;rw [hnd] at this;cases this
     ·obtain ⟨x,x1,x2,x3,x4⟩:=b5R (T:=T) i (by
       rcases lt_or_ge i e with r | r
       ·have:=(hm e hF.ep).2 i (by omega);omega
       ·exact r) hke hki
      have hxl:x < l.length:=by omega
      have hox:l[x]?=some l[x]:=by simp
      have hdx:ls.getD x true=true:=by
       cases hq:ls.getD x true with
       | true=>rfl
       | false=>rw [hF.none x hxl hq _ x3 x4] at hbm; cases hbm
      have hkx:kd W l x=knd W l[x]:=by simp [kd,hox]
      obtain ⟨_,_,t1,t2⟩:=h.tr x l[x] hox
      cases hBx:B x with
      | false =>
        obtain ⟨_,_,e3⟩:=t2 hBx
        omega
      | true =>
        have stx:=t1 hBx
        have hxe:kd W l x=2->False:=fun k2=>by
         rcases lt_or_ge e x with r | r
         ·rw [hF.notdone h hs r hxl (.inl k2)] at hdx;cases hdx
         ·obtain rfl:e=x:=by omega
          rw [(hF.e0 hxl).2] at hdx;cases hdx
        have k3:kd W l x=3:=by
         rcases a94 W l[x] with p | p | p | p | p
         ·have:=(stx.p (hkx.trans p)).2.2;omega
         ·have:=(stx.ld (hkx.trans p)).2.2.2;omega
         ·exact (hxe (hkx.trans p)).elim
         ·exact hkx.trans p
         ·have hne':e ≠ x:=by
           rintro rfl;have:=(hF.e0 hxl).1;have:=hkx.trans p;omega
          rw [hF.notdone h hs (x:=x) (by omega) hxl (.inr (hkx.trans p))] at hdx;cases hdx
        obtain ⟨x0,_,_,_,o5⟩:=stx.al k3
        have hkn:Kk i=(T x).n:=by omega
        rw [hkn] at hbm;obtain ⟨⟨x1',e1,e3⟩,_⟩:=hF.early x l[x] hox k3 hBx hdx x1 b hbm
        have hyz:y=x1':=by
         rw [h.chain (i:=x+1) (k:=Kk i) x4 i (by omega) (by omega) fun y y1 y2 y3 yb=>unord y y3 yb (by omega) (fun hr=>by
          have hnd:ls.getD y true=false:=hF.notdone h hs (by omega) (by omega) (.inl y3);rcases hr with r | r
          ·have:=h.reach r;omega
          ·have:=hdone y r;rw [hnd] at this
           cases this) (by omega),hkn,e1] at hy
         simpa using hy.symm
        rw [hyz];exact e3
    obtain ⟨y,hy,hB⟩:=hbox;obtain ⟨v,r1,r2⟩:=aNZ (P:=P) hL z1 hy hB;refine .inl (OpRun.wp (.val v w (by simp only [execOp,z0,hv]; exact a0O r1) (R:=fun v' w'=>v'=v/\w'=w) ⟨rfl,rfl⟩) fun v' w' hv'=>?_);obtain ⟨rfl,rfl⟩:=hv';exact ⟨v',rfl,bm,s,e,hF.next h hs ho hd (hne (by omega)) (by rw [z3]; exact Grow.refl ..) (Frame.refl ..) hrm hF.ok r2 (fun hk3=>by omega)⟩
   ·have hk2:=hkk.trans q
    have hie:i=e:=by
     rcases lt_or_ge i e with r | r
     ·exfalso;rcases lt_or_ge i s with r' | r'
      ·have:=hF.s0 i r' hk2;rw [hu] at this;cases this
      ·exact hF.mid i r' r hk2
     ·rcases lt_or_ge e i with r' | r'
      ·exfalso
       have he:e < l.length:=by omega
       rcases a5U h.hord he hi (by omega) (hF.e0 he).1 (.inl hk2) with p | p
       ·have:=h.reach p;omega
       ·have:=hdone e p;rw [(hF.e0 he).2] at this;cases this
      ·omega
    subst hie;obtain ⟨_,hrun⟩:=st.sy hk2 (le_trans h.mn ((hm i (by omega)).2 0 (zero_le _))) (hm i (by omega)).1;refine .inl ((hrun bm w (a0E l vals 0 a0).eval hF.ok hrm (fun _=>rfl) (fun _=>rfl) hev).wp fun v w' ⟨bm',g,f,ok',hv⟩=>?_);obtain ⟨s',e',hF'⟩:=hF.adv h hs ho hd g f ok' hv;exact ⟨v,rfl,bm',s',e',hF'⟩
   ·have hk3:=hkk.trans q;obtain ⟨xb,z3,z4,z4g,z5⟩:=st.al hk3;obtain ⟨v0,w',vs,r1,r2,r3,r4,r6⟩:=z3 bm w (a0E l vals 0 a0).eval hev;refine .inl (OpRun.wp (.val v0 w' r1 (R:=fun v' w''=>v'=v0/\w''=w') ⟨rfl,rfl⟩) fun v' w'' hv'=>?_);obtain ⟨rfl,rfl⟩:=hv';have hn1:bm (T i).n=none:=hrm _ (le_refl _) (by omega)
    have g:Grow (T i).n (T i).n (T (i+1)).n w bm (a4J bm (T i).n w.heap.size):=by rw [z5]; exact Grow.new bm (le_refl _)
    have f:Frame (T i).n (T i).n bm w w'':=Frame.of_ext r2;have hkp:Keep bm (a4J bm (T i).n w.heap.size) w w'':=Keep.of hF.ok g hrm f
    have hbx:BoxAt (a4J bm (T i).n w.heap.size) w'' w.heap.size xb:=⟨vs,[],by rw [List.append_nil]; exact r3,hkp.relL r4⟩
    have hEi:∀ y,(T e).H.get (T i).n=some y->y=xb:=fun y hy=>by
     have hlt:=(hm e hF.ep).1.lt hy
     have hie:i < e:=by
      rcases lt_or_ge i e with r | r
      ·exact r
      ·have:=(hm i (by omega)).2 e r;omega
     rw [h.chain (i:=i+1) (by omega) e (by omega) hF.ep fun x x1 x2 k2 bx=>by
      have hxs:x < s:=by
       rcases lt_or_ge x s with r | r
       ·exact r
       ·exact absurd k2 (hF.mid x r x2)
      rcases h.seen i x (by omega) (by have:=hF.ep; omega) hb bx with hr | hr
      ·exfalso;rcases hr with r | r
       ·have:=h.reach r;omega
       ·have:=hdone2 x i (by have:=hF.ep; omega) (hF.s0 x hxs k2) r;rw [hu] at this;cases this
      ·exact hr.2.2 k2 hk3,z4] at hy
     have:=Hp.put_eq _ _ _ _ hy;simpa using this.symm
    refine ⟨_,rfl,_,s,e,hF.next h hs ho hd (hne (by omega)) g f hrm ⟨fun k b y hb1 hy=>?_,fun k b hb1=>?_,fun k b hb1 hz=>?_,fun k j b x y hk1 hj1 hx hy=>?_,fun b hz=>lt_of_lt_of_le (hF.ok.zlt b hz) f.le⟩ (r6 _ (a1r ..)) (fun _ _ _ b hb1=>?_)⟩
    ·by_cases hkn:k=(T i).n
     ·subst hkn;rw [a1r] at hb1
      obtain rfl:w.heap.size=b:=by simpa using hb1
      rw [hEi y hy];exact hbx
     ·rw [a1W bm hkn] at hb1;exact (hF.ok.box k b y hb1 hy).keep hkp (f.same b (hold k b hb1) fun q q1 q2=>by omega)
    ·by_cases hkn:k=(T i).n
     ·subst hkn;rw [a1r] at hb1
      obtain rfl:w.heap.size=b:=by simpa using hb1
      exact (Array.getElem?_eq_some_iff.1 r3).1
     ·rw [a1W bm hkn] at hb1;exact lt_of_lt_of_le (hold k b hb1) f.le
    ·by_cases hkn:k=(T i).n
     ·subst hkn;rw [a1r] at hb1
      obtain rfl:w.heap.size=b:=by simpa using hb1
      exact lt_irrefl _ (hF.ok.zlt _ hz)
     ·rw [a1W bm hkn] at hb1;exact hF.ok.nz k b hb1 hz
    ·by_cases hkn:k=(T i).n <;> by_cases hjn:j=(T i).n
     ·rw [hkn,hjn]
     ·exfalso;subst hkn;rw [a1r] at hk1;rw [a1W bm hjn] at hj1
      obtain rfl:w.heap.size=b:=by simpa using hk1
      exact lt_irrefl _ (hold j _ hj1)
     ·exfalso;subst hjn;rw [a1r] at hj1;rw [a1W bm hkn] at hk1
      obtain rfl:w.heap.size=b:=by simpa using hj1
      exact lt_irrefl _ (hold k _ hk1)
     ·rw [a1W bm hkn] at hk1;rw [a1W bm hjn] at hj1;exact hF.ok.inj k j b x y hk1 hj1 hx hy
    ·rw [a1r] at hb1
     obtain rfl:w.heap.size=b:=by simpa using hb1
     refine ⟨⟨xb,z4g,hbx⟩,fun k hk hkb=>?_⟩;rw [a1W bm hk] at hkb;exact lt_irrefl _ (hold k _ hkb)
   ·have hk4:=hkk.trans q
    have hse:i < e:=by
     rcases lt_or_ge i e with r | r
     ·exact r
     ·exfalso
      have he:e < l.length:=by omega
      have hne':=hne (by omega);rcases a5U h.hord he hi (fun hh=>hne' hh.symm) (hF.e0 he).1 (.inr hk4) with p | p
      ·have:=h.reach p;omega
      ·have:=hdone e p;rw [(hF.e0 he).2] at this;cases this
    have hss:s <= i:=by
     rcases lt_or_ge i s with r | r
     ·exfalso
      rcases hF.sl with p | ⟨j,p1,p2,p3⟩
      ·omega
      ·have hjl:j < l.length:=by have:=hF.se; have:=hF.ep; omega
       have hji:j ≠ i:=by
        rintro rfl;omega
       rcases a5U h.hord hjl hi hji p2 (.inr hk4) with p | p
       ·have:=hdone2 j i hjl p3 p;rw [hu] at this;cases this
       ·have:=h.reach p;omega
     ·exact r
    obtain ⟨_,hrun⟩:=st.mkb (by simp only; omega) (by simp only; omega) (by simp only; omega) (by simp only; omega) (le_refl _) (hm i (by omega)).1;have lo:∀ a,i <= a->a <= e->∀ k,k < (T a).n->(T e).H.get k=(T a).H.get k:=fun a a1 a2 k hk=>h.chain hk e a2 hF.ep fun x x1 x2 k2 _=>absurd k2 (hF.mid x (by omega) x2)
    have okI:Ok (T i).H bm w:=hF.ok.re fun k b x hbk hx=>by
     rw [lo i (le_refl _) (by omega) k ((hm i (by omega)).1.lt hx)];exact hx
    refine .inl ((hrun bm w (a0E l vals 0 a0).eval okI hrm (fun _=>rfl) (fun _=>rfl) hev).wp fun v w' ⟨bm',g0,f,ok',hv⟩=>?_);have g:Grow (T i).n (T i).n (T (i+1)).n w bm bm':=g0;have hkp:Keep bm bm' w w':=Keep.of hF.ok g hrm f
    have hfresh:∀ k b,(T i).n <= k->k < (T (i+1)).n->bm' k=some b->w.heap.size <= b:=fun k b k1 k2 k3=>by
     rcases g.fresh k b k1 k2 k3 with h | ⟨j,j1,j2,_⟩
     ·exact h
     ·omega
    refine ⟨v,rfl,bm',s,e,hF.next h hs ho hd (hne (by omega)) g f hrm ⟨fun k b x hb1 hx=>?_,ok'.lt,ok'.nz,fun k j b x y hk1 hj1 hx hy=>?_,ok'.zlt⟩ hv (fun hk3=>by omega)⟩
    ·rcases lt_or_ge k (T (i+1)).n with hlt | hge
     ·exact ok'.box k b x hb1 (by
       show (T (i+1)).H.get k=some x;rw [<- lo (i+1) (by omega) hse k hlt]
       exact hx)
     ·rw [g.same k (by omega)] at hb1;exact (hF.ok.box k b x hb1 hx).keep hkp (f.same b (hold k b hb1) fun j j1 j2=>by omega)
    ·have new:∀ k,bm' k=some b->((T i).n <= k/\k < (T (i+1)).n) \/ (bm k=some b):=fun k hk1=>by
      by_cases hin:(T i).n <= k/\k < (T (i+1)).n
      ·exact .inl hin
      ·exact .inr (by rw [<- g.same k hin]; exact hk1)
     have inP:∀ k x,(T i).n <= k/\k < (T (i+1)).n->(T e).H.get k=some x->(T (i+1)).H.get k=some x:=fun k x hin hx=>by
      rw [<- lo (i+1) (by omega) hse k hin.2];exact hx
     rcases new k hk1 with ka | ka <;> rcases new j hj1 with ja | ja
     ·exact ok'.inj k j b x y hk1 hj1 (inP k x ka hx) (inP j y ja hy)
     ·have q1:=hfresh k b ka.1 ka.2 hk1;have q2:=hold j b ja;omega
     ·have q1:=hfresh j b ja.1 ja.2 hj1;have q2:=hold k b ka;omega
     ·exact hF.ok.inj k j b x y ka ja hx hy
end
open Vc (a1G a4M a6F a2S)
def b03 (W:Nat->Bool) (N:Nat) (l:List Oper):Option (List Inf) :=
 bif a2l l && aC0 l && a1L l N && a8e l && aMp W l && a4A l l.length then some (aVt W l) else none
def aWG (P:Program) (N m:Nat) (c:Code) (tm:Fr KV) (H:Hp Bx) (n:Nat) (e:Exit) (tm':Fr KV) (H':Hp Bx) (n':Nat):Prop :=
 m <= n->Low H n->Stat m H n H' n'/\∀ (bm:BM) (a:Act) (w:World) (Q:Exit->Act->World->Prop),Rz N tm H bm a w->Room bm n n' ->
   (∀ bm' a' w',Rz N tm' H' bm' a' w'->Grow m n n' w bm bm'->Frame m n bm w w'->Q e a' w')->c.wp P Q a w
section
variable {α:Type} {P:Program} {L:Tr ZL} {W:Nat->Bool} {m N:Nat}
def aCv (C:Ct α) (L:Tr ZL) (W:Nat->Bool) (N m:Nat) (l:List Oper) (draw:Bool) (tm:Fr KV) (H:Hp Bx) (n:Nat) (K:Exit->Fr KV->Hp Bx->Nat->Ans α):Ans α :=
 Bool.rec (Bool.rec (.bad 10 (.ready 0)) (aZ8 C L m l l tm H n fun tm H n=>K .normal tm H n) (a1L l N))
  (Option.rec (.bad 10 (.ready 1)) (fun es=>aUV C L m l es tm H n [] fun tm H n=>K .normal tm H n) (b03 W N l)) draw
theorem aL7 (hm:P.follows .mixedOrders=true) (hL:a5q P L) {C:Ct α} (hC:a5n P C) {id:Nat} {ops:Array Oper} {draw:Bool} {tm:Fr KV} {H:Hp Bx} {n:Nat} {K:Exit->Fr KV->Hp Bx->Nat->Ans α} {y:α} (h:aCv C L W N m ops.toList draw tm H n K=.ok y) :
    ∃ e tm' H' n',K e tm' H' n'=.ok y/\aWG P N m (.region id ops draw) tm H n e tm' H' n':=by
 have hops:ops=ops.toList.toArray:=by simp
 cases draw with
 | false =>
   have h1:(Bool.rec (.bad 10 (.ready 0)) (aZ8 C L m ops.toList ops.toList tm H n fun tm H n=>K .normal tm H n) (a1L ops.toList N):Ans α)=.ok y:=h
   cases hi:a1L ops.toList N with
   | false=>rw [hi] at h1; cases h1
   | true =>
     rw [hi] at h1;obtain ⟨tm',H',n',hk,hs⟩:=aHu (N:=N) (m:=m) hL hC ops.toList h1;refine ⟨_,tm',H',n',hk,fun hmn hl=>?_⟩;obtain ⟨s,r⟩:=hs hmn hl;refine ⟨s,fun bm a w Q hR hroom hQ=>?_⟩;rw [hops]
     exact wp_region_lit (r bm a w Q hR hroom hi hQ)
 | true =>
   have h1:(Option.rec (.bad 10 (.ready 1)) (fun es=>aUV C L m ops.toList es tm H n [] fun tm H n=>K .normal tm H n) (b03 W N ops.toList):Ans α)=.ok y:=h
   generalize hlo:ops.toList=l at *
   cases hr:b03 W N l with
   | none=>rw [hr] at h1; cases h1
   | some es =>
     rw [hr] at h1;unfold b03 at hr
     cases hc:(a2l l && aC0 l && a1L l N && a8e l && aMp W l && a4A l l.length) with
     | false=>rw [hc] at hr; simp at hr
     | true =>
       rw [hc] at hr;simp only [cond_true,injEq] at hr;subst hr;simp only [Bool.and_eq_true] at hc;obtain ⟨⟨⟨⟨⟨hA,hlow⟩,hI⟩,hfl⟩,hord⟩,hT2⟩:=hc;obtain ⟨T,R,B,Kk,t0,hk,tr,se,_⟩:=aHw (m:=m) hL hC (aVt W l) h1;rw [aT2] at hk;refine ⟨_,_,_,_,hk,fun hmn hl=>?_⟩
       have e1:tm=(T 0).tm:=by rw [t0]
       have e2:H=(T 0).H:=by rw [t0]
       have e3:n=(T 0).n:=by rw [t0]
       have hh:FH P L W m N l T R B Kk:=FH.of tr se hA hlow hI hfl hord (by rw [<- e3]; exact hmn) (by rw [<- e2,<- e3]; exact hl);have hmo:=hh.mono l.length (le_refl _);refine ⟨⟨by rw [e3]; exact hmo.2 0 (zero_le _),hmo.1,fun k hk=>?_⟩,fun bm a w Q hR hroom hQ=>?_⟩
       ·have key:∀ j,j <= l.length->(T j).H.get k=(T 0).H.get k:=by
         intro j
         induction j with
         | zero=>exact fun _=>rfl
         | succ j ih =>
           intro hj;rw [<- ih (by omega)];have hmj:=hh.mono j (by omega);have hmj0:=hmj.2 0 (zero_le _)
           have hjl:j < l.length:=by omega
           have ho:l[j]?=some l[j]:=by simp
           obtain ⟨_,_,s1,s2⟩:=hh.tr j l[j] ho;by_cases hsy:kd W l j=2/\B j=true
           ·exact ((s1 hsy.2).sy hsy.1 (le_trans hh.mn hmj0) hmj.1).1.same k hk
           ·exact (hh.step1 hjl hmj.1 (le_trans hh.mn hmj0)).2.2 (fun h2=>by
             cases hb:B j with
             | false=>rfl
             | true=>exact absurd ⟨h2,hb⟩ hsy) k (by have:=hh.mn; omega)
        rw [key l.length (le_refl _),e2]
       ·have hR0:Rz N (T 0).tm (T 0).H bm a w:=by rw [<- e1,<- e2]; exact hR
        have hroom1:Room bm (T 0).n (T l.length).n:=by rw [<- e3]; exact hroom
        rw [hops];have key:=a2S (P:=P) (Q:=Q) (l:=l) (w0:=w) (a0:=a) (I:=fun ls vals w'=>∃ bm' s e,FI L W m l T R B bm w ls vals w' bm' s e) (id:=id) l.length hm;rw [List.take_length,List.drop_length] at key;refine key hA hlow hT2 (fun vals _=>⟨bm,FI.start hh hR0 hroom1 vals⟩) (fun i o ho=>?_) (fun ls vals w' _ hall ⟨bm1,s,e,hF⟩=>?_)
        ·exact a7p hL hh hR0 hroom1 ho
        ·obtain ⟨q1,q2,q3⟩:=hF.stop hh hR0 hroom1 hall;rw [<- e3] at q2 q3;exact hQ bm1 _ w' q1 q2 q3
def b6r (n:Nat) (ks:List (Nat × Nat)):Bool:=List.rec true (fun p _ ih=>Bool.rec false ih (Nat.ble (Nat.succ p.1) n)) ks
def b1O (n:Nat) (x:LF):Bool:=LF.rec (fun _=>true) (fun _=>true) (fun _=>true) (fun k _=>Nat.ble (Nat.succ k) n) (fun k _ _ _ _=>Nat.ble (Nat.succ k) n) true (fun _ ks=>b6r n ks) (fun _=>true) x
def aPw (n:Nat) (l:List LF):Bool:=List.rec true (fun x _ ih=>Bool.rec false ih (b1O n x)) l
def b4G (n:Nat) (x:KK):Bool:=KK.rec (fun x=>b1O n x) (fun xs=>aPw n xs) x
def aIb (n:Nat) (l:List KK):Bool:=List.rec true (fun x _ ih=>Bool.rec false ih (b4G n x)) l
def aYz (n:Nat) (x:KV):Bool:=KV.rec true (fun x=>b4G n x) (fun xs=>aIb n xs) x
theorem a1c {a b:Bool} (h:(Bool.rec false b a:Bool)=true):a=true/\b=true:=by
 cases a with
 | false=>cases h
 | true=>exact ⟨rfl,h⟩
section
variable {n:Nat} {bm bm':BM} {w:World} (hb:∀ k,k < n->bm' k=bm k) (hz:∀ b,bm.z b->bm'.z b)
include hb hz
omit hz in
theorem aKI:∀ {ks:List (Nat × Nat)} {us:List Value},b6r n ks=true->relP bm ks us->relP bm' ks us
 | [],[],_,_=>trivial
 | p :: ks,_ :: _,h,⟨⟨b,k1,k2⟩,k3⟩=>by
   obtain ⟨h1,h2⟩:=a1c h
   exact ⟨⟨b,by rw [hb _ (a0R h1)]; exact k1,k2⟩,aKI h2 k3⟩
 | [],_ :: _,_,k=>k.elim
 | _ :: _,[],_,k=>k.elim
theorem aKK {x:LF} {u:Value} (h:b1O n x=true) (k:rel1 bm w x u):rel1 bm' w x u:=by
 cases x with
 | v x=>exact k
 | sl l=>exact k.same (fun _ _=>rfl) hz
 | I z=>exact k
 | q x=>exact let ⟨b,off,e,h1,h2⟩:=k; ⟨b,off,e,hz b h1,h2⟩
 | p q off =>
   obtain ⟨b,k1,k2⟩:=k
   exact ⟨b,by rw [hb _ (a0R h)]; exact k1,k2⟩
 | s q off n c sz =>
   obtain ⟨b,c',a,k1,k2⟩:=k
   exact ⟨b,c',a,by rw [hb _ (a0R h)]; exact k1,k2⟩
 | e0=>exact k
 | fn f ks =>
   obtain ⟨us,k1,k2⟩:=k;exact ⟨us,aKI hb h k1,k2⟩
omit hb hz in
theorem a8b:∀ {l:List LF},aPw n l=true->∀ x ∈ a0d l,b1O n x=true
 | [],_,x,hx=>by simp [a7q] at hx
 | y :: l,h,x,hx=>by
   obtain ⟨h1,h2⟩:=a1c h;simp only [a1a,List.mem_append] at hx;rcases hx with hx | hx
   ·cases y <;> simp only [LF.flat,List.mem_cons,List.not_mem_nil,or_false] at hx
    case I=>rcases hx with rfl | rfl <;> rfl
    all_goals (subst hx; exact h1)
   ·exact a8b h2 x hx
theorem a9W:∀ {l:List LF} {us:List Value},(∀ x ∈ l,b1O n x=true)->relL bm w l us->relL bm' w l us
 | [],[],_,_=>trivial
 | x :: _,_ :: _,h,k=>⟨aKK hb hz (h x (List.mem_cons_self ..)) k.1,a9W (fun y hy=>h y (List.mem_cons_of_mem _ hy)) k.2⟩
 | [],_ :: _,_,k=>k.elim
 | _ :: _,[],_,k=>k.elim
theorem aKJ:∀ {x:KK} {u:Value},b4G n x=true->relK bm w x u->relK bm' w x u
 | .c _,_,h,k=>aKK hb hz h k
 | .g _,_,h,⟨us,e,k⟩=>⟨us,e,a9W hb hz (a8b h) k⟩
theorem a7d:∀ {x:List KK} {us:List Value},aIb n x=true->relKs bm w x us->relKs bm' w x us
 | [],[],_,_=>trivial
 | _ :: _,_ :: _,h,k=>by
   obtain ⟨h1,h2⟩:=a1c h
   exact ⟨aKJ hb hz h1 k.1,a7d h2 k.2⟩
 | [],_ :: _,_,k=>k.elim
 | _ :: _,[],_,k=>k.elim
theorem aCZ:∀ {x:KV} {u:Value},aYz n x=true->relV bm w x u->relV bm' w x u
 | .u,_,_,_=>trivial
 | .k _,_,h,k=>aKJ hb hz h k
 | .t _,_,h,⟨us,e,k⟩=>⟨us,e,a7d hb hz h k⟩
end
def aH3:Hp Bx:=Hp.mk0
def Quiet (bm:BM) (w:World) (r:KV) (v:Value) (w':World):Prop :=
 ∃ z:Nat->Prop,Frame 0 0 bm w w'/\(∀ b,bm.z b->z b)/\(∀ b,z b->(bm.z b \/ w.heap.size <= b)/\b < w'.heap.size)/\relV ⟨bm.f,z⟩ w' r v
def QuietOK (P:Program) (f:Nat) (xs:List KK) (r:KV):Prop :=
 a1G P f=true/\∀ (bm:BM) (w:World) (vs:List Value),(∀ b,bm.z b->b < w.heap.size)->relKs bm w xs vs->Calls P f vs.toArray w fun e w'=>∃ v,e=.returned v/\Quiet bm w r v w'
theorem Quiet.eff {n:Nat} {H:Hp Bx} {bm:BM} {w w':World} {r:KV} {v:Value} (ok:Ok H bm w) (h:Quiet bm w r v w'):Eff m n n H r bm w v w':=by
 obtain ⟨z,f,h1,h2,hv⟩:=h
 have f':∀ m,Frame m n bm w w':=fun m=>⟨f.le,fun b hb _=>f.same b hb (fun k _ hk=>absurd hk (not_lt_zero k)),f.sz,f.env⟩
 have g:∀ m,Grow m n n w bm ⟨bm.f,z⟩:=fun m=>⟨le_refl _,fun _ _=>rfl,fun k b h1 h2 _=>by omega,h1,fun b h=>(h2 b h).1⟩
 have hk:Keep bm ⟨bm.f,z⟩ w w':=Keep.of ok (g n) (fun k h1 h2=>by omega) (f' n);refine ⟨⟨bm.f,z⟩,g m,f' m,⟨fun k b x h1 h2=>(ok.box k b x h1 h2).keep hk ((f' n).same b (ok.lt k b h1) fun k h1 h2=>by omega),fun k b h1=>lt_of_lt_of_le (ok.lt k b h1) f.le,fun k b h1 hz=>?_,ok.inj,fun b hz=>(h2 b hz).2⟩,hv⟩;rcases (h2 b hz).1 with q | q
 ·exact ok.nz k b h1 q
 ·have:=ok.lt k b h1;omega
theorem QuietOK.call {f n:Nat} {xs:List KK} {H:Hp Bx} {r:KV} (h:QuietOK P f xs r):CallOK P m f xs H n ⟨r,H,n⟩ :=
 ⟨h.1,fun _ hl=>⟨Stat.refl hl,fun bm w vs ok _ hrel=>(h.2 bm w vs ok.zlt hrel).mono fun _ _ ⟨v,e,q⟩=>⟨v,e,q.eff ok⟩⟩⟩
def b4I (x:LF) (q:Option (List Nat)):Option (List Nat) :=
 match x with
 | .v (.int .u32 (.ofNat v))=>Option.rec none (fun r=>some (v :: r)) q
 | _=>none
def aFd (l:List LF):Option (List Nat):=List.rec (some []) (fun x _ ih=>b4I x ih) l
theorem aFc:∀ {l:List LF} {r:List Nat},aFd l=some r->a0d l=r.map fun x=>.v (.int .u32 (x:Int))
 | [],r,h=>by
   have e:[]=r:=by simpa [aFd] using h
   subst e
   rfl
 | x :: l,r,h=>by
   have h':b4I x (aFd l)=some r:=h;unfold b4I at h'
   split at h' <;> try (cases h'; done)
   rename_i v
   cases hl:aFd l with
   | none=>rw [hl] at h'; cases h'
   | some s =>
     rw [hl] at h'
     have e:v :: s=r:=by simpa using h'
     subst e;rw [a1a,aFc hl];rfl
def b2c (l:List Nat):Nat:=List.rec 0 (fun x _ ih=>Nat.add x (Nat.mul 1000000000 ih)) l
def lsB (l:List Nat):List Nat->Bool:=List.rec (motive:=fun _=>List Nat->Bool) (fun r=>List.rec (motive:=fun _=>Bool) true (fun _ _ _=>false) r) (fun a _ ih r=>List.rec (motive:=fun _=>Bool) false (fun b r _=>Bool.rec (motive:=fun _=>Bool) false (ih r) (Nat.beq a b)) r) l
theorem aPv:∀ {l r:List Nat},lsB l r=true->l=r
 | [],[],_=>rfl
 | [],_ :: _,h=>by cases h
 | _ :: _,[],h=>by cases h
 | a :: l,b :: r,h=>by
   obtain ⟨h1,h2⟩:=a1c (a:=Nat.beq a b) (b:=lsB l r) h;rw [a0l h1,aPv h2]
def mrg (b:Bool) (l:List Nat) (r d:List LF):List LF :=
 (fun z:Int=>Bool.rec (motive:=fun _=>List LF) d (.I z :: r) (lsB l (aYA z.natAbs))) (Bool.rec (motive:=fun _=>Int) (.ofNat (b2c l)) (.negSucc (Nat.sub (b2c l) 1)) b)
def aVB (H:Hp Bx) (x:LF):Option LF :=
 match x with
 | .s k off n _ sz =>
   match H.get k with
   | some b =>
     match aUe b.cs off n with
     | some cs=>Option.rec none (fun l=>bif Nat.beq sz 1 then some (.sl l) else none) (aFd cs)
     | none=>none
   | none=>none
 | x=>some x
def aQB (x:LF) (r:List LF):List LF :=
 match x with
 | .v (.bool b) =>
   match r with
   | .sl l :: r'=>mrg b l r' (x :: r)
   | .e0 :: r'=>mrg b [] r' (x :: r)
   | .v (.slice none 0 0) :: r'=>mrg b [] r' (x :: r)
   | _=>x :: r
 | _=>x :: r
def b2e (H:Hp Bx) (l:List LF):Option (List LF):=List.rec (some []) (fun x _ ih=>Option.rec none (fun r=>Option.rec none (fun y=>some (aQB y r)) (aVB H x)) ih) l
def b2f (H:Hp Bx) (x:KK):Option KK:=KK.rec (fun x=>Option.rec none (fun y=>some (.c y)) (aVB H x)) (fun l=>Option.rec none (fun r=>some (.g r)) (b2e H l)) x
def aQA (H:Hp Bx) (l:List KK):Option (List KK):=List.rec (some []) (fun x _ ih=>Option.rec none (fun r=>Option.rec none (fun y=>some (y :: r)) (b2f H x)) ih) l
def aVA (H:Hp Bx) (x:KV):Option KV:=KV.rec none (fun x=>Option.rec none (fun y=>some (.k y)) (b2f H x)) (fun l=>Option.rec none (fun r=>some (.t r)) (aQA H l)) x
section
variable {H:Hp Bx} {bm:BM} {w:World} (ok:Ok H bm w)
def bmZ (bm:BM):BM:=⟨bm.f,fun b=>bm.z b \/ ∃ k,bm k=some b⟩
theorem a9v (bm:BM) (w:World):Keep bm (bmZ bm) w w:=⟨fun _ _=>rfl,fun _ h=>.inl h,fun _ _ h=>h,fun _ _ h=>h⟩
theorem aSH {α β:Type} {x:Option α} {f:α->Option β} {r:β} (h:(Option.rec none f x:Option β)=some r):∃ y,x=some y/\f y=some r:=by
 cases x with
 | none=>cases h
 | some y=>exact ⟨y,rfl,h⟩
theorem b2g {a b c d e:Nat} {y:LF} (h:aVB H (.s a b c d e)=some y):∃ l,y=.sl l:=by
 unfold aVB at h;dsimp only at h
 split at h <;> try (cases h; done)
 split at h <;> try (cases h; done)
 obtain ⟨l,_,h⟩:=aSH h;cases hs:Nat.beq e 1 <;> rw [hs] at h <;> cases h;exact ⟨l,rfl⟩
include ok
theorem aLc {x y:LF} {u:Value} (h:aVB H x=some y) (k:rel1 bm w x u):rel1 (bmZ bm) w y u:=by
 unfold aVB at h;split at h
 ·rename_i kk off n c sz
  split at h <;> try (cases h; done)
  rename_i b hb
  split at h <;> try (cases h; done)
  rename_i cs hcs;obtain ⟨l,hl,h⟩:=aSH h
  cases hs:Nat.beq sz 1 with
  | false=>rw [hs] at h; cases h
  | true =>
    rw [hs] at h;simp only [cond_true,injEq] at h;subst h;obtain rfl:=a0l hs;obtain ⟨g,c',a,hg,rfl,h1,h2,h3⟩:=k;obtain ⟨vs,rs,b1,b2⟩:=ok.box kk g b hg hb;obtain ⟨e1,e2,e3⟩:=a4I hcs;rw [aFc hl] at e1 e3
    have hrel:relL bm w (l.map fun x:Nat=>.v (.int .u32 (x:Int))) ((vs.drop off).take n):=by rw [e1]; exact (b2.drop off).take _
    have hl2:l.length=n:=by simpa using e3
    subst hl2;rcases Nat.eq_zero_or_pos c' with h0 | h0
    ·have hl0:l=[]:=List.eq_nil_of_length_eq_zero (by omega);subst hl0;exact ⟨SlU.empty fun _=>h0,.inl rfl⟩
    ·obtain ⟨rfl,_⟩:=h3 (by omega);have hvl:=b2.len
     have hval:∀ (l:List Nat) (us:List Value),relL bm w (l.map fun x:Nat=>.v (.int .u32 (x:Int))) us->us=l.map fun x:Nat=>.int .u32 (x:Int):=by
      intro l
      induction l with
      | nil=>intro us h; cases us with | nil=>rfl | cons _ _=>exact h.elim
      | cons x l ih=>intro us h; cases us with | nil=>exact h.elim | cons u us=>obtain ⟨⟨rfl,_⟩,h⟩:=h; rw [ih us h]; rfl
     have hv:=hval l _ hrel;refine ⟨SlU.mk rfl h2 (fun _=>ok.lt kk g hg) fun i hi=>?_,.inr ⟨g,rfl,.inr ⟨kk,hg⟩⟩⟩;rw [Lib.cell_of_heap b1]
     have e4:((vs.drop off).take l.length)[i]?=some (.int .u32 (l[i]:Int)):=by rw [hv]; simp [hi]
     rw [List.getElem?_take,if_pos hi,List.getElem?_drop] at e4;simp only [List.getElem?_toArray];rw [List.getElem?_append_left (List.getElem?_eq_some_iff.1 e4).1];exact e4
 ·simp only [injEq] at h;subst h;exact (a9v bm w).rel1 k
omit ok in
theorem aXY {b:Bool} {l:List Nat} {r d:List LF} {u v:Value} {us:List Value} (hu:u=.bool b) (hv:SlZ bm w l v) (hr:relL bm w (a0d r) us) (hd:relL bm w (a0d d) (u :: v :: us)):relL bm w (a0d (mrg b l r d)) (u :: v :: us):=by
 have key:∀ z:Int,decide (z < 0)=b->relL bm w (a0d (Bool.rec (motive:=fun _=>List LF) d (.I z :: r) (lsB l (aYA z.natAbs)))) (u :: v :: us):=fun z hz=>by
  cases h:lsB l (aYA z.natAbs) with
  | false=>exact hd
  | true =>
    have e:=aPv h;rw [aPy] at e;show relL bm w (.v (.bool (decide (z < 0))) :: .sl (Lb.limbs z.natAbs) :: a0d r) _;rw [hz,<- e];exact ⟨⟨hu,rfl⟩,hv,hr⟩
 cases b with
 | false=>exact key (.ofNat (b2c l)) (decide_eq_false (by show ¬ ((b2c l:Nat):Int) < 0; omega))
 | true=>exact key (.negSucc (Nat.sub (b2c l) 1)) (decide_eq_true (Int.negSucc_lt_zero _))
omit ok in
theorem aDh {x:LF} {r:List LF} {us:List Value} (h:relL bm w (a0d (x :: r)) us):relL bm w (a0d (aQB x r)) us:=by
 unfold aQB;split
 ·rename_i b
  have fin:∀ (y:LF) (l:List Nat) (r':List LF),y.flat=[y]->(∀ v,rel1 bm w y v->SlZ bm w l v)->relL bm w (a0d (.v (.bool b) :: y :: r')) us->relL bm w (a0d (mrg b l r' (.v (.bool b) :: y :: r'))) us:=fun y l r' hy hs h=>by
   have h':=h;rw [a1a,a1a,hy] at h
   match us,h with
   | u :: v :: us,⟨⟨hu,_⟩,hv,hr⟩=>exact aXY hu (hs v hv) hr h'
  split
  ·exact fin (.sl _) _ _ rfl (fun v hv=>hv) h
  ·exact fin .e0 [] _ rfl (fun v ⟨a,hv⟩=>by subst hv; exact ⟨SlU.empty fun _=>rfl,.inl rfl⟩) h
  ·exact fin (.v (.slice none 0 0)) [] _ rfl (fun v ⟨hv,_⟩=>by subst hv; exact ⟨SlU.nil _,.inl rfl⟩) h
  ·exact h
 ·exact h
theorem aLa:∀ {l r:List LF} {us:List Value},b2e H l=some r->relL bm w (a0d l) us->relL (bmZ bm) w (a0d r) us
 | [],r,us,h,k=>by
   have e:[]=r:=by simpa [b2e] using h
   subst e
   exact (a9v bm w).relL k
 | x :: l,r,us,h,k=>by
   obtain ⟨s,h1,h⟩:=aSH (x:=b2e H l) h;obtain ⟨y,h2,h⟩:=aSH (x:=aVB H x) h
   have e:aQB y s=r:=by simpa using h
   subst e
   have hxy:∀ us,relL bm w x.flat us->relL (bmZ bm) w y.flat us:=fun us k=>by
    cases x with
    | I z=>cases h2; exact (a9v bm w).relL k
    | s a b c d e =>
      obtain ⟨l,rfl⟩:=b2g h2
      match us,k with
      | [u],k=>exact ⟨aLc ok h2 k.1,trivial⟩
    | _=>cases h2; exact (a9v bm w).relL k
   refine aDh ?_;rw [a1a] at k ⊢;have hlen:=k.len;rw [List.length_append] at hlen;have k1:=k.take x.flat.length;have k2:=k.drop x.flat.length;rw [List.take_left] at k1;rw [List.drop_left] at k2;have:=(hxy _ k1).append (aLa h1 k2);rwa [List.take_append_drop] at this
theorem aLb {x y:KK} {u:Value} (h:b2f H x=some y) (k:relK bm w x u):relK (bmZ bm) w y u:=by
 cases x with
 | c x =>
   obtain ⟨z,h1,h⟩:=aSH (x:=aVB H x) h
   have e:KK.c z=y:=by simpa using h
   subst e
   exact aLc ok h1 k
 | g l =>
   obtain ⟨z,h1,h⟩:=aSH (x:=b2e H l) h
   have e:KK.g z=y:=by simpa using h
   subst e;obtain ⟨us,rfl,k⟩:=k;exact ⟨us,rfl,aLa ok h1 k⟩
theorem aFO:∀ {l r:List KK} {us:List Value},aQA H l=some r->relKs bm w l us->relKs (bmZ bm) w r us
 | [],r,us,h,k=>by
   have e:[]=r:=by simpa [aQA] using h
   subst e
   match us,k with
   | [],_=>trivial
 | x :: l,r,us,h,k=>by
   obtain ⟨s,h1,h⟩:=aSH (x:=aQA H l) h;obtain ⟨y,h2,h⟩:=aSH (x:=b2f H x) h
   have e:y :: s=r:=by simpa using h
   subst e
   match us,k with
   | u :: us,k=>exact ⟨aLb ok h2 k.1,aFO h1 k.2⟩
theorem aDg {x y:KV} {u:Value} (h:aVA H x=some y) (k:relV bm w x u):relV (bmZ bm) w y u:=by
 cases x with
 | u=>cases h
 | k x =>
   obtain ⟨z,h1,h⟩:=aSH (x:=b2f H x) h
   have e:KV.k z=y:=by simpa using h
   subst e
   exact aLb ok h1 k
 | t l =>
   obtain ⟨z,h1,h⟩:=aSH (x:=aQA H l) h
   have e:KV.t z=y:=by simpa using h
   subst e;obtain ⟨us,rfl,k⟩:=k;exact ⟨us,rfl,aFO ok h1 k⟩
end
theorem CallOK.quiet {f:Nat} {xs:List KK} {q:Res} {r:KV} (h:CallOK P 0 f xs aH3 0 q) (hx:aIb 0 xs=true) (hf:aVA q.H q.r=some r) (hr:aYz 0 r=true):QuietOK P f xs r:=by
 obtain ⟨he,h⟩:=h;refine ⟨he,fun bm w vs hz hrel=>?_⟩;obtain ⟨_,hrun⟩:=h (le_refl _) (fun k _=>Hp.mk_none k)
 have ok0:Ok aH3 ⟨fun _=>none,bm.z⟩ w:=⟨fun k b x h1=>(by cases h1),fun k b h1=>(by cases h1),fun k b h1=>(by cases h1),fun k j b x y h1=>(by cases h1),hz⟩
 refine (hrun ⟨fun _=>none,bm.z⟩ w vs ok0 (fun _ _ _=>rfl) (a7d (bm:=bm) (bm':=⟨fun _=>none,bm.z⟩) (fun k hk=>absurd hk (not_lt_zero k)) (fun _ h=>h) hx hrel)).mono ?_;rintro e w' ⟨v,rfl,bm1,g,f,ok1,hv⟩;refine ⟨v,rfl,(bmZ bm1).z,⟨f.le,fun b hb _=>f.same b hb (fun k _ hk=>absurd hk (not_lt_zero k)),f.sz,f.env⟩,fun b h=>.inl (g.z b h),fun b h=>?_,aCZ (bm:=bmZ bm1) (bm':=⟨bm.f,(bmZ bm1).z⟩) (fun k hk=>absurd hk (not_lt_zero k)) (fun _ h=>h) hr (aDg ok1 hf hv)⟩
 rcases h with h | ⟨k,h⟩
 ·exact ⟨g.zn b h,ok1.zlt b h⟩
 ·refine ⟨.inr ?_,ok1.lt k b h⟩;by_cases hk:k < q.n
  ·rcases g.fresh k b (zero_le _) hk h with q | ⟨j,_,j2,_⟩
   ·exact q
   ·omega
  ·rw [g.same k (by omega)] at h;cases h
