import Derived.Test.YtbohkigffejhoaaGreatR01
import Derived.StillTail
namespace Go.Proofs.YtbohkigffejhoaaGreat
open Go.RowKit
def aW7 (ops:Array Oper) (n:Nat):Bool :=
 decide (n <= ops.size) &&
 ((List.range ops.size).all fun t=>decide (t < n) || ((List.range t).all fun i=>Region.waitsFor .any ops t i) || (decide (n < t) && Region.waitsFor .any ops t (t - 1))) &&
 ((List.range ops.size).all fun i=>((ops[i]?).map fun o=>(o.after.all fun e=>!Region.binds .any e || decide (e.on < i)) && (decide (n <= i) || ((o.guard.map fun g=>decide (g.1 < n)).getD true))).getD true)
section
variable {P:Program} {Q:Exit->Act->World->Prop} {l:List Oper} {n:Nat} {C:World->Prop}
structure aHl (l:List Oper) (n:Nat):Prop where
 le:n <= l.length
 waits:∀ t i,t < l.length->n <= t->i < t->∃ k,Region.waitsFor .any l.toArray t k=true/\(k=i \/ (n <= k/\i <= k/\k < t))
 low:∀ i o,l.toArray[i]?=some o->∀ e ∈ o.after,Region.binds .any e=true->e.on < i
 guard:∀ i o g,l.toArray[i]?=some o->i < n->o.guard=some g->g.1 < n
theorem aOr (h:aW7 l.toArray n=true):aHl l n:=by
 simp only [aW7,Bool.and_eq_true,decide_eq_true_eq,List.all_eq_true,List.mem_range,Bool.or_eq_true] at h;obtain ⟨⟨h1,h2⟩,h3⟩:=h
 have hsz:l.toArray.size=l.length:=by simp
 refine ⟨by simpa using h1,fun t i ht hn hi=>?_,fun i o ho e he hb=>?_,fun i o g ho hi hg=>?_⟩
 ·rcases h2 t (by omega) with (h | h) | ⟨h,h'⟩
  ·omega
  ·exact ⟨i,h i hi,.inl rfl⟩
  ·exact ⟨t - 1,h',.inr (by omega)⟩
 ·have hi:i < l.toArray.size:=(Array.getElem?_eq_some_iff.1 ho).1;have:=h3 i hi;rw [ho] at this;simp only [Option.map_some,Option.getD_some,Bool.and_eq_true,Array.all_eq_true'] at this;have h4:=this.1 e he;simp only [hb,Bool.not_true,Bool.false_or,decide_eq_true_eq] at h4;exact h4
 ·have hi':i < l.toArray.size:=(Array.getElem?_eq_some_iff.1 ho).1;have:=h3 i hi';rw [ho] at this;simp only [Option.map_some,Option.getD_some,Bool.and_eq_true,hg,Bool.or_eq_true,decide_eq_true_eq] at this;rcases this.2 with h | h
  ·omega
  ·exact h
theorem aAo {listed:Array Bool} {i:Nat} (hi:i < listed.size) (h:listed.getD i true ≠ false):listed.getD i false=true:=by
 simp [hi] at h ⊢; exact h
theorem aMc (ok:aHl l n):∀ (d t:Nat) (listed:Array Bool) (a:Act) (w:World),l.length - t=d->n <= t->t <= l.length->listed.size=l.length ->
    (∀ i,i < t->listed.getD i true ≠ false)->(∀ i,t <= i->i < l.length->listed.getD i true=false) ->
    wpList P l.toArray Q (l.drop t) a w->wpAny P .any l.toArray Q d listed a w:=by
 intro d
 induction d with
 | zero =>
   intro t listed a w hd hn ht hs h1 h2 hw
   obtain rfl:t=l.length:=by omega
   rw [List.drop_length] at hw;refine ⟨?_,hw⟩;refine List.eq_nil_iff_forall_not_mem.2 fun i hi=>?_;obtain ⟨hu,o,ho,_⟩:=mem_ready.1 hi;have:i < l.toArray.size:=(Array.getElem?_eq_some_iff.1 ho).1
   exact h1 i (by simpa using this) hu
 | succ d ih =>
   intro t listed a w hd hn ht hs h1 h2 hw
   have htl:t < l.length:=by omega
   have hot:l.toArray[t]?=some l[t]:=by simp [htl]
   have hmem:t ∈ Region.ready .any l.toArray listed:=mem_ready.2 ⟨h2 t (Nat.le_refl _) htl,l[t],hot,fun e he hb=>by
    have:=ok.low t _ hot e he hb
    exact aAo (by omega) (h1 e.on this)⟩
   refine ⟨fun h=>(by rw [h] at hmem; cases hmem),fun i hi=>?_⟩;obtain ⟨hu,o,ho,hall⟩:=mem_ready.1 hi
   have hil:i < l.length:=by have:i < l.toArray.size:=(Array.getElem?_eq_some_iff.1 ho).1; simpa using this
   have hit:i=t:=by
    rcases Nat.lt_trichotomy i t with h | h | h
    ·exact absurd hu (h1 i h)
    ·exact h
    ·obtain ⟨k,hk,hkk⟩:=ok.waits i t hil (by omega) h;obtain ⟨oj,hoj,e,he,hb,hon⟩:=Region.waitsFor_spec hk;have:oj=o:=Option.some.inj (hoj.symm.trans ho);subst this;have h3:=hall e he hb;have h4:=getD_both (h2 k (by omega) (by omega));rw [hon,h4] at h3;cases h3
   subst hit
   have hw2:wpOp P l.toArray Q i (wpList P l.toArray Q (l.drop (i+1))) a w:=by
    rw [List.drop_eq_getElem_cons htl] at hw;unfold wpOp;simp only [hot];exact hw
   refine wpOp_mono (fun a' w' h'=>ih (i+1) (listed.setIfInBounds i true) a' w' (by omega) (by omega) (by omega) (by simpa using hs) (fun k hk=>?_) (fun k hk hk'=>?_) h') hw2
   ·by_cases hki:k=i
    ·subst hki; simp [hs,hil]
    ·have:=h1 k (by omega);rwa [getD_set_ne true (by omega)]
   ·rw [getD_set_ne true (by omega)]; exact h2 k (by omega) hk'
theorem take_get (i:Nat) (h:i < n):(l.take n).toArray[i]?=l.toArray[i]?:=by simp [List.getElem?_take_of_lt h]
theorem aHB (ok:aHl l n) {i:Nat} {o:Oper} (hi:i < n) (ho:l.toArray[i]?=some o) (tm:Array Value):Region.wanted o (yielded (l.take n).toArray tm)=Region.wanted o (yielded l.toArray tm):=by
 unfold Region.wanted
 cases hg:o.guard with
 | none=>rfl
 | some g =>
   obtain ⟨g,b⟩:=g;have hgn:g < n:=ok.guard i o (g,b) ho hi hg;have:=take_get (l:=l) g hgn;simp only [yielded,this]
theorem aOe (ok:aHl l n) {i:Nat} (hi:i < n) {K:Act->World->Prop} {a:Act} {w:World} (h:wpOp P (l.take n).toArray Q i K a w):wpOp P l.toArray Q i K a w:=by
 unfold wpOp at *
 rw [take_get i hi] at h
 cases ho:l.toArray[i]? with
 | none=>simp only [ho] at h ⊢; exact h
 | some o =>
   simp only [ho] at h ⊢;rw [aHB ok hi ho] at h;exact h
end
def a0E:List Oper->(Nat->Value)->Nat->Act->Act
 | [],_,_,a=>a
 | o :: r,vals,i,a=>a0E r vals (i+1) (a.put o.dst (vals i))
def a2l:List Oper->Bool
 | []=>true
 | o :: r=>(r.all fun x=>match o.dst,x.dst with | some d,some e=>!(d == e) | _,_=>true) && a2l r
def aC0 (l:List Oper):Bool:=(List.range l.length).all fun i=>((l[i]?).map fun o=>o.after.all fun e=>!Region.binds .any e || decide (e.on < i)).getD true
def upd (vals:Nat->Value) (i:Nat) (v:Value):Nat->Value:=fun j=>if j=i then v else vals j
theorem upd_same (vals:Nat->Value) (i:Nat) (v:Value):upd vals i v i=v:=by simp [upd]
theorem upd_ne (vals:Nat->Value) {i j:Nat} (v:Value) (h:j ≠ i):upd vals i v j=vals j:=by simp [upd,h]
theorem aXD (a:Act) (x:Option Tmp) (v u:Value):(a.put x v).put x u=a.put x u:=by
 cases x with
 | none=>rfl
 | some d=>simp [Act.put]
theorem a5u:∀ (l:List Oper) (i:Nat) (a:Act) (f g:Nat->Value),(∀ j,i <= j->j < i+l.length->f j=g j)->a0E l f i a=a0E l g i a
 | [],_,_,_,_,_=>rfl
 | o :: r,i,a,f,g,h=>by
   unfold a0E;rw [h i (Nat.le_refl _) (by simp)];exact a5u r (i+1) _ f g (fun j h1 h2=>h j (by omega) (by simp at h2 ⊢; omega))
theorem aBV:∀ (l:List Oper) (i:Nat) (a:Act) (f:Nat->Value) (x:Option Tmp) (v:Value),(∀ o ∈ l,∀ d,x=some d->o.dst ≠ some d)->a0E l f i (a.put x v)=(a0E l f i a).put x v
 | [],_,_,_,_,_,_=>rfl
 | o :: r,i,a,f,x,v,h=>by
   unfold a0E;rw [Act.put_comm a v (f i) (h o (List.mem_cons_self ..))];exact aBV r (i+1) _ f x v (fun o' ho'=>h o' (List.mem_cons_of_mem _ ho'))
theorem a3p {o:Oper} {r:List Oper} (h:a2l (o :: r)=true):(∀ x ∈ r,∀ d,o.dst=some d->x.dst ≠ some d)/\a2l r=true:=by
 simp only [a2l,Bool.and_eq_true,List.all_eq_true] at h;refine ⟨fun x hx d hd he=>?_,h.2⟩;have:=h.1 x hx;simp [hd,he] at this
theorem a4D:∀ (l:List Oper) (i k:Nat) (a:Act) (f:Nat->Value) (v:Value) (o:Oper),a2l l=true->l[k]?=some o->(a0E l f i a).put o.dst v=a0E l (upd f (i+k) v) i a
 | [],_,_,_,_,_,_,_,h=>by simp at h
 | o' :: r,i,0,a,f,v,o,hB,h=>by
   obtain rfl:o'=o:=by simpa using h
   obtain ⟨h1,_⟩:=a3p hB;unfold a0E;rw [<- aBV r (i+1) _ f o'.dst v h1,aXD];simp only [Nat.add_zero];rw [upd_same]
   exact a5u r (i+1) _ _ _ (fun j h1 _=>(upd_ne f v (by omega)).symm)
 | o' :: r,i,k+1,a,f,v,o,hB,h=>by
   obtain ⟨_,h2⟩:=a3p hB;unfold a0E;rw [a4D r (i+1) k _ f v o h2 (by simpa using h),upd_ne f v (by omega:i ≠ i+(k+1)),show i+1+k=i+(k+1) by omega]
theorem aTz (a:Act) (x:Option Tmp):∃ v,a.put x v=a:=by
 cases x with
 | none=>exact ⟨undef,rfl⟩
 | some d =>
   refine ⟨a.tmps.getD d undef,?_⟩
   cases a with
   | mk t ds =>
     simp only [Act.put];congr 1;apply Array.ext_getElem?;intro i;rw [Array.getElem?_setIfInBounds];split
     ·rename_i h;subst h;split
      ·rename_i h2; simp [h2]
      ·rename_i h2; simp [Array.getElem?_eq_none (Nat.le_of_not_lt h2)]
     ·rfl
theorem a4i:∀ (l:List Oper) (i:Nat) (a:Act),∃ f,a0E l f i a=a
 | [],_,a=>⟨fun _=>undef,rfl⟩
 | o :: r,i,a=>by
   obtain ⟨v,hv⟩:=aTz a o.dst;obtain ⟨f,hf⟩:=a4i r (i+1) a;refine ⟨upd f i v,?_⟩;unfold a0E;rw [upd_same,hv,a5u r (i+1) a (upd f i v) f (fun j h1 _=>upd_ne f v (by omega))];exact hf
section
variable {P:Program} {Q:Exit->Act->World->Prop} {l:List Oper} {w0:World} {a0:Act} {R:Nat->Value->World->Prop}
