import Derived.Test.YtbohkigffejhoaaGreatR13
open Bool (and_eq_true)
open List (all_eq_true append_assoc length_append length_eq_zero_iff mem_cons mem_filter mem_range nodup_range size_toArray)
open Nat (beq_eq blt_eq lt_or_ge strongRecOn zero_add)
open Option (getD_some map_some)
open Option.some (injEq)
namespace Go.Proofs.YtbohkigffejhoaaGreat
open Go.RowKit
namespace Vc
section
variable {P:Program} {Q:Exit->Act->World->Prop} {l:List Oper} {w0:World} {a0:Act} {R:Nat->Value->World->Prop} {own:Nat->Value->Option Nat}
def Fresh (l:List Oper) (vals:Nat->Value) (a0:Act) (p:Nat->Oper->Prop):Prop:=∀ j oj t,l[j]?=some oj->p j oj->oj.dst=some t->(a0E l vals 0 a0).eval (.tmp t)=a0.eval (.tmp t)
theorem a2K:∀ {l:List Oper} {i j:Nat} {o o':Oper} {d:Tmp},a2l l=true->l[i]?=some o->l[j]?=some o'->o.dst=some d->o'.dst=some d->i=j
 | [],_,_,_,_,_,_,h,_,_,_=>by simp at h
 | x :: r,0,0,_,_,_,_,_,_,_,_=>rfl
 | x :: r,0,j+1,o,o',d,h,h1,h2,h3,h4=>by
   obtain rfl:x=o:=by simpa using h1
   exact absurd h4 ((a3p h).1 o' (List.mem_of_getElem? (by simpa using h2)) d h3)
 | x :: r,i+1,0,o,o',d,h,h1,h2,h3,h4=>by
   obtain rfl:x=o':=by simpa using h2
   exact absurd h3 ((a3p h).1 o (List.mem_of_getElem? (by simpa using h1)) d h4)
 | x :: r,i+1,j+1,o,o',d,h,h1,h2,h3,h4=>by
   exact congrArg (·+1) (a2K (l:=r) (a3p h).2 (by simpa using h1) (by simpa using h2) h3 h4)
theorem Fresh.step {vals:Nat->Value} {p q:Nat->Oper->Prop} (hA:a2l l=true) (h:Fresh l vals a0 p) {i:Nat} {o:Oper} (ho:l[i]?=some o) (v:Value) (hq:∀ j oj,l[j]?=some oj->q j oj->j ≠ i/\p j oj):Fresh l (Go.Proofs.YtbohkigffejhoaaGreat.upd vals i v) a0 q:=fun j oj t hj hp hd=>by
 obtain ⟨hne,hp'⟩:=hq j oj hj hp;have e:=a4D l 0 i a0 vals v o hA ho;rw [zero_add] at e
 rw [<- e,Act.eval_put (fun d hd' hc=>by
  cases hc
  exact hne (a2K hA hj ho hd hd'))]
 exact h j oj t hj hp' hd
def a7J (P:Program) (Q:Exit->Act->World->Prop) (l:List Oper) (w0:World) (a0:Act) (R:Nat->Value->World->Prop) (own:Nat->Value->Option Nat) (i:Nat) (o:Oper):Prop :=
 ∀ (vals:Nat->Value) (w:World),Ext w0 w->(∀ e ∈ o.after,Region.binds .any e=true->R e.on (vals e.on) w)->Fresh l vals a0 (fun _ oj=>∃ e ∈ oj.after,Region.binds .any e=true/\e.on=i) ->
   wpOp P l.toArray Q i (fun a' w'=>∃ v,a'=(a0E l vals 0 a0).put o.dst v/\Ext w w'/\R i v w'/\∀ b,own i v=some b->w.heap.size <= b/\b < w'.heap.size) (a0E l vals 0 a0) w
def Apart (n:Nat) (own:Nat->Value->Option Nat) (vals:Nat->Value):Prop:=∀ i j b,i < n->j < n->own i (vals i)=some b->own j (vals j)=some b->i=j
theorem aIs (hA:a2l l=true) (hL:aC0 l=true) (hR:∀ i v w w',Ext w w'->R i v w->R i v w')
    (hS:∀ i o,l[i]?=some o->a7J P Q l w0 a0 R own i o)
    (hQ:∀ vals w,Ext w0 w->(∀ i,i < l.length->R i (vals i) w)->Apart l.length own vals->(∀ i b,i < l.length->own i (vals i)=some b->w0.heap.size <= b/\b < w.heap.size)->Q .normal (a0E l vals 0 a0) w) :
    ∀ (d:Nat) (ls:Array Bool) (vals:Nat->Value) (w:World),ls.size=l.length->(∃ rem:List Nat,rem.length=d/\rem.Nodup/\∀ i,i < l.length->(ls.getD i true=false ↔ i ∈ rem)) ->
      Ext w0 w->(∀ i,i < l.length->ls.getD i true=true->R i (vals i) w) ->
      (∀ i j b,i < l.length->j < l.length->ls.getD i true=true->ls.getD j true=true->own i (vals i)=some b->own j (vals j)=some b->i=j) ->
      (∀ i b,i < l.length->ls.getD i true=true->own i (vals i)=some b->w0.heap.size <= b/\b < w.heap.size)->Fresh l vals a0 (fun j _=>ls.getD j true=false)->(∀ j oj,l[j]?=some oj->ls.getD j true=true->∀ e ∈ oj.after,Region.binds .any e=true->ls.getD e.on true=true) ->
      wpAny P .any l.toArray Q d ls (a0E l vals 0 a0) w:=by
 have hlow:∀ i o,l[i]?=some o->∀ e ∈ o.after,Region.binds .any e=true->e.on < i:=fun i o ho e he hb=>by
  have hi:i < l.length:=by
   rcases lt_or_ge i l.length with h | h
   ·exact h
   ·rw [List.getElem?_eq_none h] at ho; cases ho
  simp only [aC0,all_eq_true,mem_range] at hL;have:=hL i hi;rw [ho] at this;simp only [map_some,getD_some,Array.all_eq_true'] at this;have h4:=this e he;simpa [hb] using h4
 have hend:∀ ls:Array Bool,ls.size=l.length->Region.ready .any l.toArray ls=[]->∀ i,i < l.length->ls.getD i true=true:=fun ls hs hr i hi=>by
  induction i using strongRecOn with
  | _ i ih =>
    rcases hb:ls.getD i true with _ | _
    ·exfalso
     have ho:l.toArray[i]?=some (l[i]):=by simp [hi]
     have:i ∈ Region.ready .any l.toArray ls:=mem_ready.2 ⟨hb,_,ho,fun e he hbd=>by
      have h1:=hlow i _ (by simp [hi]) e he hbd;have h2:=ih e.on h1 (by omega)
      have h3:e.on < ls.size:=by omega
      simp [h3] at h2 ⊢
      exact h2⟩
     rw [hr] at this;cases this
    ·rfl
 intro d
 induction d with
 | zero =>
   intro ls vals w hs hrem hE hV hD hB _ _;obtain ⟨rem,h1,h2,h3⟩:=hrem
   have hall:∀ i,i < l.length->ls.getD i true=true:=fun i hi=>by
    rcases hb:ls.getD i true with _ | _
    ·have:=(h3 i hi).1 hb;rw [length_eq_zero_iff.1 h1] at this;cases this
    ·rfl
   refine ⟨List.eq_nil_iff_forall_not_mem.2 fun i hi=>?_,hQ vals w hE (fun i hi=>hV i hi (hall i hi)) (fun i j b hi hj=>hD i j b hi hj (hall i hi) (hall j hj)) (fun i b hi=>hB i b hi (hall i hi))⟩;obtain ⟨hu,o,ho,_⟩:=mem_ready.1 hi
   have hil:i < l.length:=by have:i < l.toArray.size:=(Array.getElem?_eq_some_iff.1 ho).1; simpa using this
   rw [hall i hil] at hu
   cases hu
 | succ d ih =>
   intro ls vals w hs hrem hE hV hD hB hW hK;refine ⟨fun hr=>hQ vals w hE (fun i hi=>hV i hi (hend ls hs hr i hi)) (fun i j b hi hj=>hD i j b hi hj (hend ls hs hr i hi) (hend ls hs hr j hj)) (fun i b hi=>hB i b hi (hend ls hs hr i hi)),fun i hi=>?_⟩;obtain ⟨hu,o,ho,hall⟩:=mem_ready.1 hi
   have hil:i < l.length:=by have:i < l.toArray.size:=(Array.getElem?_eq_some_iff.1 ho).1; simpa using this
   have hol:l[i]?=some o:=by simpa using ho
   refine wpOp_mono ?_ (hS i o hol vals w hE (fun e he hb=>?_) fun j oj t hj hp hd=>hW j oj t hj (by
    obtain ⟨e,he,hb,hei⟩:=hp
    cases hls:ls.getD j true with
    | false=>rfl
    | true =>
      have:=hK j oj hj hls e he hb;rw [hei,hu] at this
      cases this) hd)
   ·rintro a' w' ⟨v,rfl,hE',hRv,hov⟩;rw [a4D l 0 i a0 vals v o hA hol,zero_add];obtain ⟨rem,h1,h2,h3⟩:=hrem;have him:i ∈ rem:=(h3 i hil).1 hu
    have hls:∀ k,k < l.length->k ≠ i->(ls.setIfInBounds i true).getD k true=true->ls.getD k true=true:=fun k hk hki h'=>by
     rwa [getD_set_ne true (by omega)] at h'
    refine ih _ _ _ (by simpa using hs) ⟨rem.erase i,by rw [List.length_erase_of_mem him]; omega,h2.erase i,fun k hk=>?_⟩ (hE.trans hE') (fun k hk hk'=>?_) (fun k j b hk hj hk' hj' e1 e2=>?_) (fun k b hk hk' e1=>?_) (hW.step hA hol v fun j oj hj hp=>by
     by_cases hji:j=i
     ·exfalso;subst hji
      have h4:j < ls.size:=by omega
      simp [h4] at hp
     ·exact ⟨hji,by rwa [getD_set_ne true (by omega)] at hp⟩) (fun j oj hj hp e he hb=>by
     by_cases hei:e.on=i
     ·rw [hei]
      have h4:i < ls.size:=by omega
      simp [h4]
     ·rw [getD_set_ne true (by omega)];by_cases hji:j=i
      ·subst hji
       obtain rfl:o=oj:=by rw [hol] at hj; simpa using hj
       have h1:=hlow j o hol e he hb;have h2:=hall e he hb
       have h3:e.on < ls.size:=by omega
       simp [h3] at h2 ⊢;exact h2
      ·rw [getD_set_ne true (by omega)] at hp
       exact hK j oj hj hp e he hb)
    ·by_cases hki:k=i
     ·subst hki
      have h4:k < ls.size:=by omega
      rw [h2.mem_erase_iff];simp [h4]
     ·rw [getD_set_ne true (by omega),h3 k hk,h2.mem_erase_iff];simp [hki]
    ·by_cases hki:k=i
     ·subst hki; rw [upd_same]; exact hRv
     ·rw [upd_ne _ _ hki];exact hR k _ w w' hE' (hV k hk (hls k hk hki hk'))
    ·by_cases hki:k=i <;> by_cases hji:j=i
     ·rw [hki,hji]
     ·exfalso;subst hki;rw [upd_same] at e1;rw [upd_ne _ _ hji] at e2;have g1:=hov b e1;have g2:=hB j b hj (hls j hj hji hj') e2;omega
     ·exfalso;subst hji;rw [upd_same] at e2;rw [upd_ne _ _ hki] at e1;have g1:=hov b e2;have g2:=hB k b hk (hls k hk hki hk') e1;omega
     ·rw [upd_ne _ _ hki] at e1;rw [upd_ne _ _ hji] at e2;exact hD k j b hk hj (hls k hk hki hk') (hls j hj hji hj') e1 e2
    ·by_cases hki:k=i
     ·subst hki;rw [upd_same] at e1;have g1:=hov b e1;have:=hE.size;omega
     ·rw [upd_ne _ _ hki] at e1;have g2:=hB k b hk (hls k hk hki hk') e1;have:=hE'.size;omega
   ·have h1:=hlow i o hol e he hb;have h2:=hall e he hb
    have h3:e.on < ls.size:=by omega
    exact hV e.on (by omega) (by simp [h3] at h2 ⊢; exact h2)
theorem aR8 (n:Nat) (hA:a2l (l.take n)=true) (hL:aC0 (l.take n)=true) (hT:a4A l n=true) (hR:∀ i v w w',Ext w w'->R i v w->R i v w')
    (hS:∀ i o,(l.take n)[i]?=some o->a7J P (a2y P l n Q) (l.take n) w0 a0 R own i o)
    (hQ:∀ vals w,Ext w0 w->(∀ i,i < (l.take n).length->R i (vals i) w)->Apart (l.take n).length own vals->(∀ i b,i < (l.take n).length->own i (vals i)=some b->w0.heap.size <= b/\b < w.heap.size)->wpList P l.toArray Q (l.drop n) (a0E (l.take n) vals 0 a0) w) :
    wpAny P .any l.toArray Q l.toArray.size (Array.replicate l.toArray.size false) a0 { w0 with drawn:=w0.drawn+1 }:=by
 have ok:=aBM hT;have le:=ok.le
 have htl:(l.take n).length=n:=by simp; omega
 obtain ⟨f,hf⟩:=a4i (l.take n) 0 a0
 have hq:=aIs (P:=P) (Q:=a2y P l n Q) (w0:=w0) (a0:=a0) hA hL hR hS (fun vals w h1 h2 h3 h4=>hQ vals w h1 h2 h3 h4) (l.take n).length (Array.replicate n false) f { w0 with drawn:=w0.drawn+1 } (by simp; omega)
  ⟨List.range n,by simp; omega,nodup_range,fun i hi=>by
   have:i < n:=by omega
   simp [this]⟩ (Ext.refl w0).drew (fun i hi h=>by
   have:i < n:=by omega
   simp [this] at h) (fun i j b hi hj h=>by
   have:i < n:=by omega
   simp [this] at h) (fun i b hi h=>by
   have:i < n:=by omega
   simp [this] at h) (fun j oj t _ _ _=>by rw [hf]) (fun j oj hj h=>by
   have:j < n:=by rw [<- htl]; exact (List.getElem?_eq_some_iff.1 hj).1
   simp [this] at h)
 rw [hf,htl] at hq
 have:=a5r (P:=P) (Q:=Q) ok n (List.range n) (Array.replicate l.toArray.size false) (Array.replicate n false) a0 w0.drew (by simp) nodup_range (by simp) (by simp) (fun i hi=>?_) (fun i hi=>?_) (fun i hi hi'=>?_) (fun i hi=>by simpa using hi) (fun j oj hj hjl=>by
  have:j < l.length:=by have:j < l.toArray.size:=(Array.getElem?_eq_some_iff.1 hj).1; simpa using this
  simp [this] at hjl) hq
 ·have hsz:n+(l.length - n)=l.toArray.size:=by simp; omega
  rw [hsz] at this;exact this
 ·have h1:i < l.length:=by omega
  simp only [Array.getD,Array.size_replicate,size_toArray,h1,hi,dif_pos];simp
 ·have h1:i < l.length:=by omega
  simp [h1,hi]
 ·simp [hi']
theorem aMa {n:Nat} (hG:∀ i o g,l.toArray[i]?=some o->i < n->o.guard=some g->g.1 < n) {i:Nat} (hi:i < n) {K:Act->World->Prop} {a:Act} {w:World} (h:wpOp P (l.take n).toArray Q i K a w):wpOp P l.toArray Q i K a w:=by
 unfold wpOp at *
 rw [Go.Proofs.YtbohkigffejhoaaGreat.take_get i hi] at h
 cases ho:l.toArray[i]? with
 | none=>simp only [ho] at h ⊢; exact h
 | some o =>
   simp only [ho] at h ⊢
   have hw:Region.wanted o (yielded (l.take n).toArray a.tmps)=Region.wanted o (yielded l.toArray a.tmps):=by
    unfold Region.wanted
    cases hg:o.guard with
    | none=>rfl
    | some g =>
      obtain ⟨g,b⟩:=g;have:=Go.Proofs.YtbohkigffejhoaaGreat.take_get (l:=l) g (hG i o (g,b) ho hi hg);simp only [yielded,this]
   rw [hw] at h;exact h
theorem a6y {id:Nat} (n:Nat) (hn:n <= l.length) (hG:∀ i o g,l.toArray[i]?=some o->i < n->o.guard=some g->g.1 < n) (hA:a2l (l.take n)=true) (hL:aC0 (l.take n)=true) (hR:∀ i v w w',Ext w w'->R i v w->R i v w')
    (hS:∀ i o,(l.take n)[i]?=some o->a7J P Q (l.take n) w0 a0 R own i o)
    (hQ:∀ vals w,Ext w0 w->(∀ i,i < n->R i (vals i) w)->Apart n own vals->(∀ i b,i < n->own i (vals i)=some b->w0.heap.size <= b/\b < w.heap.size)->wpList P l.toArray Q (l.drop n) (a0E (l.take n) vals 0 a0) w) :
    (Code.region id l.toArray false).wp P Q a0 w0:=by
 have htl:(l.take n).length=n:=by simp; omega
 have hlow:∀ i o,(l.take n)[i]?=some o->∀ e ∈ o.after,Region.binds .any e=true->e.on < i:=fun i o ho e he hb=>by
  have hi:i < (l.take n).length:=by
   rcases lt_or_ge i (l.take n).length with h | h
   ·exact h
   ·rw [List.getElem?_eq_none h] at ho; cases ho
  simp only [aC0,all_eq_true,mem_range] at hL;have:=hL i hi;rw [ho] at this;simp only [map_some,getD_some,Array.all_eq_true'] at this;have h4:=this e he;simpa [hb] using h4
 refine wp_region_lit ?_
 have key:∀ (d k:Nat) (vals:Nat->Value) (w:World),k+d=n->Ext w0 w->(∀ i,i < k->R i (vals i) w)->(∀ i j b,i < k->j < k->own i (vals i)=some b->own j (vals j)=some b->i=j)->(∀ i b,i < k->own i (vals i)=some b->w0.heap.size <= b/\b < w.heap.size)->Fresh (l.take n) vals a0 (fun j _=>k <= j)->wpList P l.toArray Q (l.drop k) (a0E (l.take n) vals 0 a0) w:=by
  intro d
  induction d with
  | zero =>
    intro k vals w hk hE hV hD hB _
    obtain rfl:k=n:=by omega
    exact hQ vals w hE hV hD hB
  | succ d ih =>
    intro k vals w hk hE hV hD hB hW
    have hkl:k < l.length:=by omega
    have hol:(l.take n)[k]?=some l[k]:=by rw [List.getElem?_take_of_lt (by omega)]; simp [hkl]
    have hoa:l.toArray[k]?=some l[k]:=by simp [hkl]
    rw [List.drop_eq_getElem_cons hkl]
    have hst:=aMa (n:=n) hG (show k < n by omega) (hS k _ hol vals w hE (fun e he hb=>hV e.on (hlow k _ hol e he hb)) (fun j oj t hj hp hd=>hW j oj t hj (by
     obtain ⟨e,he,hb,hei⟩:=hp;have:=hlow j oj hj e he hb
     omega) hd))
    have fin:∀ a' w',(∃ v,a'=(a0E (l.take n) vals 0 a0).put l[k].dst v/\Ext w w'/\R k v w'/\∀ b,own k v=some b->w.heap.size <= b/\b < w'.heap.size)->wpList P l.toArray Q (l.drop (k+1)) a' w':=by
     rintro a' w' ⟨v,rfl,hE',hRv,hov⟩;rw [a4D (l.take n) 0 k a0 vals v _ hA hol,zero_add];refine ih (k+1) _ _ (by omega) (hE.trans hE') (fun i hi=>?_) (fun i j b hi hj e1 e2=>?_) (fun i b hi e1=>?_) (hW.step hA hol v fun j oj _ hp=>⟨by omega,by omega⟩)
     ·by_cases hik:i=k
      ·subst hik; rw [upd_same]; exact hRv
      ·rw [upd_ne _ _ hik]; exact hR i _ w w' hE' (hV i (by omega))
     ·by_cases hik:i=k <;> by_cases hjk:j=k
      ·rw [hik,hjk]
      ·exfalso;subst hik;rw [upd_same] at e1;rw [upd_ne _ _ hjk] at e2;have g1:=hov b e1;have g2:=hB j b (by omega) e2;omega
      ·exfalso;subst hjk;rw [upd_same] at e2;rw [upd_ne _ _ hik] at e1;have g1:=hov b e2;have g2:=hB i b (by omega) e1;omega
      ·rw [upd_ne _ _ hik] at e1;rw [upd_ne _ _ hjk] at e2;exact hD i j b (by omega) (by omega) e1 e2
     ·by_cases hik:i=k
      ·subst hik;rw [upd_same] at e1;have g1:=hov b e1;have:=hE.size;omega
      ·rw [upd_ne _ _ hik] at e1;have g2:=hB i b (by omega) e1;have:=hE'.size;omega
    unfold wpOp at hst;simp only [hoa] at hst;unfold wpList;split
    ·rename_i hw;rw [if_pos hw] at hst;exact hst.imp (Oper.wp_mono fin) (fun h=>h)
    ·rename_i hw;rw [if_neg hw] at hst;exact fin _ _ hst
 obtain ⟨f,hf⟩:=a4i (l.take n) 0 a0;have:=key n 0 f w0 (by omega) (Ext.refl w0) (fun i hi=>by omega) (fun i j b hi=>by omega) (fun i b hi=>by omega) (fun j oj t _ _ _=>by rw [hf]);rw [hf] at this;exact this
end
structure Ent where
 g:List (Nat × Bool)
 on:Bool
 nb:Option Bx
 av:AV
inductive FR
 | no
 | yes (pre:Option Prop) (e:Ent)
def a01 (o:Oper) (j:Nat):Bool:=o.after.toList.any fun e=>Region.binds .any e && Nat.beq e.on j
def a1A:List Oper->Nat->Nat->Option Nat
 | [],_,_=>none
 | o :: r,i,t =>
   match o.dst with
   | some d=>bif Nat.beq d t then some i else a1A r (i+1) t
   | none=>a1A r (i+1) t
def b0d:List (Nat × Bool)->List (Nat × Bool)->Bool
 | [],_=>true
 | (a,p) :: r,gs=>gs.any (fun q=>Nat.beq a q.1 && (p == q.2)) && b0d r gs
def evF (s:St) (ops:List Oper) (ents:List Ent) (o:Oper) (gs:List (Nat × Bool)):Operand->AV
 | .tmp t =>
   match a1A ops 0 t with
   | none=>evS s (.tmp t)
   | some j =>
     bif a01 o j then
      match ents[j]? with
      | some e=>bif b0d e.g gs then e.av else .u
      | none=>.u
     else
      match ops[j]? with
      | some oj=>bif a01 oj ents.length then evS s (.tmp t) else .u
      | none=>.u
 | x=>evS s x
def plC:AC->Bool
 | .rd _ _ _=>false
 | .rc _=>false
 | .ow _ _ _ _=>false
 | .os _ _ _=>false
 | .oe _ _ _ _ _=>false
 | .oc _ _=>false
 | _=>true
def plL:List AC->Bool
 | []=>true
 | x :: l=>plC x && plL l
def plK:AK->Bool
 | .c x=>plC x
 | .g xs=>plL xs
def b3P:List AK->Bool
 | []=>true
 | x :: l=>plK x && b3P l
def plV:AV->Bool
 | .u=>true
 | .k x=>plK x
 | .t xs=>b3P xs
def amk (L:List Lay) (ev:Operand->AV):Op->Option (Prop × AV)
 | .buildSlice T n parts=>(b2L L ev T n parts).map fun q=>(q.p,.k (.c (.rd q.s true q.l)))
 | .call c =>
   match c.callee,c.args.toList,c.argTypes.toList with
   | .builtin .append,[x,y],[S,S'] =>
     match a09 L S,ev x with
     | some d,.k (.c (.rd s true l)) =>
       match aLV s (ev y) with
       | some r=>bif scB d.kd s && Nat.beq S S' then some (l.length+r.length <= 10000000,.k (.c (.rd s false (l ++ r)))) else none
       | none=>none
     | _,_=>none
   | _,_,_=>none
 | _=>none
def aKy (L:List Lay):List Oper->Bool
 | []=>true
 | o :: r=>(match o.op with
   | .alloc _=>false
   | .buildSlice T _ _=>(match a09 L T with | some l=>!Nat.beq l.kd 10 | none=>false)
   | _=>true) && aKy L r
def a8h (L:List Lay) (C:List Ctr) (s:St) (ops:List Oper) (ents:List Ent) (o:Oper) (g:List (Nat × Bool)) (on:Bool):FR :=
 match o.op with
 | .alloc T =>
   match a09 L T,g with
   | some l,[]=>bif Nat.beq l.kd 5 || !plL l.zero then .no else .yes none ⟨[],true,some ⟨T,l.zero⟩,.u⟩
   | _,_=>.no
 | .pick (.tmp c) a b =>
   match a1A ops 0 c with
   | some gi =>
     bif !a01 o gi then .no else
     match evF s ops ents o g (.tmp c),evF s ops ents o ((gi,true) :: g) a,evF s ops ents o ((gi,false) :: g) b with
     | .k (.c (.v (.bool p))),.k (.c (.v (.bool x))),.k (.c (.v (.bool y)))=>.yes none ⟨g,on,none,.k (.c (.v (.bool (bif p then x else y))))⟩
     | _,_,_=>.no
   | none=>.no
 | .call c =>
   match a2g L s.bx (evF s ops ents o g) (.call c),a8u L (evF s ops ents o g) (.call c) with
   | some (p,r),_=>.yes p ⟨g,on,none,r⟩
   | none,some (p,r)=>.yes p ⟨g,on,none,r⟩
   | none,none =>
     match amk L (evF s ops ents o g) (.call c) with
     | some (p,r)=>.yes (some p) ⟨g,on,none,r⟩
     | none =>
       match aHf C (evF s ops ents o g) c with
       | .yes pre r=>.yes (some pre) ⟨g,on,none,r⟩
       | _=>.no
 | .buildSlice T n parts =>
   match a8u L (evF s ops ents o g) (.buildSlice T n parts) with
   | some (p,r)=>.yes p ⟨g,on,none,r⟩
   | none =>
     match amk L (evF s ops ents o g) (.buildSlice T n parts) with
     | some (p,r)=>.yes (some p) ⟨g,on,none,r⟩
     | none =>
       match g,aHg L (evF s ops ents o g) T n parts with
       | [],some b=>bif plL b.cs then .yes none ⟨[],true,some b,.k (.c (.ln n))⟩ else .no
       | _,_=>.no
 | op =>
   match a2g L s.bx (evF s ops ents o g) op with
   | some (p,r)=>.yes p ⟨g,on,none,r⟩
   | none=>.no
def aME (o:Oper):Bool:=match o.op with | .store _ _ _=>true | _=>false
def aMJ (L:List Lay) (C:List Ctr) (s:St) (ops:List Oper) (ents:List Ent) (o:Oper):FR :=
 match o.guard with
 | none=>a8h L C s ops ents o [] true
 | some (gi,pol) =>
   bif a01 o gi && ((ops[gi]?).bind (·.dst)).isSome then
    match ents[gi]? with
    | some e =>
      match e.nb,e.av with
      | none,.k (.c (.v (.bool b)))=>a8h L C s ops ents o ((gi,pol) :: e.g) (e.on && (b == pol))
      | _,_=>.no
    | none=>.no
   else .no
def aFU (L:List Lay) (C:List Ctr) (s:St) (ops:List Oper) (ents:List Ent) (o:Oper):FR :=
 bif aME o then .yes none ⟨[],true,none,.u⟩ else aMJ L C s ops ents o
def b0i (x:AV) (i:Nat):AV:=match x with | .k (.c (.ln n))=>.k (.c (.ba i n)) | _=>.k (.c (.bx i 0))
def a8v (m:Bool) (s:St) (o:Oper) (e:Ent):St :=
 match e.nb with
 | some b=>a4u { s with bx:=s.bx ++ [b] } o.dst (b0i e.av s.bx.length)
 | none=>a4u s o.dst (bif e.g.isEmpty && (m || plV e.av) then e.av else .u)
def aHd (L:List Lay) (C:List Ctr) (s0:St) (ops:List Oper):List Oper->List Ent->St->(St->Prop)->Prop
 | [],_,s1,K=>K s1
 | o :: r,ents,s1,K =>
   match aFU L C s0 ops ents o with
   | .no=>False
   | .yes none e=>aHd L C s0 ops r (ents ++ [e]) (a8v (aKy L ops) s1 o e) K
   | .yes (some p) e =>
     match e.g with
     | []=>p/\aHd L C s0 ops r (ents ++ [e]) (a8v (aKy L ops) s1 o e) K
     | _ :: _=>(e.on=true->p)/\aHd L C s0 ops r (ents ++ [e]) (a8v (aKy L ops) s1 o e) K
def a6u (m:Bool):St->List Oper->List Ent->St
 | s,o :: r,e :: es=>a6u m (a8v m s o e) r es
 | s,_,_=>s
def aL3 (L:List Lay) (C:List Ctr) (s0:St) (ops:List Oper) (E:List Ent):Prop:=∀ i o,ops[i]?=some o->∃ pre e,aFU L C s0 ops (E.take i) o=.yes pre e/\E[i]?=some e/\(e.on=true->due pre)
theorem aAS {L:List Lay} {C:List Ctr} {s0:St} {ops:List Oper} {K:St->Prop}:∀ (r:List Oper) (ents:List Ent) (s1:St),aHd L C s0 ops r ents s1 K->ops.drop ents.length=r ->
    ∃ E:List Ent,E.length=r.length/\K (a6u (aKy L ops) s1 r E)/\∀ i o,r[i]?=some o->∃ pre e,aFU L C s0 ops (ents ++ E.take i) o=.yes pre e/\E[i]?=some e/\(e.on=true->due pre)
 | [],ents,s1,h,_=>⟨[],rfl,h,fun i o ho=>by simp at ho⟩
 | o :: r,ents,s1,h,hd=>by
   have key:∀ (pre:Option Prop) (e:Ent),aFU L C s0 ops ents o=.yes pre e->(e.on=true->due pre)->aHd L C s0 ops r (ents ++ [e]) (a8v (aKy L ops) s1 o e) K->∃ E:List Ent,E.length=(o :: r).length/\K (a6u (aKy L ops) s1 (o :: r) E)/\∀ i o',(o :: r)[i]?=some o'->∃ pre e,aFU L C s0 ops (ents ++ E.take i) o'=.yes pre e/\E[i]?=some e/\(e.on=true->due pre):=fun pre e he hpe h=>by
    obtain ⟨E,h1,h2,h3⟩:=aAS r (ents ++ [e]) _ h (by
     rw [length_append,List.length_singleton,<- List.drop_drop,hd]; rfl)
    refine ⟨e :: E,by simp [h1],h2,fun i o' ho=>?_⟩
    cases i with
    | zero =>
      obtain rfl:o=o':=by simpa using ho
      exact ⟨pre,e,by simpa using he,rfl,hpe⟩
    | succ i =>
      obtain ⟨p,e',g1,g2,g3⟩:=h3 i o' (by simpa using ho);refine ⟨p,e',?_,by simpa using g2,g3⟩;rw [List.take_succ_cons];rw [append_assoc] at g1;exact g1
   unfold aHd at h;split at h
   ·exact h.elim
   ·rename_i e he;exact key none e he (fun _=>trivial) h
   ·rename_i p e he;split at h
    ·exact key (some p) e he (fun _=>h.1) h.2
    ·exact key (some p) e he h.1 h.2
section
variable {bs bs':Bs} {w:World} (hl:bs'.l=bs.l) (hlo:bs'.lo=bs.lo)
include hl hlo
theorem pl1:∀ {x:AC} {u:Value},plC x=true->rel1 bs w x u->rel1 bs' w x u
 | .v _,_,_,h=>h
 | .sl _,_,_,h=>⟨h.1,trivial⟩
 | .bx _ _,_,_,⟨b,g,e⟩=>⟨b,by rw [hl]; exact g,e⟩
 | .sp _,_,_,⟨b,o,e,g,_⟩=>⟨b,o,e,g,trivial⟩
 | .pt _,_,_,g=>by show SlP bs'.lo w _ _; rw [hlo]; exact g
 | .pp _,_,_,g=>by show SlQ bs'.lo w _ _; rw [hlo]; exact g
 | .op _,_,_,⟨b,o,e,k⟩=>⟨b,o,e,by rw [hlo]; exact k⟩
 | .oq _,_,_,⟨b,o,v,e,k⟩=>⟨b,o,v,e,by rw [hlo]; exact k⟩
 | .ba _ _,_,_,⟨b,g,e⟩=>⟨b,by rw [hl]; exact g,e⟩
 | .ln _,_,_,g=>g
 | .pl _ _,_,_,g=>by show SlV bs'.lo w _ _ _; rw [hlo]; exact g
 | .I _,_,_,h=>h.elim
 | .R _,_,_,h=>h.elim
 | .Z _ _,_,_,h=>h.elim
 | .rd _ _ _,_,h,_ | .rc _,_,h,_ | .ow _ _ _ _,_,h,_ | .os _ _ _,_,h,_ | .oe _ _ _ _ _,_,h,_ | .oc _ _,_,h,_=>by cases h
omit hl hlo in
theorem aXI {x:AC} (h:plC x=true):∀ y ∈ x.flat,plC y=true:=by
 intro y hy;cases x <;> simp only [AC.flat,mem_cons,List.not_mem_nil,or_false] at hy
 case Z b q=>cases b <;> simp only [cond_true,cond_false,mem_cons,List.not_mem_nil,or_false] at hy <;> rcases hy with rfl | rfl | rfl | rfl <;> rfl
 case I=>rcases hy with rfl | rfl <;> rfl
 case R=>rcases hy with rfl | rfl | rfl | rfl <;> rfl
 all_goals (subst hy; exact h)
omit hl hlo in
theorem aCO:∀ {l:List AC},plL l=true->∀ x ∈ a0d l,plC x=true
 | [],_,x,hx=>by simp [a0d] at hx
 | y :: l,h,x,hx=>by
   simp only [plL,and_eq_true] at h;simp only [a0d,List.mem_append] at hx;rcases hx with hx | hx
   ·exact aXI h.1 x hx
   ·exact aCO h.2 x hx
theorem aHX:∀ {l:List AC} {us:List Value},(∀ x ∈ l,plC x=true)->relL bs w l us->relL bs' w l us
 | [],[],_,_=>trivial
 | x :: _,_ :: _,h,k=>⟨pl1 hl hlo (h x (List.mem_cons_self ..)) k.1,aHX (fun y hy=>h y (List.mem_cons_of_mem _ hy)) k.2⟩
 | [],_ :: _,_,k=>k.elim
 | _ :: _,[],_,k=>k.elim
theorem aOZ:∀ {x:AK} {u:Value},plK x=true->relK bs w x u->relK bs' w x u
 | .c _,_,h,k=>pl1 hl hlo h k
 | .g _,_,h,⟨us,e,k⟩=>⟨us,e,aHX hl hlo (aCO h) k⟩
theorem aKs:∀ {x:List AK} {u:List Value},b3P x=true->relKs bs w x u->relKs bs' w x u
 | [],[],_,_=>trivial
 | _ :: _,_ :: _,h,k=>by
   simp only [b3P,and_eq_true] at h
   exact ⟨aOZ hl hlo h.1 k.1,aKs h.2 k.2⟩
 | [],_ :: _,_,k=>k.elim
 | _ :: _,[],_,k=>k.elim
theorem aCN:∀ {x:AV} {u:Value},plV x=true->relV bs w x u->relV bs' w x u
 | .u,_,_,_=>trivial
 | .k _,_,h,k=>aOZ hl hlo h k
 | .t _,_,h,⟨us,e,k⟩=>⟨us,e,aKs hl hlo h k⟩
end
def aSK (x:AV) (b:Nat):Value:=match x with | .k (.c (.ln n))=>.slice (some ⟨b,0,none⟩) n n | _=>.pointer (some ⟨b,0,none⟩)
theorem aLT {bs:Bs} {w:World} {i b:Nat} (h:bs.l[i]?=some b) (x:AV):relV bs w (b0i x i) (aSK x b):=by
 unfold b0i;split
 ·exact ⟨b,h,rfl⟩
 ·rename_i hne
  have:aSK x b=.pointer (some ⟨b,0,none⟩):=by
   unfold aSK;split
   ·exact absurd rfl (hne _)
   ·rfl
  rw [this];exact ⟨b,h,rfl⟩
def EntOK (bs:Bs) (lo:Nat) (w:World) (e:Ent) (v:Value):Prop :=
 (e.on=false->v=undef)/\(e.on=true->match e.nb with
  | none=>relV bs w e.av v
  | some x=>∃ b,v=aSK e.av b/\relV bs w e.av v/\BoxAt bs lo w b x/\b < w.heap.size)
theorem EntOK.ext {bs:Bs} {lo:Nat} {w w':World} {e:Ent} {v:Value} (h:EntOK bs lo w e v) (he:Ext w w') (hb:okB bs w=true):EntOK bs lo w' e v:=by
 refine ⟨h.1,fun ho=>?_⟩;have:=h.2 ho;split at this
 ·exact Keep.relV (Keep.ext he hb) this
 ·obtain ⟨b,h1,h0,h2,h3⟩:=this;exact ⟨b,h1,Keep.relV (Keep.ext he hb) h0,h2.ext he hb,Nat.lt_of_lt_of_le h3 he.size⟩
theorem EntOK.av {bs:Bs} {lo:Nat} {w:World} {e:Ent} {v:Value} (h:EntOK bs lo w e v) (ho:e.on=true):relV bs w e.av v:=by
 have:=h.2 ho;split at this
 ·exact this
 ·obtain ⟨b,_,h0,_⟩:=this;exact h0
def b3n (bs:Bs) (w:World) (e:Ent) (v:Value):Prop:=(e.on=false->v=undef)/\(e.on=true->relV bs w e.av v)
theorem EntOK.w {bs:Bs} {lo:Nat} {w:World} {e:Ent} {v:Value} (h:EntOK bs lo w e v):b3n bs w e v:=⟨h.1,h.av⟩
def a4y (E:List Ent) (i:Nat) (v:Value):Option Nat :=
 match E[i]? with
 | some e =>
   match e.nb,v with
   | some _,.pointer (some a)=>some a.block
   | some _,.slice (some a) _ _=>some a.block
   | _,_=>none
 | none=>none
theorem a1i {o:Oper} {j:Nat} (h:a01 o j=true):∃ e ∈ o.after,Region.binds .any e=true/\e.on=j:=by
 unfold a01 at h;simp only [List.any_eq_true,and_eq_true,beq_eq] at h;obtain ⟨e,h1,h2,h3⟩:=h;exact ⟨e,by simpa using h1,h2,h3⟩
theorem a1j:∀ {l:List Oper} {i t j:Nat},a1A l i t=some j->∃ k o,j=i+k/\l[k]?=some o/\o.dst=some t
 | [],_,_,_,h=>by simp [a1A] at h
 | o :: r,i,t,j,h=>by
   unfold a1A at h;split at h
   ·rename_i d hd
    cases hb:Nat.beq d t with
    | true =>
      rw [hb] at h;simp only [cond_true,injEq] at h;subst h
      have:d=t:=by simpa using hb
      subst this
      exact ⟨0,o,rfl,rfl,hd⟩
    | false =>
      rw [hb] at h;obtain ⟨k,o',h1,h2,h3⟩:=a1j (l:=r) h;exact ⟨k+1,o',by omega,by simpa using h2,h3⟩
   ·obtain ⟨k,o',h1,h2,h3⟩:=a1j (l:=r) h;exact ⟨k+1,o',by omega,by simpa using h2,h3⟩
theorem a1w:∀ {l:List Oper} {i t:Nat},a1A l i t=none->∀ o ∈ l,o.dst ≠ some t
 | [],_,_,_,_,ho=>by cases ho
 | o :: r,i,t,h,o',ho=>by
   unfold a1A at h;split at h
   ·rename_i d hd
    cases hb:Nat.beq d t with
    | true=>rw [hb] at h; simp at h
    | false =>
      rw [hb] at h;rcases mem_cons.1 ho with rfl | ho
      ·rw [hd];intro e;simp only [injEq] at e;subst e;simp at hb
      ·exact a1w (l:=r) h o' ho
   ·rename_i hd;rcases mem_cons.1 ho with rfl | ho
    ·rw [hd]; simp
    ·exact a1w (l:=r) h o' ho
theorem aAs {L:List Lay} {C:List Ctr} {s:St} {ops:List Oper} {ents:List Ent} {o:Oper} {g:List (Nat × Bool)} {on:Bool} {pre:Option Prop} {e:Ent} (h:a8h L C s ops ents o g on=.yes pre e) (hg:g=[]->on=true):(e.g=g/\e.on=on):=by
 unfold a8h at h;split at h
 ·split at h
  ·rename_i l _
   cases h5:(Nat.beq l.kd 5 || !plL l.zero) with
   | true=>rw [h5] at h; cases h
   | false=>rw [h5] at h; cases h; exact ⟨rfl,(hg rfl).symm⟩
  ·cases h
 ·split at h
  ·rename_i gi _
   cases hed:a01 o gi with
   | false=>rw [hed] at h; cases h
   | true =>
     rw [hed] at h;simp only [Bool.not_true,cond_false] at h;split at h
     ·cases h; exact ⟨rfl,rfl⟩
     ·cases h
  ·cases h
 ·split at h
  ·cases h; exact ⟨rfl,rfl⟩
  ·cases h; exact ⟨rfl,rfl⟩
  ·split at h
   ·cases h; exact ⟨rfl,rfl⟩
   ·split at h
    ·cases h; exact ⟨rfl,rfl⟩
    ·cases h
 ·split at h
  ·cases h; exact ⟨rfl,rfl⟩
  ·split at h
   ·cases h; exact ⟨rfl,rfl⟩
   ·split at h
    ·rename_i b _ _ _
     cases hp:plL b.cs with
     | false=>rw [hp] at h; cases h
     | true=>rw [hp] at h; cases h; exact ⟨rfl,(hg rfl).symm⟩
    ·cases h
 ·split at h
  ·cases h; exact ⟨rfl,rfl⟩
  ·cases h
theorem aEL {gs:List (Nat × Bool)}:∀ {l:List (Nat × Bool)},b0d l gs=true->∀ q ∈ l,q ∈ gs
 | [],_,q,hq=>by cases hq
 | (a,p) :: r,h,q,hq=>by
   simp only [b0d,and_eq_true,List.any_eq_true,beq_eq,beq_iff_eq] at h;rcases mem_cons.1 hq with rfl | hq
   ·obtain ⟨⟨x,y⟩,h1,h2,h3⟩:=h.1;simp only at h2 h3;subst h2 h3;exact h1
   ·exact aEL h.2 q hq
theorem a9m {E:List Ent} {i:Nat} {e:Ent} {x:Bx} {b:Nat} (h:E[i]?=some e) (hn:e.nb=some x):a4y E i (aSK e.av b)=some b:=by
 have key:(∃ n,aSK e.av b=.slice (some ⟨b,0,none⟩) n n) \/ aSK e.av b=.pointer (some ⟨b,0,none⟩):=by
  unfold aSK;split
  ·exact .inl ⟨_,rfl⟩
  ·exact .inr rfl
 unfold a4y;rw [h];rcases key with ⟨n,k⟩ | k <;> simp only [hn,k]
section
variable {P:Program} {L:List Lay} {C:List Ctr} {W0 w0:World} {F:List (Option Nat)} {bs:Bs} {s:St} {a0:Act} {l:List Oper} {E:List Ent}
theorem take_get {α:Type} {l:List α} {i j:Nat} {x:α} (h:(l.take i)[j]?=some x):l[j]?=some x:=by
 rw [List.getElem?_take] at h;split at h
 ·exact h
 ·cases h
theorem aLe (hE:aL3 L C s l E) (hlen:E.length=l.length) {j:Nat} {f:Ent} (hf:E[j]?=some f):(f.g=[]/\f.on=true) \/ ∃ gi pol eg b,gi < j/\E[gi]?=some eg/\eg.nb=none/\eg.av=.k (.c (.v (.bool b)))/\f.g=(gi,pol) :: eg.g/\f.on=(eg.on && (b == pol)):=by
 have hj:j < l.length:=by rw [<- hlen]; exact (List.getElem?_eq_some_iff.1 hf).1
 obtain ⟨pre,e,h1,h2,_⟩:=hE j l[j] (by simp [hj])
 obtain rfl:e=f:=by rw [h2] at hf; simpa using hf
 unfold aFU at h1
 cases hst:aME l[j] with
 | true =>
   rw [hst] at h1;cases h1
   exact .inl ⟨rfl,rfl⟩
 | false =>
 rw [hst] at h1;simp only [cond_false] at h1;unfold aMJ at h1;split at h1
 ·exact .inl ⟨(aAs h1 (fun _=>rfl)).1,(aAs h1 (fun _=>rfl)).2⟩
 ·rename_i gi pol _
  cases hc:(a01 l[j] gi && ((l[gi]?).bind (·.dst)).isSome) with
  | false=>rw [hc] at h1; cases h1
  | true =>
    rw [hc] at h1;simp only [cond_true] at h1
    split at h1 <;> try (cases h1; done)
    rename_i eg heg
    split at h1 <;> try (cases h1; done)
    rename_i b k2 k3;obtain ⟨g1,g2⟩:=aAs h1 (by intro h; cases h)
    have hlt:gi < j:=by
     have:=(List.getElem?_eq_some_iff.1 heg).1;rw [List.length_take] at this;omega
    exact .inr ⟨gi,pol,eg,b,hlt,take_get heg,k2,k3,g1,g2⟩
theorem aAr (hE:aL3 L C s l E) (hlen:E.length=l.length):∀ (j:Nat) (f:Ent),E[j]?=some f->(∀ q ∈ f.g,∀ f' b,E[q.1]?=some f'->f'.av=.k (.c (.v (.bool b)))->(b == q.2)=true)->f.on=true:=by
 intro j
 induction j using strongRecOn with
 | _ j ih =>
   intro f hf hq
   rcases aLe hE hlen hf with ⟨_,h⟩ | ⟨gi,pol,eg,b,hlt,h1,h2,h3,h4,h5⟩
   ·exact h
   ·rw [h4] at hq;rw [h5,ih gi hlt eg h1 (fun q hq'=>hq q (List.mem_cons_of_mem _ hq')),hq (gi,pol) (List.mem_cons_self ..) eg b h1 h3];rfl
theorem aQE (hE:aL3 L C s l E) (hlen:E.length=l.length):∀ (j:Nat) (f:Ent),E[j]?=some f->f.on=true->∀ q ∈ f.g,∀ f' b,E[q.1]?=some f'->f'.av=.k (.c (.v (.bool b)))->(b == q.2)=true:=by
 intro j
 induction j using strongRecOn with
 | _ j ih =>
   intro f hf ho q hq f' b hf' hb
   rcases aLe hE hlen hf with ⟨h,_⟩ | ⟨gi,pol,eg,b',hlt,h1,h2,h3,h4,h5⟩
   ·rw [h] at hq; cases hq
   ·rw [h4] at hq;rw [h5,and_eq_true] at ho;rcases mem_cons.1 hq with rfl | hq
    ·simp only at hf'
     obtain rfl:eg=f':=by rw [h1] at hf'; simpa using hf'
     rw [h3] at hb;simp only [AV.k.injEq,AK.c.injEq,AC.v.injEq,Value.bool.injEq] at hb;subst hb;exact ho.2
    ·exact ih gi hlt eg h1 ho.1 q hq f' b hf' hb
theorem aQJ (hE:aL3 L C s l E) (hlen:E.length=l.length) (hA:a2l l=true) (hI:a1L l a0.tmps.size=true) {vals:Nat->Value} {w:World} (hR:Rl W0 F bs s a0 w) {i:Nat} {o:Oper}
    (hd:∀ e ∈ o.after,Region.binds .any e=true->∀ f,E[e.on]?=some f->b3n bs w f (vals e.on)) (hfr:Fresh l vals a0 (fun _ oj=>∃ e ∈ oj.after,Region.binds .any e=true/\e.on=i)) (hi:i <= E.length) (gs:List (Nat × Bool))
    (hgs:∀ q ∈ gs,∀ f b,E[q.1]?=some f->f.av=.k (.c (.v (.bool b)))->(b == q.2)=true) :
    ∀ x,relV bs w (evF s l (E.take i) o gs x) ((a0E l vals 0 a0).eval x):=by
 intro x
 cases x with
 | tmp t =>
   simp only [evF]
   cases hf:a1A l 0 t with
   | none =>
     simp only;have hn:=a1w hf
     rw [a14 l vals 0 a0 (.tmp t) (fun o ho d hd' e=>by
      cases e
      exact hn o ho hd')]
     exact hR.ev (.tmp t)
   | some j =>
     simp only;obtain ⟨k,oj,rfl,hk,hkd⟩:=a1j hf;rw [zero_add]
     cases hed:a01 o k with
     | false =>
       simp only [cond_false];rw [show l[k]?=some oj from hk];simp only
       cases hee:a01 oj (E.take i).length with
       | false=>trivial
       | true =>
         simp only [cond_true];rw [List.length_take,Nat.min_eq_left hi] at hee;obtain ⟨e,he1,he2,he3⟩:=a1i hee;rw [hfr k oj t hk ⟨e,he1,he2,he3⟩ hkd]
         exact hR.ev (.tmp t)
     | true =>
       simp only [cond_true]
       cases hek:(E.take i)[k]? with
       | none=>trivial
       | some f =>
         simp only
         cases hsg:b0d f.g gs with
         | false=>trivial
         | true =>
           simp only [cond_true];have hEk:=take_get hek;obtain ⟨ed,hm,hb,rfl⟩:=a1i hed;have hok:=hd ed hm hb f hEk;have hon:f.on=true:=aAr hE hlen _ _ hEk fun q hq=>hgs q (aEL hsg q hq);have hv:=hok.2 hon;rw [a1T l vals 0 ed.on a0 oj t hA hI hk hkd,zero_add]
           exact hv
 | const v =>
   have:=hR.ev (.const v);simp only [evF];rw [a14 l vals 0 a0 (.const v) (fun o _ d _ e=>by cases e)]
   exact this
 | global g=>trivial
 | func f=>trivial
theorem aR4 {α:Type _} {b:Bool} {p q:Prop} {x y:α} (h:(bif b then some (p,x) else none)=some (q,y)):p=q/\x=y:=by
 cases b with
 | false=>cases h
 | true=>cases h; exact ⟨rfl,rfl⟩
theorem a7c {w w':World} (h:okB bs w=true) (hs:w.heap.size <= w'.heap.size):okB bs w'=true:=by
 simp only [okB,and_eq_true,all_eq_true] at *
 refine ⟨fun b hb=>?_,fun o ho=>?_⟩
 ·have:=h.1 b hb
  simp only [blt_eq] at *
  omega
 ·have:=h.2 o ho;split
  ·simp only [blt_eq] at *
   omega
  ·rfl
theorem aXQ {w:World} (h:okB bs w=true) {b:Nat} (hb:w.heap.size <= b):b ∉ bs.l/\some b ∉ bs.ow:=by
 simp only [okB,and_eq_true,all_eq_true] at h;refine ⟨fun hm=>?_,fun hm=>?_⟩
 ·have:=h.1 b hm;simp only [blt_eq] at this;omega
 ·have:=h.2 _ hm;simp only [blt_eq] at this;omega
theorem OwB.rdF {R:AC->Value->Prop} {w:World} {lo b T cap:Nat} {sh:Sc} {l:List sh.T} (h:OwB R lo w b T sh l cap) {B:Nat->Prop} (hB:B b) {f:Bool} (hf:f=true->cap=l.length):RdR R B w (.slice (some ⟨b,0,none⟩) l.length cap) sh f l:=by
 refine ⟨_,cap,b,0,rfl,hf,.inr rfl,(by intro h; cases h),h.2.1,fun i x hx=>⟨hB,?_⟩⟩;have hi:i < l.length:=(List.getElem?_eq_some_iff.1 hx).1;have:=h.el hi;rw [zero_add];rwa [show l.getD i sh.d=x by rw [List.getD_eq_getElem?_getD,hx]; rfl] at this
theorem aTl {w:World} {t ty e:TypeId} {i:TypeInfo} {z:Value} {sh:Sc} (ht:P.underlying t=some (.slice e)) (hi:P.info? e=some i) (hz:i.zero=some z) (hsz:i.size=sh.k) (hzs:z.cells.size=sh.k) (hzu:∀ v ∈ z.cells,a9n v) (hby:i.bytes <= 2000)
    {u x:Value} {l r:List sh.T} {B B':Nat->Prop} {f:Bool} (hu:RdR (relE bs w) B w u sh true l) (hx:RdR (relE bs w) B' w x sh f r) (hs:l.length+r.length <= 10000000) :
    (r=[]/\(Builtin.append_ #[t,t] ty #[u,x]).run P w=.ok u w) \/ ∃ (cap:Nat) (w':World),(Builtin.append_ #[t,t] ty #[u,x]).run P w=.ok (.slice (some ⟨w.heap.size,0,none⟩) (l ++ r).length cap) w'/\Ext w w'/\w.heap.size < w'.heap.size/\OwB (relE bs w) 0 w' w.heap.size e sh (l ++ r) cap:=by
 obtain ⟨olds,hux,hor⟩:=hu.arg;obtain ⟨news,hxx,hnr⟩:=hx.arg;obtain ⟨ua,cu,_,_,hue,hcap,_⟩:=id hu;have hcap:=hcap rfl;have h1:=a4h hnr;have h2:=a4h hor
 have hol:olds.length=l.length*i.size:=by rw [<- hor.len,a5c,hsz]
 have hnl:news.length=r.length*i.size:=by rw [<- hnr.len,a5c,hsz]
 rcases Nat.eq_zero_or_pos r.length with h0 | h0
 ·obtain rfl:=length_eq_zero_iff.1 h0;refine .inl ⟨rfl,?_⟩
  have hx0:∃ a c,x=.slice a 0 c:=by
   rcases hxx with ⟨a,c,e,_⟩ | ⟨e,_⟩
   ·exact ⟨_,_,e⟩
   ·exact ⟨_,_,e⟩
  obtain ⟨a,c,rfl⟩:=hx0;rw [hue];cases ua <;> cases a <;> simp [Builtin.append_,run_underlying ht,sizeOf,typeInfo,hi,Builtin.lenOf,Builtin.firstCells,loadCells,loadCellsFrom,hcap,storeCells]
 ·right;obtain ⟨a,c,rfl,hn⟩:=hxx.resolve_right (by intro h; omega)
  have h63:l.length+r.length <= maxLen:=by unfold maxLen; omega
  have hb2:(l.length+r.length)*i.bytes <= 140737488355328:=Nat.le_trans (Nat.mul_le_mul hs hby) (by decide)
  have own:∀ (old:Nat),OwB (relE bs w) 0 (w.drew.alloc (.cells (olds.toArray ++ news.toArray ++ Builtin.zeroCells z.cells (grownCap w (l.length+r.length) old e - (l.length+r.length))) e)) w.heap.size e sh (l ++ r) (grownCap w (l.length+r.length) old e):=fun old=>by
   have hge:=grownCap_ge w (l.length+r.length) old e;refine ⟨Nat.zero_le _,by rw [length_append]; exact hge,grownCap_le_maxLen w _ old e h63,_,heap_alloc_new w.drew _,?_,?_,fun v hv=>?_⟩
   ·simp only [Array.size_append,size_toArray,size_zeroCells,hzs,hol,hnl,hsz,<- Nat.add_mul];congr 1;omega
   ·simp only [Array.toList_append,append_assoc];rw [aDn,length_append,Nat.add_mul,<- append_assoc,List.take_left' (by rw [length_append,hol,hnl,hsz])];exact hor.append hnr
   ·simp only [Array.mem_append,List.mem_toArray] at hv;rcases hv with (hv | hv) | hv
    ·exact (h2 v hv).2
    ·exact (h1 v hv).2
    ·exact aN0 hzu _ v hv
  have hext:∀ cs:Array Value,Ext w (w.drew.alloc (.cells cs e)):=fun cs=>((Ext.refl w).drew).alloc _
  rcases hux with ⟨b,c',e',ho⟩ | ⟨e',h0'⟩
  ·rw [e'] at hue;cases hue;have hr:=run_append_grow (P:=P) w t ty e i z ht hi hz b l.length cu olds hol ho a r.length c news hnl hn (by omega) (by omega) (growslice_fits (by omega) hb2);refine ⟨_,_,?_,hext _,by simp,own cu⟩;rw [e',length_append];exact hr
  ·obtain rfl:=length_eq_zero_iff.1 h0';have ho0:olds=[]:=List.eq_nil_of_length_eq_zero (by simpa using hol);subst ho0;have hr:=run_append_nil (P:=P) w t ty e i z ht hi hz a r.length c news hnl hn h0 (by omega) (by simp only [List.length_nil,zero_add] at hb2; omega);have ho:=own 0;simp only [List.length_nil,zero_add,List.nil_append,Array.empty_append] at ho;refine ⟨_,_,?_,hext _,by simp,ho⟩;rw [e',List.nil_append];exact hr
theorem aVy {w w':World} (hA:okB bs w=true) (hF:∀ b,some b ∈ bs.fb->b < w.heap.size) (hz:none ∉ bs.fb) (hs:w.heap.size < w'.heap.size):Fz bs w' w.heap.size:=by
 obtain ⟨h1,h2⟩:=aXQ hA (Nat.le_refl w.heap.size);exact ⟨hs,h1,h2,fun hm=>by have:=hF _ hm; omega,hz⟩
theorem aHb (hL:∀ l ∈ L,a1I P l) {w:World} (hA:okB bs w=true) (hF:∀ b,some b ∈ bs.fb->b < w.heap.size) (hz:none ∉ bs.fb) {ev:Operand->AV} {ρ:Operand->Value} (hev:∀ x,relV bs w (ev x) (ρ x)) {o:Oper} {p:Prop} {r:AV} (h:amk L ev o.op=some (p,r)) (hp:p) :
    ∃ v w',(execOp ρ o).run P w=.ok (.value v) w'/\Ext w w'/\relV bs w' r v:=by
 cases hop:o.op with
 | buildSlice T n parts =>
   rw [hop] at h;simp only [amk,Option.map_eq_some_iff,Prod.mk.injEq] at h;obtain ⟨q,hq,rfl,rfl⟩:=h;obtain ⟨cells,hrun,hr,hn,h1⟩:=aL0 hL hev hop hq hp;have h1':=a4h hr;have hx:Ext w (w.alloc (.cells cells.toArray q.T)):=(Ext.refl w).alloc _;have hk:=Keep.ext hx hA;have hc:OwC 0 (w.alloc (.cells cells.toArray q.T)) (.slice (some ⟨w.heap.size,0,none⟩) n n) q.T q.s.k n cells (some w.heap.size):=b6s (Nat.zero_le _) (by rw [<- hr.len,a5c,hn]) (by unfold maxLen; omega) (fun v hv=>(h1' v hv).2);refine ⟨_,_,hrun,hx,?_⟩;subst hn
   rcases OwC.r hc (hr.mono hk.relE) with ⟨e,_⟩ | ⟨b,cap,e1,e2,e3⟩
   ·cases e
   ·cases e1;cases e2
    exact e3.rdF (aVy hA hF hz (by simp)) fun _=>rfl
 | call c =>
   rw [hop] at h;simp only [amk] at h
   split at h <;> try (cases h; done)
   rename_i x y S S' hcal hargs htys
   split at h <;> try (cases h; done)
   rename_i d sh l hd hx
   split at h <;> try (cases h; done)
   rename_i r' harg
   cases hkd:(scB d.kd sh && Nat.beq S S') with
   | false=>rw [hkd] at h; cases h
   | true =>
     rw [hkd] at h;simp only [cond_true,injEq,Prod.mk.injEq] at h;obtain ⟨rfl,rfl⟩:=h;simp only [and_eq_true,beq_eq] at hkd;obtain ⟨hk1,rfl⟩:=hkd;obtain ⟨hm,rfl⟩:=a0c hd;obtain ⟨i,z,hu,hi,hsz,hby,hzr,hzs,hzu⟩:=(hL d hm).sc sh (a4e hk1);have hrx:=hev x;rw [hx] at hrx;obtain ⟨B',f',hry⟩:=aCr harg (hev y)
     have hexec:∀ v w',(Builtin.append_ #[d.t,d.t] o.type #[ρ x,ρ y]).run P w=.ok v w'->(execOp ρ o).run P w=.ok (.value v) w':=fun v w' hrun=>by
      have hargs':c.args=#[x,y]:=by rw [<- Array.toList_inj]; simpa using hargs
      have htys':c.argTypes=#[d.t,d.t]:=by rw [<- Array.toList_inj]; simpa using htys
      have e1:execOp ρ o=(do pure (Next.value (<- Builtin.append_ c.argTypes o.type (c.args.map ρ)))):=by
       unfold execOp;rw [hop];simp only [resolve,hcal];rfl
      have em:(#[x,y]:Array Operand).map ρ=#[ρ x,ρ y]:=by simp
      rw [e1,htys',hargs',em];exact a0O hrun
     have hrx':RdR (relE bs w) (Fz bs w) w (ρ x) sh true l:=hrx
     rcases aTl (P:=P) (ty:=o.type) hu hi hzr hsz hzs hzu hby hrx' hry hp with ⟨rfl,hrun⟩ | ⟨cap,w',hrun,hx',hlt,hown⟩
     ·refine ⟨_,_,hexec _ _ hrun,Ext.refl w,?_⟩;rw [List.append_nil];obtain ⟨a,cp,b,off,g1,_,g2⟩:=hrx';exact ⟨a,cp,b,off,g1,(by intro h; cases h),g2⟩
     ·refine ⟨_,_,hexec _ _ hrun,hx',?_⟩;have hk:=Keep.ext hx' hA
      exact OwB.rdF (OwB.keep (w:=w') hk.relE rfl hown) (aVy hA hF hz hlt) (by intro h; cases h)
 | _=>rw [hop] at h; simp [amk] at h
def Bs.nz (bs:Bs):Bs:=⟨bs.lo,bs.l,bs.ow,bs.fb.filter Option.isSome⟩
theorem aXR (w:World):Keep bs bs.nz w w:=⟨fun _ _ h=>h,fun _ _ _ h=>h,fun _ _ h=>h,fun _ h1 h2=>⟨h1,h2,fun _=>rfl⟩,fun _ h=>⟨⟨h.1,h.2.1,h.2.2.1,fun hm=>h.2.2.2.1 ((mem_filter.1 hm).1),fun hm=>h.2.2.2.2 ((mem_filter.1 hm).1)⟩,fun _=>rfl⟩,fun _ _ _ e=>⟨e,fun _ _=>rfl⟩,rfl⟩
theorem b4D (hz:none ∉ bs.fb):bs.nz=bs:=by
 have:bs.fb.filter Option.isSome=bs.fb:=List.filter_eq_self.2 fun o ho=>by
  cases o with
  | none=>exact absurd ho hz
  | some b=>rfl
 unfold Bs.nz;rw [this]
theorem aFV (hL:∀ l ∈ L,a1I P l) (hC:∀ c ∈ C,CtrOK P c) {Q:Exit->Act->World->Prop} {a:Act} {w:World} {ents:List Ent} {o:Oper} {g:List (Nat × Bool)} {pre:Option Prop} {e:Ent} {i:Nat}
    (hA:okB bs w=true) (hF:∀ b,some b ∈ bs.fb->b < w.heap.size) (hz:none ∈ bs.fb->plV e.av=true) (hbx:BoxesAt bs W0.heap.size w s.bx) (hlo:W0.heap.size <= w.heap.size) (hEi:E[i]?=some e)
    (hev:∀ x,relV bs w (evF s l ents o g x) (a.eval x)) (hpick:∀ c gi p,a1A l 0 c=some gi->a01 o gi=true->relV bs w (.k (.c (.v (.bool p)))) (a.eval (.tmp c))->evF s l ents o g (.tmp c)=.k (.c (.v (.bool p)))->∀ x,relV bs w (evF s l ents o ((gi,p) :: g) x) (a.eval x))
    (h:a8h L C s l ents o g true=.yes pre e) (hp:due pre) :
    o.wp P a w (fun a' w'=>∃ v,a'=a.put o.dst v/\Ext w w'/\(∀ e',E[i]?=some e'->EntOK bs W0.heap.size w' e' v)/\∀ b,a4y E i v=some b->w.heap.size <= b/\b < w'.heap.size) Q:=by
 have fin:∀ (v:Value) (w':World),Ext w w'->e.nb=none->e.on=true->relV bs w' e.av v->∃ v',a.put o.dst v=a.put o.dst v'/\Ext w w'/\(∀ e',E[i]?=some e'->EntOK bs W0.heap.size w' e' v')/\∀ b,a4y E i v'=some b->w.heap.size <= b/\b < w'.heap.size:=fun v w' hx hnb hon hv=>by
  refine ⟨v,rfl,hx,fun e' he'=>?_,fun b hb=>?_⟩
  ·obtain rfl:e=e':=by rw [hEi] at he'; simpa using he'
   exact ⟨fun h=>(by rw [hon] at h; cases h),fun _=>(by rw [hnb]; exact hv)⟩
  ·unfold a4y at hb;rw [hEi] at hb;simp only [hnb] at hb;cases hb
 unfold Oper.wp;unfold a8h at h;split at h
 ·rename_i T hop;split at h
  ·rename_i l' hl
   cases h5':(Nat.beq l'.kd 5 || !plL l'.zero) with
   | true=>rw [h5'] at h; cases h
   | false =>
   rw [h5'] at h;cases h
   have h5:Nat.beq l'.kd 5=false:=by
    simp only [Bool.or_eq_false_iff] at h5';exact h5'.1
   obtain ⟨hm,rfl⟩:=a0c hl;have hlo':=hL l' hm;obtain ⟨i',z,hi,hz,hzr⟩:=hlo'.zero
   have hrun:(execOp a.eval o).run P w=.ok (.value (.pointer (some ⟨w.heap.size,0,none⟩))) (w.alloc (.cells z.cells.toList.toArray l'.t)):=by
    simp only [execOp,hop];refine a0O ?_;simp [Instr.alloc,zeroValue,typeInfo,hi,hz,newVar,newRow]
   rw [hrun];have hx:Ext w (w.alloc (.cells z.cells.toList.toArray l'.t)):=(Ext.refl w).alloc _
   have hsz:(w.alloc (.cells z.cells.toList.toArray l'.t)).heap.size=w.heap.size+1:=by simp
   refine ⟨_,rfl,hx,fun e' he'=>?_,fun b hb=>?_⟩
   ·rw [hEi] at he';simp only [injEq] at he';subst he';refine ⟨fun h=>(by cases h),fun _=>⟨w.heap.size,rfl,trivial,⟨hlo,z.cells.toList,by unfold World.alloc; simp,hzr bs _,a4B (a3K (hlo'.zsoft h5)) (hzr bs w),a3J _ (hlo'.zsoft h5)⟩,by omega⟩⟩
   ·unfold a4y at hb;rw [hEi] at hb;simp only [injEq] at hb;omega
  ·cases h
 ·rename_i c x y hop;split at h
  ·rename_i gi hgi
   cases hed:a01 o gi with
   | false=>rw [hed] at h; cases h
   | true =>
   rw [hed] at h;simp only [Bool.not_true,cond_false] at h;split at h
   ·rename_i p q r h1 h2 h3;cases h;have hc:=hev (.tmp c);rw [h1] at hc;obtain ⟨e1,_⟩:=hc
    have hrun:∃ v,(execOp a.eval o).run P w=.ok (.value v) w/\v=.bool (bif p then q else r):=by
     cases p with
     | true =>
       have hx:=hpick c gi true hgi hed ⟨e1,rfl⟩ h1 x;rw [h2] at hx;obtain ⟨e2,_⟩:=hx
       exact ⟨_,by simp [execOp,hop,e1,asBool,e2],rfl⟩
     | false =>
       have hy:=hpick c gi false hgi hed ⟨e1,rfl⟩ h1 y;rw [h3] at hy;obtain ⟨e2,_⟩:=hy;exact ⟨_,by simp [execOp,hop,e1,asBool,e2],rfl⟩
    obtain ⟨v,hr,rfl⟩:=hrun;rw [hr];exact fin _ w (Ext.refl w) rfl rfl ⟨rfl,rfl⟩
   ·cases h
  ·cases h
 ·rename_i c hop;split at h
  ·rename_i hr;cases h;obtain ⟨v,h1,h2⟩:=a3X (o:=o) hL hev hbx (by rw [hop]; exact hr) hp;rw [h1];exact fin v w (Ext.refl w) rfl rfl h2
  ·rename_i hr;cases h;obtain ⟨v,w',h1,h2,h3⟩:=a5g (o:=o) hL hev (fun v=>rfl) (by rw [hop]; exact hr) hp;rw [h1];exact fin v w' h2 rfl rfl h3
  ·split at h
   ·rename_i p r hr;cases h
    have hz':none ∉ bs.fb:=fun hm=>by
     have hq:=hz hm;simp only [amk] at hr
     split at hr <;> try (cases hr; done)
     split at hr <;> try (cases hr; done)
     split at hr <;> try (cases hr; done)
     obtain ⟨_,hr⟩:=aR4 hr;rw [<- hr] at hq;cases hq
    obtain ⟨v,w',h1,h2,h3⟩:=aHb (o:=o) hL hA hF hz' hev (by rw [hop]; exact hr) hp;rw [h1];exact fin v w' h2 rfl rfl h3
   ·split at h
    ·rename_i pre' r hcl;cases h
     have hG:okF bs.nz w=true:=by
      simp only [okF,Bs.nz,all_eq_true];intro o ho
      cases o with
      | none=>simpa using (mem_filter.1 ho).2
      | some b =>
        have:=hF b ((mem_filter.1 ho).1);simpa using this
     obtain ⟨f,args,h1,h2⟩:=aAV (bs:=bs.nz) hC hA hG (fun x=>Keep.relV (aXR w) (hev x)) (fun f=>rfl) hop hcl hp;rw [h1];refine h2.mono ?_;rintro e w' ⟨v,rfl,he,hv⟩;refine fin v w' he rfl rfl ?_;by_cases hm:none ∈ bs.fb
     ·exact aCN (bs:=bs.nz) (bs':=bs) rfl rfl (hz hm) hv
     ·rw [b4D hm] at hv; exact hv
    ·cases h
 ·rename_i T n parts hop;split at h
  ·rename_i hr;cases h;obtain ⟨v,w',h1,h2,h3⟩:=a5g (o:=o) hL hev (fun v=>rfl) (by rw [hop]; exact hr) hp;rw [h1];exact fin v w' h2 rfl rfl h3
  ·split at h
   ·rename_i p r hr;cases h
    have hz':none ∉ bs.fb:=fun hm=>by
     have hq:=hz hm;simp only [amk,Option.map_eq_some_iff,Prod.mk.injEq] at hr;obtain ⟨q,_,_,hr⟩:=hr;rw [<- hr] at hq;cases hq
    obtain ⟨v,w',h1,h2,h3⟩:=aHb (o:=o) hL hA hF hz' hev (by rw [hop]; exact hr) hp;rw [h1];exact fin v w' h2 rfl rfl h3
   ·split at h
    ·rename_i b _ _ hb
     cases hp:plL b.cs with
     | false=>rw [hp] at h; cases h
     | true =>
     rw [hp] at h;cases h;obtain ⟨vs,h1,h2,h3⟩:=a8P (o:=o) hL hev hop hb;rw [h1];have hx:Ext w (w.alloc (.cells vs.toArray b.T)):=(Ext.refl w).alloc _
     have hsz:(w.alloc (.cells vs.toArray b.T)).heap.size=w.heap.size+1:=by simp
     refine ⟨_,rfl,hx,fun e' he'=>?_,fun c hc=>?_⟩
     ·rw [hEi] at he';simp only [injEq] at he';subst he';exact ⟨fun h=>(by cases h),fun _=>⟨w.heap.size,rfl,⟨_,_,rfl⟩,⟨hlo,vs,by unfold World.alloc; simp,Keep.relL (Keep.ext hx hA) h2,a4B (a3K h3) h2,a3J _ h3⟩,by omega⟩⟩
     ·unfold a4y at hc;rw [hEi] at hc;simp only [injEq] at hc;omega
    ·cases h
 ·split at h
  ·rename_i hr;cases h;obtain ⟨v,h1,h2⟩:=a3X (o:=o) hL hev hbx hr hp;rw [h1];exact fin v w (Ext.refl w) rfl rfl h2
  ·cases h
theorem aQF (hL:∀ l ∈ L,a1I P l) (hC:∀ c ∈ C,CtrOK P c) {Q:Exit->Act->World->Prop} (hE:aL3 L C s l E) (hlen:E.length=l.length) (hA:a2l l=true) (hI:a1L l a0.tmps.size=true) (hzE:none ∈ F->∀ (j:Nat) (f:Ent),E[j]?=some f->plV f.av=true) (i:Nat) (o:Oper) (ho:l[i]?=some o) (hns:aME o=false)
    (vals:Nat->Value) (w:World) (hRw:Rl W0 F bs s a0 w) (hdep:∀ e ∈ o.after,Region.binds .any e=true->∀ f,E[e.on]?=some f->b3n bs w f (vals e.on)) (hfr:Fresh l vals a0 (fun _ oj=>∃ e ∈ oj.after,Region.binds .any e=true/\e.on=i)) :
    wpOp P l.toArray Q i (fun a' w'=>∃ v,a'=(a0E l vals 0 a0).put o.dst v/\Ext w w'/\(∀ e,E[i]?=some e->EntOK bs W0.heap.size w' e v)/\∀ b,a4y E i v=some b->w.heap.size <= b/\b < w'.heap.size) (a0E l vals 0 a0) w:=by
 obtain ⟨pre,e,hf,hei,hpre⟩:=hE i o ho
 have hoa:l.toArray[i]?=some o:=by simpa using ho
 have hlo:W0.heap.size <= w.heap.size:=hRw.ext.size
 have hil:i <= E.length:=by rw [hlen]; exact Nat.le_of_lt (List.getElem?_eq_some_iff.1 ho).1
 have hevv:=fun gs hgs=>aQJ (i:=i) (o:=o) (vals:=vals) hE hlen hA hI hRw hdep hfr hil gs hgs
 have hpick:∀ (gs:List (Nat × Bool)),(∀ q ∈ gs,∀ f b,E[q.1]?=some f->f.av=.k (.c (.v (.bool b)))->(b == q.2)=true)->∀ c gi p,a1A l 0 c=some gi->a01 o gi=true->relV bs w (.k (.c (.v (.bool p)))) ((a0E l vals 0 a0).eval (.tmp c))->evF s l (E.take i) o gs (.tmp c)=.k (.c (.v (.bool p)))->∀ x,relV bs w (evF s l (E.take i) o ((gi,p) :: gs) x) ((a0E l vals 0 a0).eval x):=fun gs hgs c gi p hgi hed _ hev=>by
  refine hevv _ fun q hq f b hf' hav=>?_;rcases mem_cons.1 hq with rfl | hq
  ·simp only at hf';simp only [evF,hgi] at hev;rw [hed] at hev;simp only [cond_true] at hev
   cases hek:(E.take i)[gi]? with
   | none=>rw [hek] at hev; cases hev
   | some f2 =>
     rw [hek] at hev;simp only at hev;have:=take_get hek
     obtain rfl:f=f2:=by rw [hf'] at this; simpa using this
     cases hsg:b0d f.g gs with
     | false=>rw [hsg] at hev; cases hev
     | true =>
       rw [hsg] at hev;simp only [cond_true] at hev;rw [hev] at hav;simp only [AV.k.injEq,AK.c.injEq,AC.v.injEq,Value.bool.injEq] at hav;subst hav;simp
  ·exact hgs q hq f b hf' hav
 unfold wpOp;simp only [hoa];unfold aFU at hf;rw [hns] at hf;simp only [cond_false] at hf;unfold aMJ at hf;split at hf
 ·rename_i hg
  have hw:Region.wanted o (yielded l.toArray (a0E l vals 0 a0).tmps)=true:=by unfold Region.wanted; rw [hg]
  rw [if_pos hw];obtain ⟨_,hon⟩:=aAs hf (fun _=>rfl);exact .inl (aFV hL hC hRw.okB (fun b hb=>Nat.lt_of_lt_of_le (hRw.fb b hb) (by rw [hRw.lo]; exact hRw.ext.size)) (fun hm=>hzE (by rw [<- hRw.fbe]; exact hm) i e hei) hRw.box hlo hei (hevv [] (by intro _ h; cases h)) (hpick [] (by intro _ h; cases h)) hf (hpre hon))
 ·rename_i gi pol hg
  cases hc:(a01 o gi && ((l[gi]?).bind (·.dst)).isSome) with
  | false=>rw [hc] at hf; cases hf
  | true =>
    rw [hc] at hf;simp only [cond_true] at hf;simp only [and_eq_true] at hc;obtain ⟨hed,hds⟩:=hc
    split at hf <;> try (cases hf; done)
    rename_i eg heg
    split at hf <;> try (cases hf; done)
    rename_i b k2 k3;have hEg:=take_get heg;obtain ⟨ed,hm,hb,rfl⟩:=a1i hed;have hokk:=hdep ed hm hb eg hEg;obtain ⟨hgg,hon⟩:=aAs hf (by intro h; cases h)
    have hcs:l[ed.on]? ≠ none:=by
     intro h;rw [h] at hds;cases hds
    have hslot:∀ v,vals ed.on=v->∃ d,((l.toArray[ed.on]?).bind (·.dst))=some d/\(a0E l vals 0 a0).eval (.tmp d)=v:=fun v hv=>by
     cases hog:l[ed.on]? with
     | none=>exact absurd hog hcs
     | some og =>
       rw [hog] at hds
       cases hdg:og.dst with
       | none=>simp [hdg] at hds
       | some d =>
         have hval:=a1T l vals 0 ed.on a0 og d hA hI hog hdg;rw [zero_add,hv] at hval
         have hoga:l.toArray[ed.on]?=some og:=by simpa using hog
         exact ⟨d,by rw [hoga]; exact hdg,hval⟩
    cases heon:eg.on with
    | false =>
      have hund:=hokk.1 heon;obtain ⟨d,hd1,hd2⟩:=hslot undef hund
      have hy:yielded l.toArray (a0E l vals 0 a0).tmps ed.on=none:=by
       unfold yielded;rw [hd1];simp only [Option.bind_some]
       cases hq:(a0E l vals 0 a0).tmps[d]? with
       | none=>rfl
       | some v =>
         have hdl:=(List.getElem?_eq_some_iff (l:=(a0E l vals 0 a0).tmps.toList)).1 (by simpa using hq)
         have:v=undef:=by
          rw [<- hd2];simp [Act.eval,Array.getD_eq_getD_getElem?,hq]
         subst this;rfl
      have hwt:Region.wanted o (yielded l.toArray (a0E l vals 0 a0).tmps)=false:=by
       unfold Region.wanted;rw [hg];simp only [hy];rfl
      rw [heon,Bool.false_and] at hon;rw [if_neg (by rw [hwt]; decide)];refine ⟨undef,rfl,Ext.refl w,fun e' he'=>?_,fun b' hb'=>?_⟩
      ·obtain rfl:e=e':=by rw [hei] at he'; simpa using he'
       exact ⟨fun _=>rfl,fun h=>(by rw [hon] at h; cases h)⟩
      ·unfold a4y at hb';rw [hei] at hb';simp only at hb';split at hb'
       ·rename_i h; cases h
       ·rename_i h; cases h
       ·cases hb'
    | true =>
    have hok:=hokk.2 heon;rw [k3] at hok;obtain ⟨hv,_⟩:=hok;rw [heon,Bool.true_and] at hon hf
    have hy:yielded l.toArray (a0E l vals 0 a0).tmps ed.on=some b:=by
     cases hog:l[ed.on]? with
     | none=>rw [hog] at hds; cases hds
     | some og =>
       rw [hog] at hds
       cases hdg:og.dst with
       | none=>simp [hdg] at hds
       | some d =>
         have hval:=a1T l vals 0 ed.on a0 og d hA hI hog hdg;rw [zero_add,hv] at hval
         have hdl:d < (a0E l vals 0 a0).tmps.size:=by
          rcases lt_or_ge d (a0E l vals 0 a0).tmps.size with h' | h'
          ·exact h'
          ·simp [Act.eval,Array.getD,Nat.not_lt.2 h',undef] at hval
         unfold yielded
         have hoga:l.toArray[ed.on]?=some og:=by simpa using hog
         simp only [hoga,Option.bind_some,hdg];simp only [Act.eval,Array.getD,hdl,dif_pos] at hval;have hval':(a0E l vals 0 a0).tmps[d]=.bool b:=hval;simp only [Array.getElem?_eq_getElem hdl,hval']
    have hwt:Region.wanted o (yielded l.toArray (a0E l vals 0 a0).tmps)=(b == pol):=by
     unfold Region.wanted;rw [hg];simp only [hy];cases b <;> cases pol <;> rfl
    cases hbp:(b == pol) with
    | true =>
      rw [hbp] at hwt hf hon;rw [if_pos hwt]
      have hall:∀ q ∈ (ed.on,pol) :: eg.g,∀ f b,E[q.1]?=some f->f.av=.k (.c (.v (.bool b)))->(b == q.2)=true:=fun q hq f b' hf' hav=>by
       rcases mem_cons.1 hq with rfl | hq
       ·simp only at hf'
        obtain rfl:f=eg:=by rw [hEg] at hf'; simpa using hf'.symm
        rw [k3] at hav;simp only [AV.k.injEq,AK.c.injEq,AC.v.injEq,Value.bool.injEq] at hav;subst hav;exact hbp
       ·exact aQE hE hlen _ _ hEg heon q hq f b' hf' hav
      exact .inl (aFV hL hC hRw.okB (fun b hb=>Nat.lt_of_lt_of_le (hRw.fb b hb) (by rw [hRw.lo]; exact hRw.ext.size)) (fun hm=>hzE (by rw [<- hRw.fbe]; exact hm) i e hei) hRw.box hlo hei (hevv _ hall) (hpick _ hall) hf (hpre hon))
    | false =>
      rw [hbp] at hwt hon;rw [if_neg (by rw [hwt]; decide)];refine ⟨undef,rfl,Ext.refl w,fun e' he'=>?_,fun b' hb'=>?_⟩
      ·obtain rfl:e=e':=by rw [hei] at he'; simpa using he'
       exact ⟨fun _=>rfl,fun h=>(by rw [hon] at h; cases h)⟩
      ·unfold a4y at hb';rw [hei] at hb';simp only at hb';split at hb'
       ·rename_i h; cases h
       ·rename_i h; cases h
       ·cases hb'
theorem a7p (hL:∀ l ∈ L,a1I P l) (hC:∀ c ∈ C,CtrOK P c) {Q:Exit->Act->World->Prop} (hE:aL3 L C s l E) (hlen:E.length=l.length) (hA:a2l l=true) (hI:a1L l a0.tmps.size=true) (hR:Rl W0 F bs s a0 w0) (hzE:none ∈ F->∀ (j:Nat) (f:Ent),E[j]?=some f->plV f.av=true) (i:Nat) (o:Oper) (ho:l[i]?=some o) (hns:aME o=false) :
    a7J P Q l w0 a0 (fun i v w=>okB bs w=true/\∀ e,E[i]?=some e->EntOK bs W0.heap.size w e v) (a4y E) i o:=fun vals w hext hdep hfr=>by
 refine wpOp_mono ?_ (aQF hL hC hE hlen hA hI hzE i o ho hns vals w (hR.later hext) (fun e he hb f hf=>((hdep e he hb).2 f hf).w) hfr);rintro a' w' ⟨v,h1,h2,h3,h4⟩;exact ⟨v,h1,h2,⟨a7c (a7c hR.okB hext.size) h2.size,h3⟩,h4⟩
end
section
variable {P:Program} {Q:Exit->Act->World->Prop} {l:List Oper} {w0:World} {a0:Act} {I:Array Bool->(Nat->Value)->World->Prop}
def a4M (P:Program) (Q:Exit->Act->World->Prop) (l:List Oper) (a0:Act) (I:Array Bool->(Nat->Value)->World->Prop) (i:Nat) (o:Oper):Prop :=
 ∀ (ls:Array Bool) (vals:Nat->Value) (w:World),ls.size=l.length->ls.getD i true=false->(∀ e ∈ o.after,Region.binds .any e=true->ls.getD e.on true=true)->I ls vals w->Fresh l vals a0 (fun _ oj=>∃ e ∈ oj.after,Region.binds .any e=true/\e.on=i) ->
   wpOp P l.toArray Q i (fun a' w'=>∃ v,a'=(a0E l vals 0 a0).put o.dst v/\I (ls.setIfInBounds i true) (Go.Proofs.YtbohkigffejhoaaGreat.upd vals i v) w') (a0E l vals 0 a0) w
theorem a6F (hA:a2l l=true) (hL:aC0 l=true)
    (hS:∀ i o,l[i]?=some o->a4M P Q l a0 I i o)
    (hQ:∀ ls vals w,ls.size=l.length->(∀ i,i < l.length->ls.getD i true=true)->I ls vals w->Q .normal (a0E l vals 0 a0) w) :
    ∀ (d:Nat) (ls:Array Bool) (vals:Nat->Value) (w:World),ls.size=l.length->(∃ rem:List Nat,rem.length=d/\rem.Nodup/\∀ i,i < l.length->(ls.getD i true=false ↔ i ∈ rem)) ->
      I ls vals w->Fresh l vals a0 (fun j _=>ls.getD j true=false)->(∀ j oj,l[j]?=some oj->ls.getD j true=true->∀ e ∈ oj.after,Region.binds .any e=true->ls.getD e.on true=true) ->
      wpAny P .any l.toArray Q d ls (a0E l vals 0 a0) w:=by
 have hlow:∀ i o,l[i]?=some o->∀ e ∈ o.after,Region.binds .any e=true->e.on < i:=fun i o ho e he hb=>by
  have hi:i < l.length:=by
   rcases lt_or_ge i l.length with h | h
   ·exact h
   ·rw [List.getElem?_eq_none h] at ho; cases ho
  simp only [aC0,all_eq_true,mem_range] at hL;have:=hL i hi;rw [ho] at this;simp only [map_some,getD_some,Array.all_eq_true'] at this;have h4:=this e he;simpa [hb] using h4
 have hend:∀ ls:Array Bool,ls.size=l.length->Region.ready .any l.toArray ls=[]->∀ i,i < l.length->ls.getD i true=true:=fun ls hs hr i hi=>by
  induction i using strongRecOn with
  | _ i ih =>
    rcases hb:ls.getD i true with _ | _
    ·exfalso
     have ho:l.toArray[i]?=some (l[i]):=by simp [hi]
     have:i ∈ Region.ready .any l.toArray ls:=mem_ready.2 ⟨hb,_,ho,fun e he hbd=>by
      have h1:=hlow i _ (by simp [hi]) e he hbd;have h2:=ih e.on h1 (by omega)
      have h3:e.on < ls.size:=by omega
      simp [h3] at h2 ⊢
      exact h2⟩
     rw [hr] at this;cases this
    ·rfl
 intro d
 induction d with
 | zero =>
   intro ls vals w hs hrem hI _ _;obtain ⟨rem,h1,h2,h3⟩:=hrem
   have hall:∀ i,i < l.length->ls.getD i true=true:=fun i hi=>by
    rcases hb:ls.getD i true with _ | _
    ·have:=(h3 i hi).1 hb;rw [length_eq_zero_iff.1 h1] at this;cases this
    ·rfl
   refine ⟨List.eq_nil_iff_forall_not_mem.2 fun i hi=>?_,hQ ls vals w hs hall hI⟩;obtain ⟨hu,o,ho,_⟩:=mem_ready.1 hi
   have hil:i < l.length:=by have:i < l.toArray.size:=(Array.getElem?_eq_some_iff.1 ho).1; simpa using this
   rw [hall i hil] at hu
   cases hu
 | succ d ih =>
   intro ls vals w hs hrem hI hW hK;refine ⟨fun hr=>hQ ls vals w hs (hend ls hs hr) hI,fun i hi=>?_⟩;obtain ⟨hu,o,ho,hall⟩:=mem_ready.1 hi
   have hil:i < l.length:=by have:i < l.toArray.size:=(Array.getElem?_eq_some_iff.1 ho).1; simpa using this
   have hol:l[i]?=some o:=by simpa using ho
   have hdeps:∀ e ∈ o.after,Region.binds .any e=true->ls.getD e.on true=true:=fun e he hb=>by
    have h1:=hlow i o hol e he hb;have h2:=hall e he hb
    have h3:e.on < ls.size:=by omega
    simp [h3] at h2 ⊢;exact h2
   refine wpOp_mono ?_ (hS i o hol ls vals w hs hu hdeps hI fun j oj t hj hp hd=>hW j oj t hj (by
    obtain ⟨e,he,hb,hei⟩:=hp
    cases hls:ls.getD j true with
    | false=>rfl
    | true =>
      have:=hK j oj hj hls e he hb;rw [hei,hu] at this
      cases this) hd)
   rintro a' w' ⟨v,rfl,hI'⟩;rw [a4D l 0 i a0 vals v o hA hol,zero_add];obtain ⟨rem,h1,h2,h3⟩:=hrem;have him:i ∈ rem:=(h3 i hil).1 hu
   refine ih _ _ _ (by simpa using hs) ⟨rem.erase i,by rw [List.length_erase_of_mem him]; omega,h2.erase i,fun k hk=>?_⟩ hI' (hW.step hA hol v fun j oj hj hp=>by
       by_cases hji:j=i
       ·exfalso;subst hji
        have h4:j < ls.size:=by omega
        simp [h4] at hp
       ·exact ⟨hji,by rwa [getD_set_ne true (by omega)] at hp⟩) (fun j oj hj hp e he hb=>by
       by_cases hei:e.on=i
       ·rw [hei]
        have h4:i < ls.size:=by omega
        simp [h4]
       ·rw [getD_set_ne true (by omega)];by_cases hji:j=i
        ·subst hji
         obtain rfl:o=oj:=by rw [hol] at hj; simpa using hj
         exact hdeps e he hb
        ·rw [getD_set_ne true (by omega)] at hp
         exact hK j oj hj hp e he hb)
   by_cases hki:k=i
   ·subst hki
    have h4:k < ls.size:=by omega
    rw [h2.mem_erase_iff];simp [h4]
   ·rw [getD_set_ne true (by omega),h3 k hk,h2.mem_erase_iff];simp [hki]
theorem a2S {id:Nat} (n:Nat) (hm:P.follows .mixedOrders=true) (hA:a2l (l.take n)=true) (hL:aC0 (l.take n)=true) (hT:a4A l n=true)
    (hI:∀ vals,a0E (l.take n) vals 0 a0=a0->I (Array.replicate n false) vals w0.drew)
    (hS:∀ i o,(l.take n)[i]?=some o->a4M P (a2y P l n Q) (l.take n) a0 I i o)
    (hQ:∀ ls vals w,ls.size=(l.take n).length->(∀ i,i < (l.take n).length->ls.getD i true=true)->I ls vals w->wpList P l.toArray Q (l.drop n) (a0E (l.take n) vals 0 a0) w) :
    (Code.region id l.toArray true).wp P Q a0 w0:=by
 have ok:=aBM hT;have le:=ok.le
 have htl:(l.take n).length=n:=by simp; omega
 refine wp_region_any hm ?_;obtain ⟨f,hf⟩:=a4i (l.take n) 0 a0
 have hq:=a6F (P:=P) (Q:=a2y P l n Q) (a0:=a0) hA hL hS (fun ls vals w h1 h2 h3=>hQ ls vals w h1 h2 h3) (l.take n).length (Array.replicate n false) f { w0 with drawn:=w0.drawn+1 } (by simp; omega)
  ⟨List.range n,by simp; omega,nodup_range,fun i hi=>by
   have:i < n:=by omega
   simp [this]⟩ (hI f hf) (fun j oj t _ _ _=>by rw [hf]) (fun j oj hj h=>by
   have:j < n:=by rw [<- htl]; exact (List.getElem?_eq_some_iff.1 hj).1
   simp [this] at h)
 rw [hf,htl] at hq
 have:=a5r (P:=P) (Q:=Q) ok n (List.range n) (Array.replicate l.toArray.size false) (Array.replicate n false) a0 w0.drew (by simp) nodup_range (by simp) (by simp) (fun i hi=>?_) (fun i hi=>?_) (fun i hi hi'=>?_) (fun i hi=>by simpa using hi) (fun j oj hj hjl=>by
  have:j < l.length:=by have:j < l.toArray.size:=(Array.getElem?_eq_some_iff.1 hj).1; simpa using this
  simp [this] at hjl) hq
 ·have hsz:n+(l.length - n)=l.toArray.size:=by simp; omega
  rw [hsz] at this;exact this
 ·have h1:i < l.length:=by omega
  simp only [Array.getD,Array.size_replicate,size_toArray,h1,hi,dif_pos];simp
 ·have h1:i < l.length:=by omega
  simp [h1,hi]
 ·simp [hi']
