import Derived.Test.YtbohkigffejhoaaGreatR03
import Derived.Maps.AppendAt
import Derived.OwnWalk
import Derived.Laws.AppendOwnNone
namespace Go.Proofs.YtbohkigffejhoaaGreat
open Go.RowKit
def cat {α:Type} (f:α->List Value):List α->List Value
 | []=>[]
 | x :: l=>f x ++ cat f l
section
variable {α:Type} {f:α->List Value} {k:Nat}
theorem a4h (hf:∀ x,(f x).length=k):∀ l:List α,(cat f l).length=l.length*k
 | []=>by simp [cat]
 | x :: l=>by rw [cat,List.length_append,hf,a4h hf l,List.length_cons,Nat.succ_mul]; omega
theorem aCq:∀ l l':List α,cat f (l ++ l')=cat f l ++ cat f l'
 | [],l'=>rfl
 | x :: l,l'=>by rw [List.cons_append,cat,cat,aCq l l',List.append_assoc]
theorem a8w (hf:∀ x,(f x).length=k):∀ (l:List α) (i r:Nat) (x:α),l[i]?=some x->r < k->(cat f l)[i*k+r]?=(f x)[r]?
 | [],_,_,_,h,_=>by simp at h
 | y :: l,0,r,x,h,hr=>by
   obtain rfl:y=x:=by simpa using h
   rw [cat,Nat.zero_mul,Nat.zero_add,List.getElem?_append_left (by rw [hf]; exact hr)]
 | y :: l,i+1,r,x,h,hr=>by
   rw [cat,List.getElem?_append_right (by rw [hf,Nat.succ_mul]; omega),hf]
   have:(i+1)*k+r - k=i*k+r:=by rw [Nat.succ_mul]; omega
   rw [this,a8w hf l i r x (by simpa using h) hr]
theorem aQm (h1:∀ x,∀ u ∈ f x,u.oneCell'=true):∀ (l:List α),∀ u ∈ cat f l,u.oneCell'=true
 | [],u,h=>by simp [cat] at h
 | x :: l,u,h=>by
   simp only [cat,List.mem_append] at h
   rcases h with h | h
   ·exact h1 x u h
   ·exact aQm h1 l u h
def SlG (k:Nat) (f:α->List Value) (w:World) (v:Value) (l:List α):Prop :=
 ∃ (a:Option Addr) (n cap b off:Nat),v=.slice a n cap/\n=l.length/\(n=0 \/ a=some ⟨b,off,none⟩)/\(a=none->cap=0)/\n <= cap /\
   ∀ i x,l[i]?=some x->b < w.heap.size/\∀ r u,(f x)[r]?=some u->w.cell? ⟨b,off+i*k+r,none⟩=some u
theorem SlG.later {w w':World} {v:Value} {l:List α} (h:SlG k f w v l) (he:Ext w w'):SlG k f w' v l:=by
 obtain ⟨a,n,cap,b,off,rfl,h2,h3,h4,h5,h6⟩:=h
 refine ⟨a,n,cap,b,off,rfl,h2,h3,h4,h5,fun i x hx=>?_⟩
 obtain ⟨p,q⟩:=h6 i x hx
 refine ⟨Nat.lt_of_lt_of_le p he.size,fun r u hu=>?_⟩
 rw [he.cell (by exact p)]
 exact q r u hu
theorem SlG.nil (w:World):SlG k f w (.slice none 0 0) []:=⟨none,0,0,0,0,rfl,rfl,.inl rfl,fun _=>rfl,Nat.le_refl _,fun i x h=>by simp at h⟩
theorem SlG.len {w:World} {a:Option Addr} {n cap:Nat} {l:List α} (h:SlG k f w (.slice a n cap) l):n=l.length:=by
 obtain ⟨a',n',cap',b,off,e,h2,_⟩:=h
 cases e
 exact h2
def OwnG (B:Nat) (T:TypeId) (k:Nat) (f:α->List Value) (w:World) (v:Value) (l:List α):Prop:=w.ownsRow B T k v l.length (cat f l)
theorem OwnG.later {B:Nat} {T:TypeId} {w w':World} {v:Value} {l:List α} (h:OwnG B T k f w v l) (he:Ext w w'):OwnG B T k f w' v l:=by
 refine World.ownsRow.kept h (row:=none) ⟨he.out.os,he.out.tape,he.out.output,he.size,fun k hk _=>he.out.block k hk⟩ ?_
 cases h':v.ownBlock <;> simp
theorem OwnG.set {B:Nat} {T:TypeId} {w:World} {v:Value} {l:List α} (h:OwnG B T k f w v l) {a:Addr} (ha:v.ownBlock ≠ some a.block) (u:Value):OwnG B T k f (w.setCell a u) v l:=ownsRow_setCell_other h ha u
theorem OwnG.nil (B:Nat) (T:TypeId) (w:World):OwnG B T k f w (.slice none 0 0) []:=World.ownsRow_nil _ _ _ _
theorem OwnG.base {B:Nat} {T:TypeId} {w:World} {v:Value} {l:List α} {b:Nat} (h:OwnG B T k f w v l) (e:v.ownBlock=some b):B <= b/\b < w.heap.size:=by
 obtain ⟨h1,h2⟩:=h
 rcases h2 with ⟨rfl,h3⟩ | ⟨g,cap,cur,rfl,h3,h4,h5,h6,h7,h8⟩
 ·cases e
 ·cases e
  refine ⟨h3,?_⟩
  rcases Nat.lt_or_ge g w.heap.size with h' | h'
  ·exact h'
  ·rw [Array.getElem?_eq_none h'] at h4; cases h4
theorem OwnG.sl {B:Nat} {T:TypeId} {w:World} {v:Value} {l:List α} (hf:∀ x,(f x).length=k) (h:OwnG B T k f w v l):SlG k f w v l:=by
 obtain ⟨h1,h2⟩:=h
 rcases h2 with ⟨rfl,h3⟩ | ⟨g,cap,cur,rfl,h3,h4,h5,h6,h7,h8⟩
 ·obtain rfl:=List.length_eq_zero_iff.1 h3
  exact SlG.nil w
 ·refine ⟨_,_,cap,g,0,rfl,rfl,.inr rfl,fun h=>(by cases h),h5,fun i x hx=>⟨?_,fun r u hu=>?_⟩⟩
  ·rcases Nat.lt_or_ge g w.heap.size with h' | h'
   ·exact h'
   ·rw [Array.getElem?_eq_none h'] at h4; cases h4
  ·have hr:r < k:=by
    rcases Nat.lt_or_ge r (f x).length with h' | h'
    ·rw [hf] at h'; exact h'
    ·rw [List.getElem?_eq_none h'] at hu; cases hu
   have hi:i < l.length:=by
    rcases Nat.lt_or_ge i l.length with h' | h'
    ·exact h'
    ·rw [List.getElem?_eq_none h'] at hx; cases hx
   have hik:i*k+r < l.length*k:=by
    have:(i+1)*k <= l.length*k:=Nat.mul_le_mul_right _ hi
    rw [Nat.succ_mul] at this
    omega
   have e:cur[i*k+r]?=some u:=by
    have h9:(cur.toList.take (l.length*k))[i*k+r]?=(cat f l)[i*k+r]?:=by rw [h8]
    rw [List.getElem?_take_of_lt hik,a8w hf l i r x hx hr,hu] at h9
    simpa using h9
   rw [Nat.zero_add]
   simp [World.cell?,h4,e]
theorem a2E (b off i:Nat):(⟨b,off,none⟩:Addr).add i=⟨b,off+i,none⟩:=by
 unfold Addr.add
 split
 ·rename_i h; subst h; rfl
 ·rfl
theorem a2G {P:Program} {S T:TypeId} {bytes:Nat} {w:World} {ops:Array Oper} {rest:List Oper} {o:Oper} {A:Act} {Q:Exit->Act->World->Prop} (hg:o.guard=none) (x y:Operand)
    (ho:o.op=.call { callee:=.builtin .append,args:=#[x,y],argTypes:=#[S,S] })
    (hS:P.underlying S=some (.slice T)) {z:Value} (hT:(P.info? T).map (fun i=>(i.zero,i.size,i.bytes))=some (some z,k,bytes)) (hz:z.cells.size=k) (hk0:0 < k)
    (hf:∀ x,(f x).length=k) (h1:∀ x,∀ u ∈ f x,u.oneCell'=true)
    (base:Nat) (v v2:Value) (l l2:List α) (hx:A.eval x=v) (hy:A.eval y=v2)
    (hown:OwnG base T k f w v l) (harg:SlG k f w v2 l2) (h63:l.length+l2.length <= maxLen) (hby:(l.length+l2.length)*bytes <= 140737488355328) (hbase:base <= w.heap.size)
    (hk:∀ v' w3,OwnG base T k f w3 v' (l ++ l2)->w.grownBy w3 v.ownBlock->(v'.ownBlock=v.ownBlock \/ v'.ownBlock=some w.heap.size)->wpList P ops Q rest (A.put o.dst v') w3):wpList P ops Q (o :: rest) A w:=by
 obtain ⟨i0,hi,hz0,hz1,hz2⟩:=info_parts hT
 obtain ⟨ad,n,cap,b,off,rfl,rfl,h3,h4,_,h6⟩:=harg
 cases ad with
 | none =>
   have h0:l2.length=0:=h3.resolve_right (by simp)
   obtain rfl:=List.length_eq_zero_iff.1 h0
   obtain rfl:=h4 rfl
   exact wpList_append_own_none hg _ _ S ho base T i0 k hS hi _ _ _ hx hown hy (hk _ _ (by rw [List.append_nil]; exact hown) ⟨rfl,rfl,rfl,Nat.le_refl _,fun _ _ _=>rfl⟩ (.inl rfl))
 | some x2 =>
   refine wpList_append_own_at w hg _ _ S ho base T i0 _ k bytes hS hi hz0 hz1 hz2 hz hk0 _ _ _ hx hown x2 _ _ (cat f l2) hy (a4h hf l2) (fun j u hj=>?_) (aQm h1 l2) h63 hby hbase (fun v' w3 ho3 hg3 _ hat=>hk v' w3 ?_ hg3 hat)
   ·have hjl:j < l2.length*k:=by
     rw [<- a4h hf]
     rcases Nat.lt_or_ge j (cat f l2).length with h' | h'
     ·exact h'
     ·rw [List.getElem?_eq_none h'] at hj; cases hj
    have hi2:j / k < l2.length:=Nat.div_lt_of_lt_mul (by rw [Nat.mul_comm]; exact hjl)
    have hx2:x2=⟨b,off,none⟩:=by simpa using h3.resolve_left (Nat.ne_of_gt (Nat.lt_of_le_of_lt (Nat.zero_le _) hi2))
    subst hx2
    rw [a2E]
    have hr:j % k < k:=Nat.mod_lt _ hk0
    have e:j=j / k*k+j % k:=by rw [Nat.mul_comm]; exact (Nat.div_add_mod j k).symm
    have hxx:l2[j / k]?=some l2[j / k]:=by simp [hi2]
    have:=a8w hf l2 (j / k) (j % k) _ hxx hr
    rw [<- e,hj] at this
    have h7:=(h6 (j / k) _ hxx).2 (j % k) u this.symm
    rw [show off+j=off+j / k*k+j % k by omega]
    exact h7
   ·unfold OwnG
    rw [List.length_append,aCq]
    exact ho3
end
end Go.Proofs.YtbohkigffejhoaaGreat
namespace Go.Proofs.YtbohkigffejhoaaGreat
namespace Lb
def B:Nat:=1000000000
theorem a4R:B=1000000000:=rfl
theorem a3r:0 < B:=by decide
def val:List Nat->Nat
 | []=>0
 | x :: l=>x+B*val l
def Lt (l:List Nat):Prop:=∀ x ∈ l,x < B
theorem a7X:val []=0:=rfl
theorem a2u (x:Nat) (l:List Nat):val (x :: l)=x+B*val l:=rfl
theorem val_append:∀ (l m:List Nat),val (l ++ m)=val l+B ^ l.length*val m
 | [],m=>by simp [val]
 | x :: l,m=>by
   rw [List.cons_append,a2u,a2u,val_append l m,List.length_cons,Nat.pow_succ]
   grind
theorem a4A (l:List Nat) (x:Nat):val (l ++ [x])=val l+B ^ l.length*x:=by rw [val_append]; simp [val]
theorem aEE:∀ n,val (List.replicate n 0)=0
 | 0=>rfl
 | n+1=>by rw [List.replicate_succ,a2u,aEE n]; rfl
theorem a2Q:Lt []:=fun _ h=>by cases h
theorem aC7 (n:Nat):Lt (List.replicate n 0):=fun x h=>by rw [List.eq_of_mem_replicate h]; exact a3r
theorem a2R {x:Nat} {l:List Nat} (h:x < B) (k:Lt l):Lt (x :: l):=fun y hy=>by
 rcases List.mem_cons.1 hy with rfl | hy
 ·exact h
 ·exact k y hy
theorem aC9 {x:Nat} {l:List Nat} (h:Lt (x :: l)):Lt l:=fun y hy=>h y (List.mem_cons_of_mem _ hy)
theorem a2p {l m:List Nat} (h:Lt l) (k:Lt m):Lt (l ++ m):=fun y hy=>by
 rcases List.mem_append.1 hy with hy | hy
 ·exact h y hy
 ·exact k y hy
theorem a8l {l:List Nat} (h:Lt l) (n:Nat):Lt (l.take n):=fun y hy=>h y (List.mem_of_mem_take hy)
theorem a9Z {l:List Nat} (h:Lt l) (n:Nat):Lt (l.drop n):=fun y hy=>h y (List.mem_of_mem_drop hy)
theorem aKF {l:List Nat} (h:Lt l) (i x:Nat) (hx:x < B):Lt (l.set i x):=fun y hy=>by
 rcases List.mem_or_eq_of_mem_set hy with hy | rfl
 ·exact h y hy
 ·exact hx
theorem a1s {l:List Nat} (h:Lt l) (i:Nat) (hi:i < l.length):l[i] < B:=h _ (List.getElem_mem hi)
theorem a3l:∀ {l:List Nat},Lt l->val l < B ^ l.length
 | [],_=>by simp [val]
 | x :: l,h=>by
   have h1:=a3l (aC9 h)
   have h2:x < B:=h x (List.mem_cons_self ..)
   rw [a2u,List.length_cons,Nat.pow_succ]
   have:B*val l+B <= B*B ^ l.length:=by rw [<- Nat.mul_succ]; exact Nat.mul_le_mul_left _ h1
   rw [Nat.mul_comm (B ^ l.length)]
   omega
theorem a1F (l:List Nat) (i:Nat) (hi:i <= l.length):val l=val (l.take i)+B ^ i*val (l.drop i):=by
 conv=>lhs; rw [<- List.take_append_drop i l,val_append]
 simp [Nat.min_eq_left hi]
theorem aCJ (l:List Nat) (i:Nat) (hi:i < l.length):val (l.take (i+1))=val (l.take i)+B ^ i*l[i]:=by
 rw [List.take_succ_eq_append_getElem hi,a4A]
 simp [Nat.min_eq_left (Nat.le_of_lt hi)]
theorem a1R (l:List Nat) (i:Nat) (hi:i < l.length):val (l.drop i)=l[i]+B*val (l.drop (i+1)):=by
 rw [List.drop_eq_getElem_cons hi,a2u]
theorem aN8 (l:List Nat) (i y:Nat) (hi:i < l.length):val (l.set i y)+B ^ i*l[i]=val l+B ^ i*y:=by
 induction l generalizing i with
 | nil=>simp at hi
 | cons x l ih =>
   cases i with
   | zero=>simp [a2u]; omega
   | succ i =>
     have:=ih i (by simpa using hi)
     simp only [List.set_cons_succ,a2u,List.getElem_cons_succ,Nat.pow_succ]
     grind
theorem aUF (l:List Nat) (h:l ≠ []):B ^ (l.length - 1)*l.getLast h <= val l:=by
 have e:=List.dropLast_concat_getLast h
 have h2:val l=val (l.dropLast ++ [l.getLast h]):=by rw [e]
 rw [h2,a4A]
 simp
def a5G (l:List Nat):Prop:=Lt l/\∀ h:l ≠ [],l.getLast h ≠ 0
theorem aKu:a5G []:=⟨a2Q,fun h=>absurd rfl h⟩
theorem aE1 {x:Nat} {l:List Nat} (h:a5G (x :: l)):a5G l:=⟨aC9 h.1,fun hl=>by have:=h.2 (by simp); rwa [List.getLast_cons hl] at this⟩
theorem a9T {l:List Nat} (h:a5G l) (hv:val l=0):l=[]:=by
 by_cases hl:l=[]
 ·exact hl
 ·have h1:=aUF l hl
  have h2:=h.2 hl
  have h3:0 < B ^ (l.length - 1)*l.getLast hl:=Nat.mul_pos (Nat.pow_pos a3r) (Nat.pos_of_ne_zero h2)
  omega
theorem a6J:∀ {l m:List Nat},a5G l->a5G m->val l=val m->l=m
 | [],m,_,hm,h=>(a9T hm h.symm).symm
 | l,[],hl,_,h=>a9T hl h
 | x :: l,y :: m,hl,hm,h=>by
   have h1:x < B:=hl.1 x (List.mem_cons_self ..)
   have h2:y < B:=hm.1 y (List.mem_cons_self ..)
   rw [a2u,a2u,a4R] at h
   rw [a4R] at h1 h2
   obtain rfl:x=y:=by omega
   rw [a6J (aE1 hl) (aE1 hm) (by omega)]
theorem aC5 {l:List Nat} (h:a5G l) (hl:l ≠ []):B ^ (l.length - 1) <= val l:=by
 have h1:=aUF l hl
 have h2:=h.2 hl
 have:B ^ (l.length - 1)*1 <= B ^ (l.length - 1)*l.getLast hl:=Nat.mul_le_mul_left _ (Nat.pos_of_ne_zero h2)
 omega
def trim:List Nat->List Nat
 | []=>[]
 | x :: l=>if trim l=[]/\x=0 then [] else x :: trim l
theorem a2t:∀ l,val (trim l)=val l
 | []=>rfl
 | x :: l=>by
   have ih:=a2t l
   unfold trim
   split
   ·rename_i h
    rw [a2u,<- ih,h.1,h.2]; rfl
   ·rw [a2u,a2u,ih]
theorem aC8:∀ {l:List Nat},Lt l->Lt (trim l)
 | [],_=>a2Q
 | x :: l,h=>by
   unfold trim
   split
   ·exact a2Q
   ·exact a2R (h x (List.mem_cons_self ..)) (aC8 (aC9 h))
theorem a2P:∀ {l:List Nat},Lt l->a5G (trim l)
 | [],_=>aKu
 | x :: l,h=>by
   have ih:=a2P (aC9 h)
   refine ⟨aC8 h,fun hne=>?_⟩
   unfold trim at hne ⊢
   split at hne
   ·exact absurd rfl hne
   ·rename_i hc
    by_cases ht:trim l=[]
    ·simp only [ht,true_and] at hc
     simp [ht,hc]
    ·have h3:=ih.2 ht
     have h4:¬ (trim l=[]/\x=0):=hc
     simp only [if_neg h4]
     rw [List.getLast_cons ht]
     exact h3
theorem a3a:∀ l:List Nat,trim (l ++ [0])=trim l
 | []=>by simp [trim]
 | x :: l=>by
   rw [List.cons_append,trim,trim,a3a l]
theorem a4W:∀ {l:List Nat},(∀ h:l ≠ [],l.getLast h ≠ 0)->trim l=l
 | [],_=>rfl
 | x :: l,h=>by
   unfold trim
   by_cases hl:l=[]
   ·subst hl
    have h1:x ≠ 0:=h (by simp)
    simp [trim,h1]
   ·have ih:=a4W (l:=l) (fun hl=>by have:=h (by simp); rwa [List.getLast_cons hl] at this)
    rw [ih,if_neg (fun k=>hl k.1)]
theorem a2i (l:List Nat):(trim l).length <= l.length:=by
 induction l with
 | nil=>simp [trim]
 | cons x l ih =>
   unfold trim
   split
   ·simp
   ·simp; exact ih
def limbs (n:Nat):List Nat:=if n=0 then [] else (n % B) :: limbs (n / B)
termination_by n
decreasing_by exact Nat.div_lt_self (Nat.pos_of_ne_zero ‹_›) (by decide)
theorem a1b:limbs 0=[]:=by unfold limbs; simp
theorem a2q {n:Nat} (h:n ≠ 0):limbs n=(n % B) :: limbs (n / B):=by rw [limbs]; simp [h]
theorem a0a (n:Nat):val (limbs n)=n:=by
 induction n using Nat.strongRecOn with
 | _ n ih =>
   by_cases h:n=0
   ·subst h; rw [a1b]; rfl
   ·rw [a2q h,a2u,ih _ (Nat.div_lt_self (Nat.pos_of_ne_zero h) (by decide))]
    exact Nat.mod_add_div n B
theorem a0f (n:Nat):a5G (limbs n):=by
 induction n using Nat.strongRecOn with
 | _ n ih =>
   by_cases h:n=0
   ·subst h; rw [a1b]; exact aKu
   ·have h1:=ih _ (Nat.div_lt_self (Nat.pos_of_ne_zero h) (by decide:1 < B))
    rw [a2q h]
    refine ⟨a2R (Nat.mod_lt _ a3r) h1.1,fun hne=>?_⟩
    by_cases h2:n / B=0
    ·have h3:limbs (n / B)=[]:=by rw [h2,a1b]
     simp only [h3,List.getLast_singleton]
     rw [a4R] at *
     omega
    ·have h3:limbs (n / B) ≠ []:=by rw [a2q h2]; simp
     rw [List.getLast_cons h3]
     exact h1.2 h3
theorem aWW {l:List Nat} (h:a5G l):l=limbs (val l):=a6J h (a0f _) (a0a _).symm
theorem a4k {l:List Nat} (h:Lt l):trim l=limbs (val l):=a6J (a2P h) (a0f _) (by rw [a2t,a0a])
theorem a0X {n k:Nat} (h:n < B ^ k):(limbs n).length <= k:=by
 by_cases hl:limbs n=[]
 ·rw [hl]; simp
 ·have h1:=aC5 (a0f n) hl
  rw [a0a] at h1
  have h2:B ^ ((limbs n).length - 1) < B ^ k:=Nat.lt_of_le_of_lt h1 h
  have h3:=(Nat.pow_lt_pow_iff_right (a:=B) (n:=(limbs n).length - 1) (m:=k) (by decide)).1 h2
  omega
theorem a01 (n:Nat):n < B ^ (limbs n).length:=by have:=a3l (a0f n).1; rwa [a0a] at this
theorem a7n {a b:List Nat} (ha:Lt a) (i:Nat) (h1:i < a.length) (h2:i < b.length) (he:a.drop (i+1)=b.drop (i+1)) (h:a[i] < b[i]):val a < val b:=by
 rw [a1F a i (by omega),a1F b i (by omega),a1R a i h1,a1R b i h2,he]
 have h3:=a3l (a8l ha i)
 rw [List.length_take,Nat.min_eq_left (by omega)] at h3
 have h4:B ^ i*(a[i]+1) <= B ^ i*b[i]:=Nat.mul_le_mul_left _ h
 rw [Nat.mul_add,Nat.mul_add]
 rw [Nat.mul_add] at h4
 omega
theorem a5e {a b:List Nat} (ha:a5G a) (hb:a5G b) (h:a.length < b.length):val a < val b:=by
 have h1:=a3l ha.1
 have hne:b ≠ []:=by intro e; rw [e] at h; simp at h
 have h2:=aC5 hb hne
 have h3:B ^ a.length <= B ^ (b.length - 1):=Nat.pow_le_pow_right a3r (by omega)
 omega
end Lb
end Go.Proofs.YtbohkigffejhoaaGreat
namespace Go.Proofs.YtbohkigffejhoaaGreat
namespace Lb
theorem a2d (l:List Nat) (i:Nat):val (l.take (i+1))=val (l.take i)+B ^ i*l.getD i 0:=by
 by_cases h:i < l.length
 ·rw [aCJ l i h]; simp [h]
 ·rw [List.take_of_length_le (by omega),List.take_of_length_le (by omega)]
  simp [h]
theorem a9Q {a b o:List Nat} {i c c' x:Nat} (ho:o.length=i) (h:val o+B ^ i*c=val (a.take i)+val (b.take i)) (hx:x+B*c'=a.getD i 0+b.getD i 0+c) :
    val (o ++ [x])+B ^ (i+1)*c'=val (a.take (i+1))+val (b.take (i+1)):=by
 rw [a4A,ho,a2d,a2d,Nat.pow_succ]
 have h2:B ^ i*(x+B*c')=B ^ i*(a.getD i 0+b.getD i 0+c):=by rw [hx]
 clear hx
 generalize B ^ i=P at *
 generalize B=b0 at *
 grind
theorem aCb {a b o:List Nat} {i c c' x:Nat} (ho:o.length=i) (h:val o+val (b.take i)=val (a.take i)+B ^ i*c) (hx:x+b.getD i 0+c=a.getD i 0+B*c') :
    val (o ++ [x])+val (b.take (i+1))=val (a.take (i+1))+B ^ (i+1)*c':=by
 rw [a4A,ho,a2d,a2d,Nat.pow_succ]
 have h2:B ^ i*(x+b.getD i 0+c)=B ^ i*(a.getD i 0+B*c'):=by rw [hx]
 clear hx
 generalize B ^ i=P at *
 generalize B=b0 at *
 grind
theorem a2e {o:List Nat} {i n x:Nat} (ho:o.length=i) (hi:i < n):(o ++ List.replicate (n - i) 0).set i x=(o ++ [x]) ++ List.replicate (n - (i+1)) 0:=by
 subst ho
 rw [show n - o.length=(n - (o.length+1))+1 by omega,List.replicate_succ,List.set_append_right _ _ (Nat.le_refl _),Nat.sub_self,List.set_cons_zero]
 simp
theorem aFa {a b o:List Nat} {n c:Nat} (ha:a.length=n) (hb:b.length <= n) (ho:o.length=n) (hl:Lt o) (hc:c <= 1) (h:val o+val (b.take n)=val (a.take n)+B ^ n*c) (hle:val b <= val a):val o=val a - val b:=by
 rw [List.take_of_length_le (by omega),List.take_of_length_le (by omega)] at h
 have h1:=a3l hl
 rw [ho] at h1
 have:c=0:=by
  rcases Nat.eq_zero_or_pos c with h2 | h2
  ·exact h2
  ·have:c=1:=by omega
   subst this
   omega
 subst this
 omega
theorem aMl {S o P Q b0 r q t u x y c T V R:Nat} (h1:S+R*u=o+R*r) (h2:r+b0*q=t) (hR:R=P*Q) (ht:t=u+x*y+c) (h:o+R*c=V+P*(x*T)) :
    S+R*b0*q=V+P*(x*(T+Q*y)):=by
 subst hR ht
 have h3:P*Q*(r+b0*q)=P*Q*(u+x*y+c):=by rw [h2]
 grind
theorem aMf {o:List Nat} {i k y t c V x:Nat} {b:List Nat} (hi:i+k < o.length) (h:val o+B ^ (i+k)*c=V+B ^ i*(x*val (b.take k))) (hy:b.getD k 0=y) (ht:t=o[i+k]+x*y+c) :
    val (o.set (i+k) (t % B))+B ^ (i+(k+1))*(t / B)=V+B ^ i*(x*val (b.take (k+1))):=by
 have h1:=aN8 o (i+k) (t % B) hi
 have h2:=Nat.mod_add_div t B
 rw [a2d,hy,show i+(k+1)=(i+k)+1 by omega,Nat.pow_succ]
 exact aMl h1 h2 (Nat.pow_add ..) ht h
theorem aHQ {o x y c:Nat} (ho:o < B) (hx:x < B) (hy:y < B) (hc:c < B):(o+x*y+c) / B < B/\o+x*y+c < B*B:=by
 have h1:x*y <= (B - 1)*(B - 1):=Nat.mul_le_mul (by omega) (by omega)
 have h2:o+x*y+c < B*B:=by
  rw [a4R] at *
  omega
 exact ⟨Nat.div_lt_of_lt_mul h2,h2⟩
theorem aOd {o:List Nat} {j c V x:Nat} {i:Nat} {b:List Nat} (hj:j < o.length) (h0:o[j]=0) (hjj:j=i+b.length) (h:val o+B ^ (i+b.length)*c=V+B ^ i*(x*val (b.take b.length))):val (o.set j c)=V+B ^ i*(x*val b):=by
 subst hjj
 have h1:=aN8 o (i+b.length) c hj
 rw [h0] at h1
 rw [List.take_of_length_le (Nat.le_refl _)] at h
 omega
theorem aN5 {a o:List Nat} {i d r t:Nat} (hi:i < a.length) (ho:o.length=a.length) (h:val (a.drop (i+1))=val (o.drop (i+1))*d+r) (ht:t=r*B+a[i]) :
    val (a.drop i)=val ((o.set i (t / d)).drop i)*d+t % d:=by
 rw [a1R a i hi,a1R _ i (by simpa [ho] using hi),List.getElem_set_self,List.drop_set_of_lt (by omega),h]
 have:=Nat.mod_add_div t d
 generalize t / d=q at *
 generalize t % d=m at *
 generalize B=b0 at *
 grind
theorem aMc {r x d:Nat} (hr:r < d) (hx:x < B):(r*B+x) / d < B:=by
 refine Nat.div_lt_of_lt_mul ?_
 have:(r+1)*B <= d*B:=Nat.mul_le_mul_right _ hr
 rw [Nat.succ_mul] at this
 omega
end Lb
end Go.Proofs.YtbohkigffejhoaaGreat
namespace Go.Proofs.YtbohkigffejhoaaGreat
namespace Lb
theorem aFP {l:List Nat} {m:Nat} (hm:m <= l.length) (h:val l < B ^ m):val (l.drop m)=0/\val l=val (l.take m):=by
 have h1:=a1F l m hm
 have h2:val (l.drop m)=0:=by
  rcases Nat.eq_zero_or_pos (val (l.drop m)) with h2 | h2
  ·exact h2
  ·have:B ^ m*1 <= B ^ m*val (l.drop m):=Nat.mul_le_mul_left _ h2
   omega
 rw [h2] at h1
 exact ⟨h2,by omega⟩
section guess
variable {P T u2 W0 v1 v2 V0 W V b g rest:Nat}
theorem aIG (hW:W=(T*b+u2)*P+W0) (hW0:W0 < P) (hu:u2 < b) (hV:V=(v1*b+v2)*P+V0) (hv1:0 < v1):W / V <= T / v1:=by
 rw [Nat.le_div_iff_mul_le hv1]
 have h1:W / V*V <= W:=Nat.div_mul_le_self ..
 generalize W / V=q at *
 have h2:q*v1*(b*P) <= q*V:=by
  rw [hV]
  have:q*((v1*b+v2)*P+V0)=q*v1*(b*P)+q*v2*P+q*V0:=by grind
  omega
 have h3:W < (T+1)*(b*P):=by
  have h4:(u2+1)*P <= b*P:=Nat.mul_le_mul_right _ hu
  have h5:(T+1)*(b*P)=T*b*P+b*P:=by grind
  have h6:(T*b+u2)*P=T*b*P+u2*P:=by grind
  rw [Nat.succ_mul] at h4
  omega
 have h7:q*v1*(b*P) < (T+1)*(b*P):=by omega
 have:=Nat.lt_of_mul_lt_mul_right h7
 omega
theorem aMG (hW:W=(T*b+u2)*P+W0) (hW0:W0 < P) (hV:V=(v1*b+v2)*P+V0) (hg:g*v1+rest=T) (ht:rest*b+u2 < g*v2):W / V < g:=by
 have h1:(T*b+u2+1)*P <= g*(v1*b+v2)*P:=by
  refine Nat.mul_le_mul_right _ ?_
  subst hg
  have e1:(g*v1+rest)*b=g*(v1*b)+rest*b:=by grind
  have e2:g*(v1*b+v2)=g*(v1*b)+g*v2:=by grind
  omega
 have h2:W < V*g:=by
  have e3:V*g=g*(v1*b+v2)*P+V0*g:=by rw [hV]; grind
  have e4:(T*b+u2+1)*P=(T*b+u2)*P+P:=by grind
  omega
 exact Nat.div_lt_of_lt_mul h2
theorem aMH (hP:0 < P) (hW:W=(T*b+u2)*P+W0) (hV:V=(v1*b+v2)*P+V0) (hV0:V0 < P) (hv1:0 < v1) (hg:g*v1+rest=T) (ht:g*v2 <= rest*b+u2) (hb:g < b):g <= W / V+1:=by
 have hVpos:0 < V:=by
  rw [hV]
  have:0 < b:=by omega
  have:0 < (v1*b+v2)*P:=Nat.mul_pos (by have:=Nat.mul_pos hv1 this; omega) hP
  omega
 have h1:g*(v1*b+v2)*P <= W:=by
  rw [hW]
  have:g*(v1*b+v2) <= T*b+u2:=by
   subst hg
   have e1:(g*v1+rest)*b=g*(v1*b)+rest*b:=by grind
   have e2:g*(v1*b+v2)=g*(v1*b)+g*v2:=by grind
   omega
  have:=Nat.mul_le_mul_right P this
  omega
 rcases Nat.lt_or_ge (W / V+1) g with hc | hc
 ·exfalso
  have h3:W < (W / V+1)*V:=by
   have:=Nat.div_add_mod W V
   have h4:=Nat.mod_lt W hVpos
   rw [Nat.succ_mul,Nat.mul_comm]
   omega
  generalize W / V=q at *
  have h5:(q+2)*((v1*b+v2)*P) <= g*((v1*b+v2)*P):=Nat.mul_le_mul_right _ hc
  have h6:g*((v1*b+v2)*P)=g*(v1*b+v2)*P:=by grind
  have h7:(q+1)*V=(q+1)*((v1*b+v2)*P)+(q+1)*V0:=by rw [hV]; grind
  have h8:(q+1)*V0 < (q+1)*P:=Nat.mul_lt_mul_of_pos_left hV0 (by omega)
  have h9:(q+1)*P <= b*P:=Nat.mul_le_mul_right _ (by omega)
  have h10:b*P <= (v1*b+v2)*P:=Nat.mul_le_mul_right _ (by have:1*b <= v1*b:=Nat.mul_le_mul_right _ hv1; omega)
  have h11:(q+2)*((v1*b+v2)*P)=(q+1)*((v1*b+v2)*P)+(v1*b+v2)*P:=by grind
  omega
 ·exact hc
theorem aIH (hW:W=(T*b+u2)*P+W0) (hV:V=(v1*b+v2)*P+V0) (hV0:V0 < P) (hv2:v2 < b) (hWV:W < b*V) (hg:g*v1+rest=T) (hr:b <= rest):g < b/\g*v2 <= rest*b+u2:=by
 have h1:T < v1*b+b:=by
  have h2:T*b*P <= W:=by
   have:(T*b+u2)*P=T*b*P+u2*P:=by grind
   omega
  have h3:b*V <= b*((v1*b+v2+1)*P):=by
   refine Nat.mul_le_mul_left _ ?_
   have:(v1*b+v2+1)*P=(v1*b+v2)*P+P:=by grind
   omega
  have h4:T*(b*P) < (v1*b+v2+1)*(b*P):=by
   have e1:T*(b*P)=T*b*P:=by grind
   have e2:(v1*b+v2+1)*(b*P)=b*((v1*b+v2+1)*P):=by grind
   omega
  have:=Nat.lt_of_mul_lt_mul_right h4
  omega
 have h5:g*v1 < b*v1:=by rw [Nat.mul_comm b v1]; omega
 have h6:=Nat.lt_of_mul_lt_mul_right h5
 have h7:g*v2 <= b*b:=Nat.mul_le_mul (by omega) (by omega)
 have h8:b*b <= rest*b:=Nat.mul_le_mul_right _ hr
 exact ⟨h6,by omega⟩
end guess
theorem aSF {P b0 U' Vt U by_ c d t r c' d' u v x':Nat} (h:U'+Vt*by_=U+P*(c+d)) (ht:r+b0*c'=t) (hv:t=c+v*by_) (hx:x'+(r+d)=u+b0*d') :
    (U'+P*x')+(Vt+P*v)*by_=(U+P*u)+P*b0*(c'+d'):=by
 subst hv
 have h1:P*(r+b0*c')=P*(c+v*by_):=by rw [ht]
 have h2:P*(x'+(r+d))=P*(u+b0*d'):=by rw [hx]
 grind
theorem aSp {u v o:List Nat} {i by_ c d t d' x':Nat} (ho:o.length=i) (h:val o+val (v.take i)*by_=val (u.take i)+B ^ i*(c+d)) (ht:t=c+v.getD i 0*by_) (hx:x'+(t % B+d)=u.getD i 0+B*d') :
    val (o ++ [x'])+val (v.take (i+1))*by_=val (u.take (i+1))+B ^ (i+1)*(t / B+d'):=by
 rw [a4A,ho,a2d,a2d,Nat.pow_succ]
 exact aSF h (Nat.mod_add_div t B) ht hx
theorem aSr {W V q P U c:Nat} (hU:U < P) (h:U+V*q=W+P*c) (hle:V*q <= W):c=0/\U=W - V*q:=by
 have:c=0:=by
  rcases Nat.eq_zero_or_pos c with h0 | h0
  ·exact h0
  ·have:P*1 <= P*c:=Nat.mul_le_mul_left _ h0
   omega
 subst this
 omega
theorem aSq {W V q P U c:Nat} (hU:U < P) (h:U+V*(q+1)=W+P*c) (hlt:W < V*(q+1)) (hq:V*q <= W) (hV:V < P):0 < c/\U+V=W - V*q+P:=by
 have h1:V*(q+1)=V*q+V:=Nat.mul_succ ..
 have h0:0 < c:=by
  rcases Nat.eq_zero_or_pos c with h0 | h0
  ·subst h0; omega
  ·exact h0
 have h2:c=1:=by
  rcases Nat.lt_or_ge 1 c with h2 | h2
  ·have:P*2 <= P*c:=Nat.mul_le_mul_left _ h2
   omega
  ·omega
 subst h2
 omega
theorem aN6 {x r V:Nat} (hx:x < B) (hr:r < V):x+B*r < B*V:=by
 have:B*(r+1) <= B*V:=Nat.mul_le_mul_left _ hr
 rw [Nat.mul_succ] at this
 omega
theorem aBZ {b n t:Nat} (h:b < (t+1)*B ^ n):b*(B / (t+1)) < B ^ (n+1):=by
 have h1:B / (t+1)*(t+1) <= B:=Nat.div_mul_le_self ..
 by_cases h0:B / (t+1)=0
 ·rw [h0,Nat.mul_zero]; exact Nat.pow_pos a3r
 ·have h2:b*(B / (t+1)) < (t+1)*B ^ n*(B / (t+1)):=Nat.mul_lt_mul_of_pos_right h (Nat.pos_of_ne_zero h0)
  have h3:(t+1)*B ^ n*(B / (t+1))=B ^ n*(B / (t+1)*(t+1)):=by
   generalize B / (t+1)=s
   generalize B ^ n=p
   grind
  have h4:B ^ n*(B / (t+1)*(t+1)) <= B ^ n*B:=Nat.mul_le_mul_left _ h1
  rw [Nat.pow_succ]
  omega
theorem aBY {a b s Q R:Nat} (h:a*s=Q*(b*s)+R) (hR:R < b*s):Q=a / b/\R=a % b*s:=by
 rcases Nat.eq_zero_or_pos s with h0 | h0
 ·subst h0; simp at hR
 ·have hb:0 < b:=by
   rcases Nat.eq_zero_or_pos b with h1 | h1
   ·subst h1; simp at hR
   ·exact h1
  have h1:=Nat.div_add_mod a b
  have h2:=Nat.mod_lt a hb
  have hR':a % b*s < b*s:=Nat.mul_lt_mul_of_pos_right h2 h0
  have h3:a*s=a / b*(b*s)+a % b*s:=by
   have:(b*(a / b)+a % b)*s=a / b*(b*s)+a % b*s:=by
    generalize a / b=q; generalize a % b=r; grind
   rw [<- this,h1]
  have hp:0 < b*s:=Nat.mul_pos hb h0
  have e1:a*s / (b*s)=Q:=by rw [h,Nat.mul_comm Q]; rw [Nat.mul_add_div hp,Nat.div_eq_of_lt hR]; rfl
  have e2:a*s / (b*s)=a / b:=by rw [h3,Nat.mul_comm (a / b)]; rw [Nat.mul_add_div hp,Nat.div_eq_of_lt hR']; rfl
  have e:Q=a / b:=by omega
  subst e
  exact ⟨rfl,by omega⟩
end Lb
end Go.Proofs.YtbohkigffejhoaaGreat
