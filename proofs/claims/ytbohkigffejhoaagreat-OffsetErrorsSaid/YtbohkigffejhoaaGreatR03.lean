import Derived.Test.YtbohkigffejhoaaGreatR02
import Derived.Maps.AppendAt
import Derived.OwnWalk
import Derived.Laws.AppendOwnNone
open Nat (lt_or_ge succ_mul)
namespace Go.Proofs.YtbohkigffejhoaaGreat
open Go.RowKit
def cat {α:Type} (f:α->List Value):List α->List Value
 | []=>[]
 | x :: l=>f x ++ cat f l
section
variable {α:Type} {f:α->List Value} {k:Nat}
theorem a3L (hf:∀ x,(f x).length=k):∀ l:List α,(cat f l).length=l.length*k
 | []=>by simp [cat]
 | x :: l=>by rw [cat,List.length_append,hf,a3L hf l,List.length_cons,succ_mul]; omega
theorem aCf:∀ l l':List α,cat f (l ++ l')=cat f l ++ cat f l'
 | [],l'=>rfl
 | x :: l,l'=>by rw [List.cons_append,cat,cat,aCf l l',List.append_assoc]
theorem aDs (hf:∀ x,(f x).length=k):∀ (l:List α) (i r:Nat) (x:α),l[i]?=some x->r < k->(cat f l)[i*k+r]?=(f x)[r]?
 | [],_,_,_,h,_=>by simp at h
 | y :: l,0,r,x,h,hr=>by
   obtain rfl:y=x:=by simpa using h
   rw [cat,Nat.zero_mul,Nat.zero_add,List.getElem?_append_left (by rw [hf]; exact hr)]
 | y :: l,i+1,r,x,h,hr=>by
   rw [cat,List.getElem?_append_right (by rw [hf,succ_mul]; omega),hf]
   have:(i+1)*k+r - k=i*k+r:=by rw [succ_mul]; omega
   rw [this,aDs hf l i r x (by simpa using h) hr]
theorem aQY (h1:∀ x,∀ u ∈ f x,u.oneCell'=true):∀ (l:List α),∀ u ∈ cat f l,u.oneCell'=true
 | [],u,h=>by simp [cat] at h
 | x :: l,u,h=>by
   simp only [cat,List.mem_append] at h;rcases h with h | h
   ·exact h1 x u h
   ·exact aQY h1 l u h
def SlG (k:Nat) (f:α->List Value) (w:World) (v:Value) (l:List α):Prop :=
 ∃ (a:Option Addr) (n cap b off:Nat),v=.slice a n cap/\n=l.length/\(n=0 \/ a=some ⟨b,off,none⟩)/\(a=none->cap=0)/\n <= cap /\
   ∀ i x,l[i]?=some x->b < w.heap.size/\∀ r u,(f x)[r]?=some u->w.cell? ⟨b,off+i*k+r,none⟩=some u
theorem SlG.later {w w':World} {v:Value} {l:List α} (h:SlG k f w v l) (he:Ext w w'):SlG k f w' v l:=by
 obtain ⟨a,n,cap,b,off,rfl,h2,h3,h4,h5,h6⟩:=h;refine ⟨a,n,cap,b,off,rfl,h2,h3,h4,h5,fun i x hx=>?_⟩;obtain ⟨p,q⟩:=h6 i x hx;refine ⟨Nat.lt_of_lt_of_le p he.size,fun r u hu=>?_⟩;rw [he.cell (by exact p)];exact q r u hu
theorem SlG.nil (w:World):SlG k f w (.slice none 0 0) []:=⟨none,0,0,0,0,rfl,rfl,.inl rfl,fun _=>rfl,Nat.le_refl _,fun i x h=>by simp at h⟩
theorem SlG.len {w:World} {a:Option Addr} {n cap:Nat} {l:List α} (h:SlG k f w (.slice a n cap) l):n=l.length:=by
 obtain ⟨a',n',cap',b,off,e,h2,_⟩:=h;cases e;exact h2
def OwnG (B:Nat) (T:TypeId) (k:Nat) (f:α->List Value) (w:World) (v:Value) (l:List α):Prop:=w.ownsRow B T k v l.length (cat f l)
theorem OwnG.later {B:Nat} {T:TypeId} {w w':World} {v:Value} {l:List α} (h:OwnG B T k f w v l) (he:Ext w w'):OwnG B T k f w' v l:=by
 refine World.ownsRow.kept h (row:=none) ⟨he.out.os,he.out.tape,he.out.output,he.size,fun k hk _=>he.out.block k hk⟩ ?_;cases h':v.ownBlock <;> simp
theorem OwnG.set {B:Nat} {T:TypeId} {w:World} {v:Value} {l:List α} (h:OwnG B T k f w v l) {a:Addr} (ha:v.ownBlock ≠ some a.block) (u:Value):OwnG B T k f (w.setCell a u) v l:=ownsRow_setCell_other h ha u
theorem OwnG.nil (B:Nat) (T:TypeId) (w:World):OwnG B T k f w (.slice none 0 0) []:=World.ownsRow_nil _ _ _ _
theorem OwnG.base {B:Nat} {T:TypeId} {w:World} {v:Value} {l:List α} {b:Nat} (h:OwnG B T k f w v l) (e:v.ownBlock=some b):B <= b/\b < w.heap.size:=by
 obtain ⟨h1,h2⟩:=h
 rcases h2 with ⟨rfl,h3⟩ | ⟨g,cap,cur,rfl,h3,h4,h5,h6,h7,h8⟩
 ·cases e
 ·cases e;refine ⟨h3,?_⟩;rcases lt_or_ge g w.heap.size with h' | h'
  ·exact h'
  ·rw [Array.getElem?_eq_none h'] at h4; cases h4
theorem OwnG.sl {B:Nat} {T:TypeId} {w:World} {v:Value} {l:List α} (hf:∀ x,(f x).length=k) (h:OwnG B T k f w v l):SlG k f w v l:=by
 obtain ⟨h1,h2⟩:=h
 rcases h2 with ⟨rfl,h3⟩ | ⟨g,cap,cur,rfl,h3,h4,h5,h6,h7,h8⟩
 ·obtain rfl:=List.length_eq_zero_iff.1 h3;exact SlG.nil w
 ·refine ⟨_,_,cap,g,0,rfl,rfl,.inr rfl,fun h=>(by cases h),h5,fun i x hx=>⟨?_,fun r u hu=>?_⟩⟩
  ·rcases lt_or_ge g w.heap.size with h' | h'
   ·exact h'
   ·rw [Array.getElem?_eq_none h'] at h4; cases h4
  ·have hr:r < k:=by
    rcases lt_or_ge r (f x).length with h' | h'
    ·rw [hf] at h'; exact h'
    ·rw [List.getElem?_eq_none h'] at hu; cases hu
   have hi:i < l.length:=by
    rcases lt_or_ge i l.length with h' | h'
    ·exact h'
    ·rw [List.getElem?_eq_none h'] at hx; cases hx
   have hik:i*k+r < l.length*k:=by
    have:(i+1)*k <= l.length*k:=Nat.mul_le_mul_right _ hi;rw [succ_mul] at this;omega
   have e:cur[i*k+r]?=some u:=by
    have h9:(cur.toList.take (l.length*k))[i*k+r]?=(cat f l)[i*k+r]?:=by rw [h8]
    rw [List.getElem?_take_of_lt hik,aDs hf l i r x hx hr,hu] at h9;simpa using h9
   rw [Nat.zero_add];simp [World.cell?,h4,e]
theorem a1b (b off i:Nat):(⟨b,off,none⟩:Addr).add i=⟨b,off+i,none⟩:=by
 unfold Addr.add;split
 ·rename_i h; subst h; rfl
 ·rfl
theorem aJw {P:Program} {S T:TypeId} {bytes:Nat} {w:World} {ops:Array Oper} {rest:List Oper} {o:Oper} {A:Act} {Q:Exit->Act->World->Prop} (hg:o.guard=none) (x y:Operand)
    (ho:o.op=.call { callee:=.builtin .append,args:=#[x,y],argTypes:=#[S,S] })
    (hS:P.underlying S=some (.slice T)) {z:Value} (hT:(P.info? T).map (fun i=>(i.zero,i.size,i.bytes))=some (some z,k,bytes)) (hz:z.cells.size=k) (hk0:0 < k)
    (hf:∀ x,(f x).length=k) (h1:∀ x,∀ u ∈ f x,u.oneCell'=true)
    (base:Nat) (v v2:Value) (l l2:List α) (hx:A.eval x=v) (hy:A.eval y=v2)
    (hown:OwnG base T k f w v l) (harg:SlG k f w v2 l2) (h63:l.length+l2.length <= maxLen) (hby:(l.length+l2.length)*bytes <= 140737488355328) (hbase:base <= w.heap.size)
    (hk:∀ v' w3,OwnG base T k f w3 v' (l ++ l2)->w.grownBy w3 v.ownBlock->(v'.ownBlock=v.ownBlock \/ v'.ownBlock=some w.heap.size)->wpList P ops Q rest (A.put o.dst v') w3):wpList P ops Q (o :: rest) A w:=by
 obtain ⟨i0,hi,hz0,hz1,hz2⟩:=info_parts hT;obtain ⟨ad,n,cap,b,off,rfl,rfl,h3,h4,_,h6⟩:=harg
 cases ad with
 | none =>
   have h0:l2.length=0:=h3.resolve_right (by simp);obtain rfl:=List.length_eq_zero_iff.1 h0;obtain rfl:=h4 rfl
   exact wpList_append_own_none hg _ _ S ho base T i0 k hS hi _ _ _ hx hown hy (hk _ _ (by rw [List.append_nil]; exact hown) ⟨rfl,rfl,rfl,Nat.le_refl _,fun _ _ _=>rfl⟩ (.inl rfl))
 | some x2 =>
   refine wpList_append_own_at w hg _ _ S ho base T i0 _ k bytes hS hi hz0 hz1 hz2 hz hk0 _ _ _ hx hown x2 _ _ (cat f l2) hy (a3L hf l2) (fun j u hj=>?_) (aQY h1 l2) h63 hby hbase (fun v' w3 ho3 hg3 _ hat=>hk v' w3 ?_ hg3 hat)
   ·have hjl:j < l2.length*k:=by
     rw [<- a3L hf];rcases lt_or_ge j (cat f l2).length with h' | h'
     ·exact h'
     ·rw [List.getElem?_eq_none h'] at hj; cases hj
    have hi2:j / k < l2.length:=Nat.div_lt_of_lt_mul (by rw [Nat.mul_comm]; exact hjl)
    have hx2:x2=⟨b,off,none⟩:=by simpa using h3.resolve_left (Nat.ne_of_gt (Nat.lt_of_le_of_lt (Nat.zero_le _) hi2))
    subst hx2;rw [a1b];have hr:j % k < k:=Nat.mod_lt _ hk0
    have e:j=j / k*k+j % k:=by rw [Nat.mul_comm]; exact (Nat.div_add_mod j k).symm
    have hxx:l2[j / k]?=some l2[j / k]:=by simp [hi2]
    have:=aDs hf l2 (j / k) (j % k) _ hxx hr;rw [<- e,hj] at this;have h7:=(h6 (j / k) _ hxx).2 (j % k) u this.symm;rw [show off+j=off+j / k*k+j % k by omega];exact h7
   ·unfold OwnG;rw [List.length_append,aCf];exact ho3
