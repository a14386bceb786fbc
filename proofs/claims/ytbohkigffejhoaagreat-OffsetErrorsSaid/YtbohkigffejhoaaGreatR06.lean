import Derived.Test.YtbohkigffejhoaaGreatR03
import Derived.Test.YtbohkigffejhoaaGreatR05
import Derived.LoopTactic
import Derived.Laws.AppendOwn
import Derived.Test.YtbohkigffejhoaaGreatChecked
namespace Go.Proofs.YtbohkigffejhoaaGreat
open Go.RowKit
set_option maxRecDepth 8000
def uC (x:Nat):List Value:=[.int .u32 x]
theorem a6h (x:Nat):(uC x).length=1:=rfl
theorem aOk (x:Nat):∀ u ∈ uC x,u.oneCell'=true:=by
 intro u h;simp only [uC,List.mem_singleton] at h;subst h; rfl
def SlU (w:World) (v:Value) (l:List Nat):Prop:=SlG 1 uC w v l
theorem SlU.later {w w':World} {v:Value} {l:List Nat} (h:SlU w v l) (he:Ext w w'):SlU w' v l:=SlG.later h he
theorem SlU.nil (w:World):SlU w (.slice none 0 0) []:=SlG.nil w
theorem SlU.cases {w:World} {v:Value} {l:List Nat} (h:SlU w v l) :
    (l=[]/\∃ a cap,v=.slice a 0 cap/\(a=none->cap=0)) \/
    (0 < l.length/\∃ b off cap,v=.slice (some ⟨b,off,none⟩) l.length cap/\l.length <= cap/\b < w.heap.size/\∀ i (hi:i < l.length),w.cell? ⟨b,off+i,none⟩=some (.int .u32 (l[i]:Int))):=by
 obtain ⟨a,n,cap,b,off,rfl,rfl,h3,h4,h5,h6⟩:=h;rcases Nat.eq_zero_or_pos l.length with h0 | h0
 ·exact .inl ⟨List.length_eq_zero_iff.1 h0,a,cap,by rw [h0],h4⟩
 ·have h7:=h3.resolve_left (by omega);subst h7;refine .inr ⟨h0,b,off,cap,rfl,h5,(h6 0 l[0] (by simp [h0])).1,fun i hi=>?_⟩;have:=(h6 i l[i] (by simp [hi])).2 0 (.int .u32 l[i]) rfl;rwa [Nat.mul_one,Nat.add_zero] at this
theorem SlU.mk {w:World} {b off n cap:Nat} {l:List Nat} (hn:n=l.length) (hc:n <= cap) (hb:0 < l.length->b < w.heap.size) (h:∀ i (hi:i < l.length),w.cell? ⟨b,off+i,none⟩=some (.int .u32 (l[i]:Int))):SlU w (.slice (some ⟨b,off,none⟩) n cap) l:=by
 subst hn;refine ⟨_,_,cap,b,off,rfl,rfl,.inr rfl,fun h=>(by cases h),hc,fun i x hx=>?_⟩
 have hi:i < l.length:=by
  rcases Nat.lt_or_ge i l.length with h' | h'
  ·exact h'
  ·rw [List.getElem?_eq_none h'] at hx; cases hx
 have hxx:l[i]=x:=by simpa [hi] using hx
 refine ⟨hb (by omega),fun r u hu=>?_⟩
 cases r with
 | zero =>
   have:u=.int .u32 x:=by simpa [uC] using hu.symm
   subst this;rw [Nat.mul_one,Nat.add_zero,<- hxx]
   exact h i hi
 | succ r=>simp [uC] at hu
theorem SlU.empty {w:World} {a:Option Addr} {cap:Nat} (h:a=none->cap=0):SlU w (.slice a 0 cap) [] :=
 ⟨a,0,cap,0,0,rfl,rfl,.inl rfl,h,Nat.zero_le _,fun i x hx=>by simp at hx⟩
def aJK (w:World) (v0:Value) (l:List Nat) (e:Ending) (w':World):Prop:=∃ v,e=.returned v/\SlU w v l/\v.ownBlock=v0.ownBlock/\w=w'
theorem aOq {l:List Nat} {j:Nat} (hj:j < l.length):l.take (j+1)=l.take j ++ [l[j]]:=List.take_succ_eq_append_getElem hj
def aBi (a b:Nat):Int:=if a < b then -1 else if b < a then 1 else 0
theorem a8l {a b:Nat} (h:a < b):aBi a b=-1:=if_pos h
theorem a8m {a b:Nat} (h:b < a):aBi a b=1:=by unfold aBi; rw [if_neg (by omega),if_pos h]
theorem aAu {a b:Nat} (h:a=b):aBi a b=0:=by unfold aBi; rw [if_neg (by omega),if_neg (by omega)]
def sgn (b:Bool) (n:Nat):Int:=if b=true then -(n:Int) else n
def IsI (w:World) (b:Bool) (s:Value) (z:Int):Prop:=b=decide (z < 0)/\SlU w s (Lb.limbs z.natAbs)
theorem IsI.later {w w':World} {b:Bool} {s:Value} {z:Int} (h:IsI w b s z) (he:Ext w w'):IsI w' b s z:=⟨h.1,SlU.later h.2 he⟩
theorem SlU.form {w:World} {s:Value} {l:List Nat} (h:SlU w s l):∃ a c,s=.slice a l.length c:=by
 obtain ⟨a,n,cap,b,off,rfl,rfl,_⟩:=h;exact ⟨a,cap,rfl⟩
theorem IsI.form {w:World} {b:Bool} {s:Value} {z:Int} (h:IsI w b s z):∃ a c,s=.slice a (Lb.limbs z.natAbs).length c:=h.2.form
def b3i (w:World) (z:Int) (e:Ending) (w':World):Prop:=∃ b a n c,e=.returned (.agg #[.bool b,.slice a n c])/\IsI w' b (.slice a n c) z/\Ext w w'
def b5s (w:World) (l:List Nat) (e:Ending) (w':World):Prop:=∃ a n c,e=.returned (.slice a n c)/\SlU w' (.slice a n c) l/\Ext w w'
theorem aMh (b:Bool) (n:Nat):(sgn b n).natAbs=n:=by unfold sgn; split <;> simp
theorem aXj (b:Bool) (n:Nat):decide (sgn b n < 0)=(b && decide (0 < n)):=by
 unfold sgn;cases b
 ·simp
 ·simp
theorem a4C (w:World) (cs:Array Value) (t:TypeId):∃ W:World,w.alloc (.cells cs t)=W/\W.heap[w.heap.size]?=some (.cells cs t (0,0))/\Ext w W/\W.heap.size=w.heap.size+1 :=
 ⟨_,rfl,by unfold World.alloc; simp,(Ext.refl w).alloc _,by simp⟩
