import Derived.WalkKit
import Derived.WalkSpells
import Derived.WalkLawsBesides
import Derived.Deep.QuietTactic
import Derived.BigQuiet
import Derived.Lib.Hide
namespace Go.Proofs.YtbohkigffejhoaaGreat
open Go.RowKit
def Ext (w w':World):Prop:=Below w.heap.size w w'
theorem Ext.refl (w:World):Ext w w:=Below.refl _ _
theorem Ext.trans {a b c:World} (h:Ext a b) (k:Ext b c):Ext a c:=Below.trans h (Below.mono k h.size)
theorem Ext.drew {a w:World} (h:Ext a w):Ext a w.drew:=Below.drew h
theorem Ext.alloc {a w:World} (h:Ext a w) (o:Obj):Ext a (w.alloc o):=Below.alloc h h.size o
theorem Ext.setCell {a w:World} (h:Ext a w) {p:Addr} (hp:a.heap.size <= p.block) (u:Value):Ext a (w.setCell p u):=Below.setCell h hp u
theorem Ext.size {a w:World} (h:Ext a w):a.heap.size <= w.heap.size:=Below.size h
theorem Ext.cell {a w:World} (h:Ext a w) {p:Addr} (hp:p.block < a.heap.size):w.cell? p=a.cell? p:=Below.cell h hp
theorem Ext.frozen {a w:World} (h:Ext a w) {p:Addr} (hp:p.block < a.heap.size):w.frozen? p=a.frozen? p:=Below.frozen h hp
theorem Ext.of {w w':World} (h:Below w.heap.size w w'):Ext w w':=h
theorem Ext.out {w w':World} (h:Ext w w'):Below w.heap.size w w':=h
def Later (w:World):Type:={ w':World // Ext w w' }
def Later.w {w:World} (x:Later w):World:=x.1
theorem Later.ext {w:World} (x:Later w):Ext w x.w:=x.2
def Later.mk {w:World} (w':World) (h:Ext w w'):Later w:=⟨w',h⟩
instance {w:World}:Nonempty (Later w):=⟨⟨w,Ext.refl w⟩⟩
theorem Later.cell {w:World} {p:Addr} {v:Value} (h:w.cell? p=some v):∀ x:Later w,x.w.cell? p=some v:=fun x=>by
 have hp:p.block < w.heap.size:=by
  unfold World.cell? at h;rcases Nat.lt_or_ge p.block w.heap.size with h' | h'
  ·exact h'
  ·rw [Array.getElem?_eq_none h'] at h; cases h
 rw [x.ext.cell hp]; exact h
theorem Later.frozen {w:World} {p:Addr} {b:Bool} (hp:p.block < w.heap.size) (h:w.frozen? p=b):∀ x:Later w,x.w.frozen? p=b:=fun x=>by
 rw [x.ext.frozen hp]; exact h
theorem Later.block {w:World} {b:Nat} {cs:Array Value} {t:TypeId} {fz:Nat × Nat} (h:w.heap[b]?=some (.cells cs t fz)) (i:Nat) {v:Value} (hv:cs[i]?=some v):∀ x:Later w,x.w.cell? ⟨b,i,none⟩=some v :=
 Later.cell (by simp [World.cell?,h,hv])
def Later.self (w:World):Later w:=⟨w,Ext.refl w⟩
theorem a9B {P:Program} {id:Nat} {Q:Exit->Act->World->Prop} {a:Act} {w:World} {l:List Oper} (hm:P.follows .mixedOrders=true) (hB:Region.lexB .any l.toArray=true)
    (h:wpQuiet P l.toArray (fun w'=>∃ x:Later w,w'=x.w) (fun a'=>∀ w',(∃ x:Later w,w'=x.w)->Q .normal a' w') l a):(Code.region id l.toArray true).wp P Q a w :=
 wp_region_quiet (C:=fun w'=>∃ x:Later w,w'=x.w) hm hB ⟨⟨_,(Ext.refl w).drew⟩,rfl⟩ (by simpa using h)
theorem Calls.later {P:Program} {f:FuncId} {args:Array Value} {w:World} {x:Later w} {v:Value}
    (h:Calls P f args x.w fun e w'=>e=.returned v/\Ext x.w w'):Calls P f args x.w fun e w''=>e=.returned v/\∃ y:Later w,w''=y.w :=
 h.mono fun _ w' ⟨he,hm⟩=>⟨he,⟨w',x.ext.trans hm⟩,rfl⟩
