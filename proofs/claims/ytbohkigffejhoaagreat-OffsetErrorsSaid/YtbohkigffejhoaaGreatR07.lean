import Derived.Test.YtbohkigffejhoaaGreatR06
import Derived.Laws.MakeOwn
import Derived.Laws.OwnMore
import Derived.Laws.Rows
open Go.World (cell? frozen? setCell)
namespace Go.Proofs.YtbohkigffejhoaaGreat
open Go.RowKit
set_option maxRecDepth 8000
theorem Tryz.info_u32:(Tryz.prog.info? 189).map (fun i=>(i.zero,i.size,i.bytes))=some (some (.int .u32 0),1,4):=by kernel_rfl
def uV (x:Nat):Value:=.int .u32 (x:Int)
def ArrU (w:World) (b:Nat) (l:List Nat):Prop:=w.heap[b]?=some (.cells (l.map uV).toArray 189 (0,0))
theorem Ext.grown {w w1 w2:World} {row:Option Nat} (h:Ext w w1) (hg:w1.grownBy w2 row) (hr:∀ k,row=some k->w.heap.size <= k):Ext w w2:=Below.grown h.out hg h.size hr
theorem ArrU.lt {w:World} {b:Nat} {l:List Nat} (h:ArrU w b l):b < w.heap.size:=by
 rcases Nat.lt_or_ge b w.heap.size with h' | h'
 ·exact h'
 ·unfold ArrU at h; rw [Array.getElem?_eq_none h'] at h; cases h
theorem ArrU.cell {w:World} {b:Nat} {l:List Nat} (h:ArrU w b l) (i:Nat) (hi:i < l.length):w.cell? ⟨b,i,none⟩=some (.int .u32 (l[i]:Int)):=by
 unfold ArrU at h;simp [cell?,h,hi,uV]
theorem ArrU.free {w:World} {b:Nat} {l:List Nat} (h:ArrU w b l) (i:Nat):w.frozen? ⟨b,i,none⟩=false:=by
 unfold ArrU at h;simp [frozen?,h]
theorem ArrU.set {w:World} {b:Nat} {l:List Nat} (h:ArrU w b l) (i x:Nat):ArrU (w.setCell ⟨b,i,none⟩ (.int .u32 (x:Int))) b (l.set i x):=by
 unfold ArrU at *
 rw [heap_setCell_same w b i _ _ _ h];simp [uV,List.map_set]
theorem ArrU.ext {w w':World} {b:Nat} {l:List Nat} (h:ArrU w b l) (he:Ext w w'):ArrU w' b l:=by
 have:=h.lt
 unfold ArrU at *
 rw [he.out.block b this]; exact h
theorem ArrU.other {w:World} {b:Nat} {l:List Nat} (h:ArrU w b l) {a:Addr} (hne:b ≠ a.block) (v:Value):ArrU (w.setCell a v) b l:=by
 unfold ArrU at *
 rw [Below.heap_setCell _ _ _ _ hne]; exact h
theorem ArrU.sl {w:World} {b n cap:Nat} {l:List Nat} (h:ArrU w b l) (hn:n <= l.length) (hc:n <= cap):SlU w (.slice (some ⟨b,0,none⟩) n cap) (l.take n) :=
 SlU.mk (by simp; omega) hc (fun _=>h.lt) (fun i hi=>by
  have hi':i < l.length:=by simp at hi; omega
  rw [Nat.zero_add,h.cell i hi']
  simp)
theorem ArrU.all {w:World} {b n cap:Nat} {l:List Nat} (h:ArrU w b l) (hn:n=l.length) (hc:n <= cap):SlU w (.slice (some ⟨b,0,none⟩) n cap) l:=by
 have:=h.sl (n:=n) (by omega) hc;rwa [hn,List.take_length,<- hn] at this
theorem aB4 (n:Nat):madeCells #[Value.int .u32 0] (n*1)=Array.replicate n (Value.int .u32 0):=by
 apply Array.ext
 ·simp [size_madeCells]
 ·intro i h1 h2;simp [madeCells,Nat.mod_one]
theorem a5V (n:Nat) (hn:n <= 1000000000) (w:World):(Instr.makeSlice 31 (.int .i64 (n:Int)) (.int .i64 (n:Int))).run Tryz.prog w=.ok (.slice (some ⟨w.heap.size,0,none⟩) n n) (w.alloc (.cells (Array.replicate n (.int .u32 0)) 189)):=by
 obtain ⟨i,hi,hz,hs,hb⟩:=info_parts Tryz.info_u32;have:=run_make (P:=Tryz.prog) w 31 189 i (.int .u32 0) Tryz.underlying31 hi hz .i64 .i64 (n:Int) (n:Int) (by omega) (Int.le_refl _) (by rw [hb]; omega) (by omega);rw [this,hs];simp only [Int.toNat_natCast];rw [show (Value.int IntKind.u32 0).cells=#[Value.int .u32 0] from rfl,aB4]
theorem aAQ (w:World) (l:List Nat):∃ W:World,w.alloc (.cells (l.map uV).toArray 189)=W/\ArrU W w.heap.size l/\Ext w W/\W.heap.size=w.heap.size+1:=by
 obtain ⟨W,h1,h2,h3,h4⟩:=a4C w (l.map uV).toArray 189;exact ⟨W,h1,h2,h3,h4⟩
theorem a3h (w:World) (n:Nat):∃ W:World,w.alloc (.cells (Array.replicate n (.int .u32 0)) 189)=W/\ArrU W w.heap.size (List.replicate n 0)/\Ext w W/\W.heap.size=w.heap.size+1:=by
 obtain ⟨W,h1,h2,h3,h4⟩:=a4C w (Array.replicate n (.int .u32 0)) 189;refine ⟨W,h1,?_,h3,h4⟩;unfold ArrU;rw [h2];congr 2;simp [uV]
theorem a3t {w w':World} {b:Nat} {o:Obj} (h:w.heap[b]?=some o) (k:Ext w w'):w'.heap[b]?=some o:=by
 rw [k.out.block b ?_]; exact h;rcases Nat.lt_or_ge b w.heap.size with h' | h'
 ·exact h'
 ·rw [Array.getElem?_eq_none h'] at h; cases h
theorem aXr {w w':World} {z:Int} {b:Bool} {a:Option Addr} {n c:Nat} (h:IsI w' b (.slice a n c) z) (he:Ext w w'):b3i w z (.returned (.agg #[.bool b,.slice a n c])) w':=⟨b,a,n,c,rfl,h,he⟩
theorem aEU {w:World} {b:Nat} {t:TypeId} (h:w.heap[b]?=some (.cells #[.bool false,.slice none 0 0] t (0,0))) :
    w.cell? ⟨b,0,none⟩=some (.bool false)/\w.cell? ⟨b,1,none⟩=some (.slice none 0 0)/\w.frozen? ⟨b,0,none⟩=false/\w.frozen? ⟨b,1,none⟩=false:=by
 simp [cell?,frozen?,h]
def NoU (w:World) (b:Nat):Prop:=∀ i x,w.cell? ⟨b,i,none⟩ ≠ some (.int .u32 x)
theorem SlU.set {w:World} {s:Value} {l:List Nat} (h:SlU w s l) {b i:Nat} (hn:NoU w b) (v:Value):SlU (w.setCell ⟨b,i,none⟩ v) s l:=by
 obtain ⟨a,n,cap,g,off,rfl,h2,h3,h4,h5,h6⟩:=h;refine ⟨a,n,cap,g,off,rfl,h2,h3,h4,h5,fun j x hx=>?_⟩;obtain ⟨p,q⟩:=h6 j x hx;refine ⟨by simpa [setCell] using p,fun r u hu=>?_⟩;have hq:=q r u hu
 have hne:g ≠ b:=by
  rintro rfl
  have hr:r=0:=by
   cases r with
   | zero=>rfl
   | succ r=>simp [uC] at hu
  subst hr
  have:u=.int .u32 x:=by simpa [uC] using hu.symm
  subst this;exact hn _ _ hq
 rw [World.cell?_setCell_other _ _ _ _ (by intro e; cases e; exact hne rfl)];exact hq
theorem NoU.set {w:World} {b i:Nat} (h:NoU w b) (v:Value) (hv:∀ x,v ≠ .int .u32 x):NoU (w.setCell ⟨b,i,none⟩ v) b:=by
 intro j x hc;by_cases e:i=j
 ·subst e
  cases hc0:w.cell? ⟨b,i,none⟩ with
  | none =>
    have:(w.setCell ⟨b,i,none⟩ v).cell? ⟨b,i,none⟩=none:=by
     unfold cell? setCell at *
     simp only [Array.getElem?_modify,if_pos] at *
     cases hb:w.heap[b]? with
     | none=>simp
     | some o =>
       cases o with
       | cells cs t fz =>
         simp only [hb] at hc0;simp at hc0 ⊢
         exact hc0
       | _=>simp
    rw [this] at hc
    cases hc
  | some u =>
    rw [World.cell?_setCell_same _ _ _ hc0] at hc;exact hv x (Option.some.inj hc)
 ·rw [World.cell?_setCell_other _ _ _ _ (by intro e'; cases e'; exact e rfl)] at hc;exact h j x hc
theorem aXW {w:World} {b:Nat} {t:TypeId} (h:w.heap[b]?=some (.cells #[.bool false,.slice none 0 0] t (0,0))):NoU w b:=by
 intro i x hc
 have:i=0 \/ i=1 \/ 2 <= i:=by omega
 rcases this with rfl | rfl | h2
 ·simp [cell?,h] at hc
 ·simp [cell?,h] at hc
 ·obtain ⟨k,rfl⟩:∃ k,i=k+2:=⟨i - 2,by omega⟩
  simp [cell?,h] at hc
theorem aQH {w w3:World} {b:Nat} {t:TypeId} {bb:Bool} {a:Option Addr} {n c:Nat} {z:Int} (hx:Ext w w3) (hb:w.heap.size <= b) (h:w3.heap[b]?=some (.cells #[.bool false,.slice none 0 0] t (0,0))) (hi:IsI w3 bb (.slice a n c) z) :
    b3i w z (.returned (.agg #[.bool bb,.slice a n c])) ((w3.setCell ⟨b,0,none⟩ (.bool bb)).setCell ⟨b,1,none⟩ (.slice a n c)):=by
 have h0:=aXW h;have h1:=h0.set (i:=0) (.bool bb) (by simp);exact aXr ⟨hi.1,(hi.2.set h0 _).set h1 _⟩ ((hx.setCell hb _).setCell hb _)
theorem aZj {B:Nat} {w:World} {b:Nat} {l:List Nat} (h:ArrU w b l) (hB:B <= b) (hn:l.length <= maxLen):OwnG B 189 1 uC w (.slice (some ⟨b,0,none⟩) l.length l.length) l:=by
 refine ⟨by simp [a3L (f:=uC) (k:=1) a6h],.inr ⟨b,l.length,_,rfl,hB,h,Nat.le_refl _,hn,by simp,?_⟩⟩
 have:∀ l:List Nat,cat uC l=l.map uV:=fun l=>by
  induction l with
  | nil=>rfl
  | cons x l ih=>simp [cat,uC,uV,ih]
 rw [this];simp only [Nat.mul_one];exact List.take_of_length_le (by simp)
theorem a3u {w:World} {s:Value} {l:List Nat} (h:SlU w s l) (i:Nat) (hi:i < l.length):∃ b off cap,s=.slice (some ⟨b,off,none⟩) l.length cap/\b < w.heap.size/\w.cell? ⟨b,off+i,none⟩=some (.int .u32 (l[i]:Int)):=by
 rcases h.cases with ⟨rfl,_⟩ | ⟨_,b,off,cap,rfl,_,hb,hc⟩
 ·simp at hi
 ·exact ⟨b,off,cap,rfl,hb,hc i hi⟩
def b3A (w:World) (p:Option Addr) (i x:Nat):Prop:=∃ b off,p=some ⟨b,off,none⟩/\w.cell? ⟨b,off+i,none⟩=some (.int .u32 (x:Int))
theorem SlU.at {w:World} {p:Option Addr} {n q:Nat} {l:List Nat} (h:SlU w (.slice p n q) l) (i:Nat) (hi:i < l.length):b3A w p i l[i]:=by
 obtain ⟨b,off,cap,e,hb,hc⟩:=a3u h i hi;cases e;exact ⟨b,off,rfl,hc⟩
structure aCu (a b:List Nat) (k c:Nat) (o:List Nat):Prop where
 len:o.length=k
 lt:Lb.Lt o
 sum:Lb.val o+Lb.B ^ k*c=Lb.val (a.take k)+Lb.val (b.take k)
theorem a8D (a b:List Nat):aCu a b 0 0 []:=⟨rfl,Lb.a4k,by simp [Lb.val]⟩
theorem aBW {a b o:List Nat} {k c:Nat} (h:aCu a b k c o) (ha:a.length=k) (hb:b.length <= k) (hc:c <= 1):Lb.Lt (o ++ [c])/\Lb.val (o ++ [c])=Lb.val a+Lb.val b:=by
 refine ⟨Lb.a3T h.lt (Lb.a4v (by rw [Lb.a9f]; omega) Lb.a4k),?_⟩;have:=h.sum;rw [List.take_of_length_le (by omega),List.take_of_length_le hb] at this;rw [Lb.a6P,h.len];exact this
structure a8x (a b:List Nat) (k c:Nat) (o:List Nat):Prop where
 len:o.length=k
 lt:Lb.Lt o
 sum:Lb.val o+Lb.val (b.take k)=Lb.val (a.take k)+Lb.B ^ k*c
theorem aCW (a b:List Nat):a8x a b 0 0 []:=⟨rfl,Lb.a4k,by simp [Lb.val]⟩
theorem a9U {a b o:List Nat} {k c s:Nat} (h:a8x a b k c o) (hs:s+b.getD k 0+c=a.getD k 0) (hlt:s < 1000000000):a8x a b (k+1) 0 (o ++ [s]) :=
 ⟨by simp [h.len],Lb.a3T h.lt (Lb.a4v hlt Lb.a4k),Lb.aB3 h.len h.sum (by omega)⟩
theorem a8G {a b o:List Nat} {k c s:Nat} (h:a8x a b k c o) (hs:s+b.getD k 0+c=a.getD k 0+1000000000) (hlt:s < 1000000000):a8x a b (k+1) 1 (o ++ [s]) :=
 ⟨by simp [h.len],Lb.a3T h.lt (Lb.a4v hlt Lb.a4k),Lb.aB3 h.len h.sum (by rw [Lb.a9f]; omega)⟩
structure aA0 (a b:List Nat) (i:Nat) (o:List Nat):Prop where
 len:o.length=a.length+b.length
 lt:Lb.Lt o
 val:Lb.val o=Lb.val (a.take i)*Lb.val b
 zero:∀ j,i+b.length <= j->o.getD j 0=0
structure aAZ (a b:List Nat) (i k x c V:Nat) (o:List Nat):Prop where
 len:o.length=a.length+b.length
 lt:Lb.Lt o
 clt:c < 1000000000
 sum:Lb.val o+Lb.B ^ (i+k)*c=V+Lb.B ^ i*(x*Lb.val (b.take k))
 zero:∀ j,i+b.length <= j->o.getD j 0=0
theorem aCE (a b:List Nat):aA0 a b 0 (List.replicate (a.length+b.length) 0) :=
 ⟨by simp,Lb.aTK _,by rw [Lb.aEH]; simp [Lb.val],fun j _=>by
  rw [List.getD_eq_getElem?_getD,List.getElem?_replicate]; split <;> rfl⟩
theorem aCD {a b o:List Nat} {i:Nat} (h:aA0 a b i o) (x:Nat):aAZ a b i 0 x 0 (Lb.val (a.take i)*Lb.val b) o :=
 ⟨h.len,h.lt,by omega,by rw [h.val]; simp [Lb.val],h.zero⟩
theorem a6r {o:List Nat} {i j v:Nat} (h:j ≠ i):(o.set i v).getD j 0=o.getD j 0:=by
 rw [List.getD_eq_getElem?_getD,List.getD_eq_getElem?_getD,List.getElem?_set_ne (by omega)]
theorem aEJ {a b o:List Nat} {i k x c V y ov:Nat} (h:aAZ a b i k x c V o) (hi:i < a.length) (hk:k < b.length) (hx:x < 1000000000) (hy:y < 1000000000) (hyb:b.getD k 0=y) (ho:o[i+k]?=some ov) :
    aAZ a b i (k+1) x ((ov+x*y+c) / 1000000000) V (o.set (i+k) ((ov+x*y+c) % 1000000000))/\ov < 1000000000:=by
 have hik:i+k < o.length:=by rw [h.len]; omega
 have hov:o[i+k]=ov:=by simpa [hik] using ho
 have hlt:ov < Lb.B:=by rw [<- hov]; exact Lb.a2I h.lt _ hik
 have hc:=Lb.aHG hlt (show x < Lb.B from hx) (show y < Lb.B from hy) (show c < Lb.B from h.clt);refine ⟨⟨by simpa using h.len,Lb.aPt h.lt _ _ (Nat.mod_lt _ Lb.a3w),hc.1,Lb.aMd hik h.sum hyb (by rw [hov]),fun j hj=>?_⟩,hlt⟩;rw [a6r (by omega)];exact h.zero j hj
theorem aHH {a b o:List Nat} {i x c:Nat} (h:aAZ a b i b.length x c (Lb.val (a.take i)*Lb.val b) o) (hi:i < a.length) (hx:a.getD i 0=x) :
    aA0 a b (i+1) (o.set (i+b.length) c):=by
 have hj:i+b.length < o.length:=by rw [h.len]; omega
 have h0:o[i+b.length]=0:=by have:=h.zero _ (Nat.le_refl (i+b.length)); simpa [hj] using this
 refine ⟨by simpa using h.len,Lb.aPt h.lt _ _ h.clt,?_,fun j hj=>?_⟩
 ·rw [Lb.aOo hj h0 rfl h.sum,Lb.a2x,hx,Nat.add_mul,Nat.mul_assoc]
 ·rw [a6r (by omega)];exact h.zero j (by omega)
theorem aHI {a b o:List Nat} (h:aA0 a b a.length o):Lb.val o=Lb.val a*Lb.val b:=by rw [h.val,List.take_length]
