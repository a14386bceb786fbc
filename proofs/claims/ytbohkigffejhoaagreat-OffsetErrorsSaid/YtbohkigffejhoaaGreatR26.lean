import Derived.Test.YtbohkigffejhoaaGreatR25
import Derived.Deep.AppendSrc
import Derived.Test.YtbohkigffejhoaaGreatR14
open Array (ext' mem_toList_iff toList_inj toList_map)
open Bool (and_eq_true)
open List (append_nil mem_cons mem_cons_of_mem mem_cons_self mem_map)
open Nat (add_mul le_refl lt_of_lt_of_le mul_le_mul zero_add)
open Option.some (injEq)
noncomputable section
namespace Go.Proofs.YtbohkigffejhoaaGreat
open Go.RowKit
namespace Zc
open Vc (a0O a7Q a2A a6f a0B)
structure Res where
 r:KV
 H:Hp Bx
 n:Nat
def Low (H:Hp Bx) (n:Nat):Prop:=∀ k,n <= k->H.get k=none
structure Stat (m:Nat) (H:Hp Bx) (n:Nat) (H':Hp Bx) (n':Nat):Prop where
 le:n <= n'
 low:Low H' n'
 same:∀ k,k < m->H'.get k=H.get k
def Room (bm:BM) (n n':Nat):Prop:=∀ k,n <= k->k < n'->bm k=none
def Eff (m n n':Nat) (H':Hp Bx) (r:KV) (bm:BM) (w:World) (v:Value) (w':World):Prop :=
 ∃ bm',Grow m n n' w bm bm'/\Frame m n bm w w'/\Ok H' bm' w'/\relV bm' w' r v
inductive OpRun (P:Program) (o:Oper) (ρ:Operand->Value) (w:World) (R:Value->World->Prop):Prop
 | val (v:Value) (w':World) (h:(execOp ρ o).run P w=.ok (.value v) w') (r:R v w')
 | skp (w':World) (h:(execOp ρ o).run P w=.ok .skip w') (r:R undef w')
 | ent (f:Nat) (args:Array Value) (w':World) (h:(execOp ρ o).run P w=.ok (.enter f args) w') (r:Calls P f args w' fun e w''=>∃ v,e=.returned v/\R v w'')
theorem OpRun.wp {P:Program} {o:Oper} {a:Act} {w:World} {R:Value->World->Prop} {K:Act->World->Prop} {Q:Exit->Act->World->Prop} (h:OpRun P o a.eval w R) (hK:∀ v w',R v w'->K (a.put o.dst v) w'):o.wp P a w K Q:=by
 unfold Oper.wp
 cases h with
 | val v w' h r=>rw [h]; exact hK v w' r
 | skp w' h r=>rw [h]; exact hK undef w' r
 | ent f args w' h r =>
   rw [h];refine r.mono ?_;rintro e w'' ⟨v,rfl,hr⟩;exact hK v w'' hr
def aHt (P:Program) (m:Nat) (ev:Operand->KV) (o:Oper) (H:Hp Bx) (n:Nat) (q:Res):Prop :=
 m <= n->Low H n->Stat m H n q.H q.n/\∀ (bm:BM) (w:World) (ρ:Operand->Value),Ok H bm w->Room bm n q.n->(∀ f,ρ (.func f)=.func (.func f) #[] #[])->(∀ v,ρ (.const v)=v)->(∀ x ∈ o.op.operands,relV bm w (ev x) (ρ x))->OpRun P o ρ w (Eff m n q.n q.H q.r bm w)
theorem Stat.refl {m n:Nat} {H:Hp Bx} (h:Low H n):Stat m H n H n:=⟨le_refl _,h,fun _ _=>rfl⟩
theorem Eff.refl {m n:Nat} {H:Hp Bx} {bm:BM} {w:World} {r:KV} {v:Value} (ok:Ok H bm w) (h:relV bm w r v):Eff m n n H r bm w v w:=⟨bm,Grow.refl m n w bm,Frame.refl m n bm w,ok,h⟩
theorem Low.put {H:Hp Bx} {n k:Nat} {x:Option Bx} (h:Low H n) (hk:k < n):Low (H.put k x) n:=fun j hj=>by
 rw [Hp.put_ne _ _ _ _ (by omega)];exact h j hj
theorem Low.new {H:Hp Bx} {n:Nat} {x:Option Bx} (h:Low H n):Low (H.put n x) (n+1):=fun j hj=>by
 rw [Hp.put_ne _ _ _ _ (by omega)];exact h j (by omega)
theorem Stat.new {m n:Nat} {H:Hp Bx} {x:Option Bx} (hm:m <= n) (h:Low H n):Stat m H n (H.put n x) (n+1):=⟨by omega,h.new,fun k hk=>Hp.put_ne _ _ _ _ (by omega)⟩
theorem Stat.put {m n k:Nat} {H:Hp Bx} {x:Option Bx} (hm:m <= k) (hk:k < n) (h:Low H n):Stat m H n (H.put k x) n:=⟨le_refl _,h.put hk,fun j hj=>Hp.put_ne _ _ _ _ (by omega)⟩
theorem Low.lt {H:Hp Bx} {n k:Nat} {x:Bx} (h:Low H n) (hk:H.get k=some x):k < n:=by
 rcases Nat.lt_or_ge k n with h' | h'
 ·exact h'
 ·rw [h k h'] at hk; cases hk
section
variable {P:Program} {L:Tr ZL} {H:Hp Bx} {bm:BM} {w w':World} {m n:Nat}
theorem Eff.new (ok:Ok H bm w) (hr:Room bm n (n+1)) {x:Bx} {vs rs:List Value} (hv:relL bm w (a0d x.cs) vs) (he:Ext w w') (hb:w'.heap[w.heap.size]?=some (.cells (vs ++ rs).toArray x.T (0,0))) {r:KV} {v:Value}
    (hrel:∀ bm':BM,bm' n=some w.heap.size->relV bm' w' r v):Eff m n (n+1) (H.put n (some x)) r bm w v w':=by
 obtain ⟨h1,h2,h3⟩:=Ok.new (m:=m) ok (hr n (le_refl _) (by omega)) hv he hb;exact ⟨_,h2,h3,h1,hrel _ (a1r ..)⟩
def seen (H:Hp Bx) (k:Nat) (q:Res):Option Res:=Option.rec none (fun _=>some q) (H.get k)
theorem seen_eq {H:Hp Bx} {k:Nat} {q q':Res} (h:seen H k q=some q'):q=q':=by
 unfold seen at h
 cases hg:H.get k with
 | none=>rw [hg] at h; cases h
 | some x=>rw [hg] at h; simpa using h
def aJ0 (L:Tr ZL) (H:Hp Bx) (n T:Nat):Option Res :=
 match L.get T with
 | some l=>(fun H'=>seen H' n ⟨.k (.c (.p n 0)),H',Nat.succ n⟩) (H.put n (some ⟨T,l.zero⟩))
 | none=>none
def b3G (H:Hp Bx) (n T:Nat) (x:KV):Option Res :=
 match x with
 | .k y=>(fun H'=>seen H' n ⟨.k (.c (.p n 0)),H',Nat.succ n⟩) (H.put n (some ⟨T,y.cells⟩))
 | _=>none
def aJR (m:Nat) (L:Tr ZL) (H:Hp Bx) (n T:Nat) (x y:KV):Option Res :=
 match x with
 | .k (.c (.p k off)) =>
   match y with
   | .k y =>
     match L.get T with
     | some l =>
       match H.get k with
       | some b =>
         bif Nat.ble m k && Nat.beq (wid y.cells) l.size then
          match aTa b.cs off y.cells with
          | some cs=>(fun H'=>seen H' k ⟨.u,H',n⟩) (H.put k (some ⟨b.T,cs⟩))
          | none=>none
         else none
       | none=>none
     | none=>none
   | _=>none
 | _=>none
theorem aN9 (hL:a5q P L) {ev:Operand->KV} {o:Oper} {T:Nat} (ho:o.op=.alloc T) {q:Res} (h:aJ0 L H n T=some q):aHt P m ev o H n q:=fun hm hl=>by
 unfold aJ0 at h
 split at h <;> try (cases h; done)
 rename_i l hT;have e:=seen_eq h;subst e;have hz:=hL T l hT;obtain ⟨i,z,hi,hzz,hzr⟩:=hz.zero;refine ⟨Stat.new hm hl,fun bm w ρ ok hr _ _ _=>?_⟩;refine .val (.pointer (some ⟨w.heap.size,0,none⟩)) (w.alloc (.cells z.cells.toList.toArray T)) ?_ ?_
 ·simp only [execOp,ho];refine a0O ?_;simp [Instr.alloc,zeroValue,typeInfo,hi,hzz,newVar,newRow]
 ·exact Eff.new (rs:=[]) ok hr (hzr bm w) ((Ext.refl w).alloc _) (by rw [append_nil]; exact heap_alloc_new w _) fun bm' hb=>⟨_,hb,rfl⟩
theorem aWQ {ev:Operand->KV} {o:Oper} {T:Nat} {x:Operand} (ho:o.op=.box T x) {q:Res} (h:b3G H n T (ev x)=some q):aHt P m ev o H n q:=fun hm hl=>by
 unfold b3G at h
 split at h <;> try (cases h; done)
 rename_i y hy;have e:=seen_eq h;subst e;refine ⟨Stat.new hm hl,fun bm w ρ ok hr _ _ hev=>?_⟩;have hx:=hev x (by rw [ho]; simp [Op.operands]);rw [hy] at hx;refine .val (.pointer (some ⟨w.heap.size,0,none⟩)) (w.alloc (.cells (ρ x).cells.toList.toArray T)) ?_ (Eff.new (rs:=[]) ok hr (a2J hx) ((Ext.refl w).alloc _) (by rw [append_nil]; exact heap_alloc_new w _) fun bm' hb=>⟨_,hb,rfl⟩);simp only [execOp,ho];refine a0O ?_;simp [Instr.box,newVar,newRow]
theorem aNS (hL:a5q P L) {ev:Operand->KV} {o:Oper} {T:Nat} {x y:Operand} (ho:o.op=.store T x y) {q:Res} (h:aJR m L H n T (ev x) (ev y)=some q):aHt P m ev o H n q:=fun hm hl=>by
 unfold aJR at h
 split at h <;> try (cases h; done)
 rename_i k off hx
 split at h <;> try (cases h; done)
 rename_i y' hy
 split at h <;> try (cases h; done)
 rename_i l hT
 split at h <;> try (cases h; done)
 rename_i b hb
 cases hc:(Nat.ble m k && Nat.beq (wid y'.cells) l.size) with
 | false=>rw [hc] at h; simp at h
 | true =>
   rw [hc] at h;simp only [cond_true] at h;simp only [and_eq_true] at hc
   split at h <;> try (cases h; done)
   rename_i cs hcs;have e:=seen_eq h;subst e;have hmk:=a0R hc.1;have hkn:=hl.lt hb;refine ⟨Stat.put hmk hkn hl,fun bm w ρ ok hr _ _ hev=>?_⟩;have hrx:=hev x (by rw [ho]; simp [Op.operands]);have hry:=hev y (by rw [ho]; simp [Op.operands]);rw [hx] at hrx;rw [hy] at hry;obtain ⟨g,hg,hv⟩:=hrx;have hcr:=a2J hry;obtain ⟨k1,k2,k3,cur,k4,k5⟩:=ok.set (m:=m) (n:=n) hg hmk hkn hb hcs hcr
   have hlen:(ρ y).cells.toList.length=l.size:=by rw [<- hcr.len,a2E,a0l hc.2]
   refine .skp (w.setCells g off (ρ y).cells.toList) ?_ ⟨bm,k3,k2,k1,trivial⟩;simp only [execOp,ho,hv];exact a7Q (Vc.a2X w g off T (ρ y) cur b.T k4 k5 (by rw [hlen]; exact (hL T l hT).size) (relL.one hcr))
def aEw (ev:Operand->KV) (sz:Nat) (ps:List (Nat × Operand)):Nat->Option (List LF) :=
 List.rec (fun _=>some []) (fun p _ ih i =>
  match ev p.2 with
  | .k y=>bif Nat.beq p.1 i && Nat.beq (wid y.cells) sz then Option.rec none (fun l=>some (app y.cells l)) (ih (Nat.succ i)) else none
  | _=>none) ps
def a7L (L:Tr ZL) (H:Hp Bx) (n:Nat) (ev:Operand->KV) (T c:Nat) (parts:List (Nat × Operand)):Option Res :=
 match L.get T with
 | some l =>
   match aEw ev l.esz parts 0 with
   | some cs=>bif Nat.beq l.kd 10 && Nat.beq (len parts) c && Nat.ble c 1000 && Nat.ble 1 c then (fun H'=>seen H' n ⟨.k (.c (.s n 0 c c l.esz)),H',Nat.succ n⟩) (H.put n (some ⟨l.el,cs⟩)) else none
   | none=>none
 | none=>none
theorem a7K {ev:Operand->KV} {ρ:Operand->Value} {sz:Nat}:∀ (ps:List (Nat × Operand)) (i:Nat) (cs:List LF),(∀ p ∈ ps,relV bm w (ev p.2) (ρ p.2))->aEw ev sz ps i=some cs ->
    ∃ vs:List Value,vs.length=ps.length/\ps.map (fun (i,x)=>(i,ρ x))=(vs.zipIdx i).map (fun x=>(x.2,x.1))/\(∀ v ∈ vs,v.cells.size=sz)/\relL bm w (a0d cs) (vs.flatMap fun v=>v.cells.toList)
 | [],i,cs,_,h=>by
   have e:[]=cs:=by simpa [aEw] using h
   subst e
   exact ⟨[],rfl,rfl,fun v hv=>(by cases hv),trivial⟩
 | (j,x) :: r,i,cs,hev,h=>by
   have h':(match ev x with
    | .k y=>bif Nat.beq j i && Nat.beq (wid y.cells) sz then Option.rec none (fun l=>some (app y.cells l)) (aEw ev sz r (Nat.succ i)) else none
    | _=>none)=some cs:=h
   split at h' <;> try (cases h'; done)
   rename_i y hy
   cases hc:(Nat.beq j i && Nat.beq (wid y.cells) sz) with
   | false=>rw [hc] at h'; simp at h'
   | true =>
     rw [hc] at h';simp only [cond_true] at h';simp only [and_eq_true] at hc
     cases hr:aEw ev sz r (Nat.succ i) with
     | none=>rw [hr] at h'; cases h'
     | some l =>
       rw [hr] at h'
       have e:app y.cells l=cs:=by simpa using h'
       subst e;obtain ⟨vs,g1,g2,g3,g4⟩:=a7K r (i+1) l (fun p hp=>hev p (mem_cons_of_mem _ hp)) hr;have hx:=hev (j,x) (mem_cons_self ..);simp only at hx;rw [hy] at hx;have hcr:=a2J hx;have hji:=a0l hc.1;subst hji;refine ⟨ρ x :: vs,by simp [g1],?_,fun v hv=>?_,?_⟩
       ·simp only [List.map_cons,List.zipIdx_cons];rw [g2]
       ·rcases mem_cons.1 hv with rfl | hv
        ·have:=hcr.len;rw [a2E,a0l hc.2] at this;simpa using this.symm
        ·exact g3 v hv
       ·rw [aCq,a0I,List.flatMap_cons];exact hcr.append g4
theorem aL9 (hL:a5q P L) {ev:Operand->KV} {o:Oper} {T c:Nat} {parts:Array (Nat × Operand)} (ho:o.op=.buildSlice T c parts) {q:Res} (h:a7L L H n ev T c parts.toList=some q):aHt P m ev o H n q:=fun hm hl=>by
 unfold a7L at h
 split at h <;> try (cases h; done)
 rename_i l hT
 split at h <;> try (cases h; done)
 rename_i cs hcs
 cases hc:(Nat.beq l.kd 10 && Nat.beq (len parts.toList) c && Nat.ble c 1000 && Nat.ble 1 c) with
 | false=>rw [hc] at h; simp at h
 | true =>
   rw [hc] at h;simp only [cond_true] at h;simp only [and_eq_true] at hc;have e:=seen_eq h;subst e;obtain ⟨hu,he⟩:=(hL T l hT).slice (a0l hc.1.1.1);obtain ⟨i,z,hi,hsz,_,hz,_⟩:=he.info;have h1:=a0l hc.1.1.2;rw [a8H] at h1;have h2:=a0R hc.1.2;have h3:=a0R hc.2;have h4:=he.pos;have h5:=he.le;refine ⟨Stat.new hm hl,fun bm w ρ ok hr _ _ hev=>?_⟩
   obtain ⟨vs,g1,g2,g3,g4⟩:=a7K (bm:=bm) (w:=w) (ρ:=ρ) parts.toList 0 cs (fun p hp=>hev p.2 (by
    rw [ho];simp only [Op.operands,List.mem_toArray,mem_map]
    exact ⟨p,hp,rfl⟩)) hcs
   have hle:c*l.esz <= 1000*1000:=mul_le_mul h2 h5;have hp:1*1 <= c*l.esz:=mul_le_mul h3 h4
   have hrun:=run_buildSlice (P:=P) w T l.el c (parts.map fun (i,x)=>(i,ρ x)) (vs.flatMap fun v=>v.cells.toList).toArray i z hu hi hz (by rw [hsz]; omega) (by rw [hsz]; omega) (by
    rw [hsz,toList_map,g2]
    exact Great.fill_whole (by omega) _ _ g3 (by simp; rw [g1,h1]))
   refine .val _ _ (by unfold execOp; rw [ho]; exact a0O hrun) (Eff.new (rs:=[]) ok hr g4 ((Ext.refl w).alloc _) (by rw [append_nil]; exact heap_alloc_new w _) fun bm' hb=>?_)
   ·have hlen:=g4.len
    have hfl:(vs.flatMap fun v=>v.cells.toList).length=c*l.esz:=by
     rw [List.length_flatMap]
     have:(vs.map fun v=>v.cells.toList.length)=List.replicate c l.esz:=by
      rw [<- h1,<- g1]
      exact List.eq_replicate_iff.2 ⟨by simp,fun x hx=>by
       obtain ⟨v,hv,rfl⟩:=mem_map.1 hx
       simpa using g3 v hv⟩
     rw [this];simp [List.sum_replicate_nat]
    exact ⟨w.heap.size,c,_,hb,rfl,le_refl _,le_refl _,fun _=>⟨rfl,_,_,heap_alloc_new w _,by simp [hfl]⟩⟩
end
open Vc (a0O a7Q a2A a6f a0B)
def aSF (xs:List LF) (n:Nat):List LF:=Nat.rec [] (fun _ ih=>app xs ih) n
theorem aOI (xs:List LF) (n:Nat):aSF xs (n+1)=xs ++ aSF xs n:=by
 show app xs (aSF xs n)=_;rw [aCq]
theorem a4F (z:Array Value) (c:Nat):(madeCells z (c*z.size)).toList=(List.replicate c z.toList).flatten:=by
 have e:∀ n,(madeCells z n).toList=(List.range n).map (fun i=>z[i % z.size]!):=fun n=>by simp [madeCells,Array.toList_range]
 rw [e]
 induction c with
 | zero=>simp
 | succ c ih =>
   rw [Nat.succ_mul,List.range_add,List.map_append,ih,List.replicate_succ',List.flatten_append];congr 1;simp only [List.map_map,List.flatten_singleton];refine List.ext_getElem? fun i=>?_;rw [List.getElem?_map];rcases Nat.lt_or_ge i z.size with h | h
   ·have e1:(c*z.size+i) % z.size=i:=by rw [Nat.mul_comm,Nat.mul_add_mod,Nat.mod_eq_of_lt h]
    simp [h,e1]
   ·simp [h]
theorem a4r (z:Array Value) (c:Nat):Builtin.zeroCells z c=madeCells z (c*z.size):=rfl
section
variable {P:Program} {L:Tr ZL} {H:Hp Bx} {bm:BM} {w w':World} {m n:Nat}
theorem a9j {xs:List LF} {zs:List Value} (h:relL bm w (a0d xs) zs):∀ c,relL bm w (a0d (aSF xs c)) (List.replicate c zs).flatten
 | 0=>trivial
 | c+1=>by
   rw [aOI,a0I,List.replicate_succ,List.flatten_cons];exact h.append (a9j h c)
def aSS (L:Tr ZL) (H:Hp Bx) (n T:Nat) (x y:KV):Option Res :=
 match aNL x with
 | some l =>
   match aNL y with
   | some c =>
     match L.get T with
     | some d=>bif Nat.beq d.kd 10 && Nat.ble l c && Nat.ble c 1000000 then (fun H'=>seen H' n ⟨.k (.c (.s n 0 l c d.esz)),H',Nat.succ n⟩) (H.put n (some ⟨d.el,aSF d.ezero c⟩)) else none
     | none=>none
   | none=>none
 | none=>none
theorem aSR (hL:a5q P L) {ev:Operand->KV} {o:Oper} {T:Nat} {x y:Operand} (ho:o.op=.makeSlice T x y) {q:Res} (h:aSS L H n T (ev x) (ev y)=some q):aHt P m ev o H n q:=fun hm hl=>by
 unfold aSS at h
 split at h <;> try (cases h; done)
 rename_i l hx
 split at h <;> try (cases h; done)
 rename_i c hy
 split at h <;> try (cases h; done)
 rename_i d hT
 cases hc:(Nat.beq d.kd 10 && Nat.ble l c && Nat.ble c 1000000) with
 | false=>rw [hc] at h; simp at h
 | true =>
   rw [hc] at h;simp only [cond_true] at h;simp only [and_eq_true] at hc;have e:=seen_eq h;subst e;obtain ⟨hu,he⟩:=(hL T d hT).slice (a0l hc.1.1);obtain ⟨i,z,hi,hsz,hby,hz,hzr⟩:=he.info;have h1:=a0R hc.1.2;have h2:=a0R hc.2;have h3:=he.pos;have h4:=he.by_;refine ⟨Stat.new hm hl,fun bm w ρ ok hr _ _ hev=>?_⟩;have hrx:=hev x (by rw [ho]; simp [Op.operands]);have hry:=hev y (by rw [ho]; simp [Op.operands]);obtain ⟨κ,e1⟩:=a4P hx hrx;obtain ⟨κ',e2⟩:=a4P hy hry
   have hzw:z.cells.size=d.esz:=by
    have:=(hzr bm w).len;rw [a2E,he.zw] at this;simpa using this.symm
   have hb:(i.bytes:Int)*(c:Int) <= 281474976710656:=by
    rw [hby];have:d.eby*c <= 1000000*1000000:=mul_le_mul h4 h2
    have e:((d.eby*c:Nat):Int)=(d.eby:Int)*(c:Int):=by simp
    omega
   have hrun:=run_make (P:=P) w T d.el i z hu hi hz κ κ' (l:Int) (c:Int) (by omega) (by omega) hb (by omega);rw [Int.toNat_natCast,Int.toNat_natCast,hsz,<- hzw] at hrun;have hrows:=a4F z.cells c;have hrel:=a9j (hzr bm w) c;refine .val _ _ (by unfold execOp; simp only [ho,e1,e2]; exact a0O hrun) (Eff.new (rs:=[]) ok hr (x:=⟨d.el,aSF d.ezero c⟩) hrel ((Ext.refl w).alloc _) ?_ fun bm' hb=>?_)
   ·rw [append_nil,<- hrows];exact heap_alloc_new w _
   ·refine ⟨w.heap.size,c,_,hb,rfl,le_refl _,h1,fun _=>⟨rfl,_,_,heap_alloc_new w _,?_⟩⟩;rw [size_madeCells,hzw];omega
def b4H (l:List Nat):List LF:=List.rec [] (fun x _ ih=>.v (.int .u32 (.ofNat x)) :: ih) l
theorem aFf:∀ l,a0d (b4H l)=l.map fun x=>.v (.int .u32 (x:Int))
 | []=>rfl
 | x :: l=>by show LF.v (.int .u32 (.ofNat x)) :: a0d (b4H l)=_; rw [aFf l]; rfl
theorem aC3 (bm:BM) (w:World):∀ l:List Nat,relL bm w (l.map fun x:Nat=>.v (.int .u32 (x:Int))) (l.map fun x:Nat=>.int .u32 (x:Int))
 | []=>trivial
 | _ :: l=>⟨⟨rfl,rfl⟩,aC3 bm w l⟩
def b4k (L:Tr ZL) (H:Hp Bx) (U sz:Nat) (y:KV):Option (Nat × List LF) :=
 match L.get U with
 | some d =>
   bif Nat.beq d.kd 10 then
    match y with
    | .k (.c (.s k off c _ sz')) =>
      match H.get k with
      | some b =>
        bif Nat.beq sz' sz then
         match aUe b.cs off (Nat.mul c sz) with
         | some cs=>some (c,cs)
         | none=>none
        else none
      | none=>none
    | .k (.c (.sl l))=>bif Nat.beq sz 1 then some (len l,b4H l) else none
    | .k (.c .e0)=>some (0,[])
    | .k (.c (.v (.slice none 0 0)))=>some (0,[])
    | _=>none
   else none
 | none=>none
theorem a9g (hL:a5q P L) (ok:Ok H bm w) {U sz:Nat} {y:KV} {u:Value} {c:Nat} {cs:List LF} (h:b4k L H U sz y=some (c,cs)) (k:relV bm w y u) :
    ∃ news:List Value,Src P sz U u c news w/\relL bm w (a0d cs) news:=by
 unfold b4k at h
 split at h <;> try (cases h; done)
 rename_i d hU
 cases hk:Nat.beq d.kd 10 with
 | false=>rw [hk] at h; simp at h
 | true =>
   rw [hk] at h;simp only [cond_true] at h;obtain ⟨hu,he⟩:=(hL U d hU).slice (a0l hk);split at h
   ·rename_i kk off c0 cc sz'
    split at h <;> try (cases h; done)
    rename_i b hb
    cases hs:Nat.beq sz' sz with
    | false=>rw [hs] at h; simp at h
    | true =>
      rw [hs] at h;simp only [cond_true] at h
      split at h <;> try (cases h; done)
      rename_i cs' hcs;simp only [injEq,Prod.mk.injEq] at h;obtain ⟨rfl,rfl⟩:=h;obtain ⟨g,c',a,hg,rfl,h1,h2,h3⟩:=k;have hsz:=a0l hs;subst hsz;obtain ⟨vs,rs,b1,b2⟩:=ok.box kk g b hg hb;obtain ⟨e1,e2,e3⟩:=a4I hcs;have e2':off+c0*sz' <= (a0d b.cs).length:=e2;have e1':a0d cs'=((a0d b.cs).drop off).take (c0*sz'):=e1;have hvl:=b2.len
      have hrel:relL bm w (a0d cs') ((vs.drop off).take (c0*sz')):=by rw [e1']; exact (b2.drop off).take _
      have hnl:((vs.drop off).take (c0*sz')).length=c0*sz':=by rw [List.length_take,List.length_drop]; omega
      rcases Nat.eq_zero_or_pos c' with h0 | h0
      ·obtain rfl:c0=0:=by omega
       subst h0;refine ⟨[],?_,?_⟩
       ·cases a with
        | none=>exact Src.ofNil w hu 0
        | some a=>exact Src.ofSlice w hu a 0 0 [] (by simp) (fun j u hj=>by simp at hj) (fun u hu=>by cases hu)
       ·simpa using hrel
      ·obtain ⟨rfl,_⟩:=h3 (by omega);refine ⟨_,Src.ofSlice w hu ⟨g,off,none⟩ c0 c' _ hnl (fun j v hj=>?_) (relL.one hrel),hrel⟩;rw [a1b,Lib.cell_of_heap b1];rw [List.getElem?_take] at hj
       split at hj <;> try (cases hj; done)
       rw [List.getElem?_drop] at hj;simp only [List.getElem?_toArray];rw [List.getElem?_append_left (List.getElem?_eq_some_iff.1 hj).1];exact hj
   ·rename_i l
    cases hs:Nat.beq sz 1 with
    | false=>rw [hs] at h; simp at h
    | true =>
      rw [hs] at h;simp only [cond_true,injEq,Prod.mk.injEq] at h;obtain ⟨rfl,rfl⟩:=h;obtain rfl:=a0l hs;rw [a8H,aFf]
      rcases k.cases with ⟨rfl,a,cap,rfl,hc⟩ | ⟨h0,b,off,cap,rfl,hcap,hlt,_,hcell⟩
      ·refine ⟨[],?_,trivial⟩
       cases a with
       | none=>exact Src.ofNil w hu cap
       | some a=>exact Src.ofSlice w hu a 0 cap [] (by simp) (fun j u hj=>by simp at hj) (fun u hu=>by cases hu)
      ·refine ⟨_,Src.ofSlice w hu ⟨b,off,none⟩ l.length cap _ (by simp) (fun j v hj=>?_) (relL.one (aC3 bm w l)),aC3 bm w l⟩;rw [List.getElem?_map] at hj;obtain ⟨x,hx,rfl⟩:=Option.map_eq_some_iff.1 hj;obtain ⟨hjl,rfl⟩:=List.getElem?_eq_some_iff.1 hx;rw [a1b];exact hcell j hjl
   ·simp only [injEq,Prod.mk.injEq] at h;obtain ⟨rfl,rfl⟩:=h;obtain ⟨a,rfl⟩:=k;refine ⟨[],?_,trivial⟩
    cases a with
    | none=>exact Src.ofNil w hu 0
    | some a=>exact Src.ofSlice w hu a 0 0 [] (by simp) (fun j u hj=>by simp at hj) (fun u hu=>by cases hu)
   ·simp only [injEq,Prod.mk.injEq] at h;obtain ⟨rfl,rfl⟩:=h;obtain ⟨rfl,_⟩:=k;exact ⟨[],Src.ofNil w hu 0,trivial⟩
   ·cases h
theorem Ok.alias (ok:Ok H bm w) {k b:Nat} {x:Bx} (hbm:bm k=some b) (hmk:m <= k) (hk:k < n) (hx:H.get k=some x) (hn:bm n=none) {a ys:List LF} {us:List Value} {off:Nat} (ha:aBb x.cs off=some a) (hr:relL bm w (a0d ys) us) (hsz:SzAt w b (off+us.length)) :
    Ok ((H.put k none).put n (some ⟨x.T,app a ys⟩)) (a4J bm n b) (w.setCells b off us)/\Grow m n (n+1) w bm (a4J bm n b)/\Frame m n bm w (w.setCells b off us):=by
 obtain ⟨vs,rs,h1,h2⟩:=ok.box k b x hbm hx;obtain ⟨e1,e2⟩:=a4z _ _ _ ha;have hvl:=h2.len
 have hle:off+us.length <= (vs ++ rs).length:=by
  obtain ⟨cs,T,g1,g2⟩:=hsz;rw [h1] at g1
  obtain ⟨rfl,rfl⟩:(vs ++ rs).toArray=cs/\x.T=T:=by simpa using g1
  simpa using g2
 obtain ⟨g1,g2,g3⟩:=Vc.a1R b us off w (vs ++ rs) x.T h1 hle;have hf:Frame m n bm w (w.setCells b off us):=aFR hbm hmk hk h1 hle
 have hg:Grow m n (n+1) w bm (a4J bm n b):=⟨by omega,fun i hi=>a1W bm (by omega),fun i c i1 i2 hc=>by
  obtain rfl:i=n:=by omega
  rw [a1r] at hc
  obtain rfl:b=c:=by simpa using hc
  exact .inr ⟨k,hmk,hk,hbm⟩,fun _ h=>h,fun _ h=>.inl h⟩
 have hkp:Keep bm (a4J bm n b) w (w.setCells b off us):=Keep.of ok hg (fun i h1 h2=>(show i=n by omega) ▸ hn) hf
 have hkn:k ≠ n:=by omega
 have get:∀ i y,i ≠ n->((H.put k none).put n (some ⟨x.T,app a ys⟩)).get i=some y->i ≠ k/\H.get i=some y:=fun i y hi h=>by
  rw [Hp.put_ne _ _ _ _ hi] at h;by_cases hik:i=k
  ·subst hik;have:=Hp.put_eq _ _ _ _ h;cases this
  ·rw [Hp.put_ne _ _ _ _ hik] at h;exact ⟨hik,h⟩
 have old:∀ i c,a4J bm n b i=some c->∃ j,bm j=some c:=fun i c hi=>by
  by_cases hin:i=n
  ·subst hin;rw [a1r] at hi
   obtain rfl:b=c:=by simpa using hi
   exact ⟨k,hbm⟩
  ·rw [a1W bm hin] at hi;exact ⟨i,hi⟩
 refine ⟨⟨fun i c y hi hy=>?_,fun i c hi=>?_,fun i c hi=>?_,fun i j c y z hi hj hy hz=>?_,fun c hz=>lt_of_lt_of_le (ok.zlt c hz) hf.le⟩,hg,hf⟩
 ·by_cases hin:i=n
  ·subst hin;rw [a1r] at hi
   obtain rfl:b=c:=by simpa using hi
   have e:=Hp.put_eq _ _ _ _ hy
   obtain rfl:(⟨x.T,app a ys⟩:Bx)=y:=by simpa using e
   refine ⟨vs.take off ++ us,(vs ++ rs).drop (off+us.length),?_,?_⟩
   ·rw [g1];congr 3;rw [List.take_append_of_le_length (by omega)]
   ·rw [aCq,a0I,e1];exact hkp.relL (relL.append (h2.take off) hr)
  ·rw [a1W bm hin] at hi;obtain ⟨hik,hy'⟩:=get i y hin hy;refine (ok.box i c y hi hy').keep hkp (g3 c ?_);rintro rfl;exact hik (ok.inj i k c y x hi hbm hy' hx)
 ·obtain ⟨j,hj⟩:=old i c hi;exact lt_of_lt_of_le (ok.lt j c hj) hf.le
 ·obtain ⟨j,hj⟩:=old i c hi;exact ok.nz j c hj
 ·have one:∀ i y,a4J bm n b i=some c->((H.put k none).put n (some ⟨x.T,app a ys⟩)).get i=some y->c=b->i=n:=fun i y hi hy hcb=>by
   by_cases hin:i=n
   ·exact hin
   ·exfalso;rw [a1W bm hin,hcb] at hi;obtain ⟨hik,hy'⟩:=get i y hin hy;exact hik (ok.inj i k b y x hi hbm hy' hx)
  by_cases hcb:c=b
  ·rw [one i y hi hy hcb,one j z hj hz hcb]
  ·have ne:∀ i,a4J bm n b i=some c->i ≠ n:=fun i hi e=>by
    subst e;rw [a1r] at hi;exact hcb (by simpa using hi.symm)
   have hin:=ne i hi;have hjn:=ne j hj;obtain ⟨_,hy'⟩:=get i y hin hy;obtain ⟨_,hz'⟩:=get j z hjn hz;rw [a1W bm hin] at hi;rw [a1W bm hjn] at hj;exact ok.inj i j c y z hi hj hy' hz'
end
open Vc (a0O a7Q a2A a6f a0B)
section
variable {P:Program} {L:Tr ZL} {H:Hp Bx} {bm:BM} {w w':World} {m n:Nat}
def b3I (m:Nat) (L:Tr ZL) (H:Hp Bx) (n T U:Nat) (x y:KV):Option Res :=
 match L.get T with
 | some d =>
   bif Nat.beq d.kd 10 then
    match b4k L H U d.esz y with
    | some p =>
      bif Nat.beq p.1 0 then
       match x with
       | .k (.c (.s k off ln c sz))=>some ⟨.k (.c (.s k off ln c sz)),H,n⟩
       | .k (.c .e0)=>some ⟨.k (.c .e0),H,n⟩
       | .k (.c (.v (.slice none 0 0)))=>some ⟨.k (.c (.v (.slice none 0 0))),H,n⟩
       | _=>none
      else
       match x with
       | .k (.c (.s k off ln c sz)) =>
         bif Nat.beq sz d.esz && Nat.ble m k && Nat.ble (Nat.add ln p.1) 1000000 then
          match H.get k with
          | some b =>
            bif Nat.ble (Nat.add ln p.1) c then
             match aTa b.cs (Nat.add off (Nat.mul ln sz)) p.2 with
             | some cs=>(fun H'=>seen H' k ⟨.k (.c (.s k off (Nat.add ln p.1) c sz)),H',n⟩) (H.put k (some ⟨b.T,cs⟩))
             | none=>none
            else
             bif Nat.beq off 0 && Nat.beq b.T d.el then
              match aBb b.cs (Nat.mul ln sz) with
              | some a=>(fun H'=>seen H' n ⟨.k (.c (.s n 0 (Nat.add ln p.1) (Nat.add ln p.1) sz)),H',Nat.succ n⟩) ((H.put k none).put n (some ⟨b.T,app a p.2⟩))
              | none=>none
             else none
          | none=>none
         else none
       | .k (.c .e0)=>bif Nat.ble p.1 1000000 then (fun H'=>seen H' n ⟨.k (.c (.s n 0 p.1 p.1 d.esz)),H',Nat.succ n⟩) (H.put n (some ⟨d.el,p.2⟩)) else none
       | .k (.c (.v (.slice none 0 0)))=>bif Nat.ble p.1 1000000 then (fun H'=>seen H' n ⟨.k (.c (.s n 0 p.1 p.1 d.esz)),H',Nat.succ n⟩) (H.put n (some ⟨d.el,p.2⟩)) else none
       | _=>none
    | none=>none
   else none
 | none=>none
theorem a8U {T U ty e:TypeId} {i:TypeInfo} (ht:P.underlying T=some (.slice e)) (hi:P.info? e=some i) {u:Value} (hs:Src P i.size U u 0 [] w) (a:Option Addr) (n c:Nat) (h:n <= c) :
    (Builtin.append_ #[T,U] ty #[.slice a n c,u]).run P w=.ok (.slice a n c) w:=by
 rcases hs.kind with ⟨e',hk⟩ | hk <;> cases a <;> simp [Builtin.append_,run_underlying ht,run_underlying hk,sizeOf,typeInfo,hi,hs.len,h,hs.cells,storeCells]
theorem a3C (size:Nat) (a:Option Addr) (c:Nat) (w:World):(Builtin.firstCells size 0 (.slice a 0 c)).run P w=.ok #[] w:=by
 cases a with
 | none=>exact run_firstCells_none w size 0 0 c
 | some a=>exact run_firstCells_some w size 0 a 0 c [] (by simp) (fun j v hj=>by simp at hj)
theorem a3n {ρ:Operand->Value} {o:Oper} {c:Call} (ho:o.op=.call c) (hcal:c.callee=.builtin .append) {x y:Operand} (hargs:c.args.toList=[x,y]) {T U:Nat} (htys:c.argTypes.toList=[T,U]) {v:Value} {w w':World}
    (h:(Builtin.append_ #[T,U] o.type #[ρ x,ρ y]).run P w=.ok v w'):(execOp ρ o).run P w=.ok (.value v) w':=by
 have hargs':c.args=#[x,y]:=by rw [<- toList_inj]; simpa using hargs
 have htys':c.argTypes=#[T,U]:=by rw [<- toList_inj]; simpa using htys
 have e1:execOp ρ o=(do pure (Next.value (<- Builtin.append_ c.argTypes o.type (c.args.map ρ)))):=by
  unfold execOp;rw [ho];simp only [resolve,hcal];rfl
 have em:(#[x,y]:Array Operand).map ρ=#[ρ x,ρ y]:=by simp
 rw [e1,htys',hargs',em];exact a0O h
theorem Eff.grown (ok:Ok H bm w) (hr:Room bm n (n+1)) {el:TypeId} {cs:List LF} {vs:List Value} (hv:relL bm w (a0d cs) vs) {zs:Array Value} {ln cap sz:Nat} (hlc:ln <= cap) (hlen:vs.length=ln*sz) (hzs:zs.size=sz) :
    Eff m n (n+1) (H.put n (some ⟨el,cs⟩)) (.k (.c (.s n 0 ln ln sz))) bm w (.slice (some ⟨w.heap.size,0,none⟩) ln cap) (w.drew.alloc (.cells (vs.toArray ++ Builtin.zeroCells zs (cap - ln)) el)):=by
 have hb:(w.drew.alloc (.cells (vs.toArray ++ Builtin.zeroCells zs (cap - ln)) el)).heap[w.heap.size]?=some (.cells (vs ++ (List.replicate (cap - ln) zs.toList).flatten).toArray el (0,0)):=by
  have:=heap_alloc_new w.drew (.cells (vs.toArray ++ Builtin.zeroCells zs (cap - ln)) el);rw [a4r] at this ⊢;rw [<- a4F zs _];refine Eq.trans this ?_;congr 2;apply ext';simp
 refine Eff.new (x:=⟨el,cs⟩) (rs:=(List.replicate (cap - ln) zs.toList).flatten) ok hr hv (((Ext.refl w).drew).alloc _) hb fun bm' hb'=>⟨_,cap,_,hb',rfl,hlc,hlc,fun _=>⟨rfl,_,_,hb,?_⟩⟩
 ·have e:((List.replicate (cap - ln) zs.toList).flatten).length=(cap - ln)*sz:=by
   rw [<- a4F zs _];simp [size_madeCells,hzs]
  simp only [List.size_toArray,List.length_append,e,hlen];rw [<- add_mul]
  have:ln+(cap - ln)=cap:=by omega
  rw [this];omega
theorem aWT (hL:a5q P L) {ev:Operand->KV} {o:Oper} {c:Call} (ho:o.op=.call c) (hcal:c.callee=.builtin .append) {x y:Operand} (hargs:c.args.toList=[x,y]) {T U:Nat} (htys:c.argTypes.toList=[T,U]) {q:Res} (h:b3I m L H n T U (ev x) (ev y)=some q):aHt P m ev o H n q:=fun hm hl=>by
 have hxm:x ∈ o.op.operands:=by
  rw [ho];simp only [Op.operands,Call.operands,hcal];simp [<- mem_toList_iff,hargs]
 have hym:y ∈ o.op.operands:=by
  rw [ho];simp only [Op.operands,Call.operands,hcal];simp [<- mem_toList_iff,hargs]
 unfold b3I at h
 split at h <;> try (cases h; done)
 rename_i d hT
 cases hk:Nat.beq d.kd 10 with
 | false=>rw [hk] at h; simp at h
 | true =>
 rw [hk] at h;simp only [cond_true] at h;obtain ⟨hu,he⟩:=(hL T d hT).slice (a0l hk);obtain ⟨i,z,hi,hsz,hby,hz,hzr⟩:=he.info;have hpos:=he.pos;have hby':=he.by_
 split at h <;> try (cases h; done)
 rename_i p hsrc;obtain ⟨cnt,cy⟩:=p;simp only at h
 have zw:∀ (bm:BM) (w:World),z.cells.size=d.esz:=fun bm w=>by
  have:=(hzr bm w).len;rw [a2E,he.zw] at this;simpa using this.symm
 cases h0:Nat.beq cnt 0 with
 | true =>
   rw [h0] at h;simp only [cond_true] at h;have hc0:=a0l h0;subst hc0
   have key:∀ (r:KV) (bm:BM) (w:World) (ρ:Operand->Value) (a:Option Addr) (ln cap:Nat),Ok H bm w->relV bm w (ev y) (ρ y)->ρ x=.slice a ln cap->ln <= cap->relV bm w r (ρ x)->OpRun P o ρ w (Eff m n n H r bm w):=fun r bm w ρ a ln cap ok hy hx hle hrel=>by
    obtain ⟨news,hs,_⟩:=a9g (P:=P) hL ok hsrc hy;have hn:news=[]:=List.eq_nil_of_length_eq_zero (by rw [hs.newsLen]; simp);subst hn;rw [<- hsz] at hs;refine .val (.slice a ln cap) w (a3n ho hcal hargs htys ?_) (Eff.refl ok (by rw [<- hx]; exact hrel));rw [hx];exact a8U hu hi hs a ln cap hle
   split at h <;> try (cases h; done)
   ·rename_i k off ln cc sz hx;simp only [injEq] at h;subst h;refine ⟨Stat.refl hl,fun bm w ρ ok hr _ _ hev=>?_⟩;have hrx:=hev x hxm;rw [hx] at hrx;obtain ⟨b,c',a,hb,hv,hcc,hnc,ha⟩:=hrx;exact key _ bm w ρ a ln c' ok (hev y hym) hv hnc ⟨b,c',a,hb,hv,hcc,hnc,ha⟩
   ·rename_i hx;simp only [injEq] at h;subst h;refine ⟨Stat.refl hl,fun bm w ρ ok hr _ _ hev=>?_⟩;have hrx:=hev x hxm;rw [hx] at hrx;obtain ⟨a,hv⟩:=hrx;exact key _ bm w ρ a 0 0 ok (hev y hym) hv (le_refl _) ⟨a,hv⟩
   ·rename_i hx;simp only [injEq] at h;subst h;refine ⟨Stat.refl hl,fun bm w ρ ok hr _ _ hev=>?_⟩;have hrx:=hev x hxm;rw [hx] at hrx
    exact key _ bm w ρ none 0 0 ok (hev y hym) hrx.1 (le_refl _) hrx
 | false =>
   rw [h0] at h;simp only [cond_false] at h;have hc0:cnt ≠ 0:=a7Z h0
   have fresh:∀ (bm:BM) (w:World) (ρ:Operand->Value) (a:Option Addr),Nat.ble cnt 1000000=true->Ok H bm w->Room bm n (n+1)->relV bm w (ev y) (ρ y)->ρ x=.slice a 0 0->OpRun P o ρ w (Eff m n (n+1) (H.put n (some ⟨d.el,cy⟩)) (.k (.c (.s n 0 cnt cnt d.esz))) bm w):=fun bm w ρ a hle ok hr hy hx=>by
    have hle:=a0R hle;obtain ⟨news,hs,hrel⟩:=a9g (P:=P) hL ok hsrc hy;have hlen:=hs.newsLen;rw [<- hsz] at hs;have hbb:cnt*d.eby <= 1000000*1000000:=mul_le_mul hle hby';have hrun:=run_append_grow_src (P:=P) w T U o.type d.el i z hu hi hz a 0 0 [] (a3C _ a 0 _) (ρ y) cnt news hs (by omega) (by omega) (growslice_fits (by omega) (by rw [hby,zero_add]; omega));simp only [zero_add,List.nil_append] at hrun;refine .val _ _ (a3n ho hcal hargs htys (by rw [hx]; exact hrun)) (Eff.grown ok hr hrel (grownCap_ge w cnt 0 d.el) hlen (zw bm w))
   split at h <;> try (cases h; done)
   ·rename_i k off ln cc sz hx
    cases hg:(Nat.beq sz d.esz && Nat.ble m k && Nat.ble (Nat.add ln cnt) 1000000) with
    | false=>rw [hg] at h; simp at h
    | true =>
    rw [hg] at h;simp only [cond_true] at h;simp only [and_eq_true] at hg;have hsz':=a0l hg.1.1;have hmk:=a0R hg.1.2;have hle:ln+cnt <= 1000000:=a0R hg.2
    split at h <;> try (cases h; done)
    rename_i b hb;have hkn:=hl.lt hb;have hbb:(ln+cnt)*d.eby <= 1000000*1000000:=mul_le_mul hle hby'
    cases hroom:Nat.ble (Nat.add ln cnt) cc with
    | true =>
      rw [hroom] at h;simp only [cond_true] at h;have hroom':ln+cnt <= cc:=a0R hroom
      split at h <;> try (cases h; done)
      rename_i cs hcs;have e:=seen_eq h;subst e;refine ⟨Stat.put hmk hkn hl,fun bm w ρ ok hr _ _ hev=>?_⟩;have hrx:=hev x hxm;rw [hx] at hrx;obtain ⟨g,c',a,hgb,hv,hcc,hnc,ha⟩:=hrx;obtain ⟨rfl,hsa⟩:=ha (by omega);obtain ⟨news,hs,hrel⟩:=a9g (P:=P) hL ok hsrc (hev y hym);have hlen:=hs.newsLen;rw [<- hsz] at hs;have hcs':aTa b.cs (off+ln*sz) cy=some cs:=hcs;obtain ⟨k1,k2,k3,cur,k4,k5⟩:=ok.set (m:=m) (n:=n) hgb hmk hkn hb hcs' hrel;refine .val _ (w.setCells g (off+ln*sz) news) (a3n ho hcal hargs htys ?_) ⟨bm,k3,k2,k1,g,c',_,hgb,rfl,hcc,?_,fun h0=>⟨rfl,?_⟩⟩
      ·rw [hv]
       have:=run_append_room_src (P:=P) w T U o.type d.el i hu hi g off ln c' (ρ y) cnt news hs (by omega) (fun j hj=>by
        rw [hsz,<- hsz',Lib.cell_of_heap k4]
        have:off+ln*sz+j < cur.length:=by omega
        simp [this]) (fun j hj=>by simp [World.frozen?,k4])
       rw [hsz,<- hsz'] at this;exact this
      ·show ln+cnt <= c';omega
      ·exact k2.sz _ _ hsa
    | false =>
      rw [hroom] at h;simp only [cond_false] at h
      cases hq:(Nat.beq off 0 && Nat.beq b.T d.el) with
      | false=>rw [hq] at h; simp at h
      | true =>
      rw [hq] at h;simp only [cond_true] at h;simp only [and_eq_true] at hq;have hoff:=a0l hq.1;have hbT:=a0l hq.2;subst hoff
      split at h <;> try (cases h; done)
      rename_i av hav;have hav':aBb b.cs (ln*sz)=some av:=hav;have e:=seen_eq h;subst e;refine ⟨⟨by show n <= n+1; omega,Low.new (hl.put hkn),fun j hj=>?_⟩,fun bm w ρ ok hr _ _ hev=>?_⟩
      ·show ((H.put k none).put n _).get j=_;rw [Hp.put_ne _ _ _ _ (by omega),Hp.put_ne _ _ _ _ (by omega)]
      have hrx:=hev x hxm;rw [hx] at hrx;obtain ⟨g,c',a,hgb,hv,hcc,hnc,ha⟩:=hrx;obtain ⟨news,hs,hrel⟩:=a9g (P:=P) hL ok hsrc (hev y hym);have hlen:=hs.newsLen;rw [<- hsz] at hs;by_cases hfit:ln+cnt <= c'
      ·obtain ⟨rfl,hsa⟩:=ha (by omega);obtain ⟨vs,rs,b1,b2⟩:=ok.box k g b hgb hb
       have hsa':SzAt w g (ln*sz+news.length):=hsa.mono (by
        rw [hlen,<- hsz',<- add_mul];have:=Nat.mul_le_mul_right sz hfit
        omega)
       obtain ⟨k1,k2,k3⟩:=ok.alias (m:=m) (n:=n) hgb hmk hkn hb (hr n (le_refl _) (by show n < n+1; omega)) hav' hrel hsa';obtain ⟨cs0,T0,q1,q2⟩:=hsa';rw [b1] at q1
       obtain ⟨rfl,rfl⟩:(vs ++ rs).toArray=cs0/\b.T=T0:=by simpa using q1
       refine .val _ (w.setCells g (0+ln*sz) news) (a3n ho hcal hargs htys ?_) ⟨a4J bm n g,k2,?_,?_,g,c',_,a1r ..,rfl,hfit,hfit,fun h0=>⟨rfl,?_⟩⟩
       ·rw [hv]
        have:=run_append_room_src (P:=P) w T U o.type d.el i hu hi g 0 ln c' (ρ y) cnt news hs hfit (fun j hj=>by
         rw [hsz,<- hsz',Lib.cell_of_heap b1]
         have:0+ln*sz+j < (vs ++ rs).length:=by simp at q2 ⊢; omega
         simp only [List.getElem?_toArray,this,List.getElem?_eq_getElem,Option.isSome_some]) (fun j hj=>by simp [World.frozen?,b1])
        rw [hsz,<- hsz'] at this;exact this
       ·rw [zero_add]; exact k3
       ·rw [zero_add]; exact k1
       ·rw [zero_add];refine k3.sz _ _ ?_;have:=hsa;rw [zero_add] at this ⊢;exact this
      ·have holds:∃ olds:List Value,(Builtin.firstCells i.size ln (.slice a ln c')).run P w.drew=.ok olds.toArray w.drew/\relL bm w (a0d av) olds/\olds.length=ln*sz:=by
        obtain ⟨vs,rs,b1,b2⟩:=ok.box k g b hgb hb;obtain ⟨e1,e2⟩:=a4z _ _ _ hav';have hvl:=b2.len
        have hvt:(vs.take (ln*sz)).length=ln*sz:=by rw [List.length_take]; omega
        refine ⟨vs.take (ln*sz),?_,by rw [e1]; exact b2.take _,hvt⟩;rcases Nat.eq_zero_or_pos c' with hz' | hz'
        ·obtain rfl:ln=0:=by omega
         rw [Nat.zero_mul,List.take_zero];exact a3C _ a c' _
        ·obtain ⟨rfl,_⟩:=ha (by omega);refine run_firstCells_some w.drew i.size ln ⟨g,0,none⟩ ln c' _ (by rw [hvt,hsz,hsz']) (fun j v hj=>?_);rw [a1b,zero_add]
         have hcell:w.cell? ⟨g,j,none⟩=some v:=by
          rw [Lib.cell_of_heap b1];rw [List.getElem?_take] at hj
          split at hj <;> try (cases hj; done)
          simp only [List.getElem?_toArray];rw [List.getElem?_append_left (List.getElem?_eq_some_iff.1 hj).1];exact hj
         simpa using hcell
       obtain ⟨olds,o1,o2,o4⟩:=holds;have hrun:=run_append_grow_src (P:=P) w T U o.type d.el i z hu hi hz a ln c' olds o1 (ρ y) cnt news hs (by omega) (by omega) (growslice_fits (by omega) (by rw [hby]; omega));have hkill:Ok (H.put k none) bm w:=ok.kill k;have hef:=Eff.grown (m:=m) (el:=d.el) (cs:=av ++ cy) (zs:=z.cells) (sz:=sz) (ln:=ln+cnt) (cap:=grownCap w (ln+cnt) c' d.el) hkill hr (by rw [a0I]; exact o2.append hrel) (grownCap_ge w (ln+cnt) c' d.el) (by rw [List.length_append,o4,hlen,<- hsz',add_mul]) (by rw [zw bm w,hsz']);refine .val _ _ (a3n ho hcal hargs htys (by rw [hv]; exact hrun)) ?_;rw [aCq,hbT];exact hef
   ·rename_i hx
    cases hg:Nat.ble cnt 1000000 with
    | false=>rw [hg] at h; simp at h
    | true =>
      rw [hg] at h;simp only [cond_true] at h;have e:=seen_eq h;subst e;refine ⟨Stat.new hm hl,fun bm w ρ ok hr _ _ hev=>?_⟩;have hrx:=hev x hxm;rw [hx] at hrx;obtain ⟨a,hv⟩:=hrx;exact fresh bm w ρ a hg ok hr (hev y hym) hv
   ·rename_i hx
    cases hg:Nat.ble cnt 1000000 with
    | false=>rw [hg] at h; simp at h
    | true =>
      rw [hg] at h;simp only [cond_true] at h;have e:=seen_eq h;subst e;refine ⟨Stat.new hm hl,fun bm w ρ ok hr _ _ hev=>?_⟩;have hrx:=hev x hxm;rw [hx] at hrx;exact fresh bm w ρ none hg ok hr (hev y hym) hrx.1
end
open Vc (a0O a7Q a2A a6f a0B)
section
variable {P:Program} {L:Tr ZL} {H:Hp Bx} {bm:BM} {w w':World} {m n:Nat}
def aN2 (m:Nat) (L:Tr ZL) (H:Hp Bx) (n T:Nat) (x:KV):Option Res :=
 match L.get T with
 | some d =>
   bif Nat.beq d.kd 10 then
    match x with
    | .k (.c (.s k off ln _ sz)) =>
      bif Nat.beq ln 0 then some ⟨.t [],H,n⟩ else
      bif Nat.ble m k && Nat.beq sz d.esz then
       match H.get k with
       | some b =>
         match aTa b.cs off (aSF d.ezero ln) with
         | some cs=>(fun H'=>seen H' k ⟨.t [],H',n⟩) (H.put k (some ⟨b.T,cs⟩))
         | none=>none
       | none=>none
      else none
    | .k (.c .e0)=>some ⟨.t [],H,n⟩
    | .k (.c (.v (.slice none 0 0)))=>some ⟨.t [],H,n⟩
    | _=>none
   else none
 | none=>none
theorem aCd {ρ:Operand->Value} {o:Oper} {c:Call} (ho:o.op=.call c) (hcal:c.callee=.builtin .clear) {x:Operand} (hargs:c.args.toList=[x]) {T:Nat} (htys:c.argTypes.toList=[T]) {v:Value} {w w':World}
    (h:(Builtin.clear_ #[T] o.type #[ρ x]).run P w=.ok v w'):(execOp ρ o).run P w=.ok (.value v) w':=by
 have hargs':c.args=#[x]:=by rw [<- toList_inj]; simpa using hargs
 have htys':c.argTypes=#[T]:=by rw [<- toList_inj]; simpa using htys
 have e1:execOp ρ o=(do pure (Next.value (<- Builtin.clear_ c.argTypes o.type (c.args.map ρ)))):=by
  unfold execOp;rw [ho];simp only [resolve,hcal];rfl
 have em:(#[x]:Array Operand).map ρ=#[ρ x]:=by simp
 rw [e1,htys',hargs',em];exact a0O h
theorem aN1 (hL:a5q P L) {ev:Operand->KV} {o:Oper} {c:Call} (ho:o.op=.call c) (hcal:c.callee=.builtin .clear) {x:Operand} (hargs:c.args.toList=[x]) {T:Nat} (htys:c.argTypes.toList=[T]) {q:Res} (h:aN2 m L H n T (ev x)=some q):aHt P m ev o H n q:=fun hm hl=>by
 have hxm:x ∈ o.op.operands:=by
  rw [ho];simp only [Op.operands,Call.operands,hcal];simp [<- mem_toList_iff,hargs]
 unfold aN2 at h
 split at h <;> try (cases h; done)
 rename_i d hT
 cases hk:Nat.beq d.kd 10 with
 | false=>rw [hk] at h; simp at h
 | true =>
 rw [hk] at h;simp only [cond_true] at h;obtain ⟨hu,he⟩:=(hL T d hT).slice (a0l hk);obtain ⟨i,z,hi,hsz,hby,hz,hzr⟩:=he.info;have hpos:=he.pos
 have zw:z.cells.size=d.esz:=by
  have:=(hzr ⟨fun _=>none,fun _=>False⟩ ({ (default:World) with heap:=#[] })).len;rw [a2E,he.zw] at this;simpa using this.symm
 have none_case:∀ (bm:BM) (w:World) (ρ:Operand->Value) (a:Option Addr) (cap:Nat),Ok H bm w->ρ x=.slice a 0 cap->OpRun P o ρ w (Eff m n n H (.t []) bm w):=fun bm w ρ a cap ok hx=>by
  refine .val (.tuple #[]) w (aCd ho hcal hargs htys ?_) (Eff.refl ok ⟨[],rfl,trivial⟩);rw [hx];cases a <;> simp [Builtin.clear_,run_underlying hu]
 split at h <;> try (cases h; done)
 ·rename_i k off ln cc sz hx
  cases hln:Nat.beq ln 0 with
  | true =>
    rw [hln] at h;simp only [cond_true,injEq] at h;subst h;have e0:=a0l hln;subst e0;refine ⟨Stat.refl hl,fun bm w ρ ok hr _ _ hev=>?_⟩;have hrx:=hev x hxm;rw [hx] at hrx;obtain ⟨b,c',a,hb,hv,_⟩:=hrx
    exact none_case bm w ρ a c' ok hv
  | false =>
    rw [hln] at h;simp only [cond_false] at h;have hl0:=a7Z hln
    cases hg:(Nat.ble m k && Nat.beq sz d.esz) with
    | false=>rw [hg] at h; simp at h
    | true =>
    rw [hg] at h;simp only [cond_true] at h;simp only [and_eq_true] at hg;have hmk:=a0R hg.1;have hsz':=a0l hg.2
    split at h <;> try (cases h; done)
    rename_i b hb
    split at h <;> try (cases h; done)
    rename_i cs hcs;have e:=seen_eq h;subst e;have hkn:=hl.lt hb;refine ⟨Stat.put hmk hkn hl,fun bm w ρ ok hr _ _ hev=>?_⟩;have hrx:=hev x hxm;rw [hx] at hrx;obtain ⟨g,c',a,hgb,hv,hcc,hnc,ha⟩:=hrx;obtain ⟨rfl,_⟩:=ha (by omega);have hrel:=a9j (hzr bm w) ln;obtain ⟨k1,k2,k3,cur,k4,k5⟩:=ok.set (m:=m) (n:=n) hgb hmk hkn hb hcs hrel;refine .val (.tuple #[]) _ (aCd ho hcal hargs htys ?_) ⟨bm,k3,k2,k1,[],rfl,trivial⟩;rw [hv]
    have hrows:(Builtin.zeroCells z.cells ln).toList=(List.replicate ln z.cells.toList).flatten:=by rw [a4r]; exact a4F _ _
    have hst:=run_storeCells_cells (P:=P) g off (List.replicate ln z.cells.toList).flatten 0 w (fun j hj=>by
     rw [Nat.add_zero,Lib.cell_of_heap k4]
     have:off+j < cur.length:=by omega
     simp [this]) (fun j hj=>by simp [World.frozen?,k4]) (relL.one hrel)
    simp only [Nat.add_zero] at hst
    obtain ⟨ln',rfl⟩:∃ q,ln=q+1:=⟨ln - 1,by omega⟩
    simp [Builtin.clear_,run_underlying hu,zeroValue,typeInfo,hi,hz,hrows,hst]
 ·rename_i hx;simp only [injEq] at h;subst h;refine ⟨Stat.refl hl,fun bm w ρ ok hr _ _ hev=>?_⟩;have hrx:=hev x hxm;rw [hx] at hrx;obtain ⟨a,hv⟩:=hrx;exact none_case bm w ρ a 0 ok hv
 ·rename_i hx;simp only [injEq] at h;subst h;refine ⟨Stat.refl hl,fun bm w ρ ok hr _ _ hev=>?_⟩;have hrx:=hev x hxm;rw [hx] at hrx;exact none_case bm w ρ none 0 ok hrx.1
def aWS (L:Tr ZL) (H:Hp Bx) (n T U:Nat) (x y:KV):Option Res :=
 match L.get T with
 | some d =>
   match L.get U with
   | some u =>
     match a6f u.kd with
     | some _ =>
       match aNL y with
       | some c =>
         bif Nat.beq d.kd 10 && Nat.ble c 1000000 && Nat.ble 1 c then
          match x with
          | .k (.c .e0)=>(fun H'=>seen H' n ⟨.k (.c (.s n 0 c c d.esz)),H',Nat.succ n⟩) (H.put n (some ⟨d.el,aSF d.ezero c⟩))
          | .k (.c (.v (.slice none 0 0)))=>(fun H'=>seen H' n ⟨.k (.c (.s n 0 c c d.esz)),H',Nat.succ n⟩) (H.put n (some ⟨d.el,aSF d.ezero c⟩))
          | _=>none
         else none
       | none=>none
     | none=>none
   | none=>none
 | none=>none
theorem a8T {T U ty e:TypeId} {κ κ':IntKind} {i:TypeInfo} {z:Value} (ht:P.underlying T=some (.slice e)) (hu:P.underlying U=some (.int κ)) (hi:P.info? e=some i) (hz:i.zero=some z) (hs:0 < i.size) (hb:i.bytes <= 1000000) (a:Option Addr) {c:Nat} (h0:0 < c) (hc:c <= 1000000) (w:World) :
    (Builtin.append_ #[T,U] ty #[.slice a 0 0,.int κ' (c:Int)]).run P w =
     .ok (.slice (some ⟨w.heap.size,0,none⟩) c (grownCap w c 0 e)) (w.drew.alloc (.cells (Builtin.zeroCells z.cells c ++ Builtin.zeroCells z.cells (grownCap w c 0 e - c)) e)):=by
 have hw:IntKind.i64.wrap (c:Int)=(c:Int):=by rw [IntKind.wrap_i64]; omega
 have hn:c ≠ 0:=by omega
 have hcs:¬ c*i.size=0:=Nat.mul_ne_zero hn (by omega)
 have hneg:¬ ((c:Int) < 0):=by omega
 have hbb:c*i.bytes <= 1000000*1000000:=mul_le_mul hc hb
 have hbi:¬ (281474976710656 < (c:Int)*(i.bytes:Int)):=by
  have:((c*i.bytes:Nat):Int)=(c:Int)*(i.bytes:Int):=by simp
  omega
 have h63:¬ (9223372036854775807 < (c:Int)):=by omega
 have h48:¬ (281474976710656 < Builtin.nextslicecap c 0*i.bytes):=by rw [nextslicecap_zero h0]; omega
 have hf:=a3C (P:=P) i.size a 0 w.drew;simp [Builtin.append_,run_underlying ht,run_underlying hu,sizeOf,typeInfo,zeroValue,hi,hz,asInt,asIntOf,hw,hn,hcs,hneg,hbi,h63,h48,Question.forced,hf,newRow,grownCap]
theorem aS1 (hL:a5q P L) {ev:Operand->KV} {o:Oper} {c:Call} (ho:o.op=.call c) (hcal:c.callee=.builtin .append) {x y:Operand} (hargs:c.args.toList=[x,y]) {T U:Nat} (htys:c.argTypes.toList=[T,U]) {q:Res} (h:aWS L H n T U (ev x) (ev y)=some q):aHt P m ev o H n q:=fun hm hl=>by
 have hxm:x ∈ o.op.operands:=by
  rw [ho];simp only [Op.operands,Call.operands,hcal];simp [<- mem_toList_iff,hargs]
 have hym:y ∈ o.op.operands:=by
  rw [ho];simp only [Op.operands,Call.operands,hcal];simp [<- mem_toList_iff,hargs]
 unfold aWS at h
 split at h <;> try (cases h; done)
 rename_i d hT
 split at h <;> try (cases h; done)
 rename_i u hU
 split at h <;> try (cases h; done)
 rename_i κ hκ
 split at h <;> try (cases h; done)
 rename_i cnt hc
 cases hk:(Nat.beq d.kd 10 && Nat.ble cnt 1000000 && Nat.ble 1 cnt) with
 | false=>rw [hk] at h; simp at h
 | true =>
 rw [hk] at h;simp only [cond_true] at h;simp only [and_eq_true] at hk;obtain ⟨hu,he⟩:=(hL T d hT).slice (a0l hk.1.1);obtain ⟨i,z,hi,hsz,hby,hz,hzr⟩:=he.info;have h1:=a0R hk.1.2;have h2:=a0R hk.2;have hpos:=he.pos
 have fresh:∀ (bm:BM) (w:World) (ρ:Operand->Value) (a:Option Addr),Ok H bm w->Room bm n (n+1)->relV bm w (ev y) (ρ y)->ρ x=.slice a 0 0->OpRun P o ρ w (Eff m n (n+1) (H.put n (some ⟨d.el,aSF d.ezero cnt⟩)) (.k (.c (.s n 0 cnt cnt d.esz))) bm w):=fun bm w ρ a ok hr hy hx=>by
  obtain ⟨κ',e⟩:=a4P hc hy
  have zw:z.cells.size=d.esz:=by
   have:=(hzr bm w).len;rw [a2E,he.zw] at this;simpa using this.symm
  have hrun:=a8T (P:=P) (ty:=o.type) (κ':=κ') hu ((hL U u hU).int κ hκ) hi hz (by omega) (by rw [hby]; exact he.by_) a (c:=cnt) (by omega) h1 w
  have hrows:Builtin.zeroCells z.cells cnt=((List.replicate cnt z.cells.toList).flatten).toArray:=by
   apply ext';rw [a4r];simpa using a4F z.cells cnt
  have hfl:((List.replicate cnt z.cells.toList).flatten).length=cnt*d.esz:=by
   rw [<- a4F];simp [size_madeCells,zw]
  rw [hrows] at hrun;refine .val _ _ (a3n ho hcal hargs htys (by rw [hx,e]; exact hrun)) (Eff.grown ok hr (a9j (hzr bm w) cnt) (grownCap_ge w cnt 0 d.el) hfl zw)
 split at h <;> try (cases h; done)
 ·rename_i hx;have e:=seen_eq h;subst e;refine ⟨Stat.new hm hl,fun bm w ρ ok hr _ _ hev=>?_⟩;have hrx:=hev x hxm;rw [hx] at hrx;obtain ⟨a,hv⟩:=hrx;exact fresh bm w ρ a ok hr (hev y hym) hv
 ·rename_i hx;have e:=seen_eq h;subst e;refine ⟨Stat.new hm hl,fun bm w ρ ok hr _ _ hev=>?_⟩;have hrx:=hev x hxm;rw [hx] at hrx;exact fresh bm w ρ none ok hr (hev y hym) hrx.1
def b3F (L:Tr ZL) (H:Hp Bx) (n:Nat) (ev:Operand->KV) (T c:Nat) (parts:List (Nat × Operand)):Option Res :=
 match c with
 | 0 =>
   match parts with
   | [] =>
     match L.get T with
     | some l=>bif Nat.beq l.kd 10 then some ⟨.k (.c .e0),H,n⟩ else none
     | none=>none
   | _ :: _=>none
 | c=>a7L L H n ev T c parts
theorem aWN (hL:a5q P L) {ev:Operand->KV} {o:Oper} {T c:Nat} {parts:Array (Nat × Operand)} (ho:o.op=.buildSlice T c parts) {q:Res} (h:b3F L H n ev T c parts.toList=some q):aHt P m ev o H n q:=by
 unfold b3F at h;split at h
 ·split at h <;> try (cases h; done)
  rename_i hp
  split at h <;> try (cases h; done)
  rename_i l hT
  cases hk:Nat.beq l.kd 10 with
  | false=>rw [hk] at h; simp at h
  | true =>
    rw [hk] at h;simp only [cond_true,injEq] at h;subst h;obtain ⟨hu,he⟩:=(hL T l hT).slice (a0l hk);obtain ⟨i,z,hi,hsz,_⟩:=he.info
    have hpa:parts=#[]:=by rw [<- toList_inj]; simpa using hp
    refine fun hm hl=>⟨Stat.refl hl,fun bm w ρ ok hr _ _ hev=>?_⟩
    have hext:Ext w (w.alloc (.cells #[] l.el)):=(Ext.refl w).alloc _;refine .val (.slice (some ⟨w.heap.size,0,none⟩) 0 0) (w.alloc (.cells #[] l.el)) ?_ ⟨bm,Grow.refl ..,Frame.of_ext hext,?_,_,rfl⟩
    ·simp only [execOp,ho,hpa];refine a0O ?_;simp [Instr.buildSlice,run_underlying hu,sizeOf,typeInfo,hi,Instr.fill,newRow,Array.range_zero']
    ·have hk:Keep bm bm w (w.alloc (.cells #[] l.el)):=Keep.of ok (Grow.refl n n w bm) (fun k h1 h2=>by omega) (Frame.of_ext hext);have f:Frame n n bm w (w.alloc (.cells #[] l.el)):=Frame.of_ext hext;exact ⟨fun k b x h1 h2=>(ok.box k b x h1 h2).keep hk (f.same b (ok.lt k b h1) fun k h1 h2=>by omega),fun k b h1=>lt_of_lt_of_le (ok.lt k b h1) f.le,ok.nz,ok.inj,fun b h=>lt_of_lt_of_le (ok.zlt b h) f.le⟩
 ·exact aL9 hL ho h
end
open Vc (a0O a7Q a2A a6f a0B a1G a5t)
inductive Ans (α:Type)
 | ok (x:α)
 | bad (why:Nat) (o:Op)
abbrev Kt (α:Type):=KV->Hp Bx->Nat->Ans α
abbrev Ct (α:Type):=Nat->Nat->List KK->Hp Bx->Nat->Kt α->Ans α
section
variable {α:Type}
def aTs (o:Op) (q:Option Res) (K:Kt α):Ans α:=Option.rec (.bad 1 o) (fun q=>Res.rec (fun r H n=>Nat.rec (K r H 0) (fun p _=>K r H (Nat.succ p)) n) q) q
def a9i (o:Op) (q:Option KV) (H:Hp Bx) (n:Nat) (K:Kt α):Ans α:=Option.rec (.bad 2 o) (fun r=>K r H n) q
def aBf (tm:Fr KV) (d:Option Nat) (r:KV) (K:Fr KV->Ans α):Ans α :=
 Option.rec (K tm) (fun t=>(fun tm'=>Option.rec (.bad 3 (.ready t)) (fun _=>K tm') (tm'.get t)) (tm.put t (some r))) d
def a5B (ev:Operand->KV) (tl:List KK) (l:List Operand):Option (List KK) :=
 List.rec (some tl) (fun x _ ih=>match ev x with | .k y=>Option.rec none (fun l=>some (y :: l)) ih | _=>none) l
def ptrs (l:List (Nat × Nat)):List KK:=List.rec [] (fun p _ ih=>.c (.p p.1 p.2) :: ih) l
def b0B (m:Nat) (L:Tr ZL) (H:Hp Bx) (n T U:Nat) (x y:KV):Option Res:=Option.rec (aWS L H n T U x y) (fun q=>some q) (b3I m L H n T U x y)
def aN5 (C:Ct α) (L:Tr ZL) (m:Nat) (tm:Fr KV) (H:Hp Bx) (n:Nat) (c:Call) (K:Kt α):Ans α :=
 match c.callee with
 | .builtin b =>
   match b with
   | .append =>
     match c.args.toList with
     | [x,y] =>
       match c.argTypes.toList with
       | [T,U]=>aTs (.call c) (b0B m L H n T U (evO tm x) (evO tm y)) K
       | _=>.bad 4 (.ready 0)
     | _=>.bad 4 (.ready 1)
   | .clear =>
     match c.args.toList with
     | [x] =>
       match c.argTypes.toList with
       | [T]=>aTs (.call c) (aN2 m L H n T (evO tm x)) K
       | _=>.bad 4 (.ready 2)
     | _=>.bad 4 (.ready 3)
   | b=>a9i (.call c) (aN6 L (evO tm) b c.args.toList c.argTypes.toList) H n K
 | .value x =>
   match evO tm x with
   | .k (.c (.fn f ks)) =>
     match a5B (evO tm) (ptrs ks) c.args.toList with
     | some xs=>C m f xs H n K
     | none=>.bad 5 (.ready f)
   | _=>.bad 5 (.ready 0)
 | .invoke _ _=>.bad 6 (.ready 0)
def zop (C:Ct α) (L:Tr ZL) (m:Nat) (tm:Fr KV) (H:Hp Bx) (n:Nat) (op:Op) (K:Kt α):Ans α :=
 match op with
 | .move x=>K (evO tm x) H n
 | .assign x=>K (evO tm x) H n
 | .alloc T=>aTs op (aJ0 L H n T) K
 | .box T x=>aTs op (b3G H n T (evO tm x)) K
 | .store T x y=>aTs op (aJR m L H n T (evO tm x) (evO tm y)) K
 | .buildSlice T c parts=>aTs op (b3F L H n (evO tm) T c parts.toList) K
 | .makeSlice T x y=>aTs op (aSS L H n T (evO tm x) (evO tm y)) K
 | .call c=>aN5 C L m tm H n c K
 | .pick c a b=>a9i op (aL8 (evO tm c) (evO tm a) (evO tm b)) H n K
 | .load T x=>a9i op (a9A L H T (evO tm x)) H n K
 | .fieldAddr S x f=>a9i op (aBI L S f (evO tm x)) H n K
 | .indexAddr T x y=>a9i op (b0b L T (evO tm x) (evO tm y)) H n K
 | .slice T x lo hi mx=>a9i op (zsl L T (evO tm x) (aNM (evO tm) lo) (aNM (evO tm) hi) (aNM (evO tm) mx)) H n K
 | .extract x i=>a9i op (aWP i (evO tm x)) H n K
 | .binOp b T x y _=>a9i op (a2R L b T (evO tm x) (evO tm y)) H n K
 | .unOp b _ x=>a9i op (zun b (evO tm x)) H n K
 | .build T parts=>a9i op (aJY L (evO tm) T parts) H n K
 | .convert S D x=>a9i op (aSV L S D (evO tm x)) H n K
 | .nilCheck x=>a9i op (b3D (evO tm x)) H n K
 | .makeFunc fn first captured=>a9i op (b3E (evO tm) fn first captured) H n K
 | .index T x y=>a9i op (aJW L T (evO tm x) (evO tm y)) H n K
 | .field T x f=>a9i op (aJX L T f (evO tm x)) H n K
 | _=>.bad 7 op
def CallOK (P:Program) (m f:Nat) (xs:List KK) (H:Hp Bx) (n:Nat) (q:Res):Prop :=
 a1G P f=true/\(m <= n->Low H n->Stat m H n q.H q.n/\∀ (bm:BM) (w:World) (vs:List Value),Ok H bm w->Room bm n q.n->relKs bm w xs vs->Calls P f vs.toArray w fun e w'=>∃ v,e=.returned v/\Eff m n q.n q.H q.r bm w v w')
def a5n (P:Program) (C:Ct α):Prop:=∀ m f xs H n K y,C m f xs H n K=.ok y->∃ q:Res,K q.r q.H q.n=.ok y/\CallOK P m f xs H n q
theorem a6A {o:Op} {q:Option Res} {K:Kt α} {y:α} (h:aTs o q K=.ok y):∃ q':Res,q=some q'/\K q'.r q'.H q'.n=.ok y:=by
 cases q with
 | none=>cases h
 | some q =>
   obtain ⟨r,H,n⟩:=q;refine ⟨_,rfl,?_⟩
   cases n with
   | zero=>exact h
   | succ n=>exact h
theorem aCI {o:Op} {q:Option KV} {H:Hp Bx} {n:Nat} {K:Kt α} {y:α} (h:a9i o q H n K=.ok y):∃ r,q=some r/\K r H n=.ok y:=by
 cases q with
 | none=>cases h
 | some q=>exact ⟨q,rfl,h⟩
section
variable {P:Program} {L:Tr ZL} {H:Hp Bx} {bm:BM} {w:World} {m n:Nat}
theorem a5A {ev:Operand->KV} {ρ:Operand->Value} {tl:List KK} {us:List Value} (ht:relKs bm w tl us):∀ {l:List Operand} {xs:List KK},(∀ x ∈ l,relV bm w (ev x) (ρ x))->a5B ev tl l=some xs->relKs bm w xs (l.map ρ ++ us)
 | [],xs,_,h=>by
   have e:tl=xs:=by simpa [a5B] using h
   subst e
   exact ht
 | x :: l,xs,hev,h=>by
   have h':(match ev x with | .k y=>Option.rec none (fun l=>some (y :: l)) (a5B ev tl l) | _=>none)=some xs:=h
   split at h' <;> try (cases h'; done)
   rename_i y hy
   cases hk:a5B ev tl l with
   | none=>rw [hk] at h'; cases h'
   | some r =>
     rw [hk] at h'
     have e:y :: r=xs:=by simpa using h'
     subst e;have h1:=hev x (mem_cons_self ..);rw [hy] at h1;exact ⟨h1,a5A ht (fun z hz=>hev z (mem_cons_of_mem _ hz)) hk⟩
theorem aKq:∀ {ks:List (Nat × Nat)} {us:List Value},relP bm ks us->relKs bm w (ptrs ks) us
 | [],[],_=>trivial
 | _ :: _,_ :: _,⟨h,k⟩=>⟨h,aKq k⟩
 | [],_ :: _,h=>h.elim
 | _ :: _,[],h=>h.elim
theorem pure_ok (hL:a5q P L) {ev:Operand->KV} {o:Oper} {r:KV} (h:a2w L H ev o.op=some r):aHt P m ev o H n ⟨r,H,n⟩:=fun _ hl =>
 ⟨Stat.refl hl,fun bm w ρ ok _ _ _ hev=>by
  obtain ⟨v,h1,h2⟩:=a6x hL ok hev h
  exact .val v w h1 (Eff.refl ok h2)⟩
theorem aSW (hL:a5q P L) {C:Ct α} (hC:a5n P C) {tm:Fr KV} {o:Oper} {c:Call} (ho:o.op=.call c) {K:Kt α} {y:α} (h:aN5 C L m tm H n c K=.ok y):∃ q:Res,K q.r q.H q.n=.ok y/\aHt P m (evO tm) o H n q:=by
 unfold aN5 at h;split at h
 ·rename_i b hb
  have pure_case:a9i (.call c) (aN6 L (evO tm) b c.args.toList c.argTypes.toList) H n K=.ok y->∃ q:Res,K q.r q.H q.n=.ok y/\aHt P m (evO tm) o H n q:=fun h=>by
   obtain ⟨r,hr,hk⟩:=aCI h;refine ⟨⟨r,H,n⟩,hk,pure_ok hL ?_⟩;rw [ho];simp only [a2w,aN3,hb];exact hr
  split at h
  ·split at h <;> try (cases h; done)
   rename_i x z hargs
   split at h <;> try (cases h; done)
   rename_i T U htys;obtain ⟨q,hq,hk⟩:=a6A h;refine ⟨q,hk,?_⟩;unfold b0B at hq
   cases hz:b3I m L H n T U (evO tm x) (evO tm z) with
   | none =>
     rw [hz] at hq
     exact aS1 hL ho hb hargs htys hq
   | some q' =>
     rw [hz] at hq
     obtain rfl:q'=q:=by simpa using hq
     exact aWT hL ho hb hargs htys hz
  ·split at h <;> try (cases h; done)
   rename_i x hargs
   split at h <;> try (cases h; done)
   rename_i T htys;obtain ⟨q,hq,hk⟩:=a6A h;exact ⟨q,hk,aN1 hL ho hb hargs htys hq⟩
  ·exact pure_case h
 ·rename_i x hx
  split at h <;> try (cases h; done)
  rename_i f ks hf
  split at h <;> try (cases h; done)
  rename_i xs hxs;obtain ⟨q,hk,he,hc⟩:=hC _ _ _ _ _ _ _ h;refine ⟨q,hk,fun hm hl=>?_⟩;obtain ⟨hs,hrun⟩:=hc hm hl;refine ⟨hs,fun bm w ρ ok hr _ _ hev=>?_⟩
  have hxo:∀ z ∈ c.args.toList,relV bm w (evO tm z) (ρ z):=fun z hz=>hev z (by
   rw [ho];simp only [Op.operands,Call.operands,hx,Array.mem_append]
   exact .inr (by simpa using hz))
  have hfo:=hev x (by
   rw [ho]
   simp [Op.operands,Call.operands,hx])
  rw [hf] at hfo;obtain ⟨us,hp,hv⟩:=hfo;have hrel:=a5A (ρ:=ρ) (aKq (w:=w) hp) hxo hxs;refine .ent f (c.args.toList.map ρ ++ us).toArray w ?_ (hrun bm w _ ok hr hrel)
  have e1:execOp ρ o=(do let d <- resolve ρ c o.type; invoke d.target d.args):=by
   unfold execOp;rw [ho]
  rw [e1];simp only [resolve,hx,hv,Deferred.ofValue,Sem.run_bind,Sem.run_pure,Result.andThen_ok,invoke]
  have ea:((#[] ++ c.args.map ρ) ++ us.toArray:Array Value)=(c.args.toList.map ρ ++ us).toArray:=by
   apply ext';simp
  rw [ea];exact a5t he _ w
 ·cases h
theorem aNY (hL:a5q P L) {C:Ct α} (hC:a5n P C) {tm:Fr KV} {o:Oper} {K:Kt α} {y:α} (h:zop C L m tm H n o.op K=.ok y):∃ q:Res,K q.r q.H q.n=.ok y/\aHt P m (evO tm) o H n q:=by
 have pure_case:∀ op r,a2w L H (evO tm) o.op=r->a9i op r H n K=.ok y->∃ q:Res,K q.r q.H q.n=.ok y/\aHt P m (evO tm) o H n q:=fun op r hz h=>by
  obtain ⟨r,hr,hk⟩:=aCI h;exact ⟨⟨r,H,n⟩,hk,pure_ok hL (hz.trans hr)⟩
 cases hop:o.op with
 | alloc T =>
   rw [hop] at h;obtain ⟨q,hq,hk⟩:=a6A h
   exact ⟨q,hk,aN9 hL hop hq⟩
 | box T x =>
   rw [hop] at h;obtain ⟨q,hq,hk⟩:=a6A h
   exact ⟨q,hk,aWQ hop hq⟩
 | store T x z =>
   rw [hop] at h;obtain ⟨q,hq,hk⟩:=a6A h
   exact ⟨q,hk,aNS hL hop hq⟩
 | buildSlice T c parts =>
   rw [hop] at h;obtain ⟨q,hq,hk⟩:=a6A h
   exact ⟨q,hk,aWN hL hop hq⟩
 | makeSlice T x z =>
   rw [hop] at h;obtain ⟨q,hq,hk⟩:=a6A h
   exact ⟨q,hk,aSR hL hop hq⟩
 | call c =>
   rw [hop] at h
   exact aSW hL hC hop h
 | move x=>rw [hop] at h; exact pure_case o.op (some (evO tm x)) (by rw [hop]; rfl) h
 | assign x=>rw [hop] at h; exact pure_case o.op (some (evO tm x)) (by rw [hop]; rfl) h
 | _=>rw [hop] at h; first | exact pure_case _ _ (by rw [hop]; rfl) h | cases h
end
end
def a8R (ops:List Oper) (tm:Fr KV) (o:Oper):Option Bool :=
 match o.guard with
 | none=>some true
 | some g =>
   match nth ops g.1 with
   | some og =>
     match og.dst with
     | some t =>
       match tm.get t with
       | some (.k (.c (.v (.bool b))))=>some (bif g.2 then b else !b)
       | some (.t [])=>some false
       | _=>none
     | none=>none
   | none=>none
structure Rz (N:Nat) (tm:Fr KV) (H:Hp Bx) (bm:BM) (a:Act) (w:World):Prop where
 ok:Ok H bm w
 tmp:∀ t x,tm.get t=some x->relV bm w x (a.tmps.getD t undef)
 size:a.tmps.size=N
 dfr:a.defers=[]
section
variable {α:Type} {P:Program} {L:Tr ZL} {H:Hp Bx} {bm:BM} {w w':World} {m n N:Nat} {tm:Fr KV} {a:Act}
theorem a9y {ops:List Oper} {o:Oper} {b:Bool} {tmps:Array Value} (h:a8R ops tm o=some b)
    (hr:∀ g og t x,o.guard=some g->ops[g.1]?=some og->og.dst=some t->tm.get t=some x->relV bm w x (tmps.getD t undef)):Region.wanted o (yielded ops.toArray tmps)=b:=by
 unfold a8R at h;split at h
 ·rename_i hg;simp only [injEq] at h;subst h;unfold Region.wanted;rw [hg]
 ·rename_i g hg
  split at h <;> try (cases h; done)
  rename_i og hog;rw [aBY] at hog
  split at h <;> try (cases h; done)
  rename_i t ht
  have hog':ops.toArray[g.1]?=some og:=by simpa using hog
  have hy:yielded ops.toArray tmps g.1=match tmps[t]? with | some (.bool b)=>some b | _=>none:=by
   unfold yielded;rw [hog'];simp only [Option.bind_some,ht]
   cases tmps[t]? with
   | none=>rfl
   | some v=>cases v <;> rfl
  have hget:tmps.getD t undef=(tmps[t]?).getD undef:=by simp [Array.getD_eq_getD_getElem?]
  split at h <;> try (cases h; done)
  ·rename_i b' hb';simp only [injEq] at h;subst h;obtain ⟨e,_⟩:=hr g og t _ hg hog ht hb';rw [hget] at e
   have e2:tmps[t]?=some (.bool b'):=by
    cases hq:tmps[t]? with
    | none=>rw [hq] at e; simp [undef] at e
    | some v=>rw [hq] at e; simpa using e
   rw [e2] at hy;unfold Region.wanted;rw [hg];simp only [hy];obtain ⟨g1,g2⟩:=g;cases g2 <;> cases b' <;> rfl
  ·rename_i hb';simp only [injEq] at h;subst h;obtain ⟨us,e,hus⟩:=hr g og t _ hg hog ht hb'
   have hus':us=[]:=by
    cases us with
    | nil=>rfl
    | cons u us=>exact hus.elim
   subst hus';rw [hget] at e
   have e2:(match tmps[t]? with | some (.bool b)=>some b | _=>none)=none:=by
    cases hq:tmps[t]? with
    | none=>rfl
    | some v =>
      rw [hq] at e;simp only [Option.getD_some] at e;subst e;rfl
   rw [e2] at hy;unfold Region.wanted;rw [hg];simp only [hy];rfl
theorem a9C (bm:BM) (w:World):relV bm w (.t []) undef:=⟨[],rfl,trivial⟩
theorem Rz.ev (h:Rz N tm H bm a w) (x:Operand):relV bm w (evO tm x) (a.eval x):=by
 cases x with
 | tmp t =>
   simp only [evO,Act.eval]
   cases hg:tm.get t with
   | none=>trivial
   | some x=>exact h.tmp t x hg
 | const v=>exact aQK bm w v
 | func f=>exact ⟨[],trivial,rfl⟩
 | global g=>trivial
def aJL (tm:Fr KV) (d:Option Nat) (r:KV) (tm':Fr KV):Prop:=∀ t x,tm'.get t=some x->(d=some t/\x=r) \/ (d ≠ some t/\tm.get t=some x)
theorem a4Z {d:Option Nat} {r:KV} {K:Fr KV->Ans α} {y:α} (h:aBf tm d r K=.ok y):∃ tm',K tm'=.ok y/\aJL tm d r tm':=by
 cases d with
 | none=>exact ⟨tm,h,fun t x hx=>.inr ⟨by simp,hx⟩⟩
 | some d =>
   have h':(Option.rec (.bad 3 (.ready d)) (fun _=>K (tm.put d (some r))) ((tm.put d (some r)).get d):Ans α)=.ok y:=h
   cases hg:(tm.put d (some r)).get d with
   | none=>rw [hg] at h'; cases h'
   | some z =>
     rw [hg] at h';refine ⟨_,h',fun t x hx=>?_⟩;by_cases htd:t=d
     ·subst htd;have:=Fr.put_eq _ _ _ _ hx;exact .inl ⟨rfl,by simpa using this.symm⟩
     ·rw [Fr.put_ne _ _ _ _ htd] at hx;exact .inr ⟨fun e=>htd (by simpa using e.symm),hx⟩
theorem Rz.put (h:Rz N tm H bm a w) {d:Option Nat} {r:KV} {v:Value} {tm':Fr KV} (hv:relV bm w r v) (hd:∀ t,d=some t->t < N) (hp:aJL tm d r tm'):Rz N tm' H bm (a.put d v) w:=by
 refine ⟨h.ok,fun t x hx=>?_,by rw [aCL,h.size],?_⟩
 ·rcases hp t x hx with ⟨rfl,rfl⟩ | ⟨hne,hx⟩
  ·have hlt:t < a.tmps.size:=by rw [h.size]; exact hd t rfl
   have e:(a.put (some t) v).tmps.getD t undef=v:=by
    simp [Act.put,Array.getD_eq_getD_getElem?,hlt]
   rw [e];exact hv
  ·have e:(a.put d v).tmps.getD t undef=a.tmps.getD t undef:=by
    cases d with
    | none=>rfl
    | some d =>
      have:d ≠ t:=fun e=>hne (by rw [e]);simp [Act.put,Array.getD_eq_getD_getElem?,Array.getElem?_setIfInBounds_ne this]
   rw [e];exact h.tmp t x hx
 ·cases d <;> exact h.dfr
theorem Rz.step (h:Rz N tm H bm a w) {n':Nat} {H':Hp Bx} {bm':BM} (hr:Room bm n n') (g:Grow m n n' w bm bm') (f:Frame m n bm w w') (ok':Ok H' bm' w'):Rz N tm H' bm' a w' :=
 ⟨ok',fun t x hx=>(Keep.of h.ok g hr f).relV (h.tmp t x hx),h.size,h.dfr⟩
theorem Stat.trans {n1 n2:Nat} {H1 H2:Hp Bx} (h:Stat m H n H1 n1) (k:Stat m H1 n1 H2 n2):Stat m H n H2 n2:=⟨Nat.le_trans h.le k.le,k.low,fun j hj=>by rw [k.same j hj,h.same j hj]⟩
theorem Room.left {n1 n2:Nat} (h:Room bm n n2) (hl:n1 <= n2):Room bm n n1:=fun k h1 h2=>h k h1 (by omega)
theorem Room.right {n1 n2:Nat} {bm1:BM} (h:Room bm n n2) (hl:n <= n1) (g:Grow m n n1 w bm bm1):Room bm1 n1 n2:=fun k h1 h2=>by
 rw [g.same k (by omega)];exact h k (by omega) h2
def aZ8 (C:Ct α) (L:Tr ZL) (m:Nat) (l os:List Oper):Fr KV->Hp Bx->Nat->(Fr KV->Hp Bx->Nat->Ans α)->Ans α :=
 List.rec (fun tm H n K=>K tm H n) (fun o _ ih tm H n K =>
  match a8R l tm o with
  | some b=>bif b then zop C L m tm H n o.op (fun r H n=>aBf tm o.dst r fun tm=>ih tm H n K) else aBf tm o.dst (.t []) fun tm=>ih tm H n K
  | none=>.bad 8 (.ready 0)) os
def b5r (P:Program) (N m:Nat) (l os:List Oper) (tm:Fr KV) (H:Hp Bx) (n:Nat) (tm':Fr KV) (H':Hp Bx) (n':Nat):Prop :=
 m <= n->Low H n->Stat m H n H' n'/\∀ (bm:BM) (a:Act) (w:World) (Q:Exit->Act->World->Prop),Rz N tm H bm a w->Room bm n n'->a1L os N=true ->
   (∀ bm' a' w',Rz N tm' H' bm' a' w'->Grow m n n' w bm bm'->Frame m n bm w w'->Q .normal a' w')->wpList P l.toArray Q os a w
theorem aHu (hL:a5q P L) {C:Ct α} (hC:a5n P C) {l:List Oper}:∀ (os:List Oper) {tm:Fr KV} {H:Hp Bx} {n:Nat} {K:Fr KV->Hp Bx->Nat->Ans α} {y:α},aZ8 C L m l os tm H n K=.ok y->∃ tm' H' n',K tm' H' n'=.ok y/\b5r P N m l os tm H n tm' H' n'
 | [],tm,H,n,K,y,h=>⟨tm,H,n,h,fun _ hl=>⟨Stat.refl hl,fun bm a w Q hR _ _ hQ=>hQ bm a w hR (Grow.refl ..) (Frame.refl ..)⟩⟩
 | o :: os,tm,H,n,K,y,h=>by
   have h':(match a8R l tm o with
    | some b=>bif b then zop C L m tm H n o.op (fun r H n=>aBf tm o.dst r fun tm=>aZ8 C L m l os tm H n K) else aBf tm o.dst (.t []) fun tm=>aZ8 C L m l os tm H n K
    | none=>.bad 8 (.ready 0))=.ok y:=h
   split at h' <;> try (cases h'; done)
   rename_i b hw
   have hins:a1L (o :: os) N=true->(∀ t,o.dst=some t->t < N)/\a1L os N=true:=fun hi=>by
    simp only [a1L,List.all_cons,and_eq_true] at hi;refine ⟨fun t ht=>?_,hi.2⟩;have:=hi.1;rw [ht] at this;simpa using this
   cases b with
   | true =>
     simp only [cond_true] at h';obtain ⟨q,hq,hop⟩:=aNY (m:=m) hL hC h';obtain ⟨tm1,h1,hp⟩:=a4Z hq;obtain ⟨tm',H',n',hk,hs⟩:=aHu hL hC os h1;refine ⟨tm',H',n',hk,fun hm hl=>?_⟩;obtain ⟨s1,r1⟩:=hop hm hl;obtain ⟨s2,r2⟩:=hs (Nat.le_trans hm s1.le) s1.low;refine ⟨s1.trans s2,fun bm a w Q hR hroom hi hQ=>?_⟩;obtain ⟨hd,hi'⟩:=hins hi;have hrun:=r1 bm w a.eval hR.ok (hroom.left s2.le) (fun _=>rfl) (fun _=>rfl) (fun x _=>hR.ev x);unfold wpList;rw [if_pos (a9y hw fun g og t x _ _ _ hx=>hR.tmp t x hx)];refine .inl (hrun.wp fun v w1 ⟨bm1,g1,f1,ok1,hv⟩=>?_);have hR1:=(hR.step (hroom.left s2.le) g1 f1 ok1).put hv hd hp
     exact r2 bm1 _ w1 Q hR1 (hroom.right s1.le g1) hi' fun bm' a' w' hR' g' f'=>hQ bm' a' w' hR' (g1.trans f1.le g') (Frame.trans g1 f1 f')
   | false =>
     simp only [cond_false] at h';obtain ⟨tm1,h1,hp⟩:=a4Z h';obtain ⟨tm',H',n',hk,hs⟩:=aHu hL hC os h1;refine ⟨tm',H',n',hk,fun hm hl=>?_⟩;obtain ⟨s2,r2⟩:=hs hm hl;refine ⟨s2,fun bm a w Q hR hroom hi hQ=>?_⟩;obtain ⟨hd,hi'⟩:=hins hi;unfold wpList;rw [if_neg (by rw [a9y hw fun g og t x _ _ _ hx=>hR.tmp t x hx]; decide)];exact r2 bm _ w Q (hR.put (a9C bm w) hd hp) hroom hi' hQ
end
open Vc (a0O a01 a1A a1i a1j a1w Fresh a2K a0B)
structure Sx where
 tm:Fr KV
 H:Hp Bx
 n:Nat
def b2a (d:Option Nat):Bool:=match d with | some d=>Nat.beq d 52 | none=>false
def knd (W:Nat->Bool) (o:Oper):Nat :=
 match o.op with
 | .load _ _=>1
 | .alloc _=>3
 | .store _ _ _=>2
 | .box _ _=>4
 | .buildSlice _ c _=>bif Nat.beq c 0 then 4 else 3
 | .makeSlice _ _ _=>4
 | .call c =>
   match c.callee with
   | .builtin b =>
     match b with
     | .len=>0
     | .cap=>0
     | .min=>0
     | .max=>0
     | .append=>bif b2a o.dst then 4 else 2
     | _=>2
   | .value (.func f)=>bif W f then 2 else 4
   | _=>2
 | _=>0
def b1p (ms:List Nat) (i j:Nat):Bool:=Nat.testBit ((ms[i]?).getD 0) j || Nat.testBit ((ms[j]?).getD 0) i
def b1l (ki kj:Nat):Bool:=(Nat.beq ki 1 && Nat.beq kj 2) || (Nat.beq ki 2 && (Nat.beq kj 1 || Nat.beq kj 3))
structure Inf where
 o:Oper
 i:Nat
 k:Nat
 ps:List Nat
def kd (W:Nat->Bool) (l:List Oper) (i:Nat):Nat:=match l[i]? with | some o=>knd W o | none=>0
def b1h (W:Nat->Bool) (l:List Oper) (i:Nat):List Nat:=(List.range i).filter fun j=>b1l (kd W l i) (kd W l j) && !b1p (masks l []) i j
def aVt (W:Nat->Bool) (l:List Oper):List Inf:=l.zipIdx.map fun q=>⟨q.1,q.2,knd W q.1,b1h W l q.2⟩
structure Rc where
 i:Nat
 k:Nat
 H:Hp Bx
 H':Hp Bx
def b4r:Value->Value->Bool
 | .int k n,.int k' n'=>decide (k=k') && decide (n=n')
 | .bool a,.bool b=>a == b
 | .string a,.string b=>decide (a=b)
 | .slice none 0 0,.slice none 0 0=>true
 | .pointer none,.pointer none=>true
 | .nilFunc,.nilFunc=>true
 | _,_=>false
theorem aW3 {a b:Value} (h:b4r a b=true):a=b:=by
 unfold b4r at h;split at h <;> simp_all
def lfB:LF->LF->Bool
 | .v a,.v b=>b4r a b
 | .sl a,.sl b=>decide (a=b)
 | .I a,.I b=>decide (a=b)
 | .p a b,.p c d=>decide (a=c) && decide (b=d)
 | .s a b c d e,.s a' b' c' d' e'=>decide (a=a') && decide (b=b') && decide (c=c') && decide (d=d') && decide (e=e')
 | .e0,.e0=>true
 | .fn f ks,.fn g ls=>decide (f=g) && decide (ks=ls)
 | _,_=>false
theorem b1P {a b:LF} (h:lfB a b=true):a=b:=by
 unfold lfB at h;split at h
 ·rw [aW3 h]
 all_goals simp_all
def b3R:List LF->List LF->Bool
 | [],[]=>true
 | a :: l,b :: r=>lfB a b && b3R l r
 | _,_=>false
theorem aPz:∀ {a b:List LF},b3R a b=true->a=b
 | [],[],_=>rfl
 | a :: l,b :: r,h=>by
   simp only [b3R,and_eq_true] at h
   rw [b1P h.1,aPz h.2]
 | [],_ :: _,h=>by cases h
 | _ :: _,[],h=>by cases h
def aMj:Option Bx->Option Bx->Bool
 | some a,some b=>Nat.beq a.T b.T && b3R a.cs b.cs
 | none,none=>true
 | _,_=>false
theorem aKg {a b:Option Bx} (h:aMj a b=true):a=b:=by
 unfold aMj at h;split at h
 ·simp only [and_eq_true] at h;rename_i a b;obtain ⟨T,cs⟩:=a;obtain ⟨T',cs'⟩:=b;have e1:T=T':=a0l h.1;have e2:cs=cs':=aPz h.2;rw [e1,e2]
 ·rfl
 ·cases h
def aNO (l:List Nat) (i:Nat):Bool:=List.rec false (fun x _ ih=>Bool.rec ih true (Nat.beq x i)) l
theorem aPr {l:List Nat} {i:Nat} (h:i ∈ l):aNO l i=true:=by
 induction l with
 | nil=>cases h
 | cons x l ih =>
   show (Bool.rec (aNO l i) true (Nat.beq x i):Bool)=true
   cases hb:Nat.beq x i with
   | true=>rfl
   | false =>
     rcases mem_cons.1 h with e | e
     ·subst e;rw [aE9] at hb;cases hb
     ·exact ih e
def aUi (rc:List Rc) (ps:List Nat) (k:Nat):Bool:=List.rec true (fun r _ ih=>Bool.rec ih (aMj (r.H.get k) (r.H'.get k) && ih) (aNO ps r.i)) rc
def aUh (rc:List Rc) (ps:List Nat) (H H':Hp Bx):Bool:=List.rec true (fun r _ ih=>Bool.rec ih (aMj (H.get r.k) (H'.get r.k) && ih) (aNO ps r.i)) rc
theorem aMN {rc:List Rc} {ps:List Nat} {k:Nat} (h:aUi rc ps k=true):∀ r ∈ rc,r.i ∈ ps->r.H.get k=r.H'.get k:=by
 induction rc with
 | nil=>intro r hr; cases hr
 | cons x rc ih =>
   have h':(Bool.rec (aUi rc ps k) (aMj (x.H.get k) (x.H'.get k) && aUi rc ps k) (aNO ps x.i):Bool)=true:=h;intro r hr hi
   cases hb:aNO ps x.i with
   | true =>
     rw [hb] at h';have h2:=(and_eq_true _ _).mp h';rcases mem_cons.1 hr with rfl | hr
     ·exact aKg h2.1
     ·exact ih h2.2 r hr hi
   | false =>
     rw [hb] at h';rcases mem_cons.1 hr with rfl | hr
     ·rw [aPr hi] at hb; cases hb
     ·exact ih h' r hr hi
theorem aMM {rc:List Rc} {ps:List Nat} {H H':Hp Bx} (h:aUh rc ps H H'=true):∀ r ∈ rc,r.i ∈ ps->H.get r.k=H'.get r.k:=by
 induction rc with
 | nil=>intro r hr; cases hr
 | cons x rc ih =>
   have h':(Bool.rec (aUh rc ps H H') (aMj (H.get x.k) (H'.get x.k) && aUh rc ps H H') (aNO ps x.i):Bool)=true:=h;intro r hr hi
   cases hb:aNO ps x.i with
   | true =>
     rw [hb] at h';have h2:=(and_eq_true _ _).mp h';rcases mem_cons.1 hr with rfl | hr
     ·exact aKg h2.1
     ·exact ih h2.2 r hr hi
   | false =>
     rw [hb] at h';rcases mem_cons.1 hr with rfl | hr
     ·rw [aPr hi] at hb; cases hb
     ·exact ih h' r hr hi
def b3Z (rc:List Rc) (ps:List Nat) (k:Nat):Bool:=List.rec true (fun _ _ _=>aUi rc ps k) ps
def b2v (rc:List Rc) (ps:List Nat) (H H':Hp Bx):Bool:=List.rec true (fun _ _ _=>aUh rc ps H H') ps
theorem aQX {rc:List Rc} {ps:List Nat} {k:Nat} (h:b3Z rc ps k=true):∀ r ∈ rc,r.i ∈ ps->r.H.get k=r.H'.get k:=by
 cases ps with
 | nil=>intro r _ hi; cases hi
 | cons p ps=>exact aMN h
theorem aQW {rc:List Rc} {ps:List Nat} {H H':Hp Bx} (h:b2v rc ps H H'=true):∀ r ∈ rc,r.i ∈ ps->H.get r.k=H'.get r.k:=by
 cases ps with
 | nil=>intro r _ hi; cases hi
 | cons p ps=>exact aMM h
section
variable {α:Type} {P:Program} {L:Tr ZL} {m:Nat}
def b4o (op:Op) (ev:Operand->KV):Option Nat :=
 match op with
 | .load _ x =>
   match ev x with
   | .k (.c (.p k _))=>some k
   | .k (.c (.q _))=>some 1000000
   | _=>none
 | _=>none
def a9z (C:Ct α) (L:Tr ZL) (m:Nat) (e:Inf) (tm:Fr KV) (H:Hp Bx) (n:Nat) (rc:List Rc) (ih:Fr KV->Hp Bx->Nat->List Rc->Ans α):Ans α :=
 match e.k with
 | 0=>a9i e.o.op (a2w L Hp.mk0 (evO tm) e.o.op) H n fun r H n=>aBf tm e.o.dst r fun tm=>ih tm H n rc
 | 1 =>
   match b4o e.o.op (evO tm) with
   | some k=>bif b3Z rc e.ps k then a9i e.o.op (a2w L H (evO tm) e.o.op) H n fun r H n=>aBf tm e.o.dst r fun tm=>ih tm H n (⟨e.i,k,Hp.mk0,Hp.mk0⟩ :: rc) else .bad 30 e.o.op
   | none=>.bad 31 e.o.op
 | 2=>zop C L m tm H n e.o.op fun r H' n'=>bif b2v rc e.ps H H' then aBf tm e.o.dst r fun tm=>ih tm H' n' (⟨e.i,0,H,H'⟩ :: rc) else .bad 32 e.o.op
 | 3 =>
   match e.o.op with
   | .alloc T =>
     match L.get T with
     | some l=>(fun H'=>Option.rec (.bad 33 e.o.op) (fun _=>aBf tm e.o.dst (.k (.c (.p n 0))) fun tm=>ih tm H' (Nat.succ n) (⟨e.i,n,Hp.mk0,Hp.mk0⟩ :: rc)) (H'.get n)) (H.put n (some ⟨T,l.zero⟩))
     | none=>.bad 34 e.o.op
   | .buildSlice T c parts =>
     match a7L L H n (evO tm) T c parts.toList with
     | some q=>aBf tm e.o.dst q.r fun tm=>ih tm q.H q.n (⟨e.i,n,Hp.mk0,Hp.mk0⟩ :: rc)
     | none=>.bad 36 e.o.op
   | _=>.bad 35 e.o.op
 | _=>zop C L n tm H n e.o.op fun r H' n'=>aBf tm e.o.dst r fun tm=>ih tm H' n' rc
def aUV (C:Ct α) (L:Tr ZL) (m:Nat) (l:List Oper) (es:List Inf):Fr KV->Hp Bx->Nat->List Rc->(Fr KV->Hp Bx->Nat->Ans α)->Ans α :=
 List.rec (fun tm H n _ K=>K tm H n) (fun e _ ih tm H n rc K =>
  match a8R l tm e.o with
  | some b=>bif b then a9z C L m e tm H n rc (fun tm H n rc=>ih tm H n rc K) else aBf tm e.o.dst (.t []) fun tm=>ih tm H n rc K
  | none=>.bad 9 e.o.op) es
def b5u (P:Program) (ev:Operand->KV) (o:Oper) (n:Nat) (x:Bx) (r:KV):Prop :=
 ∀ (bm:BM) (w:World) (ρ:Operand->Value),(∀ y ∈ o.op.operands,relV bm w (ev y) (ρ y)) ->
   ∃ v w' vs,(execOp ρ o).run P w=.ok (.value v) w'/\Ext w w'/\w'.heap[w.heap.size]?=some (.cells vs.toArray x.T (0,0))/\relL bm w (a0d x.cs) vs/\∀ bm':BM,bm' n=some w.heap.size->relV bm' w' r v
theorem aTH (hL:a5q P L) {Ty:Nat} {lz:ZL} (hl:L.get Ty=some lz) {o:Oper} (ho:o.op=.alloc Ty) (ev:Operand->KV) (n:Nat):b5u P ev o n ⟨Ty,lz.zero⟩ (.k (.c (.p n 0))):=fun bm w ρ _=>by
 have hz:=hL Ty lz hl;obtain ⟨i,z,hi,hzz,hzr⟩:=hz.zero;refine ⟨_,w.alloc (.cells z.cells.toList.toArray Ty),z.cells.toList,?_,(Ext.refl w).alloc _,heap_alloc_new w _,hzr _ _,fun bm' hb=>⟨w.heap.size,hb,rfl⟩⟩;simp only [execOp,ho];refine a0O ?_;simp [Instr.alloc,zeroValue,typeInfo,hi,hzz,newVar,newRow]
theorem aOE {H:Hp Bx} {k:Nat} {q q':Res} (h:seen H k q=some q'):∃ z,H.get k=some z:=by
 unfold seen at h
 cases hg:H.get k with
 | none=>rw [hg] at h; cases h
 | some z=>exact ⟨z,rfl⟩
theorem aPp (hL:a5q P L) {ev:Operand->KV} {o:Oper} {T c n:Nat} {H:Hp Bx} {parts:Array (Nat × Operand)} (ho:o.op=.buildSlice T c parts) {q:Res} (h:a7L L H n ev T c parts.toList=some q) :
    ∃ x,b5u P ev o n x q.r/\q.H=H.put n (some x)/\q.H.get n=some x/\q.n=n+1:=by
 unfold a7L at h
 split at h <;> try (cases h; done)
 rename_i l hT
 split at h <;> try (cases h; done)
 rename_i cs hcs
 cases hc:(Nat.beq l.kd 10 && Nat.beq (len parts.toList) c && Nat.ble c 1000 && Nat.ble 1 c) with
 | false=>rw [hc] at h; simp at h
 | true =>
   rw [hc] at h;simp only [cond_true] at h;simp only [and_eq_true] at hc;obtain ⟨z',hz'⟩:=aOE h;have e:=seen_eq h;subst e;refine ⟨⟨l.el,cs⟩,fun bm w ρ hev=>?_,rfl,by rw [hz',Hp.put_eq _ _ _ _ hz'],rfl⟩;obtain ⟨hu,he⟩:=(hL T l hT).slice (a0l hc.1.1.1);obtain ⟨i,z,hi,hsz,_,hz,_⟩:=he.info;have h1:=a0l hc.1.1.2;rw [a8H] at h1;have h2:=a0R hc.1.2;have h3:=a0R hc.2;have h4:=he.pos;have h5:=he.le
   obtain ⟨vs,g1,g2,g3,g4⟩:=a7K (bm:=bm) (w:=w) (ρ:=ρ) parts.toList 0 cs (fun p hp=>hev p.2 (by
    rw [ho];simp only [Op.operands,List.mem_toArray,mem_map]
    exact ⟨p,hp,rfl⟩)) hcs
   have hle:c*l.esz <= 1000*1000:=mul_le_mul h2 h5;have hp:1*1 <= c*l.esz:=mul_le_mul h3 h4
   have hrun:=run_buildSlice (P:=P) w T l.el c (parts.map fun (i,x)=>(i,ρ x)) (vs.flatMap fun v=>v.cells.toList).toArray i z hu hi hz (by rw [hsz]; omega) (by rw [hsz]; omega) (by
    rw [hsz,toList_map,g2]
    exact Great.fill_whole (by omega) _ _ g3 (by simp; rw [g1,h1]))
   refine ⟨_,_,vs.flatMap fun v=>v.cells.toList,by unfold execOp; rw [ho]; exact a0O hrun,(Ext.refl w).alloc _,heap_alloc_new w _,g4,fun bm' hb=>?_⟩
   have hfl:(vs.flatMap fun v=>v.cells.toList).length=c*l.esz:=by
    rw [List.length_flatMap]
    have:(vs.map fun v=>v.cells.toList.length)=List.replicate c l.esz:=by
     rw [<- h1,<- g1]
     exact List.eq_replicate_iff.2 ⟨by simp,fun x hx=>by
      obtain ⟨v,hv,rfl⟩:=mem_map.1 hx
      simpa using g3 v hv⟩
    rw [this];simp [List.sum_replicate_nat]
   exact ⟨w.heap.size,c,_,hb,rfl,le_refl _,le_refl _,fun _=>⟨rfl,_,_,heap_alloc_new w _,by simp [hfl]⟩⟩
structure aUQ (P:Program) (L:Tr ZL) (m:Nat) (e:Inf) (s s':Sx) (r:KV) (k:Nat):Prop where
 p:e.k=0->a2w L Hp.mk0 (evO s.tm) e.o.op=some r/\s'.H=s.H/\s'.n=s.n
 ld:e.k=1->(∃ T x,e.o.op=.load T x/\((∃ off,evO s.tm x=.k (.c (.p k off))) \/ ∃ v,evO s.tm x=.k (.c (.q v))))/\a2w L s.H (evO s.tm) e.o.op=some r/\s'.H=s.H/\s'.n=s.n
 al:e.k=3->∃ x,b5u P (evO s.tm) e.o s.n x r/\s'.H=s.H.put s.n (some x)/\s'.H.get s.n=some x/\s'.n=s.n+1
 sy:e.k=2->aHt P m (evO s.tm) e.o s.H s.n ⟨r,s'.H,s'.n⟩
 mkb:e.k ≠ 0->e.k ≠ 1->e.k ≠ 2->e.k ≠ 3->aHt P s.n (evO s.tm) e.o s.H s.n ⟨r,s'.H,s'.n⟩
def Trace (P:Program) (L:Tr ZL) (m:Nat) (l:List Oper) (es:List Inf) (T:Nat->Sx) (R:Nat->KV) (B:Nat->Bool) (Kk:Nat->Nat):Prop :=
 ∀ i e,es[i]?=some e->a8R l (T i).tm e.o=some (B i)/\aJL (T i).tm e.o.dst (R i) (T (i+1)).tm /\
   (B i=true->aUQ P L m e (T i) (T (i+1)) (R i) (Kk i))/\(B i=false->R i=.t []/\(T (i+1)).H=(T i).H/\(T (i+1)).n=(T i).n)
def Seen (es:List Inf) (T:Nat->Sx) (B:Nat->Bool) (Kk:Nat->Nat):Prop :=
 ∀ i j e f,i < j->es[i]?=some e->es[j]?=some f->B i=true->B j=true->e.i ∈ f.ps ->
   (f.k=1->e.k=2->(T i).H.get (Kk j)=(T (i+1)).H.get (Kk j))/\(f.k=2->e.k=1->(T j).H.get (Kk i)=(T (j+1)).H.get (Kk i))/\(f.k=2->e.k=3->(T j).H.get (T i).n=(T (j+1)).H.get (T i).n)
def aWt (rc:List Rc) (es:List Inf) (T:Nat->Sx) (B:Nat->Bool) (Kk:Nat->Nat):Prop :=
 ∀ r ∈ rc,∀ j f,es[j]?=some f->B j=true->r.i ∈ f.ps->(f.k=1->r.H.get (Kk j)=r.H'.get (Kk j))/\(f.k=2->(T j).H.get r.k=(T (j+1)).H.get r.k)
theorem aHw (hL:a5q P L) {C:Ct α} (hC:a5n P C) {l:List Oper}:∀ (es:List Inf) {tm:Fr KV} {H:Hp Bx} {n:Nat} {rc:List Rc} {K:Fr KV->Hp Bx->Nat->Ans α} {y:α},aUV C L m l es tm H n rc K=.ok y ->
    ∃ T R B Kk,T 0=⟨tm,H,n⟩/\K (T es.length).tm (T es.length).H (T es.length).n=.ok y/\Trace P L m l es T R B Kk/\Seen es T B Kk/\aWt rc es T B Kk
 | [],tm,H,n,rc,K,y,h=>⟨fun _=>⟨tm,H,n⟩,fun _=>.u,fun _=>true,fun _=>0,rfl,h,fun i e he=>by simp at he,fun i j e f _ he=>by simp at he,fun r _ j f hf=>by simp at hf⟩
 | e :: es,tm,H,n,rc,K,y,h=>by
   have h':(match a8R l tm e.o with
    | some b=>bif b then a9z C L m e tm H n rc (fun tm H n rc=>aUV C L m l es tm H n rc K) else aBf tm e.o.dst (.t []) fun tm=>aUV C L m l es tm H n rc K
    | none=>.bad 9 e.o.op)=.ok y:=h
   split at h' <;> try (cases h'; done)
   rename_i b hw
   cases b with
   | false =>
     simp only [cond_false] at h';obtain ⟨tm1,h1,hp⟩:=a4Z h';obtain ⟨T,R,B,Kk,t0,tk,tr,se,sr⟩:=aHw hL hC es h1;refine ⟨fun i=>Nat.casesOn i ⟨tm,H,n⟩ T,fun i=>Nat.casesOn i (.t []) R,fun i=>Nat.casesOn i false B,fun i=>Nat.casesOn i 0 Kk,rfl,tk,fun i e' he=>?_,fun i j e' f hij he hf hb hb' hm=>?_,fun r hr j f hf hb hm=>?_⟩
     ·cases i with
      | zero =>
        obtain rfl:e=e':=by simpa using he
        refine ⟨hw,?_,?_,?_⟩
        ·show aJL tm e.o.dst (.t []) (T 0).tm;rw [t0];exact hp
        ·intro h;cases h
        ·intro _;show KV.t []=.t []/\(T 0).H=H/\(T 0).n=n;rw [t0]
         exact ⟨rfl,rfl,rfl⟩
      | succ i=>exact tr i e' (by simpa using he)
     ·cases i with
      | zero=>cases hb
      | succ i =>
        cases j with
        | zero=>omega
        | succ j=>exact se i j e' f (by omega) (by simpa using he) (by simpa using hf) hb hb' hm
     ·cases j with
      | zero=>cases hb
      | succ j=>exact sr r hr j f (by simpa using hf) hb hm
   | true =>
     simp only [cond_true] at h'
     have fin:∀ (r:KV) (tm1:Fr KV) (H1:Hp Bx) (n1:Nat) (rc1:List Rc) (k0:Nat),aJL tm e.o.dst r tm1->aUQ P L m e ⟨tm,H,n⟩ ⟨tm1,H1,n1⟩ r k0->aUV C L m l es tm1 H1 n1 rc1 K=.ok y->(∀ r ∈ rc,r ∈ rc1) ->
         (e.k=1->∃ r ∈ rc1,r.i=e.i/\r.k=k0)->(e.k=2->∃ r ∈ rc1,r.i=e.i/\r.H=H/\r.H'=H1)->(e.k=3->∃ r ∈ rc1,r.i=e.i/\r.k=n) ->
         (∀ r ∈ rc,r.i ∈ e.ps->(e.k=1->r.H.get k0=r.H'.get k0)/\(e.k=2->H.get r.k=H1.get r.k)) ->
         ∃ T R B Kk,T 0=⟨tm,H,n⟩/\K (T (e :: es).length).tm (T (e :: es).length).H (T (e :: es).length).n=.ok y/\Trace P L m l (e :: es) T R B Kk/\Seen (e :: es) T B Kk/\aWt rc (e :: es) T B Kk:=fun r tm1 H1 n1 rc1 k0 hp hst hk hrc c1 c2 c3 hck=>by
      obtain ⟨T,R,B,Kk,t0,tk,tr,se,sr⟩:=aHw hL hC es hk;refine ⟨fun i=>Nat.casesOn i ⟨tm,H,n⟩ T,fun i=>Nat.casesOn i r R,fun i=>Nat.casesOn i true B,fun i=>Nat.casesOn i k0 Kk,rfl,tk,fun i e' he=>?_,fun i j e' f hij he hf hb hb' hm=>?_,fun q hq j f hf hb hm=>?_⟩
      ·cases i with
       | zero =>
         obtain rfl:e=e':=by simpa using he
         refine ⟨hw,?_,?_,?_⟩
         ·show aJL tm e.o.dst r (T 0).tm;rw [t0];exact hp
         ·intro _;show aUQ P L m e ⟨tm,H,n⟩ (T 0) r k0;rw [t0];exact hst
         ·intro h
          cases h
       | succ i=>exact tr i e' (by simpa using he)
      ·cases j with
       | zero=>omega
       | succ j =>
         have hf':es[j]?=some f:=by simpa using hf
         cases i with
         | zero =>
           obtain rfl:e=e':=by simpa using he
           show (f.k=1->e.k=2->H.get (Kk j)=(T 0).H.get (Kk j))/\(f.k=2->e.k=1->(T j).H.get k0=(T (j+1)).H.get k0)/\(f.k=2->e.k=3->(T j).H.get n=(T (j+1)).H.get n)
           rw [t0];refine ⟨fun q1 q2=>?_,fun q1 q2=>?_,fun q1 q2=>?_⟩
           ·obtain ⟨x,hx,g1,g2,g3⟩:=c2 q2;have:=(sr x hx j f hf' hb' (by rw [g1]; exact hm)).1 q1;rw [g2,g3] at this;exact this
           ·obtain ⟨x,hx,g1,g2⟩:=c1 q2;have:=(sr x hx j f hf' hb' (by rw [g1]; exact hm)).2 q1;rw [g2] at this;exact this
           ·obtain ⟨x,hx,g1,g2⟩:=c3 q2;have:=(sr x hx j f hf' hb' (by rw [g1]; exact hm)).2 q1;rw [g2] at this
            exact this
         | succ i=>exact se i j e' f (by omega) (by simpa using he) hf' hb hb' hm
      ·cases j with
       | zero =>
         obtain rfl:e=f:=by simpa using hf
         show (e.k=1->q.H.get k0=q.H'.get k0)/\(e.k=2->H.get q.k=(T 0).H.get q.k)
         rw [t0]
         exact hck q hq hm
       | succ j=>exact sr q (hrc q hq) j f (by simpa using hf) hb hm
     unfold a9z at h';split at h'
     ·rename_i hk;obtain ⟨r,hr,h1⟩:=aCI h';obtain ⟨tm1,h2,hp⟩:=a4Z h1;exact fin r tm1 H n rc 0 hp ⟨fun _=>⟨hr,rfl,rfl⟩,fun q=>by omega,fun q=>by omega,fun q=>by omega,fun q=>absurd hk q⟩ h2 (fun _ h=>h) (fun q=>by omega) (fun q=>by omega) (fun q=>by omega) (fun _ _ _=>⟨fun q=>by omega,fun q=>by omega⟩)
     ·rename_i hk
      split at h' <;> try (cases h'; done)
      rename_i k hkey
      cases hc:b3Z rc e.ps k with
      | false=>rw [hc] at h'; cases h'
      | true =>
        rw [hc] at h';simp only [cond_true] at h';obtain ⟨r,hr,h1⟩:=aCI h';obtain ⟨tm1,h2,hp⟩:=a4Z h1
        have hld:∃ T x,e.o.op=.load T x/\((∃ off,evO tm x=.k (.c (.p k off))) \/ ∃ v,evO tm x=.k (.c (.q v))):=by
         unfold b4o at hkey
         split at hkey <;> try (cases hkey; done)
         rename_i T x ho
         split at hkey <;> try (cases hkey; done)
         ·rename_i k' off hx;simp only [injEq] at hkey;subst hkey;exact ⟨T,x,ho,.inl ⟨off,hx⟩⟩
         ·rename_i v hx;exact ⟨T,x,ho,.inr ⟨v,hx⟩⟩
        exact fin r tm1 H n _ k hp ⟨fun q=>by omega,fun _=>⟨hld,hr,rfl,rfl⟩,fun q=>by omega,fun q=>by omega,fun _ q=>absurd hk q⟩ h2 (fun _ h=>mem_cons_of_mem _ h) (fun _=>⟨_,mem_cons_self ..,rfl,rfl⟩) (fun q=>by omega) (fun q=>by omega) (fun r hr hi=>⟨fun _=>aQX hc r hr hi,fun q=>by omega⟩)
     ·rename_i hk;obtain ⟨q,hq,hop⟩:=aNY (m:=m) hL hC h'
      cases hc:b2v rc e.ps H q.H with
      | false=>rw [hc] at hq; cases hq
      | true =>
        rw [hc] at hq;simp only [cond_true] at hq;obtain ⟨tm1,h2,hp⟩:=a4Z hq;exact fin q.r tm1 q.H q.n _ 0 hp ⟨fun q=>by omega,fun q=>by omega,fun q=>by omega,fun _=>hop,fun _ _ q=>absurd hk q⟩ h2 (fun _ h=>mem_cons_of_mem _ h) (fun q=>by omega) (fun _=>⟨_,mem_cons_self ..,rfl,rfl,rfl⟩) (fun q=>by omega) (fun r hr hi=>⟨fun q=>by omega,fun _=>aQW hc r hr hi⟩)
     ·rename_i hk
      split at h' <;> try (cases h'; done)
      ·rename_i Ty ho
       split at h' <;> try (cases h'; done)
       rename_i lz hlz;have h2:(Option.rec (.bad 33 e.o.op) (fun _=>aBf tm e.o.dst (.k (.c (.p n 0))) fun tm=>aUV C L m l es tm (H.put n (some ⟨Ty,lz.zero⟩)) (n+1) (⟨e.i,n,Hp.mk0,Hp.mk0⟩ :: rc) K) ((H.put n (some ⟨Ty,lz.zero⟩)).get n):Ans α)=.ok y:=h'
       cases hg:(H.put n (some ⟨Ty,lz.zero⟩)).get n with
       | none=>rw [hg] at h2; cases h2
       | some z =>
         rw [hg] at h2;obtain ⟨tm1,h2,hp⟩:=a4Z h2;exact fin _ tm1 _ _ _ 0 hp ⟨fun q=>by omega,fun q=>by omega,fun _=>⟨_,aTH hL hlz ho _ _,rfl,hg.trans (Hp.put_eq _ _ _ _ hg).symm,rfl⟩,fun q=>by omega,fun _ _ _ q=>absurd hk q⟩ h2 (fun _ h=>mem_cons_of_mem _ h) (fun q=>by omega) (fun q=>by omega) (fun _=>⟨_,mem_cons_self ..,rfl,rfl⟩) (fun r hr hi=>⟨fun q=>by omega,fun q=>by omega⟩)
      ·rename_i Ty c parts ho
       split at h' <;> try (cases h'; done)
       rename_i q hz;obtain ⟨tm1,h2,hp⟩:=a4Z h';exact fin q.r tm1 q.H q.n _ 0 hp ⟨fun q=>by omega,fun q=>by omega,fun _=>aPp hL ho hz,fun q=>by omega,fun _ _ _ q=>absurd hk q⟩ h2 (fun _ h=>mem_cons_of_mem _ h) (fun q=>by omega) (fun q=>by omega) (fun _=>⟨_,mem_cons_self ..,rfl,rfl⟩) (fun r hr hi=>⟨fun q=>by omega,fun q=>by omega⟩)
     ·rename_i h0 h1 h2 h3;obtain ⟨q,hq,hop⟩:=aNY (m:=n) hL hC h';obtain ⟨tm1,hz,hp⟩:=a4Z hq;exact fin q.r tm1 q.H q.n rc 0 hp ⟨fun q=>absurd q h0,fun q=>absurd q h1,fun q=>absurd q h3,fun q=>absurd q h2,fun _ _ _ _=>hop⟩ hz (fun _ h=>h) (fun q=>absurd q h1) (fun q=>absurd q h2) (fun q=>absurd q h3) (fun r hr hi=>⟨fun q=>absurd q h1,fun q=>absurd q h2⟩)
