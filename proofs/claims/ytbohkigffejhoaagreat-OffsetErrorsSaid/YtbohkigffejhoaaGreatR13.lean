import Derived.Test.YtbohkigffejhoaaGreatR12
import Derived.Great.BuildSlice
import Derived.Laws.AppendOwn
import Derived.Great.FillDense
open Array (length_toList toList_inj toList_map)
open Bool (and_eq_true or_eq_true)
open List (all_eq_true append_assoc flatMap_cons length_append length_set length_take map_cons mem_append mem_cons mem_cons_of_mem mem_cons_self mem_of_getElem? mem_singleton nil_append not_mem_nil zipIdx_cons)
open Nat (add_zero beq_eq ble_eq blt_eq le_refl lt_of_lt_of_le lt_or_ge succ_mul zero_add)
open Option.some (injEq)
namespace Go.Proofs.YtbohkigffejhoaaGreat
open Go.RowKit
namespace Vc
structure St where
 tm:List AV
 bx:List Bx
def a4u (s:St) (d:Option Nat) (x:AV):St :=
 match d with
 | some t=>{ s with tm:=s.tm.set t x }
 | none=>s
def evS (s:St):Operand->AV
 | .tmp t=>(s.tm[t]?).getD .u
 | .const (.int k n)=>.k (.c (.v (.int k n)))
 | .const (.bool b)=>.k (.c (.v (.bool b)))
 | .const (.string x)=>.k (.c (.v (.string x)))
 | .const (.slice none 0 0)=>.k (.c (.v (.slice none 0 0)))
 | _=>.u
inductive Sp:Type 1
 | no
 | yes (pre:Prop) (r:AV)
 | ex (α:Type) (pre:Prop) (φ:α->Prop) (r:α->AV)
structure Ctr where
 f:Nat
 sp:List AK->Sp
def aFN:List Ctr->Nat->Option Ctr
 | [],_=>none
 | l :: r,t=>bif Nat.beq l.f t then some l else aFN r t
theorem aAp:∀ {L:List Ctr} {t:Nat} {l:Ctr},aFN L t=some l->l ∈ L/\l.f=t
 | [],_,_,h=>by simp [aFN] at h
 | x :: r,t,l,h=>by
   unfold aFN at h
   cases hx:Nat.beq x.f t with
   | true =>
     rw [hx] at h;simp only [cond_true,injEq] at h;subst h
     exact ⟨mem_cons_self ..,by simpa using hx⟩
   | false =>
     rw [hx] at h;obtain ⟨h1,h2⟩:=aAp (L:=r) h;exact ⟨mem_cons_of_mem _ h1,h2⟩
def a1G (P:Program) (f:Nat):Bool :=
 match P.funcs[f]? with
 | some fn => !(fn.name == "runtime.NumGoroutine") && !fn.body.isNone
 | none=>false
theorem a5t {P:Program} {f:Nat} (h:a1G P f=true) (args:Array Value) (w:World):(callFunc f args).run P w=.ok (.enter f args) w:=by
 unfold a1G at h;split at h
 ·rename_i fn hf;simp only [and_eq_true,Bool.not_eq_true'] at h;unfold callFunc;rw [Sem.run_bind,run_program];simp only [Result.andThen_ok,hf,h.1,h.2];rfl
 ·cases h
def aXL (f:Nat):Option Nat:=bif Nat.beq f 107 then some 52 else none
structure CtrOK (P:Program) (c:Ctr):Prop where
 ent:a1G P c.f=true
 yes:∀ (bs:Bs) (w:World) (xs:List AK) (vs:List Value) (pre:Prop) (r:AV),relKs bs w xs vs->okB bs w=true->okF bs w=true->c.sp xs=.yes pre r->pre->Calls P c.f vs.toArray w fun e w'=>∃ v,e=.returned v/\Ext w w'/\relV bs w' r v
 ex:∀ (bs:Bs) (w:World) (xs:List AK) (vs:List Value) (α:Type) (pre:Prop) (φ:α->Prop) (r:α->AV),relKs bs w xs vs->okB bs w=true->okF bs w=true->c.sp xs=.ex α pre φ r->pre->Calls P c.f vs.toArray w fun e w'=>∃ v,e=.returned v/\Ext w w'/\∃ x,φ x/\relV bs w' (r x) v
 own:∀ T,aXL c.f=some T->∀ (bs:Bs) (w:World) (xs:List AK) (vs:List Value) (α:Type) (pre:Prop) (φ:α->Prop) (r:α->AV),relKs bs w xs vs->okB bs w=true->okF bs w=true->c.sp xs=.ex α pre φ r->pre->Calls P c.f vs.toArray w fun e w'=>∃ v,e=.returned v/\Ext w w'/\∃ x l ob,φ x/\r x=.k (.c (.rd .U false l))/\OwR (rel0 w') w.heap.size w' v T .U l ob
theorem CtrOK.of {P:Program} {c:Ctr} (h1:a1G P c.f=true) (h2:∀ (bs:Bs) (w:World) (xs:List AK) (vs:List Value) (pre:Prop) (r:AV),relKs bs w xs vs->okB bs w=true->okF bs w=true->c.sp xs=.yes pre r->pre->Calls P c.f vs.toArray w fun e w'=>∃ v,e=.returned v/\Ext w w'/\relV bs w' r v) (h3:∀ (xs:List AK) (α:Type) (pre:Prop) (φ:α->Prop) (r:α->AV),c.sp xs ≠ .ex α pre φ r):CtrOK P c :=
 ⟨h1,h2,fun _ _ _ _ _ _ _ _ _ _ _ h=>absurd h (h3 _ _ _ _ _),fun _ _ _ _ _ _ _ _ _ _ _ _ _ h=>absurd h (h3 _ _ _ _ _)⟩
def a5B (ev:Operand->AV):List Operand->Option (List AK)
 | []=>some []
 | x :: l =>
   match ev x,a5B ev l with
   | .k y,some r=>some (y :: r)
   | _,_=>none
theorem a5A {bs:Bs} {w:World} {ev:Operand->AV} {ρ:Operand->Value} (hev:∀ x,relV bs w (ev x) (ρ x)):∀ {l:List Operand} {r:List AK},a5B ev l=some r->relKs bs w r (l.map ρ)
 | [],r,h=>by simp only [a5B,injEq] at h; subst h; trivial
 | x :: l,r,h=>by
   unfold a5B at h;split at h
   ·rename_i y r' hx hl;simp only [injEq] at h;subst h;have hr:=hev x;rw [hx] at hr;exact ⟨hr,a5A hev hl⟩
   ·cases h
def aHf (C:List Ctr) (ev:Operand->AV) (c:Call):Sp :=
 match c.callee with
 | .value (.func f) =>
   match aFN C f,a5B ev c.args.toList with
   | some k,some xs=>k.sp xs
   | _,_=>.no
 | _=>.no
theorem aAX {C:List Ctr} {bs:Bs} {w:World} {ev:Operand->AV} {ρ:Operand->Value} (hev:∀ x,relV bs w (ev x) (ρ x)) {c:Call} (h:aHf C ev c ≠ .no):∃ k xs,k ∈ C/\c.callee=.value (.func k.f)/\aHf C ev c=k.sp xs/\relKs bs w xs (c.args.toList.map ρ):=by
 unfold aHf at h ⊢;split at h
 ·rename_i f hcal;split at h
  ·rename_i k xs hk ha;obtain ⟨hm,rfl⟩:=aAp hk;exact ⟨k,xs,hm,hcal,rfl,a5A hev ha⟩
  ·exact absurd rfl h
 ·exact absurd rfl h
theorem aAW {P:Program} {ρ:Operand->Value} (hρ:∀ f,ρ (.func f)=.func (.func f) #[] #[]) {o:Oper} {c:Call} (ho:o.op=.call c) {k:Nat} (hk:a1G P k=true) (hcal:c.callee=.value (.func k)) (w:World) :
    (execOp ρ o).run P w=.ok (.enter k (c.args.toList.map ρ).toArray) w:=by
 simp [execOp,ho,go_sem,hcal,hρ];rw [a5t hk];congr 2;rw [<- toList_inj];simp
theorem aAV {P:Program} {C:List Ctr} (hC:∀ c ∈ C,CtrOK P c) {bs:Bs} {w:World} (hA:okB bs w=true) (hG:okF bs w=true) {ev:Operand->AV} {ρ:Operand->Value} (hev:∀ x,relV bs w (ev x) (ρ x)) (hρ:∀ f,ρ (.func f)=.func (.func f) #[] #[]) {o:Oper} {c:Call} (ho:o.op=.call c) {pre:Prop} {r:AV}
    (h:aHf C ev c=.yes pre r) (hp:pre):∃ f args,(execOp ρ o).run P w=.ok (.enter f args) w/\Calls P f args w fun e w'=>∃ v,e=.returned v/\Ext w w'/\relV bs w' r v:=by
 obtain ⟨k,xs,hm,hcal,he,hr⟩:=aAX (C:=C) (c:=c) hev (by rw [h]; intro e; cases e);exact ⟨_,_,aAW hρ ho (hC k hm).ent hcal w,(hC k hm).yes bs w xs _ pre r hr hA hG (by rw [<- he,h]) hp⟩
theorem aUI {P:Program} {C:List Ctr} (hC:∀ c ∈ C,CtrOK P c) {bs:Bs} {w:World} (hA:okB bs w=true) (hG:okF bs w=true) {ev:Operand->AV} {ρ:Operand->Value} (hev:∀ x,relV bs w (ev x) (ρ x)) (hρ:∀ f,ρ (.func f)=.func (.func f) #[] #[]) {o:Oper} {c:Call} (ho:o.op=.call c) {α:Type} {pre:Prop} {φ:α->Prop} {r:α->AV}
    (h:aHf C ev c=.ex α pre φ r) (hp:pre):∃ f args,(execOp ρ o).run P w=.ok (.enter f args) w/\Calls P f args w fun e w'=>∃ v,e=.returned v/\Ext w w'/\∃ x,φ x/\relV bs w' (r x) v:=by
 obtain ⟨k,xs,hm,hcal,he,hr⟩:=aAX (C:=C) (c:=c) hev (by rw [h]; intro e; cases e);exact ⟨_,_,aAW hρ ho (hC k hm).ent hcal w,(hC k hm).ex bs w xs _ α pre φ r hr hA hG (by rw [<- he,h]) hp⟩
def aDt (c:Call):Option Nat :=
 match c.callee with
 | .value (.func f)=>aXL f
 | _=>none
theorem aSb {P:Program} {C:List Ctr} (hC:∀ c ∈ C,CtrOK P c) {bs:Bs} {w:World} (hA:okB bs w=true) (hG:okF bs w=true) {ev:Operand->AV} {ρ:Operand->Value} (hev:∀ x,relV bs w (ev x) (ρ x)) (hρ:∀ f,ρ (.func f)=.func (.func f) #[] #[]) {o:Oper} {c:Call} (ho:o.op=.call c) {α:Type} {pre:Prop} {φ:α->Prop} {r:α->AV}
    (h:aHf C ev c=.ex α pre φ r) (hp:pre) {T:Nat} (hT:aDt c=some T):∃ f args,(execOp ρ o).run P w=.ok (.enter f args) w/\Calls P f args w fun e w'=>∃ v,e=.returned v/\Ext w w'/\∃ x l ob,φ x/\r x=.k (.c (.rd .U false l))/\OwR (rel0 w') w.heap.size w' v T .U l ob:=by
 obtain ⟨k,xs,hm,hcal,he,hr⟩:=aAX (C:=C) (c:=c) hev (by rw [h]; intro e; cases e)
 have hT':aXL k.f=some T:=by
  unfold aDt at hT;rw [hcal] at hT;exact hT
 exact ⟨_,_,aAW hρ ho (hC k hm).ent hcal w,(hC k hm).own T hT' bs w xs _ α pre φ r hr hA hG (by rw [<- he,h]) hp⟩
def aVe (ev:Operand->AV):List (Nat × Operand)->Nat->Option (List Int)
 | [],_=>some []
 | (i,x) :: r,n =>
   match ev x,aVe ev r (n+1) with
   | .k (.c (.v (.int .u32 z))),some l=>bif Nat.beq i n then some (z :: l) else none
   | _,_=>none
def a8u (L:List Lay) (ev:Operand->AV):Op->Option (Option Prop × AV)
 | .call c =>
   match c.callee,c.args.toList,c.argTypes.toList with
   | .builtin .append,[.const (.slice none 0 0),x],[T,U] =>
     match ev x,a09 L T with
     | .k (.c (.sl l)),some y=>bif Nat.beq y.kd 2 && Nat.beq T U then some (some (l.length <= 1000000000),.k (.c (.sl l))) else none
     | _,_=>none
   | _,_,_=>none
 | .buildSlice T n parts =>
   match a09 L T,aVe ev parts.toList 0 with
   | some y,some l=>bif Nat.beq y.kd 2 && Nat.beq l.length n && Nat.ble n 1000 && Nat.ble 1 n then some (some (∀ z ∈ l,0 <= z),.k (.c (.sl (l.map Int.toNat)))) else none
   | _,_=>none
 | _=>none
theorem aKC {bs:Bs} {w:World} {ev:Operand->AV} {ρ:Operand->Value} (hev:∀ x,relV bs w (ev x) (ρ x)):∀ {parts:List (Nat × Operand)} {n:Nat} {l:List Int},aVe ev parts n=some l->parts.map (fun (i,x)=>(i,ρ x))=((l.map (Value.int .u32)).zipIdx n).map fun x=>(x.2,x.1)
 | [],n,l,h=>by simp only [aVe,injEq] at h; subst h; rfl
 | (i,x) :: r,n,l,h=>by
   unfold aVe at h;split at h
   ·rename_i z l' hx hl
    cases hb:Nat.beq i n with
    | false=>rw [hb] at h; simp at h
    | true =>
      rw [hb] at h;simp only [cond_true,injEq] at h;subst h;have hr:=hev x;rw [hx] at hr;obtain ⟨e1,_⟩:=hr
      have hi:i=n:=by simpa using hb
      have ih:=aKC hev (n:=n+1) hl;simp only [map_cons,zipIdx_cons,e1,hi];rw [ih]
   ·cases h
theorem aOy {w:World} {cs:Array Value} {T:TypeId} {l:List Nat} {n cap:Nat} (hn:n=l.length) (hc:n <= cap) (h:∀ i (hi:i < l.length),cs[i]?=some (.int .u32 (l[i]:Int))):SlU (w.alloc (.cells cs T)) (.slice (some ⟨w.heap.size,0,none⟩) n cap) l:=by
 refine SlU.mk hn hc (fun _=>by simp) (fun i hi=>?_)
 have hb:(w.alloc (.cells cs T)).heap[w.heap.size]?=some (.cells cs T (0,0)):=by unfold World.alloc; simp
 rw [Lib.cell_of_heap hb,zero_add];exact h i hi
theorem a5g {P:Program} {L:List Lay} (hL:∀ l ∈ L,a1I P l) {bs:Bs} {w:World} {ev:Operand->AV} {ρ:Operand->Value} (hev:∀ x,relV bs w (ev x) (ρ x)) (hρ:∀ v,ρ (.const v)=v) {o:Oper} {pre:Option Prop} {r:AV}
    (h:a8u L ev o.op=some (pre,r)) (hp:due pre):∃ v w',(execOp ρ o).run P w=.ok (.value v) w'/\Ext w w'/\relV bs w' r v:=by
 cases hop:o.op with
 | call c =>
   rw [hop] at h;simp only [a8u] at h;split at h
   ·rename_i x T U hcal hargs htys;split at h
    ·rename_i l y hx hl
     cases hkd:(Nat.beq y.kd 2 && Nat.beq T U) with
     | false=>rw [hkd] at h; simp at h
     | true =>
       rw [hkd] at h;simp only [cond_true,injEq,Prod.mk.injEq] at h;obtain ⟨rfl,rfl⟩:=h;simp only [and_eq_true,beq_eq] at hkd;obtain ⟨hk2,rfl⟩:=hkd;have hr:=hev x;rw [hx] at hr;obtain ⟨hm,rfl⟩:=a0c hl;obtain ⟨e,ie,z,hu,hi,hsz,hz,hzc,hby⟩:=(hL y hm).slice hk2;simp only [due] at hp
       have hargs':c.args=#[.const (.slice none 0 0),x]:=by rw [<- toList_inj]; simpa using hargs
       have htys':c.argTypes=#[y.t,y.t]:=by rw [<- toList_inj]; simpa using htys
       have hrun:∀ v w',(Builtin.append_ #[y.t,y.t] o.type #[.slice none 0 0,ρ x]).run P w=.ok v w'->(execOp ρ o).run P w=.ok (.value v) w':=fun v w' hq=>by
        have e1:execOp ρ o=(do pure (Next.value (<- Builtin.append_ c.argTypes o.type (c.args.map ρ)))):=by
         unfold execOp;rw [hop];simp only [resolve,hcal];rfl
        have em:(#[Operand.const (.slice none 0 0),x]:Array Operand).map ρ=#[.slice none 0 0,ρ x]:=by simp [hρ]
        rw [e1,htys',hargs',em];exact a0O hq
       have hr':SlU w (ρ x) l:=hr.1
       rcases hr'.cases with ⟨rfl,a,cap,hv,_⟩ | ⟨h0,b,off,cap,hv,hcap,hb,hcell⟩
       ·refine ⟨.slice none 0 0,w,hrun _ _ ?_,Ext.refl w,SlU.nil w,trivial⟩;rw [hv];cases a <;> simp [Builtin.append_,run_underlying hu,sizeOf,typeInfo,hi,Builtin.lenOf,Builtin.firstCells,loadCells,loadCellsFrom]
       ·have:=run_append_nil (P:=P) w y.t o.type e ie z hu hi hz ⟨b,off,none⟩ l.length cap (l.map uV) (by rw [hsz]; simp) (fun j v hj=>by
            rw [a1b]
            have hj':j < l.length:=by
             rcases lt_or_ge j l.length with h' | h'
             ·exact h'
             ·rw [List.getElem?_eq_none (by simpa using h')] at hj; cases hj
            rw [hcell j hj']
            simpa [uV,hj'] using hj) h0 (by omega) (by rw [hby]; omega)
        refine ⟨_,_,hrun _ _ (by rw [hv]; exact this),((Ext.refl w).drew).alloc _,?_⟩;refine ⟨aOy (w:=w.drew) rfl (grownCap_ge w l.length 0 e) (fun i hi'=>?_),trivial⟩;rw [Array.getElem?_append_left (by simpa using hi')];simp [uV,hi']
    ·cases h
   ·cases h
 | buildSlice T n parts =>
   rw [hop] at h;simp only [a8u] at h;split at h
   ·rename_i y l hl hn
    cases hkd:(Nat.beq y.kd 2 && Nat.beq l.length n && Nat.ble n 1000 && Nat.ble 1 n) with
    | false=>rw [hkd] at h; simp at h
    | true =>
      rw [hkd] at h;simp only [cond_true,injEq,Prod.mk.injEq] at h;obtain ⟨rfl,rfl⟩:=h;simp only [and_eq_true,beq_eq,ble_eq] at hkd;obtain ⟨⟨⟨hk2,hlen⟩,hle⟩,h0⟩:=hkd;obtain ⟨hm,rfl⟩:=a0c hl;obtain ⟨e,ie,z,hu,hi,hsz,hz,hzc,hby⟩:=(hL y hm).slice hk2;simp only [due] at hp
      ·have hrun:=run_buildSlice (P:=P) w y.t e n (parts.map fun (i,x)=>(i,ρ x)) (l.map (Value.int .u32)).toArray ie z hu hi hz (by rw [hsz]; omega) (by rw [hsz]; omega) (by
        rw [hsz];have:=aKC hev (n:=0) hn;rw [toList_map,this]
        exact Great.fill_flat _ _ (fun v hv=>by obtain ⟨n,_,rfl⟩:=List.mem_map.1 hv; rfl) (by simp [hlen]))
       have hr2:(execOp ρ o).run P w=.ok (.value (.slice (some ⟨w.heap.size,0,none⟩) n n)) (w.alloc (.cells (l.map (Value.int .u32)).toArray e)):=by
        unfold execOp;rw [hop];exact a0O hrun
       refine ⟨_,_,hr2,(Ext.refl w).alloc _,?_⟩
       ·refine ⟨aOy (by simp [hlen]) (le_refl _) (fun i hi'=>?_),trivial⟩;simp at hi';have hz':=hp l[i] (List.getElem_mem hi');simp [hi'];omega
   ·cases h
 | _=>rw [hop] at h; simp [a8u] at h
def aFg (ev:Operand->AV):List (Nat × Operand)->Nat->Option (List AK)
 | [],_=>some []
 | (i,x) :: r,n =>
   match ev x,aFg ev r (n+1) with
   | .k y,some l=>bif Nat.beq i n then some (y :: l) else none
   | _,_=>none
def b0k (sz:Nat):List AK->Bool
 | []=>true
 | y :: l=>Nat.beq (wid y.cells) sz && a3x y.cells && b0k sz l
def b0h:List AK->List AC
 | []=>[]
 | y :: l=>y.cells ++ b0h l
def aHg (L:List Lay) (ev:Operand->AV) (T n:Nat) (parts:Array (Nat × Operand)):Option Bx :=
 match a09 L T with
 | some y =>
   match a09 L y.el,aFg ev parts.toList 0 with
   | some e,some l=>bif Nat.beq y.kd 10 && Nat.beq l.length n && Nat.ble n 1000 && Nat.ble 1 n && Nat.ble e.size 100 && Nat.ble 1 e.size && b0k e.size l then some ⟨y.el,b0h l⟩ else none
   | _,_=>none
 | none=>none
theorem aB5 {bs:Bs} {w:World} {ev:Operand->AV} {ρ:Operand->Value} (hev:∀ x,relV bs w (ev x) (ρ x)):∀ {parts:List (Nat × Operand)} {n:Nat} {l:List AK},aFg ev parts n=some l->∃ vs:List Value,relKs bs w l vs/\parts.map (fun (i,x)=>(i,ρ x))=(vs.zipIdx n).map fun x=>(x.2,x.1)
 | [],n,l,h=>by simp only [aFg,injEq] at h; subst h; exact ⟨[],trivial,rfl⟩
 | (i,x) :: r,n,l,h=>by
   unfold aFg at h;split at h
   ·rename_i y l' hx hl
    cases hb:Nat.beq i n with
    | false=>rw [hb] at h; simp at h
    | true =>
      rw [hb] at h;simp only [cond_true,injEq] at h;subst h;have hr:=hev x;rw [hx] at hr
      have hi:i=n:=by simpa using hb
      obtain ⟨vs,h1,h2⟩:=aB5 hev (n:=n+1) hl;refine ⟨ρ x :: vs,⟨hr,h1⟩,?_⟩;simp only [map_cons,zipIdx_cons,hi];rw [h2]
   ·cases h
theorem aLZ {bs:Bs} {w:World} {sz:Nat}:∀ {l:List AK} {vs:List Value},b0k sz l=true->relKs bs w l vs->(∀ v ∈ vs,v.cells.size=sz)/\relL bs w (a0d (b0h l)) (vs.flatMap fun v=>v.cells.toList)/\a3x (b0h l)=true
 | [],[],_,_=>⟨fun v hv=>(by cases hv),trivial,rfl⟩
 | y :: l,v :: vs,h,k=>by
   simp only [b0k,and_eq_true,beq_eq] at h;obtain ⟨⟨h1,h2⟩,h3⟩:=h;obtain ⟨g1,g2,g3⟩:=aLZ h3 k.2;have hc:=a2J k.1;have hlen:=hc.len;rw [a2E,h1] at hlen;refine ⟨fun u hu=>?_,?_,?_⟩
   ·rcases mem_cons.1 hu with rfl | hu
    ·rw [hlen]; simp
    ·exact g1 u hu
   ·rw [b0h,a0I,flatMap_cons];exact hc.append g2
   ·rw [b0h]
    have:∀ a b:List AC,a3x a=true->a3x b=true->a3x (a ++ b)=true:=by
     intro a b
     induction a with
     | nil=>intro _ hb; exact hb
     | cons x a ih =>
       intro ha hb;simp only [a3x,and_eq_true,List.cons_append] at ha ⊢;exact ⟨ha.1,ih ha.2 hb⟩
    exact this _ _ h2 g3
 | [],_ :: _,_,k=>k.elim
 | _ :: _,[],_,k=>k.elim
theorem a8P {P:Program} {L:List Lay} (hL:∀ l ∈ L,a1I P l) {bs:Bs} {w:World} {ev:Operand->AV} {ρ:Operand->Value} (hev:∀ x,relV bs w (ev x) (ρ x)) {o:Oper} {T n:Nat} {parts:Array (Nat × Operand)} (ho:o.op=.buildSlice T n parts) {b:Bx}
    (h:aHg L ev T n parts=some b):∃ vs:List Value,(execOp ρ o).run P w=.ok (.value (.slice (some ⟨w.heap.size,0,none⟩) n n)) (w.alloc (.cells vs.toArray b.T))/\relL bs w (a0d b.cs) vs/\a3x b.cs=true:=by
 unfold aHg at h
 split at h <;> try (cases h; done)
 rename_i y hy
 split at h <;> try (cases h; done)
 rename_i e l he hl
 cases hc:(Nat.beq y.kd 10 && Nat.beq l.length n && Nat.ble n 1000 && Nat.ble 1 n && Nat.ble e.size 100 && Nat.ble 1 e.size && b0k e.size l) with
 | false=>rw [hc] at h; simp at h
 | true =>
   rw [hc] at h;simp only [cond_true,injEq] at h;subst h;simp only [and_eq_true,beq_eq,ble_eq] at hc;obtain ⟨⟨⟨⟨⟨⟨h1,h2⟩,h3⟩,h4⟩,h5⟩,h6⟩,h7⟩:=hc;obtain ⟨hm,rfl⟩:=a0c hy;obtain ⟨hme,het⟩:=a0c he;have hu:=(hL y hm).sl10 h1;have hsz:=(hL e hme).size;obtain ⟨i,z,hi,hz,_⟩:=(hL e hme).zero;rw [het] at hsz hi
   have hs:i.size=e.size:=by rw [hi] at hsz; simpa using hsz
   obtain ⟨vs,k1,k2⟩:=aB5 hev (n:=0) hl;obtain ⟨g1,g2,g3⟩:=aLZ h7 k1;have hvl:=k1.len;have hle:n*e.size <= 1000*100:=Nat.mul_le_mul h3 h5;have hp:1*1 <= n*e.size:=Nat.mul_le_mul h4 h6;refine ⟨vs.flatMap fun v=>v.cells.toList,?_,g2,g3⟩
   have hrun:=run_buildSlice (P:=P) w y.t y.el n (parts.map fun (i,x)=>(i,ρ x)) (vs.flatMap fun v=>v.cells.toList).toArray i z hu hi hz (by rw [hs]; omega) (by rw [hs]; omega) (by
    rw [hs,toList_map,k2]
    exact Great.fill_whole (by omega) _ _ g1 (by simp; rw [<- hvl,h2]))
   unfold execOp;rw [ho];exact a0O hrun
def a9Y (s:Sc) (ev:Operand->AV):List (Nat × Operand)->Nat->Option (Prop × List s.T)
 | [],_=>some (True,[])
 | (i,x) :: r,n =>
   match ev x,a9Y s ev r (n+1) with
   | .k (.g cs),some (q,l) =>
     match b04 s cs with
     | some (p,y)=>bif Nat.beq i n then some (p/\q,y :: l) else none
     | none=>none
   | _,_=>none
structure Lit where
 T:Nat
 s:Sc
 p:Prop
 l:List s.T
def b2L (L:List Lay) (ev:Operand->AV) (T n:Nat) (parts:Array (Nat × Operand)):Option Lit :=
 match a09 L T with
 | some y =>
   match aTj y.kd with
   | some s =>
     match a9Y s ev parts.toList 0 with
     | some (p,l)=>bif Nat.beq parts.size n && Nat.ble n 1000 then some ⟨y.el,s,p,l⟩ else none
     | none=>none
   | none=>none
 | none=>none
def b4u (n:Nat) (s:Sc) (i:Nat) (x:s.T) (y:AV):AV :=
 match y with
 | .k (.c (.ow m t s' l))=>bif Nat.beq m n then (match aUz s' s [x] with | some [x']=>.k (.c (.ow m t s' (l.set i x'))) | _=>.u) else .k (.c (.ow m t s' l))
 | .k (.c (.oe m t s' l j))=>bif Nat.beq m n then (match aUz s' s [x] with | some [x']=>.k (.c (.oe m t s' (l.set i x') j)) | _=>.u) else .k (.c (.oe m t s' l j))
 | y=>a6C (some n) y
def aTh (n:Nat) (s:Sc) (i:Nat) (x:s.T):List AV->List AV
 | []=>[]
 | y :: l=>b4u n s i x y :: aTh n s i x l
def frzA:List Operand->St->St
 | [],s=>s
 | x :: r,s =>
   match evS s x with
   | .k (.c (.ow n _ _ _))=>frzA r { s with tm:=aSJ n s.tm }
   | .k (.c (.os n _ _))=>frzA r { s with tm:=aSJ n s.tm }
   | _=>frzA r s
def adopt (T:Option Nat) (tm:List AV) (x:AV):AV :=
 match T with
 | none=>x
 | some T =>
   match x with
   | .k (.c (.rd .U false l))=>.k (.c (.ow (idT tm) T .U l))
   | _=>.u
def aop (L:List Lay) (C:List Ctr) (o:Oper) (s:St) (K:St->Prop):Prop :=
 match o.guard,o.op with
 | some _,_=>False
 | none,.store T a x =>
   match evS s a,evS s x,a09 L T with
   | .k (.c (.bx i off)),.k y,some l =>
     match s.bx[i]? with
     | some b =>
       bif Nat.beq (wid y.cells) l.size && a3x y.cells && Nat.ble (off+l.size) (wid b.cs) then
        match upd 99 b.cs off l.size (wid b.cs) y.cells with
        | some cs=>K (a4u { s with bx:=s.bx.set i ⟨b.T,cs⟩ } o.dst .u)
        | none=>False
       else False
     | none=>False
   | .k (.c (.oe n _ sh _ i)),.k (.g cs),some l =>
     match b04 sh cs with
     | some (p,x)=>bif Nat.beq l.size sh.k then p/\K (a4u { s with tm:=aTh n sh i x s.tm } o.dst .u) else False
     | none=>False
   | _,_,_=>False
 | none,.alloc T =>
   match a09 L T with
   | some l=>bif Nat.beq l.kd 5 then False else K (a4u { s with bx:=s.bx ++ [⟨T,l.zero⟩] } o.dst (.k (.c (.bx s.bx.length 0))))
   | none=>False
 | none,.box T x =>
   match evS s x with
   | .k y=>bif a3x y.cells then K (a4u { s with bx:=s.bx ++ [⟨T,y.cells⟩] } o.dst (.k (.c (.bx s.bx.length 0)))) else False
   | _=>False
 | none,.call c =>
   match a2g L s.bx (evS s) (.call c),a8u L (evS s) (.call c) with
   | some (none,r),_=>K (a4u s o.dst r)
   | some (some p,r),_=>p/\K (a4u s o.dst r)
   | none,some (none,r)=>K (a4u s o.dst r)
   | none,some (some p,r)=>p/\K (a4u s o.dst r)
   | none,none =>
     match b40 L (evS s) c with
     | some q=>(q.l.length+q.r.length <= 10000000)/\K (a4u { s with tm:=a5a q.n s.tm } o.dst (.k (.c (.ow (idT (a5a q.n s.tm)) q.T q.s (q.l ++ q.r)))))
     | none =>
       match aHf C (evS (frzA c.args.toList s)) c with
       | .yes pre r=>pre/\K (a4u (frzA c.args.toList s) o.dst r)
       | .ex α pre φ r=>pre/\∀ x:α,φ x->K (a4u (frzA c.args.toList s) o.dst (adopt (aDt c) (frzA c.args.toList s).tm (r x)))
       | .no=>False
 | none,.buildSlice T n parts =>
   match a8u L (evS s) (.buildSlice T n parts) with
   | some (none,r)=>K (a4u s o.dst r)
   | some (some p,r)=>p/\K (a4u s o.dst r)
   | none =>
     match b2L L (evS s) T n parts with
     | some q=>q.p/\K (a4u s o.dst (.k (.c (.ow (idT s.tm) q.T q.s q.l))))
     | none =>
       match aHg L (evS s) T n parts with
       | some b=>K (a4u { s with bx:=s.bx ++ [b] } o.dst (.k (.c (.ba s.bx.length n))))
       | none=>False
 | none,op =>
   match a2g L s.bx (evS s) op with
   | some (none,r)=>K (a4u s o.dst r)
   | some (some p,r)=>p/\K (a4u s o.dst r)
   | none=>False
def aZm (L:List Lay) (C:List Ctr):List Oper->St->(St->Prop)->Prop
 | [],s,K=>K s
 | o :: r,s,K=>aop L C o s fun s'=>aZm L C r s' K
structure Rl (w0:World) (F:List (Option Nat)) (bs:Bs) (s:St) (a:Act) (w:World):Prop where
 ext:Ext w0 w
 lo:bs.lo=w0.heap.size
 fbe:bs.fb=F
 fbb:∀ b,some b ∈ F->b < w0.heap.size
 own:OwOK bs w
 nd:bs.l.Nodup
 len:bs.l.length=s.bx.length
 box:BoxesAt bs w0.heap.size w s.bx
 bnd:∀ b ∈ bs.l,b < w.heap.size
 tmp:∀ (t:Nat) (x:AV),s.tm[t]?=some x->relV bs w x (a.tmps.getD t undef)
 tl:s.tm.length=a.tmps.size
 dfr:a.defers=[]
section
variable {P:Program} {L:List Lay} {C:List Ctr} {w0 w:World} {F:List (Option Nat)} {bs:Bs} {s:St} {a:Act}
theorem Rl.okB (h:Rl w0 F bs s a w):okB bs w=true:=by
 simp only [Vc.okB,and_eq_true,all_eq_true];refine ⟨fun b hb=>by simpa using h.bnd b hb,fun o ho=>?_⟩
 cases o with
 | none=>rfl
 | some b =>
   obtain ⟨n,hn⟩:=List.getElem?_of_mem ho;simpa using (h.own n b hn).2.1
theorem Rl.okF (h:Rl w0 F bs s a w) (hz:none ∉ F):okF bs w=true:=by
 simp only [Vc.okF,all_eq_true];intro o ho;rw [h.fbe] at ho
 cases o with
 | none=>exact absurd ho hz
 | some b =>
   have:=h.fbb b ho;have:=h.ext.size;simp only [blt_eq];omega
theorem Rl.fb (h:Rl w0 F bs s a w):∀ b,some b ∈ bs.fb->b < bs.lo:=fun b hb=>by
 rw [h.fbe] at hb;rw [h.lo];exact h.fbb b hb
theorem Rl.ev (h:Rl w0 F bs s a w):∀ x,relV bs w (evS s x) (a.eval x)
 | .tmp t=>by
   simp only [evS]
   cases ht:s.tm[t]? with
   | none=>trivial
   | some x=>exact h.tmp t x ht
 | .const v=>by
   unfold evS;split
   all_goals first | trivial | exact ⟨rfl,rfl⟩ | (rename_i e; cases e; exact ⟨rfl,rfl⟩) | (rename_i e; cases e)
 | .global _=>trivial
 | .func _=>trivial
theorem Rl.put (h:Rl w0 F bs s a w) {r:AV} {v:Value} (hv:relV bs w r v) (d:Option Nat):Rl w0 F bs (a4u s d r) (a.put d v) w:=by
 cases d with
 | none=>exact h
 | some t =>
   refine ⟨h.ext,h.lo,h.fbe,h.fbb,h.own,h.nd,h.len,h.box,h.bnd,fun t' x hx=>?_,by simp [a4u,Act.put,h.tl],h.dfr⟩;simp only [a4u] at hx;simp only [Act.put];rw [List.getElem?_set] at hx;split at hx
   ·rename_i e;subst e;split at hx
    ·rename_i hlt
     obtain rfl:r=x:=by simpa using hx
     have:t < a.tmps.size:=by rw [<- h.tl]; exact hlt
     simp [Array.getD,this];exact hv
    ·cases hx
   ·rename_i e;have:=h.tmp t' x hx
    have e2:(a.tmps.setIfInBounds t v).getD t' undef=a.tmps.getD t' undef:=by
     simp only [Array.getD_eq_getD_getElem?];rw [Array.getElem?_setIfInBounds_ne (by simpa using e)]
    rw [e2]; exact this
theorem OwOK.later (h:OwOK bs w) {w':World} (hs:w.heap.size <= w'.heap.size):OwOK bs w':=fun n b hn=>by
 obtain ⟨h1,h2,h3,h4⟩:=h n b hn;exact ⟨h1,lt_of_lt_of_le h2 hs,h3,h4⟩
theorem OwOK.more (h:OwOK bs w) {l:List Nat} (hl:∀ b ∈ l,w.heap.size <= b) {w':World} (hs:w.heap.size <= w'.heap.size):OwOK (bs.more l) w':=fun n b hn=>by
 obtain ⟨h1,h2,h3,h4⟩:=h n b hn;refine ⟨h1,lt_of_lt_of_le h2 hs,fun hm=>?_,h4⟩;rcases mem_append.1 hm with hm | hm
 ·exact h3 hm
 ·have:=hl b hm;omega
theorem Rl.later (h:Rl w0 F bs s a w) {w':World} (he:Ext w w'):Rl w0 F bs s a w' :=
 ⟨h.ext.trans he,h.lo,h.fbe,h.fbb,h.own.later he.size,h.nd,h.len,h.box.ext he h.okB,fun b hb=>lt_of_lt_of_le (h.bnd b hb) he.size,fun t x hx=>Keep.relV (Keep.ext he h.okB) (h.tmp t x hx),h.tl,h.dfr⟩
theorem Rl.re (h:Rl w0 F bs s a w) {d:Nat->Bool} {bs':Bs} {tm:List AV} {w':World} (hk:KeepD d bs bs' w w') (hx:Ext w0 w') (hs:w.heap.size <= w'.heap.size) (hl:bs'.l=bs.l) (hf:bs'.fb=bs.fb) (ho:OwOK bs' w') (hb:∀ b ∈ bs.l,w'.heap[b]?=w.heap[b]?) (hlen:tm.length=s.tm.length)
    (ht:∀ (t:Nat) (x:AV),tm[t]?=some x->relV bs' w' x (a.tmps.getD t undef)):Rl w0 F bs' { s with tm:=tm } a w':=by
 refine ⟨hx,by rw [hk.lo,h.lo],by rw [hf,h.fbe],h.fbb,ho,by rw [hl]; exact h.nd,by rw [hl]; exact h.len,fun i b x h1 h2=>?_,fun b hm=>lt_of_lt_of_le (h.bnd b (by rw [<- hl]; exact hm)) hs,ht,by rw [<- h.tl]; exact hlen,h.dfr⟩;rw [hl] at h1;obtain ⟨g1,vs,g2,g3,g4⟩:=h.box i b x h1 h2;exact ⟨g1,vs,by rw [hb b (mem_of_getElem? h1)]; exact g2,hk.relL0 (a7Y (aBZ d g4.2)) g3,g4⟩
theorem Rl.new (h:Rl w0 F bs s a w) {cs:List AC} {vs:List Value} (hr:relL bs w (a0d cs) vs) (hs:a3x cs=true) (T:Nat) :
    Rl w0 F (bs.more [w.heap.size]) { s with bx:=s.bx ++ [⟨T,cs⟩] } a (w.alloc (.cells vs.toArray T)):=by
 have he:Ext w (w.alloc (.cells vs.toArray T)):=(Ext.refl w).alloc _;have hk:Keep bs (bs.more [w.heap.size]) w (w.alloc (.cells vs.toArray T)):=Keep.moreE he h.okB _ (fun b hb=>by simp at hb; omega);have he1:w.heap.size <= (w.alloc (.cells vs.toArray T)).heap.size:=he.size;refine ⟨h.ext.trans he,h.lo,h.fbe,h.fbb,h.own.more (fun b hb=>by simp at hb; omega) he1,?_,by simp [h.len],fun i b x h1 h2=>?_,fun b hb=>?_,fun t x hx=>Keep.relV hk (h.tmp t x hx),h.tl,h.dfr⟩
 ·rw [List.nodup_append];refine ⟨h.nd,by simp,fun x hx y hy=>?_⟩;simp only [mem_singleton] at hy;have:=h.bnd x hx;omega
 ·rcases lt_or_ge i bs.l.length with hi | hi
  ·rw [List.getElem?_append_left hi] at h1;rw [List.getElem?_append_left (by rw [<- h.len]; exact hi)] at h2;obtain ⟨g1,us,g2,g3,g4⟩:=h.box i b x h1 h2;exact ⟨g1,us,a3t g2 he,Keep.relL hk g3,g4⟩
  ·have hi2:i=bs.l.length:=by
    have:i < (bs.l ++ [w.heap.size]).length:=by
     rcases lt_or_ge i (bs.l ++ [w.heap.size]).length with h' | h'
     ·exact h'
     ·rw [List.getElem?_eq_none h'] at h1; cases h1
    simp at this;omega
   subst hi2
   have e1:b=w.heap.size:=by simpa using h1.symm
   have e2:x=⟨T,cs⟩:=by rw [h.len] at h2; simpa using h2.symm
   subst e1 e2;refine ⟨h.ext.size,vs,by unfold World.alloc; simp,Keep.relL hk hr,a4B (a3K hs) hr,a3J _ hs⟩
 ·rcases mem_append.1 hb with hb | hb
  ·exact lt_of_lt_of_le (h.bnd b hb) he.size
  ·simp only [mem_singleton] at hb;subst hb;simp
theorem a4m {w0:World} {g:Nat} (hg:w0.heap.size <= g):∀ (us:List Value) (o:Nat) {w:World},Ext w0 w->Ext w0 (w.setCells g o us)
 | [],_,_,h=>h
 | u :: us,o,_,h=>a4m hg us (o+1) (h.setCell hg u)
theorem aPg {l:List Nat} (h:l.Nodup) {i j c:Nat} (hi:l[i]?=some c) (hj:l[j]?=some c):i=j:=by
 obtain ⟨hi',e1⟩:=List.getElem?_eq_some_iff.1 hi;obtain ⟨hj',e2⟩:=List.getElem?_eq_some_iff.1 hj;rcases Nat.lt_trichotomy i j with h' | h' | h'
 ·exact absurd (e1.trans e2.symm) (List.pairwise_iff_getElem.1 h i j hi' hj' h')
 ·exact h'
 ·exact absurd (e2.trans e1.symm) (List.pairwise_iff_getElem.1 h j i hj' hi' h')
theorem a1R (b:Nat):∀ (vs:List Value) (o:Nat) (w:World) (cur:List Value) (T:TypeId),w.heap[b]?=some (.cells cur.toArray T (0,0))->o+vs.length <= cur.length ->
    (w.setCells b o vs).heap[b]?=some (.cells (cur.take o ++ vs ++ cur.drop (o+vs.length)).toArray T (0,0))/\(w.setCells b o vs).heap.size=w.heap.size/\∀ k,k ≠ b->(w.setCells b o vs).heap[k]?=w.heap[k]?
 | [],o,w,cur,T,h,_=>by
   simp only [List.append_nil,List.length_nil,add_zero,List.take_append_drop]
   exact ⟨h,rfl,fun _ _=>rfl⟩
 | v :: vs,o,w,cur,T,h,hl=>by
   simp only [List.length_cons] at hl;simp only [World.setCells]
   have h1:(w.setCell ⟨b,o,none⟩ v).heap[b]?=some (.cells (cur.set o v).toArray T (0,0)):=by
    rw [heap_setCell_same w b o _ _ v h]; simp
   obtain ⟨g1,g2,g3⟩:=a1R b vs (o+1) (w.setCell ⟨b,o,none⟩ v) (cur.set o v) T h1 (by simp; omega);refine ⟨?_,by rw [g2]; simp [World.setCell],fun k hk=>?_⟩
   ·rw [g1]
    have hlt:o < cur.length:=by omega
    have e1:(cur.set o v).take (o+1)=cur.take o ++ [v]:=by
     rw [List.take_succ_eq_append_getElem (by simpa using hlt),List.take_set_of_le (by omega)];simp
    have e2:(cur.set o v).drop (o+1+vs.length)=cur.drop (o+(vs.length+1)):=by
     rw [List.drop_set_of_lt (by omega)];congr 1;omega
    rw [e1,e2];simp
   ·rw [g3 k hk,Below.heap_setCell _ _ _ _ (by exact hk)]
theorem a2X (w:World) (b o:Nat) (T:TypeId) (u:Value) (cur:List Value) (T':TypeId) (hb:w.heap[b]?=some (.cells cur.toArray T' (0,0))) (hl:o+u.cells.toList.length <= cur.length)
    (hi:(P.info? T).map (·.size)=some u.cells.toList.length) (h1:∀ v ∈ u.cells.toList,v.oneCell'=true) :
    (Instr.storeAt T (.pointer (some ⟨b,o,none⟩)) u).run P w=.ok () (w.setCells b o u.cells.toList):=by
 have:=run_storeCells_cells (P:=P) b o u.cells.toList 0 w (fun j hj=>by
     rw [add_zero,Lib.cell_of_heap hb]
     have:o+j < cur.length:=by omega
     simp [this]) (fun j hj=>by simp [World.frozen?,hb]) h1
 cases hq:P.info? T with
 | none=>simp [hq] at hi
 | some i =>
   have hs:u.cells.size=i.size:=by simp [hq] at hi; omega
   simp only [add_zero] at this;simp only [Instr.storeAt,Instr.sureAddr,Sem.run_bind,Sem.run_pure,Result.andThen_ok];simp [storeVar,sizeOf,typeInfo,hq,hs,this]
theorem Rl.store (h:Rl w0 F bs s a w) {i off n:Nat} {b:Bx} {g:Nat} {cs ys:List AC} {us:List Value} (hg:bs.l[i]?=some g) (hb:s.bx[i]?=some b) (hu:upd 99 b.cs off n (wid b.cs) ys=some cs) (hn:(a0d ys).length=n) (hle:off+n <= wid b.cs) (hsoft:a3x ys=true)
    (hr:relL bs w (a0d ys) us):Rl w0 F bs { s with bx:=s.bx.set i ⟨b.T,cs⟩ } a (w.setCells g off us):=by
 obtain ⟨h1,vs,h2,h3,h4⟩:=h.box i g b hg hb
 have hul:us.length=n:=by rw [<- hr.len,hn]
 have hvl:vs.length=wid b.cs:=by rw [<- h3.len,a2E]
 obtain ⟨k1,k2,k3⟩:=a1R g us off w vs b.T h2 (by omega);have hext:Ext w0 (w.setCells g off us):=a4m h1 us off h.ext;have hgl:g ∈ bs.l:=mem_of_getElem? hg
 have hk:Keep bs bs w (w.setCells g off us):=⟨fun u l hs=>a6U hs h2 (fun v hv=>h4.1 v (by simpa using hv)) (by rw [k2]; exact le_refl _) fun k _=>k3 k,fun _ _ _ hc=>a6a hc h2 (fun v hv=>h4.1 v (by simpa using hv)) fun k _=>k3 k,fun _ _ e=>e,fun c hc1 hc2=>⟨hc1,by rw [k2]; exact hc2,a3a (k3 c (by rw [h.lo] at hc1; omega))⟩,
  fun c hc=>⟨⟨by rw [k2]; exact hc.1,hc.2⟩,a3a (k3 c (by rintro rfl; exact hc.2.1 hgl))⟩,fun n ob _ e=>⟨e,fun c he=>by
   subst he
   exact k3 c (by rintro rfl; exact (h.own n c e).2.2.1 hgl)⟩,rfl⟩
 refine ⟨hext,h.lo,h.fbe,h.fbb,h.own.later (by rw [k2]; exact le_refl _),h.nd,by simp [h.len],fun j c x hj hx=>?_,fun c hc=>by rw [k2]; exact h.bnd c hc,fun t x hx=>Keep.relV hk (h.tmp t x hx),h.tl,h.dfr⟩;rw [List.getElem?_set] at hx;split at hx
 ·rename_i e;subst e;split at hx
  ·obtain rfl:(⟨b.T,cs⟩:Bx)=x:=by simpa using hx
   obtain rfl:g=c:=by rw [hg] at hj; simpa using hj
   refine ⟨h1,_,k1,?_,fun u hu=>?_,aJ4 hu h4.2 (a3J _ hsoft)⟩
   ·rw [aCC hu];refine Keep.relL hk (relL.append (relL.append (h3.take off) hr) ?_)
    have e:vs.drop (off+us.length)=(vs.drop (off+n)).take (wid b.cs - off - n):=by rw [hul]; exact (List.take_of_length_le (by simp; omega)).symm
    rw [e];exact (h3.drop (off+n)).take _
   ·simp only [mem_append] at hu;rcases hu with (hu | hu) | hu
    ·exact h4.1 u (List.mem_of_mem_take hu)
    ·exact a4B (a3K hsoft) hr u hu
    ·exact h4.1 u (List.mem_of_mem_drop hu)
  ·cases hx
 ·rename_i e;obtain ⟨g1,us',g2,g3,g4⟩:=h.box j c x hj hx
  have hne:c ≠ g:=by
   rintro rfl;exact e (aPg h.nd hg hj)
  exact ⟨g1,us',by rw [k3 c hne]; exact g2,Keep.relL hk g3,g4⟩
theorem Rl.frz (h:Rl w0 F bs s a w) (hz:none ∉ F) (n:Nat):Rl w0 F (bs.frz n) { s with tm:=aSJ n s.tm } a w :=
 h.re (tm:=aSJ n s.tm) (aDf (n:=n)) h.ext (le_refl _) rfl rfl (b2d h.own) (fun _ _=>rfl) (aK8 n _) fun t x hx=>by
  rw [aK9] at hx;simp only [Option.map_eq_some_iff] at hx;obtain ⟨y,hy,rfl⟩:=hx;exact aDg h.own h.fb (by rw [h.fbe]; exact hz) (h.tmp t y hy)
theorem Rl.frzA (hz:none ∉ F):∀ {xs:List Operand} {s:St} {bs:Bs},Rl w0 F bs s a w->∃ bs',Rl w0 F bs' (Vc.frzA xs s) a w
 | [],_,bs,h=>⟨bs,h⟩
 | x :: xs,s,bs,h=>by
   unfold Vc.frzA;split
   ·exact Rl.frzA hz (h.frz hz _)
   ·exact Rl.frzA hz (h.frz hz _)
   ·exact Rl.frzA hz h
theorem Rl.grow (h:Rl w0 F bs s a w) {w':World} {n ob ob':Option Nat} {T:Nat} {sh:Sc} {l:List sh.T} {v':Value} {cells:List Value} (hg:w.grownBy w' ob) (hn:∀ b,ob=some b->∃ k,n=some k/\bs.ow[k]?=some (some b))
    (hb:∀ b,ob=some b->∃ cur T,w.heap[b]?=some (.cells cur T (0,0))/\∀ v ∈ cur,a9n v) (hob:ob'=ob \/ ob'=some w.heap.size) (hc:OwC bs.lo w' v' T sh.k l.length cells ob') (hr:relR (relE bs w) (a0d (l.flatMap sh.enc)) cells) :
    ∃ bs',Rl w0 F bs' { s with tm:=a5a n s.tm } a w'/\relV bs' w' (.k (.c (.ow (idT (a5a n s.tm)) T sh l))) v':=by
 have hk:KeepD (aNN (idT (a5a n s.tm)) n) bs ((bs.sel (idT (a5a n s.tm)) n).own ob') w w':=aMu h.own hg hn hb hob
 have hlo:bs.lo <= w.heap.size:=by rw [h.lo]; exact h.ext.size
 refine ⟨_,h.re hk (h.ext.grown hg fun k hk=>?_) hg.size rfl rfl (b1n h.own h.okB hlo hg.size hn ?_) (fun b hm=>hg.block b (h.bnd b hm) fun e=>?_) (aFi n _) fun t x hx=>?_,ob',aKt,OwC.r hc (hr.mono hk.relE)⟩
 ·obtain ⟨j,_,hj⟩:=hn k hk;rw [<- h.lo];exact (h.own j k hj).1
 ·rcases hob with e | e
  ·exact .inl e
  ·refine .inr ⟨e,?_⟩
   rcases hc with ⟨e2,_⟩ | ⟨b,cap,cur,e2,_,_,_,_,e3,_⟩
   ·rw [e] at e2; cases e2
   ·rw [e] at e2;cases e2;exact (Array.getElem?_eq_some_iff.1 e3).1
 ·obtain ⟨j,_,hj⟩:=hn b (e.symm);exact (h.own j b hj).2.2.1 hm
 ·rw [a7h] at hx;simp only [Option.map_eq_some_iff] at hx;obtain ⟨y,hy,rfl⟩:=hx;refine hk.relV (aFh ?_) (a7g (h.tmp t y hy));exact aIp (mem_of_getElem? (by rw [a7h,hy]; rfl:(a5a n s.tm)[t]?=some (a6C n y)))
theorem aNI (hL:∀ l ∈ L,a1I P l) (h:Rl w0 F bs s a w) {o:Oper} {c:Call} (ho:o.op=.call c) {q:App} (hq:b40 L (evS s) c=some q) (hs:q.l.length+q.r.length <= 10000000) :
    ∃ v' w' bs',(execOp a.eval o).run P w=.ok (.value v') w'/\Rl w0 F bs' { s with tm:=a5a q.n s.tm } a w'/\relV bs' w' (.k (.c (.ow (idT (a5a q.n s.tm)) q.T q.s (q.l ++ q.r)))) v':=by
 unfold b40 at hq
 split at hq <;> try (cases hq; done)
 rename_i x y S S' hcal hargs htys
 split at hq <;> try (cases hq; done)
 rename_i d hd
 split at hq <;> try (cases hq; done)
 rename_i sh hsh
 split at hq <;> try (cases hq; done)
 rename_i n l r hbase harg
 cases hS:Nat.beq S S' with
 | false=>rw [hS] at hq; cases hq
 | true =>
   rw [hS] at hq;simp only [cond_true,injEq] at hq;subst hq
   obtain rfl:S=S':=by simpa using hS
   obtain ⟨hm,rfl⟩:=a0c hd;obtain ⟨i,z,hu,hi,hsz,hby,hz,hzs,hzu⟩:=(hL d hm).sc sh hsh;obtain ⟨ob,how,hn⟩:=aJx hbase (h.ev x);obtain ⟨B,f,hrd⟩:=aCr harg (h.ev y);obtain ⟨cells,hc,hr⟩:=how.c;obtain ⟨news,hx,hnr⟩:=hrd.arg;have h1:=a4h hnr
   have hlo:bs.lo <= w.heap.size:=by rw [h.lo]; exact h.ext.size
   rw [<- hsz] at hc;obtain ⟨v',w',ob',hrun,hc',hob,hg⟩:=aTm (P:=P) (ty:=o.type) hu hi hz (by rw [hzs,hsz]) hzu hby hc hx (by rw [<- hnr.len,a5c,hsz]) (fun v hv=>(h1 v hv).1) (fun v hv=>(h1 v hv).2) hs hlo
   have hexec:(execOp a.eval o).run P w=.ok (.value v') w':=by
    have hargs':c.args=#[x,y]:=by rw [<- toList_inj]; simpa using hargs
    have htys':c.argTypes=#[d.t,d.t]:=by rw [<- toList_inj]; simpa using htys
    have e1:execOp a.eval o=(do pure (Next.value (<- Builtin.append_ c.argTypes o.type (c.args.map a.eval)))):=by
     unfold execOp;rw [ho];simp only [resolve,hcal];rfl
    have em:(#[x,y]:Array Operand).map a.eval=#[a.eval x,a.eval y]:=by simp
    rw [e1,htys',hargs',em];exact a0O hrun
   rw [hsz] at hc'
   obtain ⟨bs',g1,g2⟩:=h.grow (n:=n) (l:=l ++ r) hg hn (fun b e=>by
    rcases hc with ⟨e2,_⟩ | ⟨b',cap,cur,e2,_,_,_,_,e3,_,_,e4⟩
    ·rw [e] at e2; cases e2
    ·rw [e] at e2;cases e2
     exact ⟨cur,_,e3,e4⟩) hob (by rw [length_append]; exact hc') (by rw [aDn]; exact hr.append hnr)
   exact ⟨v',w',bs',hexec,g1,g2⟩
theorem aUc {bs:Bs} {w:World} {sh:Sc} (hs:sh ≠ .F) (y:sh.T):∀ z ∈ a0d (sh.enc y),∀ u,rel1 bs w z u->relE bs w z u:=by
 have hv:∀ (b:Bool) u,rel1 bs w (.v (.bool b)) u->relE bs w (.v (.bool b)) u:=fun b u h=>⟨h.1,h.2,by rw [h.1]; intro n e; cases e⟩
 have hi:∀ (n:Int) u,rel1 bs w (.v (.int .i8 n)) u->relE bs w (.v (.int .i8 n)) u:=fun n u h=>⟨h.1,h.2,by rw [h.1]; intro m e; cases e⟩
 have hsl:∀ l u,rel1 bs w (.sl l) u->relE bs w (.sl l) u:=fun l u h=>h.1
 have hR:∀ q,∀ z ∈ (AC.R q).flat,∀ u,rel1 bs w z u->relE bs w z u:=fun q z hz u h=>by
  simp only [AC.flat,mem_cons,not_mem_nil,or_false] at hz
  rcases hz with rfl | rfl | rfl | rfl <;> first | exact hv _ u h | exact hsl _ u h
 have hZ:∀ b q,∀ z ∈ (AC.Z b q).flat,∀ u,rel1 bs w z u->relE bs w z u:=fun b q z hz u h=>by
  cases b
  ·simp only [AC.flat,cond_false,mem_cons,not_mem_nil,or_false] at hz
   rcases hz with rfl | rfl | rfl | rfl <;> first | exact hv _ u h | exact hsl _ u h
  ·simp only [AC.flat,cond_true,mem_cons,not_mem_nil,or_false] at hz
   rcases hz with rfl | rfl | rfl | rfl <;> first | exact hv _ u h | exact hsl _ u h
 have hB:∀ b,∀ z ∈ (AC.v (.bool b)).flat,∀ u,rel1 bs w z u->relE bs w z u:=fun b z hz u h=>by
  simp only [AC.flat,mem_singleton] at hz;subst hz;exact hv b u h
 have hI:∀ n,∀ z ∈ (AC.v (.int .i8 n)).flat,∀ u,rel1 bs w z u->relE bs w z u:=fun b z hz u h=>by
  simp only [AC.flat,mem_singleton] at hz;subst hz;exact hi b u h
 have app:∀ (l:List AC),(∀ x ∈ l,∀ z ∈ x.flat,∀ u,rel1 bs w z u->relE bs w z u)->∀ z ∈ a0d l,∀ u,rel1 bs w z u->relE bs w z u:=fun l=>by
  induction l with
  | nil=>intro _ z hz; simp [a0d] at hz
  | cons x l ih =>
    intro h z hz;simp only [a0d,mem_append] at hz;rcases hz with hz | hz
    ·exact h x (mem_cons_self ..) z hz
    ·exact ih (fun y hy=>h y (mem_cons_of_mem _ hy)) z hz
 refine app _ fun x hx=>?_
 cases sh with
 | F=>exact absurd rfl hs
 | P =>
   simp only [Sc.enc,mem_cons,not_mem_nil,or_false] at hx
   rcases hx with rfl | rfl | rfl | rfl | rfl <;> exact hR _
 | V =>
   simp only [Sc.enc,mem_cons,not_mem_nil,or_false] at hx
   rcases hx with rfl | rfl <;> exact hR _
 | C =>
   simp only [Sc.enc,mem_cons,not_mem_nil,or_false] at hx
   rcases hx with rfl | rfl <;> exact hI _
 | U =>
   simp only [Sc.enc,mem_cons,not_mem_nil,or_false] at hx
   rcases hx with rfl | rfl | rfl | rfl | rfl | rfl | rfl | rfl | rfl | rfl | rfl | rfl | rfl | rfl | rfl | rfl | rfl | rfl <;> first | exact hR _ | exact hZ _ _ | exact hB _
theorem aEW {bs:Bs} {w:World}:∀ {l:List AC} {us:List Value},(∀ z ∈ l,∀ u,rel1 bs w z u->relE bs w z u)->relL bs w l us->relR (relE bs w) l us
 | [],[],_,_=>trivial
 | z :: _,_ :: _,h,k=>⟨h z (mem_cons_self ..) _ k.1,aEW (fun y hy=>h y (mem_cons_of_mem _ hy)) k.2⟩
 | [],_ :: _,_,k=>k.elim
 | _ :: _,[],_,k=>k.elim
theorem aKo {bs:Bs} {w:World} {sh:Sc} {cs:List AC} {p:Prop} {y:sh.T} {u:Value} (h:b04 sh cs=some (p,y)) (hp:p) (k:relK bs w (.g cs) u):u.cells.size=sh.k/\relR (relE bs w) (a0d (sh.enc y)) u.cells.toList:=by
 obtain ⟨us,rfl,k⟩:=k;rw [aXv h hp] at k
 have hne:sh ≠ .F:=by rintro rfl; cases h
 have hr:=aEW (aUc hne y) k;refine ⟨?_,by simpa [Value.cells] using hr⟩;have:=hr.len;rw [a2Z] at this;simp [Value.cells,this]
theorem a9X {bs:Bs} {w:World} {ev:Operand->AV} {ρ:Operand->Value} (hev:∀ x,relV bs w (ev x) (ρ x)) {sh:Sc}:∀ {parts:List (Nat × Operand)} {n:Nat} {p:Prop} {l:List sh.T},a9Y sh ev parts n=some (p,l)->p ->
    ∃ vs:List Value,parts.map (fun (i,x)=>(i,ρ x))=(vs.zipIdx n).map (fun x=>(x.2,x.1))/\(∀ v ∈ vs,v.cells.size=sh.k)/\relR (relE bs w) (a0d (l.flatMap sh.enc)) (vs.flatMap fun v=>v.cells.toList)/\vs.length=l.length/\parts.length=l.length
 | [],n,p,l,h,_=>by
   simp only [a9Y,injEq,Prod.mk.injEq] at h;obtain ⟨_,rfl⟩:=h
   exact ⟨[],rfl,by simp,trivial,rfl,rfl⟩
 | (i,x) :: r,n,p,l,h,hp=>by
   unfold a9Y at h
   split at h <;> try (cases h; done)
   rename_i cs q l' hx hl
   split at h <;> try (cases h; done)
   rename_i p' y hy
   cases hb:Nat.beq i n with
   | false=>rw [hb] at h; cases h
   | true =>
     rw [hb] at h;simp only [cond_true,injEq,Prod.mk.injEq] at h;obtain ⟨rfl,rfl⟩:=h
     obtain rfl:i=n:=by simpa using hb
     have hr:=hev x;rw [hx] at hr;obtain ⟨g1,g2⟩:=aKo hy hp.1 hr;obtain ⟨vs,k1,k2,k3,k4,k5⟩:=a9X hev (n:=i+1) hl hp.2;refine ⟨ρ x :: vs,?_,?_,?_,by simp [k4],by simp [k5]⟩
     ·simp only [map_cons,zipIdx_cons];rw [k1]
     ·intro v hv;rcases mem_cons.1 hv with rfl | hv
      ·exact g1
      ·exact k2 v hv
     ·rw [flatMap_cons,flatMap_cons,a0I];exact g2.append k3
theorem aXm (s:Sc):0 < s.k/\s.k <= 100:=by cases s <;> simp [Sc.k]
theorem aL0 (hL:∀ l ∈ L,a1I P l) {bs:Bs} {w:World} {ev:Operand->AV} {ρ:Operand->Value} (hev:∀ x,relV bs w (ev x) (ρ x)) {o:Oper} {T n:Nat} {parts:Array (Nat × Operand)} (ho:o.op=.buildSlice T n parts) {q:Lit} (hq:b2L L ev T n parts=some q) (hp:q.p) :
    ∃ cells:List Value,(execOp ρ o).run P w=.ok (.value (.slice (some ⟨w.heap.size,0,none⟩) n n)) (w.alloc (.cells cells.toArray q.T))/\relR (relE bs w) (a0d (q.l.flatMap q.s.enc)) cells/\q.l.length=n/\n <= 1000:=by
 unfold b2L at hq
 split at hq <;> try (cases hq; done)
 rename_i y hy
 split at hq <;> try (cases hq; done)
 rename_i sh hsh
 split at hq <;> try (cases hq; done)
 rename_i p l hl
 cases hc:(Nat.beq parts.size n && Nat.ble n 1000) with
 | false=>rw [hc] at hq; cases hq
 | true =>
   rw [hc] at hq;simp only [cond_true,injEq] at hq;subst hq;simp only [and_eq_true,beq_eq,ble_eq] at hc;obtain ⟨hm,rfl⟩:=a0c hy;obtain ⟨i,z,hu,hi,hsz,_,hz,_,_⟩:=(hL y hm).sc sh hsh;obtain ⟨vs,k1,k2,k3,k4,k5⟩:=a9X hev (n:=0) hl hp
   have hn:vs.length=n:=by rw [k4,<- k5,<- hc.1]; simp
   obtain ⟨s1,s2⟩:=aXm sh;refine ⟨_,?_,k3,by show l.length=n; omega,hc.2⟩;have:=aTk (P:=P) (w:=w) (t:=y.t) hu hi hz (by rw [hsz]; exact s1) (by rw [hsz]; exact s2) hc.2 (parts:=parts.map fun (i,x)=>(i,ρ x)) (by rw [toList_map,k1]) (by rw [hsz]; exact k2) hn;unfold execOp;rw [ho];exact a0O this
theorem aNF (hL:∀ l ∈ L,a1I P l) (h:Rl w0 F bs s a w) {o:Oper} {T n:Nat} {parts:Array (Nat × Operand)} (ho:o.op=.buildSlice T n parts) {q:Lit} (hq:b2L L (evS s) T n parts=some q) (hp:q.p) :
    ∃ v' w' bs',(execOp a.eval o).run P w=.ok (.value v') w'/\Rl w0 F bs' { s with tm:=a5a none s.tm } a w'/\relV bs' w' (.k (.c (.ow (idT (a5a none s.tm)) q.T q.s q.l))) v':=by
 obtain ⟨cells,hrun,hr,hn,h1⟩:=aL0 hL h.ev ho hq hp
 have hlo:bs.lo <= w.heap.size:=by rw [h.lo]; exact h.ext.size
 have h1':=a4h hr
 obtain ⟨bs',g1,g2⟩:=h.grow (n:=none) (ob:=none) (ob':=some w.heap.size) (T:=q.T) (w':=w.alloc (.cells cells.toArray q.T)) ⟨rfl,rfl,rfl,by simp,fun k hk _=>heap_alloc_old w _ hk⟩ (fun b e=>by cases e) (fun b e=>by cases e) (.inr rfl)
  (b6s hlo (cells:=cells) (k:=q.s.k) (n:=n) (by rw [<- hr.len,a5c,hn]) (by unfold maxLen; omega) (fun v hv=>(h1' v hv).2) |> fun k=>by rw [hn]; exact k) hr
 exact ⟨_,_,bs',hrun,g1,g2⟩
theorem a8c:∀ l,a5a none l=l
 | []=>rfl
 | x :: l=>by
   have:a6C none x=x:=by
    unfold a6C;have h:a8V (aHq none) x=true:=aMq x;rw [h]; rfl
   rw [a5a,this,a8c l]
theorem aKe (n:Nat) (sh:Sc) (i:Nat) (x:sh.T):∀ l,(aTh n sh i x l).length=l.length
 | []=>rfl
 | y :: l=>by rw [aTh,List.length_cons,aKe n sh i x l]; rfl
theorem aKf (n:Nat) (sh:Sc) (i:Nat) (x:sh.T):∀ (l:List AV) (j:Nat),(aTh n sh i x l)[j]?=(l[j]?).map (b4u n sh i x)
 | [],j=>by simp [aTh]
 | y :: l,0=>rfl
 | y :: l,j+1=>by rw [aTh,List.getElem?_cons_succ,aKf n sh i x l j]; rfl
theorem aLf (sh:Sc) (x:sh.T):∀ (l:List sh.T) (i:Nat),i < l.length->a0d ((l.set i x).flatMap sh.enc)=(a0d (l.flatMap sh.enc)).take (i*sh.k) ++ a0d (sh.enc x) ++ (a0d (l.flatMap sh.enc)).drop (i*sh.k+sh.k)
 | [],_,h=>by simp at h
 | y :: l,0,_=>by
   simp only [List.set_cons_zero,flatMap_cons,a0I,Nat.zero_mul,List.take_zero,nil_append,zero_add]
   rw [List.drop_append,List.drop_of_length_le (by rw [a2Z]; exact le_refl _),nil_append,a2Z,Nat.sub_self,List.drop_zero]
 | y :: l,i+1,h=>by
   have ih:=aLf sh x l i (by simpa using h);simp only [List.set_cons_succ,flatMap_cons,a0I,ih]
   rw [List.take_append,List.take_of_length_le (l:=a0d (sh.enc y)) (by rw [a2Z,succ_mul]; omega),List.drop_append,List.drop_of_length_le (l:=a0d (sh.enc y)) (by rw [a2Z,succ_mul]; omega),nil_append,a2Z,
    show (i+1)*sh.k - sh.k=i*sh.k by rw [succ_mul]; omega,show (i+1)*sh.k+sh.k - sh.k=i*sh.k+sh.k by rw [succ_mul]; omega,append_assoc,append_assoc,append_assoc]
theorem OwB.set {R:AC->Value->Prop} {lo b T cap c:Nat} {sh:Sc} {l:List sh.T} (h:OwB R lo w b T sh l cap) {i:Nat} (hi:(i+1)*sh.k <= c) {x:sh.T} {us:List Value} (hr:relR R (a0d (sh.enc x)) us) (hu:∀ v ∈ us,a9n v) (hc:∃ (cur:Array Value) (T':Nat),w.heap[b]?=some (.cells cur T' (0,0))/\cur.size=c):OwB R lo (w.setCells b (i*sh.k) us) b T sh (l.set i x) cap:=by
 obtain ⟨h1,h2,h3,cur,h4,h5,h6,h7⟩:=h;obtain ⟨cur',T',e1,e2⟩:=hc;rw [h4] at e1;cases e1
 have hul:us.length=sh.k:=by rw [<- hr.len,a2Z]
 have hk:i*sh.k+us.length <= cur.toList.length:=by rw [hul,length_toList,e2]; rw [succ_mul] at hi; exact hi
 obtain ⟨k1,_,_⟩:=a1R b us (i*sh.k) w cur.toList T (by simpa using h4) hk
 have hk2:i*sh.k+sh.k <= cur.size:=by rw [e2]; rw [succ_mul] at hi; exact hi
 refine ⟨h1,by rw [length_set]; exact h2,h3,_,k1,?_,?_,fun v hv=>?_⟩
 ·simp only [List.size_toArray,length_append,length_take,List.length_drop,length_toList,hul];omega
 ·rw [length_set];rcases lt_or_ge i l.length with hlt | hge
  ·rw [aLf sh x l i hlt];have hle:(i+1)*sh.k <= l.length*sh.k:=Nat.mul_le_mul_right _ hlt;rw [succ_mul] at hle
   have e:(cur.toList.take (i*sh.k) ++ us ++ cur.toList.drop (i*sh.k+us.length)).take (l.length*sh.k)=(cur.toList.take (l.length*sh.k)).take (i*sh.k) ++ us ++ (cur.toList.take (l.length*sh.k)).drop (i*sh.k+sh.k):=by
    rw [List.take_take,Nat.min_eq_left (by omega),List.take_append,List.take_of_length_le (by simp [hul]; omega),List.drop_take,hul];congr 2;simp only [length_append,length_take,hul,length_toList];omega
   rw [e];exact ((h6.take _).append hr).append (h6.drop _)
  ·rw [List.set_eq_of_length_le hge];have hle:l.length*sh.k <= i*sh.k:=Nat.mul_le_mul_right _ hge
   have hcl:cur.toList.length=cur.size:=by simp
   have e:(cur.toList.take (i*sh.k) ++ us ++ cur.toList.drop (i*sh.k+us.length)).take (l.length*sh.k)=cur.toList.take (l.length*sh.k):=by
    rw [append_assoc,List.take_append_of_le_length (by rw [length_take]; omega),List.take_take,Nat.min_eq_left hle]
   simp only;rw [e];exact h6
 ·simp only [List.mem_toArray,mem_append] at hv;rcases hv with (hv | hv) | hv
  ·exact h7 v (by simpa using List.mem_of_mem_take hv)
  ·exact hu v hv
  ·exact h7 v (by simpa using List.mem_of_mem_drop hv)
theorem Rl.setO (h:Rl w0 F bs s a w) {n T i:Nat} {sh:Sc} {l:List sh.T} {u:Value} (hp:rel1 bs w (.oe n T sh l i) u) {x:sh.T} {us:List Value} (hr:relR (relE bs w) (a0d (sh.enc x)) us) :
    ∃ b cur T',u=.pointer (some ⟨b,i*sh.k,none⟩)/\w.heap[b]?=some (.cells cur T' (0,0))/\i*sh.k+us.length <= cur.toList.length/\Rl w0 F bs { s with tm:=aTh n sh i x s.tm } a (w.setCells b (i*sh.k) us):=by
 obtain ⟨b,cap,e1,e2,hi,ho⟩:=hp;obtain ⟨o1,o2,o3,cur,o4,o5,o6,o7⟩:=id ho;have hu:=a4h hr
 have hul:us.length=sh.k:=by rw [<- hr.len,a2Z]
 have hle:(i+1)*sh.k <= cur.size:=by
  rw [o5];exact Nat.mul_le_mul_right _ (by omega)
 have hfit:i*sh.k+us.length <= cur.toList.length:=by rw [hul,length_toList]; rw [succ_mul] at hle; exact hle
 refine ⟨b,cur,T,e2,o4,hfit,?_⟩;obtain ⟨k1,k2,k3⟩:=a1R b us (i*sh.k) w cur.toList T (by simpa using o4) hfit;obtain ⟨p1,p2,p3,p4⟩:=h.own n b e1
 have hk:KeepD (aHq (some n)) bs bs w (w.setCells b (i*sh.k) us):=⟨fun u l hs=>a6U hs o4 o7 (by rw [k2]; exact le_refl _) fun k _=>k3 k,fun _ _ _ hc=>a6a hc o4 o7 fun k _=>k3 k,fun _ _ e=>e,fun c hc1 hc2=>⟨hc1,by rw [k2]; exact hc2,a3a (k3 c (by omega))⟩,
  fun c hc=>⟨⟨by rw [k2]; exact hc.1,hc.2⟩,a3a (k3 c (by rintro rfl; exact hc.2.2.1 (mem_of_getElem? e1)))⟩,fun m ob hm e=>⟨e,fun c he=>by
   subst he;refine k3 c ?_;rintro rfl;have:=p4 m e;subst this
   simp [aHq] at hm⟩,rfl⟩
 refine h.re (tm:=aTh n sh i x s.tm) hk (a4m (by rw [<- h.lo]; exact p1) _ _ h.ext) (by rw [k2]; exact le_refl _) rfl rfl (h.own.later (by rw [k2]; exact le_refl _)) (fun c hc=>k3 c (by rintro rfl; exact p3 hc)) (aKe ..) fun t y hy=>?_;rw [aKf] at hy;simp only [Option.map_eq_some_iff] at hy;obtain ⟨y',hy',rfl⟩:=hy;have hv:=h.tmp t y' hy';have hr':relR (relE bs (w.setCells b (i*sh.k) us)) (a0d (sh.enc x)) us:=hr.mono hk.relE;have hun:∀ v ∈ us,a9n v:=fun v hv=>(hu v hv).2;have one:∀ {s':Sc} {x':List s'.T},aUz s' sh [x]=some x'->∃ e:sh=s',e ▸ [x]=x':=fun hq=>a6I hq;unfold b4u;split
 ·rename_i m t' s' l'
  cases hm:Nat.beq m n with
  | false=>exact hk.rel1 (x:=.ow m t' s' l') (by simp [aBg,aHq,hm]) hv
  | true =>
    obtain rfl:m=n:=by simpa using hm
    simp only [cond_true];split
    ·rename_i x' hx';obtain ⟨rfl,hx2⟩:=a6I hx'
     obtain rfl:x=x':=by simpa using hx2
     obtain ⟨ob,g1,g2⟩:=hv;rw [e1] at g1
     obtain rfl:ob=some b:=by simpa using g1.symm
     rcases g2 with ⟨g2,_⟩ | ⟨b',cap',g2,g3,g4⟩
     ·cases g2
     ·cases g2;refine ⟨some b,e1,.inr ⟨b,cap',rfl,by rw [length_set]; exact g3,?_⟩⟩;exact OwB.set (R:=relE bs (w.setCells b (i*sh.k) us)) (OwB.keep (w':=w) hk.relE rfl g4) hle hr' hun ⟨cur,_,o4,rfl⟩
    ·trivial
 ·rename_i m t' s' l' j
  cases hm:Nat.beq m n with
  | false=>exact hk.rel1 (x:=.oe m t' s' l' j) (by simp [aBg,aHq,hm]) hv
  | true =>
    obtain rfl:m=n:=by simpa using hm
    simp only [cond_true];split
    ·rename_i x' hx';obtain ⟨rfl,hx2⟩:=a6I hx'
     obtain rfl:x=x':=by simpa using hx2
     obtain ⟨b',cap',g1,g2,g3,g4⟩:=hv;rw [e1] at g1
     obtain rfl:b=b':=by simpa using g1
     exact ⟨b,cap',e1,g2,by rw [length_set]; exact g3,OwB.set (R:=relE bs (w.setCells b (i*sh.k) us)) (OwB.keep (w':=w) hk.relE rfl g4) hle hr' hun ⟨cur,_,o4,rfl⟩⟩
    ·trivial
 ·exact hk.relV (a96 _ _) (a7g hv)
theorem aFa:∀ {l:List AC} {z:AC},z ∈ a0d l->∃ x ∈ l,z ∈ x.flat
 | [],_,h=>by simp [a0d] at h
 | y :: l,z,h=>by
   simp only [a0d,mem_append] at h;rcases h with h | h
   ·exact ⟨y,mem_cons_self ..,h⟩
   ·obtain ⟨x,h1,h2⟩:=aFa h;exact ⟨x,mem_cons_of_mem _ h1,h2⟩
theorem aYZ {x:AC} {s:Sc} {f:Bool} {l:List s.T} (h:AC.rd s f l ∈ x.flat):x=.rd s f l:=by
 cases x <;> simp only [AC.flat,mem_cons,not_mem_nil,or_false] at h
 case Z b q=>cases b <;> simp only [cond_true,cond_false,mem_cons,not_mem_nil,or_false] at h <;> rcases h with h | h | h | h <;> cases h
 case I=>rcases h with h | h <;> cases h
 case R=>rcases h with h | h | h | h <;> cases h
 all_goals first | exact h.symm | (cases h; done)
theorem aIy {l:List Ux}:∀ z ∈ a0d (l.flatMap (Sc.enc .U)),∀ (s:Sc) (f:Bool) (m:List s.T),z ≠ .rd s f m:=fun z hz s f m e=>by
 subst e;obtain ⟨x,h1,h2⟩:=aFa hz;obtain rfl:=aYZ h2;obtain ⟨y,_,h3⟩:=List.mem_flatMap.1 h1;simp [Sc.enc] at h3
theorem aOM {bs:Bs} {w:World} {x:AC} {u:Value} (hx:∀ (s:Sc) (f:Bool) (m:List s.T),x ≠ .rd s f m):relE bs w x u ↔ rel0 w x u:=by
 cases x <;> first | exact Iff.rfl | exact absurd rfl (hx _ _ _)
theorem relR.monoM {R R':AC->Value->Prop}:∀ {l:List AC} {us:List Value},(∀ x ∈ l,∀ u,R x u->R' x u)->relR R l us->relR R' l us
 | [],[],_,_=>trivial
 | x :: _,_ :: _,h,k=>⟨h x (mem_cons_self ..) _ k.1,relR.monoM (fun y hy=>h y (mem_cons_of_mem _ hy)) k.2⟩
 | [],_ :: _,_,k=>k.elim
 | _ :: _,[],_,k=>k.elim
theorem aCR {R R':AC->Value->Prop} {lo:Nat} {w:World} {u:Value} {T:Nat} {l:List Ux} {ob:Option Nat} (hR:∀ x ∈ a0d (l.flatMap (Sc.enc .U)),∀ u,R x u->R' x u) (h:OwR R lo w u T .U l ob):OwR R' lo w u T .U l ob:=by
 rcases h with h | ⟨b,cap,h1,h2,h3,h4,h5,cur,h6,h7,h8,h9⟩
 ·exact .inl h
 ·exact .inr ⟨b,cap,h1,h2,h3,h4,h5,cur,h6,h7,relR.monoM hR h8,h9⟩
theorem aMv {m:Nat} {n:Option Nat} {w':World} {ob':Option Nat} (he:Ext w w') (hb:okB bs w=true) (hob:∀ b,ob'=some b->w.heap.size <= b):KeepD (aNN m n) bs ((bs.sel m n).own ob') w w':=by
 have hk:=Keep.ext he hb;refine ⟨hk.sl,hk.cp,fun i b h=>h,hk.old,fun b h=>⟨⟨(hk.fz b h).1.1,h.2.1,fun hm=>?_,h.2.2.2⟩,(hk.fz b h).2⟩,fun j o hj hjo=>⟨aO4 (aOC hj hjo),(hk.ow j o rfl hjo).2⟩,rfl⟩;obtain ⟨j,hj⟩:=List.getElem?_of_mem hm
 rcases a5v hj with h' | ⟨_,h'⟩
 ·exact h.2.2.1 (mem_of_getElem? (a4U h').1)
 ·have:=hob b h';have:=h.1;omega
theorem aO5 {m:Nat} {n:Option Nat} {w':World} {ob':Option Nat} (ho:OwOK bs w) (hk:okB bs w=true) (hlo:bs.lo <= w.heap.size) (hg:w.heap.size <= w'.heap.size) (hob:∀ b,ob'=some b->w.heap.size <= b/\b < w'.heap.size):OwOK ((bs.sel m n).own ob') w':=by
 have hnew:∀ b,ob'=some b->bs.lo <= b/\b < w'.heap.size/\b ∉ bs.l/\∀ j:Nat,(bs.sel m n).ow[j]? ≠ some (some b):=fun b e=>by
  obtain ⟨h1,h2⟩:=hob b e;refine ⟨by omega,h2,fun hm=>?_,fun j hj=>?_⟩
  ·simp only [okB,and_eq_true,all_eq_true] at hk;have:=hk.1 _ hm;simp only [blt_eq] at this;omega
  ·have:=(ho j _ (a4U hj).1).2.1;omega
 intro j b hj
 rcases a5v hj with h | ⟨h1,h2⟩
 ·obtain ⟨g1,g2,g3,g4⟩:=ho j b (a4U h).1;refine ⟨g1,lt_of_lt_of_le g2 hg,g3,fun i hi=>?_⟩
  rcases a5v hi with hi | ⟨hi1,hi2⟩
  ·exact g4 i (a4U hi).1
  ·exact absurd h ((hnew b hi2).2.2.2 j)
 ·obtain ⟨g1,g2,g3,g4⟩:=hnew b h2;refine ⟨g1,g2,g3,fun i hi=>?_⟩
  rcases a5v hi with hi | ⟨hi1,hi2⟩
  ·exact absurd hi (g4 i)
  ·rw [hi1,h1]
theorem Rl.adopt (h:Rl w0 F bs s a w) {w':World} (he:Ext w w') {ob':Option Nat} {T:Nat} {l:List Ux} {v':Value} (hw:OwR (rel0 w') w.heap.size w' v' T .U l ob') :
    ∃ bs',Rl w0 F bs' s a w'/\relV bs' w' (.k (.c (.ow (idT s.tm) T .U l))) v':=by
 have hob:∀ b,ob'=some b->w.heap.size <= b/\b < w'.heap.size:=fun b e=>by
  rcases hw with ⟨h1,_⟩ | ⟨b',cap,h1,_,h2,_,_,cur,h3,_⟩
  ·rw [e] at h1; cases h1
  ·rw [e] at h1;cases h1;exact ⟨h2,(Array.getElem?_eq_some_iff.1 h3).1⟩
 have hk:KeepD (aNN (idT s.tm) none) bs ((bs.sel (idT s.tm) none).own ob') w w':=aMv he h.okB fun b e=>(hob b e).1
 have hlo:bs.lo <= w.heap.size:=by rw [h.lo]; exact h.ext.size
 refine ⟨_,h.re (tm:=s.tm) hk (h.ext.trans he) he.size rfl rfl (aO5 h.own h.okB hlo he.size hob) (fun b hm=>he.block b (h.bnd b hm)) rfl fun t x hx=>?_,ob',aKt,?_⟩
 ·have e:a6C none x=x:=by
   have:=congrArg (fun l:List AV=>l[t]?) (a8c s.tm);simp only [a7h,hx] at this;simpa using this
  have:=hk.relV (x:=a6C none x) (aFh (by rw [e]; exact aIp (mem_of_getElem? hx))) (a7g (h.tmp t x hx));rwa [e] at this
 ·rcases aCR (R':=relE ((bs.sel (idT s.tm) none).own ob') w') (fun x hx u hu=>(aOM (aIy x hx)).2 hu) hw with g | ⟨b,cap,g1,g2,g3,g4⟩
  ·exact .inl g
  ·exact .inr ⟨b,cap,g1,g2,Nat.le_trans hlo g3,g4⟩
theorem aLW (hz:none ∉ F) (hL:∀ l ∈ L,a1I P l) (hC:∀ c ∈ C,CtrOK P c) {Q:Exit->Act->World->Prop} {o:Oper} {K:St->Prop} (h:aop L C o s K) (hR:Rl w0 F bs s a w) :
    o.guard=none/\∀ K':Act->World->Prop,(∀ s' bs' a' w',K s'->Rl w0 F bs' s' a' w'->K' a' w')->o.wp P a w K' Q:=by
 have pure_case:∀ {pre:Option Prop} {r:AV},o.guard=none->a2g L s.bx (evS s) o.op=some (pre,r)->due pre->K (a4u s o.dst r)->o.guard=none/\∀ K':Act->World->Prop,(∀ s' bs' a' w',K s'->Rl w0 F bs' s' a' w'->K' a' w')->o.wp P a w K' Q:=fun {pre r} hg hp hd hK=>by
  refine ⟨hg,fun K' hK'=>?_⟩;obtain ⟨v,h1,h2⟩:=a3X hL hR.ev hR.box hp hd;unfold Oper.wp;rw [h1];exact hK' _ _ _ _ hK (hR.put h2 o.dst)
 have make_case:∀ {pre:Option Prop} {r:AV},o.guard=none->a8u L (evS s) o.op=some (pre,r)->due pre->K (a4u s o.dst r)->o.guard=none/\∀ K':Act->World->Prop,(∀ s' bs' a' w',K s'->Rl w0 F bs' s' a' w'->K' a' w')->o.wp P a w K' Q:=fun {pre r} hg hp hd hK=>by
  refine ⟨hg,fun K' hK'=>?_⟩;obtain ⟨v,w',h1,h2,h3⟩:=a5g hL hR.ev (fun v=>rfl) hp hd;unfold Oper.wp;rw [h1];exact hK' _ _ _ _ hK ((hR.later h2).put h3 o.dst)
 unfold aop at h;split at h
 ·exact h.elim
 ·rename_i T x y hg ho
  split at h <;> try exact h.elim
  rotate_left
  ·rename_i n T' sh l' i cs l hx hy hl
   split at h <;> try exact h.elim
   rename_i p v hrd
   cases hc:Nat.beq l.size sh.k with
   | false=>rw [hc] at h; exact h.elim
   | true =>
     rw [hc] at h;simp only [cond_true] at h;have hrx:=hR.ev x; have hry:=hR.ev y;rw [hx] at hrx; rw [hy] at hry;obtain ⟨hm,rfl⟩:=a0c hl;obtain ⟨g1,g2⟩:=aKo hrd h.1 hry;obtain ⟨b,cur,T2,hv,hb,hfit,hR2⟩:=hR.setO hrx g2;have h1:=a4h g2;refine ⟨hg,fun K' hK'=>?_⟩;unfold Oper.wp
     have hrun:(execOp a.eval o).run P w=.ok .skip (w.setCells b (i*sh.k) (a.eval y).cells.toList):=by
      simp only [execOp,ho,hv];refine a7Q (a2X w b _ l.t (a.eval y) cur.toList T2 (by simpa using hb) hfit ?_ (fun v hv=>(h1 v hv).1));rw [(hL l hm).size,length_toList,g1];simpa using hc
     rw [hrun];exact hK' _ _ _ _ h.2 (hR2.put (r:=.u) (v:=undef) trivial o.dst)
  rename_i i off k l hx hy hl
  split at h <;> try exact h.elim
  rename_i b hb
  cases hc:(Nat.beq (wid k.cells) l.size && a3x k.cells && Nat.ble (off+l.size) (wid b.cs)) with
  | false=>rw [hc] at h; exact h.elim
  | true =>
    rw [hc] at h;simp only [cond_true] at h;simp only [and_eq_true,beq_eq,ble_eq] at hc;obtain ⟨⟨h1,h2⟩,h3⟩:=hc
    split at h <;> try exact h.elim
    rename_i cs hu;have hrx:=hR.ev x; have hry:=hR.ev y;rw [hx] at hrx; rw [hy] at hry;obtain ⟨g,hgb,hv⟩:=hrx;obtain ⟨hm,rfl⟩:=a0c hl;have hcr:=a2J hry;obtain ⟨_,vs,b2,b3,_⟩:=hR.box i g b hgb hb
    have hn:(a0d k.cells).length=l.size:=by rw [a2E,h1]
    refine ⟨hg,fun K' hK'=>?_⟩;unfold Oper.wp
    have hrun:(execOp a.eval o).run P w=.ok .skip (w.setCells g off (a.eval y).cells.toList):=by
     simp only [execOp,ho,hv];refine a7Q (a2X w g off l.t (a.eval y) vs b.T b2 ?_ ?_ (relL.one hcr))
     ·rw [<- hcr.len,hn,<- b3.len,a2E]; exact h3
     ·rw [<- hcr.len,hn]; exact (hL l hm).size
    rw [hrun];exact hK' _ _ _ _ h ((hR.store hgb hb hu hn h3 h2 hcr).put (r:=.u) (v:=undef) trivial o.dst)
 ·rename_i T hg ho
  split at h <;> try exact h.elim
  rename_i l hl;obtain ⟨hm,rfl⟩:=a0c hl;have hlo:=hL l hm
  cases h5:Nat.beq l.kd 5 with
  | true=>rw [h5] at h; exact h.elim
  | false =>
  rw [h5] at h;simp only [cond_false] at h;obtain ⟨i,z,hi,hz,hzr⟩:=hlo.zero;refine ⟨hg,fun K' hK'=>?_⟩;unfold Oper.wp
  have hrun:(execOp a.eval o).run P w=.ok (.value (.pointer (some ⟨w.heap.size,0,none⟩))) (w.alloc (.cells z.cells.toList.toArray l.t)):=by
   simp only [execOp,ho];refine a0O ?_;simp [Instr.alloc,zeroValue,typeInfo,hi,hz,newVar,newRow]
  rw [hrun];have hR2:=hR.new (hzr bs w) (hlo.zsoft h5) l.t;exact hK' _ _ _ _ h (hR2.put (r:=.k (.c (.bx s.bx.length 0))) (v:=.pointer (some ⟨w.heap.size,0,none⟩)) ⟨w.heap.size,by simp [hR.len],rfl⟩ o.dst)
 ·rename_i T x hg ho
  split at h <;> try exact h.elim
  rename_i y hy
  cases hs:a3x y.cells with
  | false=>rw [hs] at h; exact h.elim
  | true =>
    rw [hs] at h;simp only [cond_true] at h;have hry:=hR.ev x;rw [hy] at hry;have hcr:=a2J hry;refine ⟨hg,fun K' hK'=>?_⟩;unfold Oper.wp
    have hrun:(execOp a.eval o).run P w=.ok (.value (.pointer (some ⟨w.heap.size,0,none⟩))) (w.alloc (.cells (a.eval x).cells.toList.toArray T)):=by
     simp only [execOp,ho];refine a0O ?_;simp [Instr.box,newVar,newRow]
    rw [hrun];exact hK' _ _ _ _ h ((hR.new hcr hs T).put (r:=.k (.c (.bx s.bx.length 0))) (v:=.pointer (some ⟨w.heap.size,0,none⟩)) ⟨w.heap.size,by simp [hR.len],rfl⟩ o.dst)
 ·rename_i c hg ho;split at h
  ·rename_i hr;exact pure_case (pre:=none) hg (by rw [ho]; exact hr) trivial h
  ·rename_i hr;exact pure_case (pre:=some _) hg (by rw [ho]; exact hr) h.1 h.2
  ·rename_i hr;exact make_case (pre:=none) hg (by rw [ho]; exact hr) trivial h
  ·rename_i hr;exact make_case (pre:=some _) hg (by rw [ho]; exact hr) h.1 h.2
  ·split at h
   ·rename_i q hq;refine ⟨hg,fun K' hK'=>?_⟩;obtain ⟨v',w',bs',h1,h2,h3⟩:=aNI hL hR ho hq h.1;unfold Oper.wp;rw [h1];exact hK' _ _ _ _ h.2 (h2.put h3 o.dst)
   ·obtain ⟨bs2,hR2⟩:=Rl.frzA hz (xs:=c.args.toList) hR;split at h
    ·rename_i pre r hcl;refine ⟨hg,fun K' hK'=>?_⟩;obtain ⟨f,args,h1,h2⟩:=aAV hC hR2.okB (hR2.okF hz) hR2.ev (fun f=>rfl) ho hcl h.1;unfold Oper.wp;rw [h1];refine h2.mono ?_;rintro e w' ⟨v,rfl,he,hv⟩;exact hK' _ _ _ _ h.2 ((hR2.later he).put hv o.dst)
    ·rename_i α pre φ r hcl;refine ⟨hg,fun K' hK'=>?_⟩
     cases hT:aDt c with
     | some T =>
       rw [hT] at h;obtain ⟨f,args,h1,h2⟩:=aSb hC hR2.okB (hR2.okF hz) hR2.ev (fun f=>rfl) ho hcl h.1 hT;unfold Oper.wp;rw [h1];refine h2.mono ?_;rintro e w' ⟨v,rfl,he,x,l,ob,hx,hr,hw⟩;obtain ⟨bs3,hR3,hv⟩:=hR2.adopt he hw;have hK:=h.2 x hx;rw [hr] at hK
       exact hK' _ _ _ _ hK (hR3.put hv o.dst)
     | none =>
     rw [hT] at h;obtain ⟨f,args,h1,h2⟩:=aUI hC hR2.okB (hR2.okF hz) hR2.ev (fun f=>rfl) ho hcl h.1;unfold Oper.wp;rw [h1];refine h2.mono ?_;rintro e w' ⟨v,rfl,he,x,hx,hv⟩;exact hK' _ _ _ _ (h.2 x hx) ((hR2.later he).put hv o.dst)
    ·exact h.elim
 ·rename_i T n parts hg ho;split at h
  ·rename_i hr;exact make_case (pre:=none) hg (by rw [ho]; exact hr) trivial h
  ·rename_i hr;exact make_case (pre:=some _) hg (by rw [ho]; exact hr) h.1 h.2
  ·split at h
   ·rename_i q hq;refine ⟨hg,fun K' hK'=>?_⟩;obtain ⟨v',w',bs',h1,h2,h3⟩:=aNF hL hR ho hq h.1;rw [a8c] at h2 h3;unfold Oper.wp;rw [h1];exact hK' _ _ _ _ h.2 (h2.put h3 o.dst)
   ·split at h
    ·rename_i b hb;refine ⟨hg,fun K' hK'=>?_⟩;obtain ⟨vs,h1,h2,h3⟩:=a8P hL hR.ev ho hb;unfold Oper.wp;rw [h1];exact hK' _ _ _ _ h ((hR.new h2 h3 b.T).put (r:=.k (.c (.ba s.bx.length n))) (v:=.slice (some ⟨w.heap.size,0,none⟩) n n) ⟨w.heap.size,by simp [hR.len],rfl⟩ o.dst)
    ·exact h.elim
 ·rename_i hg _ _ _ _ _;split at h
  ·rename_i hr;exact pure_case (pre:=none) hg hr trivial h
  ·rename_i hr;exact pure_case (pre:=some _) hg hr h.1 h.2
  ·exact h.elim
theorem aHa (hz:none ∉ F) (hL:∀ l ∈ L,a1I P l) (hC:∀ c ∈ C,CtrOK P c) {ops:Array Oper} {Q:Exit->Act->World->Prop} {rest:List Oper} {o:Oper} {K:St->Prop} (h:aop L C o s K) (hR:Rl w0 F bs s a w)
    (hk:∀ s' bs' a' w',K s'->Rl w0 F bs' s' a' w'->wpList P ops Q rest a' w'):wpList P ops Q (o :: rest) a w:=by
 obtain ⟨hg,h2⟩:=aLW (Q:=Q) hz hL hC h hR;exact wpList_plain hg fun K' hK'=>h2 K' fun s' bs' a' w' hK hR'=>hK' _ _ (hk s' bs' a' w' hK hR')
theorem a2P (hz:none ∉ F) (hL:∀ l ∈ L,a1I P l) (hC:∀ c ∈ C,CtrOK P c) {ops:Array Oper} {Q:Exit->Act->World->Prop}:∀ {l:List Oper} {s:St} {bs:Bs} {a:Act} {w:World} {K:St->Prop},aZm L C l s K->Rl w0 F bs s a w ->
    (∀ (s':St) (bs':Bs) (a':Act) (w':World),K s'->Rl w0 F bs' s' a' w'->Q .normal a' w')->wpList P ops Q l a w
 | [],s,bs,a,w,_,h,hR,hk=>hk s bs a w h hR
 | _ :: _,_,_,_,_,_,h,hR,hk=>aHa hz hL hC h hR fun _ _ _ _ h' hR'=>a2P hz hL hC h' hR' hk
end
end Vc
end Go.Proofs.YtbohkigffejhoaaGreat
namespace Go.Proofs.YtbohkigffejhoaaGreat
open Go.RowKit
inductive Reach (l:List Oper):Nat->Nat->Prop
 | one {i k:Nat} (h:Region.waitsFor .any l.toArray i k=true):Reach l i k
 | step {i m k:Nat} (h:Region.waitsFor .any l.toArray i m=true) (r:Reach l m k):Reach l i k
theorem aHD {l:List Oper} {i:Nat} {o:Oper} (ho:l[i]?=some o) {e:Edge} (he:e ∈ o.after) (hb:Region.binds .any e=true):Region.waitsFor .any l.toArray i e.on=true:=by
 unfold Region.waitsFor
 have:l.toArray[i]?=some o:=by simpa using ho
 rw [this];exact Array.any_eq_true'.2 ⟨e,he,by simp [hb]⟩
theorem Reach.done {l:List Oper} {ls:Array Bool} (hcl:∀ j oj,l.toArray[j]?=some oj->ls.getD j true=true->∀ e ∈ oj.after,Region.binds .any e=true->ls.getD e.on false=true) {i k:Nat} (h:Reach l i k) :
    ∀ o,l.toArray[i]?=some o->(∀ e ∈ o.after,Region.binds .any e=true->ls.getD e.on false=true)->ls.getD k false=true:=by
 induction h with
 | one h =>
   intro o ho hall;obtain ⟨oj,hoj,e,he,hb,hon⟩:=Region.waitsFor_spec h;obtain rfl:oj=o:=Option.some.inj (hoj.symm.trans ho);rw [<- hon]
   exact hall e he hb
 | step h r ih =>
   intro o ho hall;obtain ⟨oj,hoj,e,he,hb,hon⟩:=Region.waitsFor_spec h;obtain rfl:oj=o:=Option.some.inj (hoj.symm.trans ho);have hm:=hall e he hb;rw [hon] at hm;rename_i m _
   have hm':ls.getD m true=true:=by
    rcases lt_or_ge m ls.size with h' | h'
    ·simp [h'] at hm ⊢; exact hm
    ·simp [h']
   have:∃ om,l.toArray[m]?=some om:=by
    cases r with
    | one h=>obtain ⟨om,h,_⟩:=Region.waitsFor_spec h; exact ⟨om,h⟩
    | step h _=>obtain ⟨om,h,_⟩:=Region.waitsFor_spec h; exact ⟨om,h⟩
   obtain ⟨om,hom⟩:=this;exact ih om hom (hcl m om hom hm')
def aH6 (ms:List Nat):List Edge->Nat
 | []=>0
 | e :: r=>bif Region.binds .any e then (1 <<< e.on) ||| ((ms[e.on]?).getD 0 ||| aH6 ms r) else aH6 ms r
theorem a8a {ms:List Nat} {k:Nat}:∀ {es:List Edge},Nat.testBit (aH6 ms es) k=true->∃ e ∈ es,Region.binds .any e=true/\(e.on=k \/ ∃ m,ms[e.on]?=some m/\Nat.testBit m k=true)
 | [],h=>by simp [aH6] at h
 | e :: r,h=>by
   unfold aH6 at h
   cases hb:Region.binds .any e with
   | false =>
     rw [hb] at h;obtain ⟨e',h1,h2⟩:=a8a (es:=r) h
     exact ⟨e',mem_cons_of_mem _ h1,h2⟩
   | true =>
     rw [hb] at h;simp only [cond_true,Nat.testBit_or,or_eq_true] at h;rcases h with h | h | h
     ·refine ⟨e,mem_cons_self ..,hb,.inl ?_⟩;rw [Nat.one_shiftLeft,Nat.testBit_two_pow] at h;simpa using h
     ·refine ⟨e,mem_cons_self ..,hb,.inr ?_⟩
      cases hm:ms[e.on]? with
      | none=>rw [hm] at h; simp at h
      | some m=>rw [hm] at h; exact ⟨m,rfl,h⟩
     ·obtain ⟨e',h1,h2⟩:=a8a (es:=r) h;exact ⟨e',mem_cons_of_mem _ h1,h2⟩
def masks:List Oper->List Nat->List Nat
 | [],ms=>ms
 | o :: r,ms=>masks r (ms ++ [aH6 ms o.after.toList])
def aWy (l:List Oper) (ms:List Nat):Prop:=∀ i m,ms[i]?=some m->∀ k,Nat.testBit m k=true->Reach l i k
theorem aCX {l:List Oper}:∀ (r p:List Oper) (ms:List Nat),l=p ++ r->ms.length=p.length->aWy l ms->aWy l (masks r ms)/\(masks r ms).length=l.length
 | [],p,ms,hl,hn,h=>⟨h,by rw [hl]; simpa [masks] using hn⟩
 | o :: r,p,ms,hl,hn,h=>by
   refine aCX r (p ++ [o]) _ (by rw [hl]; simp) (by simp [hn]) fun i m hi k hk=>?_;rcases lt_or_ge i ms.length with h' | h'
   ·rw [List.getElem?_append_left h'] at hi;exact h i m hi k hk
   ·have hil:i=p.length:=by
     have:=(List.getElem?_eq_some_iff.1 hi).1;simp at this;omega
    have hm:aH6 ms o.after.toList=m:=by
     rw [List.getElem?_append_right h',show i - ms.length=0 by omega] at hi;simpa using hi
    subst hm
    have ho:l[i]?=some o:=by rw [hl,hil]; simp
    obtain ⟨e,he,hb,hc⟩:=a8a hk;have hw:=aHD ho (by simpa using he) hb
    rcases hc with rfl | ⟨m',h1,h2⟩
    ·exact .one hw
    ·exact .step hw (h e.on m' h1 k h2)
def a9O (n:Nat):List Nat->Nat->Bool
 | [],_=>true
 | m :: r,t=>(Nat.blt t n || Nat.beq m (2 ^ t - 1)) && a9O n r (t+1)
theorem a8F {n:Nat}:∀ {ms:List Nat} {t i m:Nat},a9O n ms t=true->ms[i]?=some m->n <= t+i->m=2 ^ (t+i) - 1
 | [],_,_,_,_,h,_=>by simp at h
 | x :: r,t,0,m,h,hi,hn=>by
   simp only [a9O,and_eq_true,or_eq_true,blt_eq,beq_eq] at h
   obtain rfl:x=m:=by simpa using hi
   rcases h.1 with h' | h'
   ·omega
   ·simpa using h'
 | x :: r,t,i+1,m,h,hi,hn=>by
   simp only [a9O,and_eq_true] at h;have:=a8F (i:=i) h.2 (by simpa using hi) (by omega);rw [this];congr 2;omega
def a4A (l:List Oper) (n:Nat):Bool :=
 decide (n <= l.length) && a9O n (masks l []) 0 &&
 ((List.range l.toArray.size).all fun i=>((l.toArray[i]?).map fun o=>(o.after.all fun e=>!Region.binds .any e || decide (e.on < i)) && (decide (n <= i) || ((o.guard.map fun g=>decide (g.1 < n)).getD true))).getD true)
section
variable {P:Program} {Q:Exit->Act->World->Prop} {l:List Oper} {n:Nat} {C:World->Prop}
structure aA1 (l:List Oper) (n:Nat):Prop where
 le:n <= l.length
 waits:∀ t i,t < l.length->n <= t->i < t->Reach l t i
 low:∀ i o,l.toArray[i]?=some o->∀ e ∈ o.after,Region.binds .any e=true->e.on < i
 guard:∀ i o g,l.toArray[i]?=some o->i < n->o.guard=some g->g.1 < n
theorem aBM (h:a4A l n=true):aA1 l n:=by
 simp only [a4A,and_eq_true,decide_eq_true_eq,all_eq_true,List.mem_range] at h;obtain ⟨⟨h1,h2⟩,h3⟩:=h
 have hsz:l.toArray.size=l.length:=by simp
 obtain ⟨k1,k2⟩:=aCX (l:=l) l [] [] rfl rfl (fun i m hi=>by simp at hi);refine ⟨h1,fun t i ht hn hi=>?_,fun i o ho e he hb=>?_,fun i o g ho hi hg=>?_⟩
 ·have htm:t < (masks l []).length:=by omega
  have hg:(masks l [])[t]?=some (masks l [])[t]:=by simp [htm]
  have:=a8F h2 hg (by omega);refine k1 t _ hg i ?_;rw [this,zero_add,Nat.testBit_two_pow_sub_one];simpa using hi
 ·have hi:i < l.toArray.size:=(Array.getElem?_eq_some_iff.1 ho).1;have:=h3 i hi;rw [ho] at this;simp only [Option.map_some,Option.getD_some,and_eq_true,Array.all_eq_true'] at this;have h4:=this.1 e he;simp only [hb,Bool.not_true,Bool.false_or,decide_eq_true_eq] at h4;exact h4
 ·have hi':i < l.toArray.size:=(Array.getElem?_eq_some_iff.1 ho).1;have:=h3 i hi';rw [ho] at this;simp only [Option.map_some,Option.getD_some,and_eq_true,hg,or_eq_true,decide_eq_true_eq] at this;rcases this.2 with h | h
  ·omega
  ·exact h
theorem aHA (ok:aA1 l n):∀ (d t:Nat) (listed:Array Bool) (a:Act) (w:World),l.length - t=d->n <= t->t <= l.length->listed.size=l.length ->
    (∀ i,i < t->listed.getD i true ≠ false)->(∀ i,t <= i->i < l.length->listed.getD i true=false) ->
    wpList P l.toArray Q (l.drop t) a w->wpAny P .any l.toArray Q d listed a w:=by
 intro d
 induction d with
 | zero =>
   intro t listed a w hd hn ht hs h1 h2 hw
   obtain rfl:t=l.length:=by omega
   rw [List.drop_length] at hw;refine ⟨?_,hw⟩;refine List.eq_nil_iff_forall_not_mem.2 fun i hi=>?_;obtain ⟨hu,o,ho,_⟩:=mem_ready.1 hi;have:i < l.toArray.size:=(Array.getElem?_eq_some_iff.1 ho).1
   exact h1 i (by simpa using this) hu
 | succ d ih =>
   intro t listed a w hd hn ht hs h1 h2 hw
   have htl:t < l.length:=by omega
   have hot:l.toArray[t]?=some l[t]:=by simp [htl]
   have hmem:t ∈ Region.ready .any l.toArray listed:=mem_ready.2 ⟨h2 t (le_refl _) htl,l[t],hot,fun e he hb=>by
    have:=ok.low t _ hot e he hb
    exact aAo (by omega) (h1 e.on this)⟩
   refine ⟨fun h=>(by rw [h] at hmem; cases hmem),fun i hi=>?_⟩;obtain ⟨hu,o,ho,hall⟩:=mem_ready.1 hi
   have hil:i < l.length:=by have:i < l.toArray.size:=(Array.getElem?_eq_some_iff.1 ho).1; simpa using this
   have hit:i=t:=by
    rcases Nat.lt_trichotomy i t with h | h | h
    ·exact absurd hu (h1 i h)
    ·exact h
    ·have h3:=(ok.waits i t hil (by omega) h).done (ls:=listed) (fun j oj hj hjl e he hb=>by
      have hjt:j < t:=by
       rcases lt_or_ge j t with h' | h'
       ·exact h'
       ·have hjl':j < l.length:=by have:j < l.toArray.size:=(Array.getElem?_eq_some_iff.1 hj).1; simpa using this
        rw [h2 j h' hjl'] at hjl;cases hjl
      have:=ok.low j oj hj e he hb
      exact aAo (by omega) (h1 e.on (by omega))) o ho hall
     rw [getD_both (h2 t (le_refl _) htl)] at h3;cases h3
   subst hit
   have hw2:wpOp P l.toArray Q i (wpList P l.toArray Q (l.drop (i+1))) a w:=by
    rw [List.drop_eq_getElem_cons htl] at hw;unfold wpOp;simp only [hot];exact hw
   refine wpOp_mono (fun a' w' h'=>ih (i+1) (listed.setIfInBounds i true) a' w' (by omega) (by omega) (by omega) (by simpa using hs) (fun k hk=>?_) (fun k hk hk'=>?_) h') hw2
   ·by_cases hki:k=i
    ·subst hki; simp [hs,hil]
    ·have:=h1 k (by omega);rwa [getD_set_ne true (by omega)]
   ·rw [getD_set_ne true (by omega)]; exact h2 k (by omega) hk'
theorem aEF (ok:aA1 l n) {i:Nat} {o:Oper} (hi:i < n) (ho:l.toArray[i]?=some o) (tm:Array Value):Region.wanted o (yielded (l.take n).toArray tm)=Region.wanted o (yielded l.toArray tm):=by
 unfold Region.wanted
 cases hg:o.guard with
 | none=>rfl
 | some g =>
   obtain ⟨g,b⟩:=g;have hgn:g < n:=ok.guard i o (g,b) ho hi hg;have:=take_get (l:=l) g hgn;simp only [yielded,this]
theorem aMb (ok:aA1 l n) {i:Nat} (hi:i < n) {K:Act->World->Prop} {a:Act} {w:World} (h:wpOp P (l.take n).toArray Q i K a w):wpOp P l.toArray Q i K a w:=by
 unfold wpOp at *
 rw [take_get i hi] at h
 cases ho:l.toArray[i]? with
 | none=>simp only [ho] at h ⊢; exact h
 | some o =>
   simp only [ho] at h ⊢;rw [aEF ok hi ho] at h;exact h
theorem a5r (ok:aA1 l n):∀ (f:Nat) (rem:List Nat) (ls ls':Array Bool) (a:Act) (w:World),rem.length=f->rem.Nodup->ls.size=l.length->ls'.size=n ->
    (∀ i,i < n->ls.getD i true=ls'.getD i true)->(∀ i,i < n->(ls.getD i true=false ↔ i ∈ rem))->(∀ i,n <= i->i < l.length->ls.getD i true=false)->(∀ i ∈ rem,i < n)->(∀ j oj,l.toArray[j]?=some oj->ls.getD j true=true->∀ e ∈ oj.after,Region.binds .any e=true->ls.getD e.on false=true) ->
    wpAny P .any (l.take n).toArray (a2y P l n Q) f ls' a w->wpAny P .any l.toArray Q (f+(l.length - n)) ls a w:=by
 intro f
 induction f with
 | zero =>
   intro rem ls ls' a w hr hnd hs hs' hsame hmem htl hlt _ hq;have hrem:rem=[]:=List.length_eq_zero_iff.1 hr;subst hrem;rw [zero_add]
   exact aHA ok _ n ls a w rfl (le_refl _) ok.le hs (fun i hi h=>by have:=(hmem i hi).1 h; cases this) htl hq.2
 | succ f ih =>
   intro rem ls ls' a w hr hnd hs hs' hsame hmem htl hlt hcl hq;have le:=ok.le
   have hready:∀ i,i < n->(i ∈ Region.ready .any (l.take n).toArray ls' ↔ i ∈ Region.ready .any l.toArray ls):=fun i hi=>by
    rw [mem_ready,mem_ready,hsame i hi,take_get i hi];have hsz:ls'.size=n:=hs'
    have key:∀ o,l.toArray[i]?=some o->((∀ e ∈ o.after,Region.binds .any e=true->ls'.getD e.on false=true) ↔ (∀ e ∈ o.after,Region.binds .any e=true->ls.getD e.on false=true)):=fun o ho=>by
     refine forall_congr' fun e=>forall_congr' fun he=>forall_congr' fun hb=>?_;have h1:e.on < i:=ok.low i o ho e he hb;have h2:=hsame e.on (by omega)
     have h3:e.on < ls'.size:=by omega
     have h4:e.on < ls.size:=by omega
     simp [h3,h4] at h2 ⊢;rw [h2]
    constructor
    ·rintro ⟨p,o,ho,q⟩; exact ⟨p,o,ho,(key o ho).1 q⟩
    ·rintro ⟨p,o,ho,q⟩; exact ⟨p,o,ho,(key o ho).2 q⟩
   have hex:∃ i,i ∈ rem:=by
    cases rem with
    | nil=>simp at hr
    | cons x _=>exact ⟨x,mem_cons_self ..⟩
   have hleast:∃ i,i < n/\ls.getD i true=false/\∀ k,k < i->ls.getD k true ≠ false:=by
    obtain ⟨i,hi⟩:=hex
    have:∀ (m i:Nat),i <= m->i < n->ls.getD i true=false->∃ i,i < n/\ls.getD i true=false/\∀ k,k < i->ls.getD k true ≠ false:=by
     intro m
     induction m with
     | zero=>intro i h0 h1 h2; exact ⟨i,h1,h2,fun k hk=>by omega⟩
     | succ m ihm =>
       intro i h0 h1 h2;by_cases h:∃ k,k < i/\ls.getD k true=false
       ·obtain ⟨k,hk,hk2⟩:=h; exact ihm k (by omega) (by omega) hk2
       ·exact ⟨i,h1,h2,fun k hk hk2=>h ⟨k,hk,hk2⟩⟩
    exact this i i (le_refl _) (hlt i hi) ((hmem i (hlt i hi)).2 hi)
   obtain ⟨i0,hi0,hu0,hmin⟩:=hleast
   have hr0:i0 ∈ Region.ready .any l.toArray ls:=by
    have ho:l.toArray[i0]?=some (l[i0]'(by omega)):=by simp [show i0 < l.length by omega]
    exact mem_ready.2 ⟨hu0,_,ho,fun e he hb=>aAo (by have:=ok.low i0 _ ho e he hb; omega) (hmin _ (ok.low i0 _ ho e he hb))⟩
   rw [show f+1+(l.length - n)=(f+(l.length - n))+1 by omega];refine ⟨fun h=>(by rw [h] at hr0; cases hr0),fun i hi=>?_⟩
   have hin:i < n:=by
    rcases lt_or_ge i n with h | h
    ·exact h
    ·obtain ⟨hu,o,ho,hall⟩:=mem_ready.1 hi
     have hil:i < l.length:=by have:i < l.toArray.size:=(Array.getElem?_eq_some_iff.1 ho).1; simpa using this
     have h3:=(ok.waits i i0 hil h (by omega)).done hcl o ho hall;rw [getD_both hu0] at h3;cases h3
   have hu:=(mem_ready.1 hi).1;have hirem:i ∈ rem:=(hmem i hin).1 hu;have hq2:=hq.2 i ((hready i hin).2 hi)
   have hq3:wpOp P (l.take n).toArray Q i (wpAny P .any (l.take n).toArray (a2y P l n Q) f (ls'.setIfInBounds i true)) a w:=by
    unfold wpOp at hq2 ⊢;have hQ':LetsOut (a2y P l n Q)->LetsOut Q:=fun h=>h
    cases ho:(l.take n).toArray[i]? with
    | none=>simp only [ho] at hq2 ⊢; exact hq2
    | some o =>
      simp only [ho] at hq2 ⊢;split
      ·rename_i hw;rw [if_pos hw] at hq2
       rcases hq2 with h | ⟨h1,h2⟩
       ·refine .inl ?_
        unfold Oper.wp at *
        generalize (execOp a.eval o).run P w=res at *
        cases res with
        | ok x w' =>
          cases x <;> simp only [Oper.upon] at h ⊢ <;>
           first
            | exact h
            | exact Calls.mono h (fun e w'' he=>by cases e <;> first | exact he | exact he.elim)
        | halt x w'=>cases x <;> simp only [Oper.upon] at h ⊢ <;> first | exact h | exact (h:False).elim
       ·exact .inr ⟨h1,hQ' h2⟩
      ·rename_i hw;rw [if_neg hw] at hq2;exact hq2
   refine aMb ok hin (wpOp_mono (fun a' w' h'=>?_) hq3);refine ih (rem.erase i) (ls.setIfInBounds i true) (ls'.setIfInBounds i true) a' w' ?_ (hnd.erase i) (by simpa using hs) (by simpa using hs') (fun k hk=>?_) (fun k hk=>?_) (fun k hk hk'=>?_) (fun k hk=>hlt k (List.mem_of_mem_erase hk)) (fun j oj hj hjl e he hb=>?_) h'
   ·rw [List.length_erase_of_mem hirem]; omega
   ·by_cases hki:k=i
    ·subst hki
     have h3:k < ls'.size:=by omega
     have h4:k < ls.size:=by omega
     simp [h3,h4]
    ·rw [getD_set_ne true (by omega),getD_set_ne true (by omega)]; exact hsame k hk
   ·by_cases hki:k=i
    ·subst hki
     have h4:k < ls.size:=by omega
     rw [hnd.mem_erase_iff];simp [h4]
    ·rw [getD_set_ne true (by omega),hmem k hk,hnd.mem_erase_iff];simp [hki]
   ·rw [getD_set_ne true (by omega)]; exact htl k hk hk'
   ·have hset:∀ k,ls.getD k false=true->(ls.setIfInBounds i true).getD k false=true:=fun k hk=>getD_set_true hk;by_cases hji:j=i
    ·subst hji;obtain ⟨_,o,ho,hall⟩:=mem_ready.1 hi
     obtain rfl:o=oj:=by rw [hj] at ho; exact (Option.some.inj ho).symm
     exact hset _ (hall e he hb)
    ·rw [getD_set_ne true (by omega)] at hjl;exact hset _ (hcl j oj hj hjl e he hb)
