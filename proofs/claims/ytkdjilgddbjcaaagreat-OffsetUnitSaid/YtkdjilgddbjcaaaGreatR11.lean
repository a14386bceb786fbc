import Derived.Test.YtkdjilgddbjcaaaGreatR10
import Derived.Great.BuildSlice
import Derived.Laws.AppendOwn
import Derived.Great.FillDense
namespace Go.Proofs.YtkdjilgddbjcaaaGreat
open Go.RowKit
namespace Vc
structure St where
 tm:List AV
 bx:List Bx
def putS (s:St) (d:Option Nat) (x:AV):St :=
 match d with
 | some t=>{ s with tm:=s.tm.set t x }
 | none=>s
def evS (s:St):Operand->AV
 | .tmp t=>(s.tm[t]?).getD .u
 | .const (.int k n)=>.k (.c (.v (.int k n)))
 | .const (.bool b)=>.k (.c (.v (.bool b)))
 | .const (.string x)=>.k (.c (.v (.string x)))
 | _=>.u
inductive Sp:Type 1
 | no
 | yes (pre:Prop) (r:AV)
 | ex (α:Type) (pre:Prop) (φ:α->Prop) (r:α->AV)
structure Ctr where
 f:Nat
 sp:List AK->Sp
def getCtr:List Ctr->Nat->Option Ctr
 | [],_=>none
 | l :: r,t=>bif Nat.beq l.f t then some l else getCtr r t
theorem getCtr_spec:∀ {L:List Ctr} {t:Nat} {l:Ctr},getCtr L t=some l->l ∈ L/\l.f=t
 | [],_,_,h=>by simp [getCtr] at h
 | x :: r,t,l,h=>by
   unfold getCtr at h
   cases hx:Nat.beq x.f t with
   | true =>
     rw [hx] at h
     simp only [cond_true,Option.some.injEq] at h
     subst h
     exact ⟨List.mem_cons_self ..,by simpa using hx⟩
   | false =>
     rw [hx] at h
     obtain ⟨h1,h2⟩:=getCtr_spec (L:=r) h
     exact ⟨List.mem_cons_of_mem _ h1,h2⟩
def entersB (P:Program) (f:Nat):Bool :=
 match P.funcs[f]? with
 | some fn => !(fn.name == "runtime.NumGoroutine") && !fn.body.isNone
 | none=>false
theorem run_callFunc {P:Program} {f:Nat} (h:entersB P f=true) (args:Array Value) (w:World):(callFunc f args).run P w=.ok (.enter f args) w:=by
 unfold entersB at h
 split at h
 ·rename_i fn hf
  simp only [Bool.and_eq_true,Bool.not_eq_true'] at h
  unfold callFunc
  rw [Sem.run_bind,run_program]
  simp only [Result.andThen_ok,hf,h.1,h.2]
  rfl
 ·cases h
structure CtrOK (P:Program) (c:Ctr):Prop where
 ent:entersB P c.f=true
 yes:∀ (bs:Bs) (w:World) (xs:List AK) (vs:List Value) (pre:Prop) (r:AV),relKs bs w xs vs->bs.ar=[]->bs.gh=[]->c.sp xs=.yes pre r->pre->Calls P c.f vs.toArray w fun e w'=>∃ v,e=.returned v/\Ext w w'/\relV bs w' r v
 ex:∀ (bs:Bs) (w:World) (xs:List AK) (vs:List Value) (α:Type) (pre:Prop) (φ:α->Prop) (r:α->AV),relKs bs w xs vs->bs.ar=[]->bs.gh=[]->c.sp xs=.ex α pre φ r->pre->Calls P c.f vs.toArray w fun e w'=>∃ v,e=.returned v/\Ext w w'/\∃ x,φ x/\relV bs w' (r x) v
theorem CtrOK.of {P:Program} {c:Ctr} (h1:entersB P c.f=true) (h2:∀ (bs:Bs) (w:World) (xs:List AK) (vs:List Value) (pre:Prop) (r:AV),relKs bs w xs vs->bs.ar=[]->bs.gh=[]->c.sp xs=.yes pre r->pre->Calls P c.f vs.toArray w fun e w'=>∃ v,e=.returned v/\Ext w w'/\relV bs w' r v) (h3:∀ (xs:List AK) (α:Type) (pre:Prop) (φ:α->Prop) (r:α->AV),c.sp xs ≠ .ex α pre φ r):CtrOK P c :=
 ⟨h1,h2,fun _ _ _ _ _ _ _ _ _ _ _ h=>absurd h (h3 _ _ _ _ _)⟩
def kargs (ev:Operand->AV):List Operand->Option (List AK)
 | []=>some []
 | x :: l =>
   match ev x,kargs ev l with
   | .k y,some r=>some (y :: r)
   | _,_=>none
theorem kargs_rel {bs:Bs} {w:World} {ev:Operand->AV} {ρ:Operand->Value} (hev:∀ x,relV bs w (ev x) (ρ x)):∀ {l:List Operand} {r:List AK},kargs ev l=some r->relKs bs w r (l.map ρ)
 | [],r,h=>by simp only [kargs,Option.some.injEq] at h; subst h; trivial
 | x :: l,r,h=>by
   unfold kargs at h
   split at h
   ·rename_i y r' hx hl
    simp only [Option.some.injEq] at h
    subst h
    have hr:=hev x
    rw [hx] at hr
    exact ⟨hr,kargs_rel hev hl⟩
   ·cases h
def acall (C:List Ctr) (ev:Operand->AV) (c:Call):Sp :=
 match c.callee with
 | .value (.func f) =>
   match getCtr C f,kargs ev c.args.toList with
   | some k,some xs=>k.sp xs
   | _,_=>.no
 | _=>.no
theorem acall_get {C:List Ctr} {bs:Bs} {w:World} {ev:Operand->AV} {ρ:Operand->Value} (hev:∀ x,relV bs w (ev x) (ρ x)) {c:Call} (h:acall C ev c ≠ .no):∃ k xs,k ∈ C/\c.callee=.value (.func k.f)/\acall C ev c=k.sp xs/\relKs bs w xs (c.args.toList.map ρ):=by
 unfold acall at h ⊢
 split at h
 ·rename_i f hcal
  split at h
  ·rename_i k xs hk ha
   obtain ⟨hm,rfl⟩:=getCtr_spec hk
   exact ⟨k,xs,hm,hcal,rfl,kargs_rel hev ha⟩
  ·exact absurd rfl h
 ·exact absurd rfl h
theorem acall_run {P:Program} {ρ:Operand->Value} (hρ:∀ f,ρ (.func f)=.func (.func f) #[] #[]) {o:Oper} {c:Call} (ho:o.op=.call c) {k:Nat} (hk:entersB P k=true) (hcal:c.callee=.value (.func k)) (w:World) :
    (execOp ρ o).run P w=.ok (.enter k (c.args.toList.map ρ).toArray) w:=by
 simp [execOp,ho,go_sem,hcal,hρ]
 rw [run_callFunc hk]
 congr 2
 rw [<- Array.toList_inj]
 simp
theorem acall_sound {P:Program} {C:List Ctr} (hC:∀ c ∈ C,CtrOK P c) {bs:Bs} (hA:bs.ar=[]) (hG:bs.gh=[]) {w:World} {ev:Operand->AV} {ρ:Operand->Value} (hev:∀ x,relV bs w (ev x) (ρ x)) (hρ:∀ f,ρ (.func f)=.func (.func f) #[] #[]) {o:Oper} {c:Call} (ho:o.op=.call c) {pre:Prop} {r:AV}
    (h:acall C ev c=.yes pre r) (hp:pre):∃ f args,(execOp ρ o).run P w=.ok (.enter f args) w/\Calls P f args w fun e w'=>∃ v,e=.returned v/\Ext w w'/\relV bs w' r v:=by
 obtain ⟨k,xs,hm,hcal,he,hr⟩:=acall_get (C:=C) (c:=c) hev (by rw [h]; intro e; cases e)
 exact ⟨_,_,acall_run hρ ho (hC k hm).ent hcal w,(hC k hm).yes bs w xs _ pre r hr hA hG (by rw [<- he,h]) hp⟩
theorem acall_ex {P:Program} {C:List Ctr} (hC:∀ c ∈ C,CtrOK P c) {bs:Bs} (hA:bs.ar=[]) (hG:bs.gh=[]) {w:World} {ev:Operand->AV} {ρ:Operand->Value} (hev:∀ x,relV bs w (ev x) (ρ x)) (hρ:∀ f,ρ (.func f)=.func (.func f) #[] #[]) {o:Oper} {c:Call} (ho:o.op=.call c) {α:Type} {pre:Prop} {φ:α->Prop} {r:α->AV}
    (h:acall C ev c=.ex α pre φ r) (hp:pre):∃ f args,(execOp ρ o).run P w=.ok (.enter f args) w/\Calls P f args w fun e w'=>∃ v,e=.returned v/\Ext w w'/\∃ x,φ x/\relV bs w' (r x) v:=by
 obtain ⟨k,xs,hm,hcal,he,hr⟩:=acall_get (C:=C) (c:=c) hev (by rw [h]; intro e; cases e)
 exact ⟨_,_,acall_run hρ ho (hC k hm).ent hcal w,(hC k hm).ex bs w xs _ α pre φ r hr hA hG (by rw [<- he,h]) hp⟩
def nats (ev:Operand->AV):List (Nat × Operand)->Nat->Option (List Int)
 | [],_=>some []
 | (i,x) :: r,n =>
   match ev x,nats ev r (n+1) with
   | .k (.c (.v (.int .u32 z))),some l=>bif Nat.beq i n then some (z :: l) else none
   | _,_=>none
def amake (L:List Lay) (ev:Operand->AV):Op->Option (Option Prop × AV)
 | .call c =>
   match c.callee,c.args.toList,c.argTypes.toList with
   | .builtin .append,[.const (.slice none 0 0),x],[T,U] =>
     match ev x,getLay L T with
     | .k (.c (.sl l)),some y=>bif Nat.beq y.kd 2 && Nat.beq T U then some (some (l.length <= 1000000000),.k (.c (.sl l))) else none
     | _,_=>none
   | _,_,_=>none
 | .buildSlice T n parts =>
   match getLay L T,nats ev parts.toList 0 with
   | some y,some l=>bif Nat.beq y.kd 2 && Nat.beq l.length n && Nat.ble n 1000 && Nat.ble 1 n then some (some (∀ z ∈ l,0 <= z),.k (.c (.sl (l.map Int.toNat)))) else none
   | _,_=>none
 | _=>none
theorem nats_rel {bs:Bs} {w:World} {ev:Operand->AV} {ρ:Operand->Value} (hev:∀ x,relV bs w (ev x) (ρ x)):∀ {parts:List (Nat × Operand)} {n:Nat} {l:List Int},nats ev parts n=some l->parts.map (fun (i,x)=>(i,ρ x))=((l.map (Value.int .u32)).zipIdx n).map fun x=>(x.2,x.1)
 | [],n,l,h=>by simp only [nats,Option.some.injEq] at h; subst h; rfl
 | (i,x) :: r,n,l,h=>by
   unfold nats at h
   split at h
   ·rename_i z l' hx hl
    cases hb:Nat.beq i n with
    | false=>rw [hb] at h; simp at h
    | true =>
      rw [hb] at h
      simp only [cond_true,Option.some.injEq] at h
      subst h
      have hr:=hev x
      rw [hx] at hr
      obtain ⟨e1,_⟩:=hr
      have hi:i=n:=by simpa using hb
      have ih:=nats_rel hev (n:=n+1) hl
      simp only [List.map_cons,List.zipIdx_cons,e1,hi]
      rw [ih]
   ·cases h
theorem slU_new {w:World} {cs:Array Value} {T:TypeId} {l:List Nat} {n cap:Nat} (hn:n=l.length) (hc:n <= cap) (h:∀ i (hi:i < l.length),cs[i]?=some (.int .u32 (l[i]:Int))):SlU (w.alloc (.cells cs T)) (.slice (some ⟨w.heap.size,0,none⟩) n cap) l:=by
 refine SlU.mk hn hc (fun _=>by simp) (fun i hi=>?_)
 have hb:(w.alloc (.cells cs T)).heap[w.heap.size]?=some (.cells cs T (0,0)):=by unfold World.alloc; simp
 rw [Lib.cell_of_heap hb,Nat.zero_add]
 exact h i hi
theorem amake_sound {P:Program} {L:List Lay} (hL:∀ l ∈ L,LayOK P l) {bs:Bs} {w:World} {ev:Operand->AV} {ρ:Operand->Value} (hev:∀ x,relV bs w (ev x) (ρ x)) (hρ:∀ v,ρ (.const v)=v) (hfr:∀ g,w.heap.size <= g->bs.away g) {o:Oper} {pre:Option Prop} {r:AV}
    (h:amake L ev o.op=some (pre,r)) (hp:due pre):∃ v w',(execOp ρ o).run P w=.ok (.value v) w'/\Ext w w'/\relV bs w' r v:=by
 cases hop:o.op with
 | call c =>
   rw [hop] at h
   simp only [amake] at h
   split at h
   ·rename_i x T U hcal hargs htys
    split at h
    ·rename_i l y hx hl
     cases hkd:(Nat.beq y.kd 2 && Nat.beq T U) with
     | false=>rw [hkd] at h; simp at h
     | true =>
       rw [hkd] at h
       simp only [cond_true,Option.some.injEq,Prod.mk.injEq] at h
       obtain ⟨rfl,rfl⟩:=h
       simp only [Bool.and_eq_true,Nat.beq_eq] at hkd
       obtain ⟨hk2,rfl⟩:=hkd
       have hr:=hev x
       rw [hx] at hr
       obtain ⟨hm,rfl⟩:=getLay_spec hl
       obtain ⟨e,ie,z,hu,hi,hsz,hz,hzc,hby⟩:=(hL y hm).slice hk2
       simp only [due] at hp
       have hargs':c.args=#[.const (.slice none 0 0),x]:=by rw [<- Array.toList_inj]; simpa using hargs
       have htys':c.argTypes=#[y.t,y.t]:=by rw [<- Array.toList_inj]; simpa using htys
       have hrun:∀ v w',(Builtin.append_ #[y.t,y.t] o.type #[.slice none 0 0,ρ x]).run P w=.ok v w'->(execOp ρ o).run P w=.ok (.value v) w':=fun v w' hq=>by
        have e1:execOp ρ o=(do pure (Next.value (<- Builtin.append_ c.argTypes o.type (c.args.map ρ)))):=by
         unfold execOp
         rw [hop]
         simp only [resolve,hcal]
         rfl
        have em:(#[Operand.const (.slice none 0 0),x]:Array Operand).map ρ=#[.slice none 0 0,ρ x]:=by simp [hρ]
        rw [e1,htys',hargs',em]
        exact run_v hq
       have hr':SlU w (ρ x) l:=hr.1
       rcases hr'.cases with ⟨rfl,a,cap,hv,_⟩ | ⟨h0,b,off,cap,hv,hcap,hb,hcell⟩
       ·refine ⟨.slice none 0 0,w,hrun _ _ ?_,Ext.refl w,SlU.nil w,fun g hg=>by cases hg⟩
        rw [hv]
        cases a <;> simp [Builtin.append_,run_underlying hu,sizeOf,typeInfo,hi,Builtin.lenOf,Builtin.firstCells,loadCells,loadCellsFrom]
       ·have:=run_append_nil (P:=P) w y.t o.type e ie z hu hi hz ⟨b,off,none⟩ l.length cap (l.map uV) (by rw [hsz]; simp) (fun j v hj=>by
            rw [addr_plain]
            have hj':j < l.length:=by
             rcases Nat.lt_or_ge j l.length with h' | h'
             ·exact h'
             ·rw [List.getElem?_eq_none (by simpa using h')] at hj; cases hj
            rw [hcell j hj']
            simpa [uV,hj'] using hj) h0 (by omega) (by rw [hby]; omega)
        refine ⟨_,_,hrun _ _ (by rw [hv]; exact this),((Ext.refl w).drew).alloc _,?_⟩
        refine ⟨slU_new (w:=w.drew) rfl (grownCap_ge w l.length 0 e) (fun i hi'=>?_),fun g hg=>.inr (hfr g (by cases hg; exact Nat.le_refl _))⟩
        rw [Array.getElem?_append_left (by simpa using hi')]
        simp [uV,hi']
    ·cases h
   ·cases h
 | buildSlice T n parts =>
   rw [hop] at h
   simp only [amake] at h
   split at h
   ·rename_i y l hl hn
    cases hkd:(Nat.beq y.kd 2 && Nat.beq l.length n && Nat.ble n 1000 && Nat.ble 1 n) with
    | false=>rw [hkd] at h; simp at h
    | true =>
      rw [hkd] at h
      simp only [cond_true,Option.some.injEq,Prod.mk.injEq] at h
      obtain ⟨rfl,rfl⟩:=h
      simp only [Bool.and_eq_true,Nat.beq_eq,Nat.ble_eq] at hkd
      obtain ⟨⟨⟨hk2,hlen⟩,hle⟩,h0⟩:=hkd
      obtain ⟨hm,rfl⟩:=getLay_spec hl
      obtain ⟨e,ie,z,hu,hi,hsz,hz,hzc,hby⟩:=(hL y hm).slice hk2
      simp only [due] at hp
      ·have hrun:=run_buildSlice (P:=P) w y.t e n (parts.map fun (i,x)=>(i,ρ x)) (l.map (Value.int .u32)).toArray ie z hu hi hz (by rw [hsz]; omega) (by rw [hsz]; omega) (by
        rw [hsz]
        have:=nats_rel hev (n:=0) hn
        rw [Array.toList_map,this]
        exact Great.fill_flat _ _ (fun v hv=>by obtain ⟨n,_,rfl⟩:=List.mem_map.1 hv; rfl) (by simp [hlen]))
       have hr2:(execOp ρ o).run P w=.ok (.value (.slice (some ⟨w.heap.size,0,none⟩) n n)) (w.alloc (.cells (l.map (Value.int .u32)).toArray e)):=by
        unfold execOp
        rw [hop]
        exact run_v hrun
       refine ⟨_,_,hr2,(Ext.refl w).alloc _,?_⟩
       ·refine ⟨slU_new (by simp [hlen]) (Nat.le_refl _) (fun i hi'=>?_),fun g hg=>.inr (hfr g (by cases hg; exact Nat.le_refl _))⟩
        simp at hi'
        have hz':=hp l[i] (List.getElem_mem hi')
        simp [hi']
        omega
   ·cases h
 | _=>rw [hop] at h; simp [amake] at h
def wid:List AC->Nat
 | []=>0
 | x :: l=>x.width+wid l
theorem wid_eq:∀ l,(flats l).length=wid l
 | []=>rfl
 | x :: l=>by rw [flats,List.length_append,flat_length,wid_eq l,wid]
def kparts (ev:Operand->AV):List (Nat × Operand)->Nat->Option (List AK)
 | [],_=>some []
 | (i,x) :: r,n =>
   match ev x,kparts ev r (n+1) with
   | .k y,some l=>bif Nat.beq i n then some (y :: l) else none
   | _,_=>none
def allW (sz:Nat):List AK->Bool
 | []=>true
 | y :: l=>Nat.beq (wid y.cells) sz && softs y.cells && allW sz l
def catK:List AK->List AC
 | []=>[]
 | y :: l=>y.cells ++ catK l
def abuild (L:List Lay) (ev:Operand->AV) (T n:Nat) (parts:Array (Nat × Operand)):Option Bx :=
 match getLay L T with
 | some y =>
   match getLay L y.el,kparts ev parts.toList 0 with
   | some e,some l=>bif Nat.beq y.kd 10 && Nat.beq l.length n && Nat.ble n 1000 && Nat.ble 1 n && Nat.ble e.size 100 && Nat.ble 1 e.size && allW e.size l then some ⟨y.el,catK l⟩ else none
   | _,_=>none
 | none=>none
theorem kparts_rel {bs:Bs} {w:World} {ev:Operand->AV} {ρ:Operand->Value} (hev:∀ x,relV bs w (ev x) (ρ x)):∀ {parts:List (Nat × Operand)} {n:Nat} {l:List AK},kparts ev parts n=some l->∃ vs:List Value,relKs bs w l vs/\parts.map (fun (i,x)=>(i,ρ x))=(vs.zipIdx n).map fun x=>(x.2,x.1)
 | [],n,l,h=>by simp only [kparts,Option.some.injEq] at h; subst h; exact ⟨[],trivial,rfl⟩
 | (i,x) :: r,n,l,h=>by
   unfold kparts at h
   split at h
   ·rename_i y l' hx hl
    cases hb:Nat.beq i n with
    | false=>rw [hb] at h; simp at h
    | true =>
      rw [hb] at h
      simp only [cond_true,Option.some.injEq] at h
      subst h
      have hr:=hev x
      rw [hx] at hr
      have hi:i=n:=by simpa using hb
      obtain ⟨vs,h1,h2⟩:=kparts_rel hev (n:=n+1) hl
      refine ⟨ρ x :: vs,⟨hr,h1⟩,?_⟩
      simp only [List.map_cons,List.zipIdx_cons,hi]
      rw [h2]
   ·cases h
theorem allW_rel {bs:Bs} {w:World} {sz:Nat}:∀ {l:List AK} {vs:List Value},allW sz l=true->relKs bs w l vs->(∀ v ∈ vs,v.cells.size=sz)/\relL bs w (flats (catK l)) (vs.flatMap fun v=>v.cells.toList)/\softs (catK l)=true
 | [],[],_,_=>⟨fun v hv=>(by cases hv),trivial,rfl⟩
 | y :: l,v :: vs,h,k=>by
   simp only [allW,Bool.and_eq_true,Nat.beq_eq] at h
   obtain ⟨⟨h1,h2⟩,h3⟩:=h
   obtain ⟨g1,g2,g3⟩:=allW_rel h3 k.2
   have hc:=cells_rel k.1
   have hlen:=hc.len
   rw [wid_eq,h1] at hlen
   refine ⟨fun u hu=>?_,?_,?_⟩
   ·rcases List.mem_cons.1 hu with rfl | hu
    ·rw [hlen]; simp
    ·exact g1 u hu
   ·rw [catK,flats_append,List.flatMap_cons]
    exact hc.append g2
   ·rw [catK]
    have:∀ a b:List AC,softs a=true->softs b=true->softs (a ++ b)=true:=by
     intro a b
     induction a with
     | nil=>intro _ hb; exact hb
     | cons x a ih =>
       intro ha hb
       simp only [softs,Bool.and_eq_true,List.cons_append] at ha ⊢
       exact ⟨ha.1,ih ha.2 hb⟩
    exact this _ _ h2 g3
 | [],_ :: _,_,k=>k.elim
 | _ :: _,[],_,k=>k.elim
theorem abuild_sound {P:Program} {L:List Lay} (hL:∀ l ∈ L,LayOK P l) {bs:Bs} {w:World} {ev:Operand->AV} {ρ:Operand->Value} (hev:∀ x,relV bs w (ev x) (ρ x)) {o:Oper} {T n:Nat} {parts:Array (Nat × Operand)} (ho:o.op=.buildSlice T n parts) {b:Bx}
    (h:abuild L ev T n parts=some b):∃ vs:List Value,(execOp ρ o).run P w=.ok (.value (.slice (some ⟨w.heap.size,0,none⟩) n n)) (w.alloc (.cells vs.toArray b.T))/\relL bs w (flats b.cs) vs/\softs b.cs=true:=by
 unfold abuild at h
 split at h <;> try (cases h; done)
 rename_i y hy
 split at h <;> try (cases h; done)
 rename_i e l he hl
 cases hc:(Nat.beq y.kd 10 && Nat.beq l.length n && Nat.ble n 1000 && Nat.ble 1 n && Nat.ble e.size 100 && Nat.ble 1 e.size && allW e.size l) with
 | false=>rw [hc] at h; simp at h
 | true =>
   rw [hc] at h
   simp only [cond_true,Option.some.injEq] at h
   subst h
   simp only [Bool.and_eq_true,Nat.beq_eq,Nat.ble_eq] at hc
   obtain ⟨⟨⟨⟨⟨⟨h1,h2⟩,h3⟩,h4⟩,h5⟩,h6⟩,h7⟩:=hc
   obtain ⟨hm,rfl⟩:=getLay_spec hy
   obtain ⟨hme,het⟩:=getLay_spec he
   have hu:=(hL y hm).sl10 h1
   have hsz:=(hL e hme).size
   obtain ⟨i,z,hi,hz,_⟩:=(hL e hme).zero
   rw [het] at hsz hi
   have hs:i.size=e.size:=by rw [hi] at hsz; simpa using hsz
   obtain ⟨vs,k1,k2⟩:=kparts_rel hev (n:=0) hl
   obtain ⟨g1,g2,g3⟩:=allW_rel h7 k1
   have hvl:=k1.len
   have hle:n*e.size <= 1000*100:=Nat.mul_le_mul h3 h5
   have hp:1*1 <= n*e.size:=Nat.mul_le_mul h4 h6
   refine ⟨vs.flatMap fun v=>v.cells.toList,?_,g2,g3⟩
   have hrun:=run_buildSlice (P:=P) w y.t y.el n (parts.map fun (i,x)=>(i,ρ x)) (vs.flatMap fun v=>v.cells.toList).toArray i z hu hi hz (by rw [hs]; omega) (by rw [hs]; omega) (by
    rw [hs,Array.toList_map,k2]
    exact Great.fill_whole (by omega) _ _ g1 (by simp; rw [<- hvl,h2]))
   unfold execOp
   rw [ho]
   exact run_v hrun
def aop (L:List Lay) (C:List Ctr) (o:Oper) (s:St) (K:St->Prop):Prop :=
 match o.guard,o.op with
 | some _,_=>False
 | none,.store T a x =>
   match evS s a,evS s x,getLay L T with
   | .k (.c (.bx i off)),.k y,some l =>
     match s.bx[i]? with
     | some b =>
       bif Nat.beq (wid y.cells) l.size && softs y.cells && Nat.ble (off+l.size) (wid b.cs) then
        match upd 99 b.cs off l.size (wid b.cs) y.cells with
        | some cs=>K (putS { s with bx:=s.bx.set i ⟨b.T,cs⟩ } o.dst .u)
        | none=>False
       else False
     | none=>False
   | _,_,_=>False
 | none,.alloc T =>
   match getLay L T with
   | some l=>bif Nat.beq l.kd 5 then False else K (putS { s with bx:=s.bx ++ [⟨T,l.zero⟩] } o.dst (.k (.c (.bx s.bx.length 0))))
   | none=>False
 | none,.box T x =>
   match evS s x with
   | .k y=>bif softs y.cells then K (putS { s with bx:=s.bx ++ [⟨T,y.cells⟩] } o.dst (.k (.c (.bx s.bx.length 0)))) else False
   | _=>False
 | none,.call c =>
   match apure L s.bx (evS s) (.call c),amake L (evS s) (.call c) with
   | some (none,r),_=>K (putS s o.dst r)
   | some (some p,r),_=>p/\K (putS s o.dst r)
   | none,some (none,r)=>K (putS s o.dst r)
   | none,some (some p,r)=>p/\K (putS s o.dst r)
   | none,none =>
     match acall C (evS s) c with
     | .yes pre r=>pre/\K (putS s o.dst r)
     | .ex α pre φ r=>pre/\∀ x:α,φ x->K (putS s o.dst (r x))
     | .no=>False
 | none,.buildSlice T n parts =>
   match amake L (evS s) (.buildSlice T n parts) with
   | some (none,r)=>K (putS s o.dst r)
   | some (some p,r)=>p/\K (putS s o.dst r)
   | none =>
     match abuild L (evS s) T n parts with
     | some b=>K (putS { s with bx:=s.bx ++ [b] } o.dst (.k (.c (.ba s.bx.length n))))
     | none=>False
 | none,op =>
   match apure L s.bx (evS s) op with
   | some (none,r)=>K (putS s o.dst r)
   | some (some p,r)=>p/\K (putS s o.dst r)
   | none=>False
def aops (L:List Lay) (C:List Ctr):List Oper->St->(St->Prop)->Prop
 | [],s,K=>K s
 | o :: r,s,K=>aop L C o s fun s'=>aops L C r s' K
structure Rl (w0:World) (bs:Bs) (s:St) (a:Act) (w:World):Prop where
 ext:Ext w0 w
 lo:bs.lo=w0.heap.size
 har:bs.ar=[]
 hgh:bs.gh=[]
 nd:bs.l.Nodup
 len:bs.l.length=s.bx.length
 box:BoxesAt bs w0.heap.size w s.bx
 bnd:∀ b ∈ bs.l,b < w.heap.size
 tmp:∀ (t:Nat) (x:AV),s.tm[t]?=some x->relV bs w x (a.tmps.getD t undef)
 tl:s.tm.length=a.tmps.size
 dfr:a.defers=[]
section
variable {P:Program} {L:List Lay} {C:List Ctr} {w0 w:World} {bs:Bs} {s:St} {a:Act}
theorem Rl.fresh (h:Rl w0 bs s a w) (g:Nat) (_:w.heap.size <= g):bs.away g:=⟨by rw [h.har]; simp,by rw [h.hgh]; simp⟩
theorem Rl.ev (h:Rl w0 bs s a w):∀ x,relV bs w (evS s x) (a.eval x)
 | .tmp t=>by
   simp only [evS]
   cases ht:s.tm[t]? with
   | none=>trivial
   | some x=>exact h.tmp t x ht
 | .const v=>by
   cases v <;> first | trivial | exact ⟨rfl,rfl⟩
 | .global _=>trivial
 | .func _=>trivial
theorem Rl.put (h:Rl w0 bs s a w) {r:AV} {v:Value} (hv:relV bs w r v) (d:Option Nat):Rl w0 bs (putS s d r) (a.put d v) w:=by
 cases d with
 | none=>exact h
 | some t =>
   refine ⟨h.ext,h.lo,h.har,h.hgh,h.nd,h.len,h.box,h.bnd,fun t' x hx=>?_,by simp [putS,Act.put,h.tl],h.dfr⟩
   simp only [putS] at hx
   simp only [Act.put]
   rw [List.getElem?_set] at hx
   split at hx
   ·rename_i e
    subst e
    split at hx
    ·rename_i hlt
     obtain rfl:r=x:=by simpa using hx
     have:t < a.tmps.size:=by rw [<- h.tl]; exact hlt
     simp [Array.getD,this]
     exact hv
    ·cases hx
   ·rename_i e
    have:=h.tmp t' x hx
    have e2:(a.tmps.setIfInBounds t v).getD t' undef=a.tmps.getD t' undef:=by
     simp only [Array.getD_eq_getD_getElem?]
     rw [Array.getElem?_setIfInBounds_ne (by simpa using e)]
    rw [e2]; exact this
theorem Rl.later (h:Rl w0 bs s a w) {w':World} (he:Ext w w'):Rl w0 bs s a w' :=
 ⟨h.ext.trans he,h.lo,h.har,h.hgh,h.nd,h.len,h.box.ext he,fun b hb=>Nat.lt_of_lt_of_le (h.bnd b hb) he.size,fun t x hx=>(Keep.ext he).relV (h.tmp t x hx),h.tl,h.dfr⟩
theorem Rl.new (h:Rl w0 bs s a w) {cs:List AC} {vs:List Value} (hr:relL bs w (flats cs) vs) (hs:softs cs=true) (T:Nat) :
    Rl w0 (bs.more [w.heap.size]) { s with bx:=s.bx ++ [⟨T,cs⟩] } a (w.alloc (.cells vs.toArray T)):=by
 have he:Ext w (w.alloc (.cells vs.toArray T)):=(Ext.refl w).alloc _
 have hk:Keep bs (bs.more [w.heap.size]) w (w.alloc (.cells vs.toArray T)):=(Keep.ext he).trans (Keep.more _ _ _)
 refine ⟨h.ext.trans he,h.lo,h.har,h.hgh,?_,by simp [h.len],fun i b x h1 h2=>?_,fun b hb=>?_,fun t x hx=>hk.relV (h.tmp t x hx),h.tl,h.dfr⟩
 ·rw [List.nodup_append]
  refine ⟨h.nd,by simp,fun x hx y hy=>?_⟩
  simp only [List.mem_singleton] at hy
  have:=h.bnd x hx
  omega
 ·rcases Nat.lt_or_ge i bs.l.length with hi | hi
  ·rw [List.getElem?_append_left hi] at h1
   rw [List.getElem?_append_left (by rw [<- h.len]; exact hi)] at h2
   obtain ⟨g1,us,g2,g3,g4⟩:=(h.box i b x h1 h2).ext he
   exact ⟨g1,us,g2,(Keep.more _ _ _).relL g3,g4⟩
  ·have hi2:i=bs.l.length:=by
    have:i < (bs.l ++ [w.heap.size]).length:=by
     rcases Nat.lt_or_ge i (bs.l ++ [w.heap.size]).length with h' | h'
     ·exact h'
     ·rw [List.getElem?_eq_none h'] at h1; cases h1
    simp at this
    omega
   subst hi2
   have e1:b=w.heap.size:=by simpa using h1.symm
   have e2:x=⟨T,cs⟩:=by rw [h.len] at h2; simpa using h2.symm
   subst e1 e2
   refine ⟨h.ext.size,vs,by unfold World.alloc; simp,hk.relL hr,softs_rel (softs_flat hs) hr⟩
 ·rcases List.mem_append.1 hb with hb | hb
  ·exact Nat.lt_of_lt_of_le (h.bnd b hb) he.size
  ·simp only [List.mem_singleton] at hb
   subst hb
   simp
theorem ext_setCells {w0:World} {g:Nat} (hg:w0.heap.size <= g):∀ (us:List Value) (o:Nat) {w:World},Ext w0 w->Ext w0 (w.setCells g o us)
 | [],_,_,h=>h
 | u :: us,o,_,h=>ext_setCells hg us (o+1) (h.setCell hg u)
theorem nodup_inj {l:List Nat} (h:l.Nodup) {i j c:Nat} (hi:l[i]?=some c) (hj:l[j]?=some c):i=j:=by
 obtain ⟨hi',e1⟩:=List.getElem?_eq_some_iff.1 hi
 obtain ⟨hj',e2⟩:=List.getElem?_eq_some_iff.1 hj
 rcases Nat.lt_trichotomy i j with h' | h' | h'
 ·exact absurd (e1.trans e2.symm) (List.pairwise_iff_getElem.1 h i j hi' hj' h')
 ·exact h'
 ·exact absurd (e2.trans e1.symm) (List.pairwise_iff_getElem.1 h j i hj' hi' h')
theorem heap_setCells (b:Nat):∀ (vs:List Value) (o:Nat) (w:World) (cur:List Value) (T:TypeId),w.heap[b]?=some (.cells cur.toArray T (0,0))->o+vs.length <= cur.length ->
    (w.setCells b o vs).heap[b]?=some (.cells (cur.take o ++ vs ++ cur.drop (o+vs.length)).toArray T (0,0))/\(w.setCells b o vs).heap.size=w.heap.size/\∀ k,k ≠ b->(w.setCells b o vs).heap[k]?=w.heap[k]?
 | [],o,w,cur,T,h,_=>by
   simp only [List.append_nil,List.length_nil,Nat.add_zero,List.take_append_drop]
   exact ⟨h,rfl,fun _ _=>rfl⟩
 | v :: vs,o,w,cur,T,h,hl=>by
   simp only [List.length_cons] at hl
   simp only [World.setCells]
   have h1:(w.setCell ⟨b,o,none⟩ v).heap[b]?=some (.cells (cur.set o v).toArray T (0,0)):=by
    rw [heap_setCell_same w b o _ _ v h]; simp
   obtain ⟨g1,g2,g3⟩:=heap_setCells b vs (o+1) (w.setCell ⟨b,o,none⟩ v) (cur.set o v) T h1 (by simp; omega)
   refine ⟨?_,by rw [g2]; simp [World.setCell],fun k hk=>?_⟩
   ·rw [g1]
    have hlt:o < cur.length:=by omega
    have e1:(cur.set o v).take (o+1)=cur.take o ++ [v]:=by
     rw [List.take_succ_eq_append_getElem (by simpa using hlt),List.take_set_of_le (by omega)]
     simp
    have e2:(cur.set o v).drop (o+1+vs.length)=cur.drop (o+(vs.length+1)):=by
     rw [List.drop_set_of_lt (by omega)]
     congr 1
     omega
    rw [e1,e2]
    simp
   ·rw [g3 k hk,Below.heap_setCell _ _ _ _ (by exact hk)]
theorem run_storeAt_any (w:World) (b o:Nat) (T:TypeId) (u:Value) (cur:List Value) (T':TypeId) (hb:w.heap[b]?=some (.cells cur.toArray T' (0,0))) (hl:o+u.cells.toList.length <= cur.length)
    (hi:(P.info? T).map (·.size)=some u.cells.toList.length) (h1:∀ v ∈ u.cells.toList,v.oneCell'=true) :
    (Instr.storeAt T (.pointer (some ⟨b,o,none⟩)) u).run P w=.ok () (w.setCells b o u.cells.toList):=by
 have:=run_storeCells_cells (P:=P) b o u.cells.toList 0 w (fun j hj=>by
     rw [Nat.add_zero,Lib.cell_of_heap hb]
     have:o+j < cur.length:=by omega
     simp [this]) (fun j hj=>by simp [World.frozen?,hb]) h1
 cases hq:P.info? T with
 | none=>simp [hq] at hi
 | some i =>
   have hs:u.cells.size=i.size:=by simp [hq] at hi; omega
   simp only [Nat.add_zero] at this
   simp only [Instr.storeAt,Instr.sureAddr,Sem.run_bind,Sem.run_pure,Result.andThen_ok]
   simp [storeVar,sizeOf,typeInfo,hq,hs,this]
theorem Rl.store (h:Rl w0 bs s a w) {i off n:Nat} {b:Bx} {g:Nat} {cs ys:List AC} {us:List Value} (hg:bs.l[i]?=some g) (hb:s.bx[i]?=some b) (hu:upd 99 b.cs off n (wid b.cs) ys=some cs) (hn:(flats ys).length=n) (hle:off+n <= wid b.cs) (hsoft:softs ys=true)
    (hr:relL bs w (flats ys) us):Rl w0 bs { s with bx:=s.bx.set i ⟨b.T,cs⟩ } a (w.setCells g off us):=by
 obtain ⟨h1,vs,h2,h3,h4⟩:=h.box i g b hg hb
 have hul:us.length=n:=by rw [<- hr.len,hn]
 have hvl:vs.length=wid b.cs:=by rw [<- h3.len,wid_eq]
 obtain ⟨k1,k2,k3⟩:=heap_setCells g us off w vs b.T h2 (by omega)
 have hext:Ext w0 (w.setCells g off us):=ext_setCells h1 us off h.ext
 have hk:Keep bs bs w (w.setCells g off us):=⟨fun u l hs a=>⟨slU_apart hs h2 (fun v hv=>h4 v (by simpa using hv)) k2 k3,a⟩,fun _ _ _ hc a=>⟨cell_apart hc h2 (fun v hv=>h4 v (by simpa using hv)) k3,a⟩,fun _ _ e=>e,fun c hc1 hc2=>⟨hc1,by rw [k2]; exact hc2,fun o=>by
  have hne:c ≠ g:=by rw [h.lo] at hc1; omega
  unfold World.cell?
  simp only [k3 c hne]⟩⟩
 refine ⟨hext,h.lo,h.har,h.hgh,h.nd,by simp [h.len],fun j c x hj hx=>?_,fun c hc=>by rw [k2]; exact h.bnd c hc,fun t x hx=>hk.relV (h.tmp t x hx),h.tl,h.dfr⟩
 rw [List.getElem?_set] at hx
 split at hx
 ·rename_i e
  subst e
  split at hx
  ·obtain rfl:(⟨b.T,cs⟩:Bx)=x:=by simpa using hx
   obtain rfl:g=c:=by rw [hg] at hj; simpa using hj
   refine ⟨h1,_,k1,?_,fun u hu=>?_⟩
   ·rw [upd_spec hu]
    refine hk.relL (relL.append (relL.append (h3.take off) hr) ?_)
    have e:vs.drop (off+us.length)=(vs.drop (off+n)).take (wid b.cs - off - n):=by rw [hul]; exact (List.take_of_length_le (by simp; omega)).symm
    rw [e]
    exact (h3.drop (off+n)).take _
   ·simp only [List.mem_append] at hu
    rcases hu with (hu | hu) | hu
    ·exact h4 u (List.mem_of_mem_take hu)
    ·exact softs_rel (softs_flat hsoft) hr u hu
    ·exact h4 u (List.mem_of_mem_drop hu)
  ·cases hx
 ·rename_i e
  obtain ⟨g1,us',g2,g3,g4⟩:=h.box j c x hj hx
  have hne:c ≠ g:=by
   rintro rfl
   exact e (nodup_inj h.nd hg hj)
  exact ⟨g1,us',by rw [k3 c hne]; exact g2,hk.relL g3,g4⟩
theorem aop_wp (hL:∀ l ∈ L,LayOK P l) (hC:∀ c ∈ C,CtrOK P c) {Q:Exit->Act->World->Prop} {o:Oper} {K:St->Prop} (h:aop L C o s K) (hR:Rl w0 bs s a w) :
    o.guard=none/\∀ K':Act->World->Prop,(∀ s' bs' a' w',K s'->Rl w0 bs' s' a' w'->K' a' w')->o.wp P a w K' Q:=by
 have pure_case:∀ {pre:Option Prop} {r:AV},o.guard=none->apure L s.bx (evS s) o.op=some (pre,r)->due pre->K (putS s o.dst r)->o.guard=none/\∀ K':Act->World->Prop,(∀ s' bs' a' w',K s'->Rl w0 bs' s' a' w'->K' a' w')->o.wp P a w K' Q:=fun {pre r} hg hp hd hK=>by
  refine ⟨hg,fun K' hK'=>?_⟩
  obtain ⟨v,h1,h2⟩:=apure_sound hL hR.ev hR.box hp hd
  unfold Oper.wp
  rw [h1]
  exact hK' _ _ _ _ hK (hR.put h2 o.dst)
 have make_case:∀ {pre:Option Prop} {r:AV},o.guard=none->amake L (evS s) o.op=some (pre,r)->due pre->K (putS s o.dst r)->o.guard=none/\∀ K':Act->World->Prop,(∀ s' bs' a' w',K s'->Rl w0 bs' s' a' w'->K' a' w')->o.wp P a w K' Q:=fun {pre r} hg hp hd hK=>by
  refine ⟨hg,fun K' hK'=>?_⟩
  obtain ⟨v,w',h1,h2,h3⟩:=amake_sound hL hR.ev (fun v=>rfl) hR.fresh hp hd
  unfold Oper.wp
  rw [h1]
  exact hK' _ _ _ _ hK ((hR.later h2).put h3 o.dst)
 unfold aop at h
 split at h
 ·exact h.elim
 ·rename_i T x y hg ho
  split at h <;> try exact h.elim
  rename_i i off k l hx hy hl
  split at h <;> try exact h.elim
  rename_i b hb
  cases hc:(Nat.beq (wid k.cells) l.size && softs k.cells && Nat.ble (off+l.size) (wid b.cs)) with
  | false=>rw [hc] at h; exact h.elim
  | true =>
    rw [hc] at h
    simp only [cond_true] at h
    simp only [Bool.and_eq_true,Nat.beq_eq,Nat.ble_eq] at hc
    obtain ⟨⟨h1,h2⟩,h3⟩:=hc
    split at h <;> try exact h.elim
    rename_i cs hu
    have hrx:=hR.ev x; have hry:=hR.ev y
    rw [hx] at hrx; rw [hy] at hry
    obtain ⟨g,hgb,hv⟩:=hrx
    obtain ⟨hm,rfl⟩:=getLay_spec hl
    have hcr:=cells_rel hry
    obtain ⟨_,vs,b2,b3,_⟩:=hR.box i g b hgb hb
    have hn:(flats k.cells).length=l.size:=by rw [wid_eq,h1]
    refine ⟨hg,fun K' hK'=>?_⟩
    unfold Oper.wp
    have hrun:(execOp a.eval o).run P w=.ok .skip (w.setCells g off (a.eval y).cells.toList):=by
     simp only [execOp,ho,hv]
     refine run_u (run_storeAt_any w g off l.t (a.eval y) vs b.T b2 ?_ ?_ (relL.one hcr))
     ·rw [<- hcr.len,hn,<- b3.len,wid_eq]; exact h3
     ·rw [<- hcr.len,hn]; exact (hL l hm).size
    rw [hrun]
    exact hK' _ _ _ _ h ((hR.store hgb hb hu hn h3 h2 hcr).put (r:=.u) (v:=undef) trivial o.dst)
 ·rename_i T hg ho
  split at h <;> try exact h.elim
  rename_i l hl
  obtain ⟨hm,rfl⟩:=getLay_spec hl
  have hlo:=hL l hm
  cases h5:Nat.beq l.kd 5 with
  | true=>rw [h5] at h; exact h.elim
  | false =>
  rw [h5] at h
  simp only [cond_false] at h
  obtain ⟨i,z,hi,hz,hzr⟩:=hlo.zero
  refine ⟨hg,fun K' hK'=>?_⟩
  unfold Oper.wp
  have hrun:(execOp a.eval o).run P w=.ok (.value (.pointer (some ⟨w.heap.size,0,none⟩))) (w.alloc (.cells z.cells.toList.toArray l.t)):=by
   simp only [execOp,ho]
   refine run_v ?_
   simp [Instr.alloc,zeroValue,typeInfo,hi,hz,newVar,newRow]
  rw [hrun]
  have hR2:=hR.new (hzr bs w) (hlo.zsoft h5) l.t
  exact hK' _ _ _ _ h (hR2.put (r:=.k (.c (.bx s.bx.length 0))) (v:=.pointer (some ⟨w.heap.size,0,none⟩)) ⟨w.heap.size,by simp [hR.len],rfl⟩ o.dst)
 ·rename_i T x hg ho
  split at h <;> try exact h.elim
  rename_i y hy
  cases hs:softs y.cells with
  | false=>rw [hs] at h; exact h.elim
  | true =>
    rw [hs] at h
    simp only [cond_true] at h
    have hry:=hR.ev x
    rw [hy] at hry
    have hcr:=cells_rel hry
    refine ⟨hg,fun K' hK'=>?_⟩
    unfold Oper.wp
    have hrun:(execOp a.eval o).run P w=.ok (.value (.pointer (some ⟨w.heap.size,0,none⟩))) (w.alloc (.cells (a.eval x).cells.toList.toArray T)):=by
     simp only [execOp,ho]
     refine run_v ?_
     simp [Instr.box,newVar,newRow]
    rw [hrun]
    exact hK' _ _ _ _ h ((hR.new hcr hs T).put (r:=.k (.c (.bx s.bx.length 0))) (v:=.pointer (some ⟨w.heap.size,0,none⟩)) ⟨w.heap.size,by simp [hR.len],rfl⟩ o.dst)
 ·rename_i c hg ho
  split at h
  ·rename_i hr
   exact pure_case (pre:=none) hg (by rw [ho]; exact hr) trivial h
  ·rename_i hr
   exact pure_case (pre:=some _) hg (by rw [ho]; exact hr) h.1 h.2
  ·rename_i hr
   exact make_case (pre:=none) hg (by rw [ho]; exact hr) trivial h
  ·rename_i hr
   exact make_case (pre:=some _) hg (by rw [ho]; exact hr) h.1 h.2
  ·split at h
   ·rename_i pre r hcl
    refine ⟨hg,fun K' hK'=>?_⟩
    obtain ⟨f,args,h1,h2⟩:=acall_sound hC hR.har hR.hgh hR.ev (fun f=>rfl) ho hcl h.1
    unfold Oper.wp
    rw [h1]
    refine h2.mono ?_
    rintro e w' ⟨v,rfl,he,hv⟩
    exact hK' _ _ _ _ h.2 ((hR.later he).put hv o.dst)
   ·rename_i α pre φ r hcl
    refine ⟨hg,fun K' hK'=>?_⟩
    obtain ⟨f,args,h1,h2⟩:=acall_ex hC hR.har hR.hgh hR.ev (fun f=>rfl) ho hcl h.1
    unfold Oper.wp
    rw [h1]
    refine h2.mono ?_
    rintro e w' ⟨v,rfl,he,x,hx,hv⟩
    exact hK' _ _ _ _ (h.2 x hx) ((hR.later he).put hv o.dst)
   ·exact h.elim
 ·rename_i T n parts hg ho
  split at h
  ·rename_i hr
   exact make_case (pre:=none) hg (by rw [ho]; exact hr) trivial h
  ·rename_i hr
   exact make_case (pre:=some _) hg (by rw [ho]; exact hr) h.1 h.2
  ·split at h
   ·rename_i b hb
    refine ⟨hg,fun K' hK'=>?_⟩
    obtain ⟨vs,h1,h2,h3⟩:=abuild_sound hL hR.ev ho hb
    unfold Oper.wp
    rw [h1]
    exact hK' _ _ _ _ h ((hR.new h2 h3 b.T).put (r:=.k (.c (.ba s.bx.length n))) (v:=.slice (some ⟨w.heap.size,0,none⟩) n n) ⟨w.heap.size,by simp [hR.len],rfl⟩ o.dst)
   ·exact h.elim
 ·rename_i hg _ _ _ _ _
  split at h
  ·rename_i hr
   exact pure_case (pre:=none) hg hr trivial h
  ·rename_i hr
   exact pure_case (pre:=some _) hg hr h.1 h.2
  ·exact h.elim
theorem aop_sound (hL:∀ l ∈ L,LayOK P l) (hC:∀ c ∈ C,CtrOK P c) {ops:Array Oper} {Q:Exit->Act->World->Prop} {rest:List Oper} {o:Oper} {K:St->Prop} (h:aop L C o s K) (hR:Rl w0 bs s a w)
    (hk:∀ s' bs' a' w',K s'->Rl w0 bs' s' a' w'->wpList P ops Q rest a' w'):wpList P ops Q (o :: rest) a w:=by
 obtain ⟨hg,h2⟩:=aop_wp (Q:=Q) hL hC h hR
 exact wpList_plain hg fun K' hK'=>h2 K' fun s' bs' a' w' hK hR'=>hK' _ _ (hk s' bs' a' w' hK hR')
theorem aops_sound (hL:∀ l ∈ L,LayOK P l) (hC:∀ c ∈ C,CtrOK P c) {ops:Array Oper} {Q:Exit->Act->World->Prop}:∀ {l:List Oper} {s:St} {bs:Bs} {a:Act} {w:World} {K:St->Prop},aops L C l s K->Rl w0 bs s a w ->
    (∀ (s':St) (bs':Bs) (a':Act) (w':World),K s'->Rl w0 bs' s' a' w'->Q .normal a' w')->wpList P ops Q l a w
 | [],s,bs,a,w,_,h,hR,hk=>hk s bs a w h hR
 | _ :: _,_,_,_,_,_,h,hR,hk=>aop_sound hL hC h hR fun _ _ _ _ h' hR'=>aops_sound hL hC h' hR' hk
end
end Vc
end Go.Proofs.YtkdjilgddbjcaaaGreat
namespace Go.Proofs.YtkdjilgddbjcaaaGreat
open Go.RowKit
inductive Reach (l:List Oper):Nat->Nat->Prop
 | one {i k:Nat} (h:Region.waitsFor .any l.toArray i k=true):Reach l i k
 | step {i m k:Nat} (h:Region.waitsFor .any l.toArray i m=true) (r:Reach l m k):Reach l i k
theorem waitsFor_of {l:List Oper} {i:Nat} {o:Oper} (ho:l[i]?=some o) {e:Edge} (he:e ∈ o.after) (hb:Region.binds .any e=true):Region.waitsFor .any l.toArray i e.on=true:=by
 unfold Region.waitsFor
 have:l.toArray[i]?=some o:=by simpa using ho
 rw [this]
 exact Array.any_eq_true'.2 ⟨e,he,by simp [hb]⟩
theorem Reach.done {l:List Oper} {ls:Array Bool} (hcl:∀ j oj,l.toArray[j]?=some oj->ls.getD j true=true->∀ e ∈ oj.after,Region.binds .any e=true->ls.getD e.on false=true) {i k:Nat} (h:Reach l i k) :
    ∀ o,l.toArray[i]?=some o->(∀ e ∈ o.after,Region.binds .any e=true->ls.getD e.on false=true)->ls.getD k false=true:=by
 induction h with
 | one h =>
   intro o ho hall
   obtain ⟨oj,hoj,e,he,hb,hon⟩:=Region.waitsFor_spec h
   obtain rfl:oj=o:=Option.some.inj (hoj.symm.trans ho)
   rw [<- hon]
   exact hall e he hb
 | step h r ih =>
   intro o ho hall
   obtain ⟨oj,hoj,e,he,hb,hon⟩:=Region.waitsFor_spec h
   obtain rfl:oj=o:=Option.some.inj (hoj.symm.trans ho)
   have hm:=hall e he hb
   rw [hon] at hm
   rename_i m _
   have hm':ls.getD m true=true:=by
    rcases Nat.lt_or_ge m ls.size with h' | h'
    ·simp [h'] at hm ⊢; exact hm
    ·simp [h']
   have:∃ om,l.toArray[m]?=some om:=by
    cases r with
    | one h=>obtain ⟨om,h,_⟩:=Region.waitsFor_spec h; exact ⟨om,h⟩
    | step h _=>obtain ⟨om,h,_⟩:=Region.waitsFor_spec h; exact ⟨om,h⟩
   obtain ⟨om,hom⟩:=this
   exact ih om hom (hcl m om hom hm')
def maskE (ms:List Nat):List Edge->Nat
 | []=>0
 | e :: r=>bif Region.binds .any e then (1 <<< e.on) ||| ((ms[e.on]?).getD 0 ||| maskE ms r) else maskE ms r
theorem maskE_spec {ms:List Nat} {k:Nat}:∀ {es:List Edge},Nat.testBit (maskE ms es) k=true->∃ e ∈ es,Region.binds .any e=true/\(e.on=k \/ ∃ m,ms[e.on]?=some m/\Nat.testBit m k=true)
 | [],h=>by simp [maskE] at h
 | e :: r,h=>by
   unfold maskE at h
   cases hb:Region.binds .any e with
   | false =>
     rw [hb] at h
     obtain ⟨e',h1,h2⟩:=maskE_spec (es:=r) h
     exact ⟨e',List.mem_cons_of_mem _ h1,h2⟩
   | true =>
     rw [hb] at h
     simp only [cond_true,Nat.testBit_or,Bool.or_eq_true] at h
     rcases h with h | h | h
     ·refine ⟨e,List.mem_cons_self ..,hb,.inl ?_⟩
      rw [Nat.one_shiftLeft,Nat.testBit_two_pow] at h
      simpa using h
     ·refine ⟨e,List.mem_cons_self ..,hb,.inr ?_⟩
      cases hm:ms[e.on]? with
      | none=>rw [hm] at h; simp at h
      | some m=>rw [hm] at h; exact ⟨m,rfl,h⟩
     ·obtain ⟨e',h1,h2⟩:=maskE_spec (es:=r) h
      exact ⟨e',List.mem_cons_of_mem _ h1,h2⟩
def masks:List Oper->List Nat->List Nat
 | [],ms=>ms
 | o :: r,ms=>masks r (ms ++ [maskE ms o.after.toList])
def MaskOk (l:List Oper) (ms:List Nat):Prop:=∀ i m,ms[i]?=some m->∀ k,Nat.testBit m k=true->Reach l i k
theorem masks_ok {l:List Oper}:∀ (r p:List Oper) (ms:List Nat),l=p ++ r->ms.length=p.length->MaskOk l ms->MaskOk l (masks r ms)/\(masks r ms).length=l.length
 | [],p,ms,hl,hn,h=>⟨h,by rw [hl]; simpa [masks] using hn⟩
 | o :: r,p,ms,hl,hn,h=>by
   refine masks_ok r (p ++ [o]) _ (by rw [hl]; simp) (by simp [hn]) fun i m hi k hk=>?_
   rcases Nat.lt_or_ge i ms.length with h' | h'
   ·rw [List.getElem?_append_left h'] at hi
    exact h i m hi k hk
   ·have hil:i=p.length:=by
     have:=(List.getElem?_eq_some_iff.1 hi).1
     simp at this
     omega
    have hm:maskE ms o.after.toList=m:=by
     rw [List.getElem?_append_right h',show i - ms.length=0 by omega] at hi
     simpa using hi
    subst hm
    have ho:l[i]?=some o:=by rw [hl,hil]; simp
    obtain ⟨e,he,hb,hc⟩:=maskE_spec hk
    have hw:=waitsFor_of ho (by simpa using he) hb
    rcases hc with rfl | ⟨m',h1,h2⟩
    ·exact .one hw
    ·exact .step hw (h e.on m' h1 k h2)
def okMasks (n:Nat):List Nat->Nat->Bool
 | [],_=>true
 | m :: r,t=>(Nat.blt t n || Nat.beq m (2 ^ t - 1)) && okMasks n r (t+1)
theorem okMasks_spec {n:Nat}:∀ {ms:List Nat} {t i m:Nat},okMasks n ms t=true->ms[i]?=some m->n <= t+i->m=2 ^ (t+i) - 1
 | [],_,_,_,_,h,_=>by simp at h
 | x :: r,t,0,m,h,hi,hn=>by
   simp only [okMasks,Bool.and_eq_true,Bool.or_eq_true,Nat.blt_eq,Nat.beq_eq] at h
   obtain rfl:x=m:=by simpa using hi
   rcases h.1 with h' | h'
   ·omega
   ·simpa using h'
 | x :: r,t,i+1,m,h,hi,hn=>by
   simp only [okMasks,Bool.and_eq_true] at h
   have:=okMasks_spec (i:=i) h.2 (by simpa using hi) (by omega)
   rw [this]
   congr 2
   omega
def tail2B (l:List Oper) (n:Nat):Bool :=
 decide (n <= l.length) && okMasks n (masks l []) 0 &&
 ((List.range l.toArray.size).all fun i=>((l.toArray[i]?).map fun o=>(o.after.all fun e=>!Region.binds .any e || decide (e.on < i)) && (decide (n <= i) || ((o.guard.map fun g=>decide (g.1 < n)).getD true))).getD true)
section
variable {P:Program} {Q:Exit->Act->World->Prop} {l:List Oper} {n:Nat} {C:World->Prop}
structure TailOk2 (l:List Oper) (n:Nat):Prop where
 le:n <= l.length
 waits:∀ t i,t < l.length->n <= t->i < t->Reach l t i
 low:∀ i o,l.toArray[i]?=some o->∀ e ∈ o.after,Region.binds .any e=true->e.on < i
 guard:∀ i o g,l.toArray[i]?=some o->i < n->o.guard=some g->g.1 < n
theorem tailOk2_of (h:tail2B l n=true):TailOk2 l n:=by
 simp only [tail2B,Bool.and_eq_true,decide_eq_true_eq,List.all_eq_true,List.mem_range] at h
 obtain ⟨⟨h1,h2⟩,h3⟩:=h
 have hsz:l.toArray.size=l.length:=by simp
 obtain ⟨k1,k2⟩:=masks_ok (l:=l) l [] [] rfl rfl (fun i m hi=>by simp at hi)
 refine ⟨h1,fun t i ht hn hi=>?_,fun i o ho e he hb=>?_,fun i o g ho hi hg=>?_⟩
 ·have htm:t < (masks l []).length:=by omega
  have hg:(masks l [])[t]?=some (masks l [])[t]:=by simp [htm]
  have:=okMasks_spec h2 hg (by omega)
  refine k1 t _ hg i ?_
  rw [this,Nat.zero_add,Nat.testBit_two_pow_sub_one]
  simpa using hi
 ·have hi:i < l.toArray.size:=(Array.getElem?_eq_some_iff.1 ho).1
  have:=h3 i hi
  rw [ho] at this
  simp only [Option.map_some,Option.getD_some,Bool.and_eq_true,Array.all_eq_true'] at this
  have h4:=this.1 e he
  simp only [hb,Bool.not_true,Bool.false_or,decide_eq_true_eq] at h4
  exact h4
 ·have hi':i < l.toArray.size:=(Array.getElem?_eq_some_iff.1 ho).1
  have:=h3 i hi'
  rw [ho] at this
  simp only [Option.map_some,Option.getD_some,Bool.and_eq_true,hg,Bool.or_eq_true,decide_eq_true_eq] at this
  rcases this.2 with h | h
  ·omega
  ·exact h
theorem wpAny_tail2 (ok:TailOk2 l n):∀ (d t:Nat) (listed:Array Bool) (a:Act) (w:World),l.length - t=d->n <= t->t <= l.length->listed.size=l.length ->
    (∀ i,i < t->listed.getD i true ≠ false)->(∀ i,t <= i->i < l.length->listed.getD i true=false) ->
    wpList P l.toArray Q (l.drop t) a w->wpAny P .any l.toArray Q d listed a w:=by
 intro d
 induction d with
 | zero =>
   intro t listed a w hd hn ht hs h1 h2 hw
   obtain rfl:t=l.length:=by omega
   rw [List.drop_length] at hw
   refine ⟨?_,hw⟩
   refine List.eq_nil_iff_forall_not_mem.2 fun i hi=>?_
   obtain ⟨hu,o,ho,_⟩:=mem_ready.1 hi
   have:i < l.toArray.size:=(Array.getElem?_eq_some_iff.1 ho).1
   exact h1 i (by simpa using this) hu
 | succ d ih =>
   intro t listed a w hd hn ht hs h1 h2 hw
   have htl:t < l.length:=by omega
   have hot:l.toArray[t]?=some l[t]:=by simp [htl]
   have hmem:t ∈ Region.ready .any l.toArray listed:=mem_ready.2 ⟨h2 t (Nat.le_refl _) htl,l[t],hot,fun e he hb=>by
    have:=ok.low t _ hot e he hb
    exact getD_tf (by omega) (h1 e.on this)⟩
   refine ⟨fun h=>(by rw [h] at hmem; cases hmem),fun i hi=>?_⟩
   obtain ⟨hu,o,ho,hall⟩:=mem_ready.1 hi
   have hil:i < l.length:=by have:i < l.toArray.size:=(Array.getElem?_eq_some_iff.1 ho).1; simpa using this
   have hit:i=t:=by
    rcases Nat.lt_trichotomy i t with h | h | h
    ·exact absurd hu (h1 i h)
    ·exact h
    ·have h3:=(ok.waits i t hil (by omega) h).done (ls:=listed) (fun j oj hj hjl e he hb=>by
      have hjt:j < t:=by
       rcases Nat.lt_or_ge j t with h' | h'
       ·exact h'
       ·have hjl':j < l.length:=by have:j < l.toArray.size:=(Array.getElem?_eq_some_iff.1 hj).1; simpa using this
        rw [h2 j h' hjl'] at hjl
        cases hjl
      have:=ok.low j oj hj e he hb
      exact getD_tf (by omega) (h1 e.on (by omega))) o ho hall
     rw [getD_both (h2 t (Nat.le_refl _) htl)] at h3
     cases h3
   subst hit
   have hw2:wpOp P l.toArray Q i (wpList P l.toArray Q (l.drop (i+1))) a w:=by
    rw [List.drop_eq_getElem_cons htl] at hw
    unfold wpOp
    simp only [hot]
    exact hw
   refine wpOp_mono (fun a' w' h'=>ih (i+1) (listed.setIfInBounds i true) a' w' (by omega) (by omega) (by omega) (by simpa using hs) (fun k hk=>?_) (fun k hk hk'=>?_) h') hw2
   ·by_cases hki:k=i
    ·subst hki; simp [hs,hil]
    ·have:=h1 k (by omega)
     rwa [getD_set_ne true (by omega)]
   ·rw [getD_set_ne true (by omega)]; exact h2 k (by omega) hk'
theorem wanted_take2 (ok:TailOk2 l n) {i:Nat} {o:Oper} (hi:i < n) (ho:l.toArray[i]?=some o) (tm:Array Value):Region.wanted o (yielded (l.take n).toArray tm)=Region.wanted o (yielded l.toArray tm):=by
 unfold Region.wanted
 cases hg:o.guard with
 | none=>rfl
 | some g =>
   obtain ⟨g,b⟩:=g
   have hgn:g < n:=ok.guard i o (g,b) ho hi hg
   have:=take_get (l:=l) g hgn
   simp only [yielded,this]
theorem wpOp_take2 (ok:TailOk2 l n) {i:Nat} (hi:i < n) {K:Act->World->Prop} {a:Act} {w:World} (h:wpOp P (l.take n).toArray Q i K a w):wpOp P l.toArray Q i K a w:=by
 unfold wpOp at *
 rw [take_get i hi] at h
 cases ho:l.toArray[i]? with
 | none=>simp only [ho] at h ⊢; exact h
 | some o =>
   simp only [ho] at h ⊢
   rw [wanted_take2 ok hi ho] at h
   exact h
theorem wpAny_of_first2 (ok:TailOk2 l n):∀ (f:Nat) (rem:List Nat) (ls ls':Array Bool) (a:Act) (w:World),rem.length=f->rem.Nodup->ls.size=l.length->ls'.size=n ->
    (∀ i,i < n->ls.getD i true=ls'.getD i true)->(∀ i,i < n->(ls.getD i true=false ↔ i ∈ rem))->(∀ i,n <= i->i < l.length->ls.getD i true=false)->(∀ i ∈ rem,i < n)->(∀ j oj,l.toArray[j]?=some oj->ls.getD j true=true->∀ e ∈ oj.after,Region.binds .any e=true->ls.getD e.on false=true) ->
    wpAny P .any (l.take n).toArray (tailPost P l n Q) f ls' a w->wpAny P .any l.toArray Q (f+(l.length - n)) ls a w:=by
 intro f
 induction f with
 | zero =>
   intro rem ls ls' a w hr hnd hs hs' hsame hmem htl hlt _ hq
   have hrem:rem=[]:=List.length_eq_zero_iff.1 hr
   subst hrem
   rw [Nat.zero_add]
   exact wpAny_tail2 ok _ n ls a w rfl (Nat.le_refl _) ok.le hs (fun i hi h=>by have:=(hmem i hi).1 h; cases this) htl hq.2
 | succ f ih =>
   intro rem ls ls' a w hr hnd hs hs' hsame hmem htl hlt hcl hq
   have le:=ok.le
   have hready:∀ i,i < n->(i ∈ Region.ready .any (l.take n).toArray ls' ↔ i ∈ Region.ready .any l.toArray ls):=fun i hi=>by
    rw [mem_ready,mem_ready,hsame i hi,take_get i hi]
    have hsz:ls'.size=n:=hs'
    have key:∀ o,l.toArray[i]?=some o->((∀ e ∈ o.after,Region.binds .any e=true->ls'.getD e.on false=true) ↔ (∀ e ∈ o.after,Region.binds .any e=true->ls.getD e.on false=true)):=fun o ho=>by
     refine forall_congr' fun e=>forall_congr' fun he=>forall_congr' fun hb=>?_
     have h1:e.on < i:=ok.low i o ho e he hb
     have h2:=hsame e.on (by omega)
     have h3:e.on < ls'.size:=by omega
     have h4:e.on < ls.size:=by omega
     simp [h3,h4] at h2 ⊢
     rw [h2]
    constructor
    ·rintro ⟨p,o,ho,q⟩; exact ⟨p,o,ho,(key o ho).1 q⟩
    ·rintro ⟨p,o,ho,q⟩; exact ⟨p,o,ho,(key o ho).2 q⟩
   have hex:∃ i,i ∈ rem:=by
    cases rem with
    | nil=>simp at hr
    | cons x _=>exact ⟨x,List.mem_cons_self ..⟩
   have hleast:∃ i,i < n/\ls.getD i true=false/\∀ k,k < i->ls.getD k true ≠ false:=by
    obtain ⟨i,hi⟩:=hex
    have:∀ (m i:Nat),i <= m->i < n->ls.getD i true=false->∃ i,i < n/\ls.getD i true=false/\∀ k,k < i->ls.getD k true ≠ false:=by
     intro m
     induction m with
     | zero=>intro i h0 h1 h2; exact ⟨i,h1,h2,fun k hk=>by omega⟩
     | succ m ihm =>
       intro i h0 h1 h2
       by_cases h:∃ k,k < i/\ls.getD k true=false
       ·obtain ⟨k,hk,hk2⟩:=h; exact ihm k (by omega) (by omega) hk2
       ·exact ⟨i,h1,h2,fun k hk hk2=>h ⟨k,hk,hk2⟩⟩
    exact this i i (Nat.le_refl _) (hlt i hi) ((hmem i (hlt i hi)).2 hi)
   obtain ⟨i0,hi0,hu0,hmin⟩:=hleast
   have hr0:i0 ∈ Region.ready .any l.toArray ls:=by
    have ho:l.toArray[i0]?=some (l[i0]'(by omega)):=by simp [show i0 < l.length by omega]
    exact mem_ready.2 ⟨hu0,_,ho,fun e he hb=>getD_tf (by have:=ok.low i0 _ ho e he hb; omega) (hmin _ (ok.low i0 _ ho e he hb))⟩
   rw [show f+1+(l.length - n)=(f+(l.length - n))+1 by omega]
   refine ⟨fun h=>(by rw [h] at hr0; cases hr0),fun i hi=>?_⟩
   have hin:i < n:=by
    rcases Nat.lt_or_ge i n with h | h
    ·exact h
    ·obtain ⟨hu,o,ho,hall⟩:=mem_ready.1 hi
     have hil:i < l.length:=by have:i < l.toArray.size:=(Array.getElem?_eq_some_iff.1 ho).1; simpa using this
     have h3:=(ok.waits i i0 hil h (by omega)).done hcl o ho hall
     rw [getD_both hu0] at h3
     cases h3
   have hu:=(mem_ready.1 hi).1
   have hirem:i ∈ rem:=(hmem i hin).1 hu
   have hq2:=hq.2 i ((hready i hin).2 hi)
   have hq3:wpOp P (l.take n).toArray Q i (wpAny P .any (l.take n).toArray (tailPost P l n Q) f (ls'.setIfInBounds i true)) a w:=by
    unfold wpOp at hq2 ⊢
    have hQ':LetsOut (tailPost P l n Q)->LetsOut Q:=fun h=>h
    cases ho:(l.take n).toArray[i]? with
    | none=>simp only [ho] at hq2 ⊢; exact hq2
    | some o =>
      simp only [ho] at hq2 ⊢
      split
      ·rename_i hw
       rw [if_pos hw] at hq2
       rcases hq2 with h | ⟨h1,h2⟩
       ·refine .inl ?_
        unfold Oper.wp at *
        generalize (execOp a.eval o).run P w=res at *
        cases res with
        | ok x w' =>
          cases x <;> simp only [Oper.upon] at h ⊢ <;>
           first
            | exact h
            | exact Calls.mono h (fun e w'' he=>by cases e <;> first | exact he | exact he.elim)
        | halt x w'=>cases x <;> simp only [Oper.upon] at h ⊢ <;> first | exact h | exact (h:False).elim
       ·exact .inr ⟨h1,hQ' h2⟩
      ·rename_i hw
       rw [if_neg hw] at hq2
       exact hq2
   refine wpOp_take2 ok hin (wpOp_mono (fun a' w' h'=>?_) hq3)
   refine ih (rem.erase i) (ls.setIfInBounds i true) (ls'.setIfInBounds i true) a' w' ?_ (hnd.erase i) (by simpa using hs) (by simpa using hs') (fun k hk=>?_) (fun k hk=>?_) (fun k hk hk'=>?_) (fun k hk=>hlt k (List.mem_of_mem_erase hk)) (fun j oj hj hjl e he hb=>?_) h'
   ·rw [List.length_erase_of_mem hirem]; omega
   ·by_cases hki:k=i
    ·subst hki
     have h3:k < ls'.size:=by omega
     have h4:k < ls.size:=by omega
     simp [h3,h4]
    ·rw [getD_set_ne true (by omega),getD_set_ne true (by omega)]; exact hsame k hk
   ·by_cases hki:k=i
    ·subst hki
     have h4:k < ls.size:=by omega
     rw [hnd.mem_erase_iff]
     simp [h4]
    ·rw [getD_set_ne true (by omega),hmem k hk,hnd.mem_erase_iff]
     simp [hki]
   ·rw [getD_set_ne true (by omega)]; exact htl k hk hk'
   ·have hset:∀ k,ls.getD k false=true->(ls.setIfInBounds i true).getD k false=true:=fun k hk=>getD_set_true hk
    by_cases hji:j=i
    ·subst hji
     obtain ⟨_,o,ho,hall⟩:=mem_ready.1 hi
     obtain rfl:o=oj:=by rw [hj] at ho; exact (Option.some.inj ho).symm
     exact hset _ (hall e he hb)
    ·rw [getD_set_ne true (by omega)] at hjl
     exact hset _ (hcl j oj hj hjl e he hb)
end
end Go.Proofs.YtkdjilgddbjcaaaGreat
namespace Go.Proofs.YtkdjilgddbjcaaaGreat
open Go.RowKit
namespace Vc
section
variable {P:Program} {Q:Exit->Act->World->Prop} {l:List Oper} {w0:World} {a0:Act} {R:Nat->Value->World->Prop} {own:Nat->Value->Option Nat}
def Fresh (l:List Oper) (vals:Nat->Value) (a0:Act) (p:Nat->Oper->Prop):Prop:=∀ j oj t,l[j]?=some oj->p j oj->oj.dst=some t->(putAll l vals 0 a0).eval (.tmp t)=a0.eval (.tmp t)
theorem apart_inj:∀ {l:List Oper} {i j:Nat} {o o':Oper} {d:Tmp},apartB l=true->l[i]?=some o->l[j]?=some o'->o.dst=some d->o'.dst=some d->i=j
 | [],_,_,_,_,_,_,h,_,_,_=>by simp at h
 | x :: r,0,0,_,_,_,_,_,_,_,_=>rfl
 | x :: r,0,j+1,o,o',d,h,h1,h2,h3,h4=>by
   obtain rfl:x=o:=by simpa using h1
   exact absurd h4 ((apart_cons h).1 o' (List.mem_of_getElem? (by simpa using h2)) d h3)
 | x :: r,i+1,0,o,o',d,h,h1,h2,h3,h4=>by
   obtain rfl:x=o':=by simpa using h2
   exact absurd h3 ((apart_cons h).1 o (List.mem_of_getElem? (by simpa using h1)) d h4)
 | x :: r,i+1,j+1,o,o',d,h,h1,h2,h3,h4=>by
   exact congrArg (·+1) (apart_inj (l:=r) (apart_cons h).2 (by simpa using h1) (by simpa using h2) h3 h4)
theorem Fresh.step {vals:Nat->Value} {p q:Nat->Oper->Prop} (hA:apartB l=true) (h:Fresh l vals a0 p) {i:Nat} {o:Oper} (ho:l[i]?=some o) (v:Value) (hq:∀ j oj,l[j]?=some oj->q j oj->j ≠ i/\p j oj):Fresh l (Go.Proofs.YtkdjilgddbjcaaaGreat.upd vals i v) a0 q:=fun j oj t hj hp hd=>by
 obtain ⟨hne,hp'⟩:=hq j oj hj hp
 have e:=putAll_upd l 0 i a0 vals v o hA ho
 rw [Nat.zero_add] at e
 rw [<- e,Act.eval_put (fun d hd' hc=>by
  cases hc
  exact hne (apart_inj hA hj ho hd hd'))]
 exact h j oj t hj hp' hd
def FlowStep2 (P:Program) (Q:Exit->Act->World->Prop) (l:List Oper) (w0:World) (a0:Act) (R:Nat->Value->World->Prop) (own:Nat->Value->Option Nat) (i:Nat) (o:Oper):Prop :=
 ∀ (vals:Nat->Value) (w:World),Ext w0 w->(∀ e ∈ o.after,Region.binds .any e=true->R e.on (vals e.on) w)->Fresh l vals a0 (fun _ oj=>∃ e ∈ oj.after,Region.binds .any e=true/\e.on=i) ->
   wpOp P l.toArray Q i (fun a' w'=>∃ v,a'=(putAll l vals 0 a0).put o.dst v/\Ext w w'/\R i v w'/\∀ b,own i v=some b->w.heap.size <= b/\b < w'.heap.size) (putAll l vals 0 a0) w
def Apart (n:Nat) (own:Nat->Value->Option Nat) (vals:Nat->Value):Prop:=∀ i j b,i < n->j < n->own i (vals i)=some b->own j (vals j)=some b->i=j
theorem flow_sound2 (hA:apartB l=true) (hL:lowB l=true) (hR:∀ i v w w',Ext w w'->R i v w->R i v w')
    (hS:∀ i o,l[i]?=some o->FlowStep2 P Q l w0 a0 R own i o)
    (hQ:∀ vals w,Ext w0 w->(∀ i,i < l.length->R i (vals i) w)->Apart l.length own vals->(∀ i b,i < l.length->own i (vals i)=some b->w0.heap.size <= b/\b < w.heap.size)->Q .normal (putAll l vals 0 a0) w) :
    ∀ (d:Nat) (ls:Array Bool) (vals:Nat->Value) (w:World),ls.size=l.length->(∃ rem:List Nat,rem.length=d/\rem.Nodup/\∀ i,i < l.length->(ls.getD i true=false ↔ i ∈ rem)) ->
      Ext w0 w->(∀ i,i < l.length->ls.getD i true=true->R i (vals i) w) ->
      (∀ i j b,i < l.length->j < l.length->ls.getD i true=true->ls.getD j true=true->own i (vals i)=some b->own j (vals j)=some b->i=j) ->
      (∀ i b,i < l.length->ls.getD i true=true->own i (vals i)=some b->w0.heap.size <= b/\b < w.heap.size)->Fresh l vals a0 (fun j _=>ls.getD j true=false)->(∀ j oj,l[j]?=some oj->ls.getD j true=true->∀ e ∈ oj.after,Region.binds .any e=true->ls.getD e.on true=true) ->
      wpAny P .any l.toArray Q d ls (putAll l vals 0 a0) w:=by
 have hlow:∀ i o,l[i]?=some o->∀ e ∈ o.after,Region.binds .any e=true->e.on < i:=fun i o ho e he hb=>by
  have hi:i < l.length:=by
   rcases Nat.lt_or_ge i l.length with h | h
   ·exact h
   ·rw [List.getElem?_eq_none h] at ho; cases ho
  simp only [lowB,List.all_eq_true,List.mem_range] at hL
  have:=hL i hi
  rw [ho] at this
  simp only [Option.map_some,Option.getD_some,Array.all_eq_true'] at this
  have h4:=this e he
  simpa [hb] using h4
 have hend:∀ ls:Array Bool,ls.size=l.length->Region.ready .any l.toArray ls=[]->∀ i,i < l.length->ls.getD i true=true:=fun ls hs hr i hi=>by
  induction i using Nat.strongRecOn with
  | _ i ih =>
    rcases hb:ls.getD i true with _ | _
    ·exfalso
     have ho:l.toArray[i]?=some (l[i]):=by simp [hi]
     have:i ∈ Region.ready .any l.toArray ls:=mem_ready.2 ⟨hb,_,ho,fun e he hbd=>by
      have h1:=hlow i _ (by simp [hi]) e he hbd
      have h2:=ih e.on h1 (by omega)
      have h3:e.on < ls.size:=by omega
      simp [h3] at h2 ⊢
      exact h2⟩
     rw [hr] at this
     cases this
    ·rfl
 intro d
 induction d with
 | zero =>
   intro ls vals w hs hrem hE hV hD hB _ _
   obtain ⟨rem,h1,h2,h3⟩:=hrem
   have hall:∀ i,i < l.length->ls.getD i true=true:=fun i hi=>by
    rcases hb:ls.getD i true with _ | _
    ·have:=(h3 i hi).1 hb
     rw [List.length_eq_zero_iff.1 h1] at this
     cases this
    ·rfl
   refine ⟨List.eq_nil_iff_forall_not_mem.2 fun i hi=>?_,hQ vals w hE (fun i hi=>hV i hi (hall i hi)) (fun i j b hi hj=>hD i j b hi hj (hall i hi) (hall j hj)) (fun i b hi=>hB i b hi (hall i hi))⟩
   obtain ⟨hu,o,ho,_⟩:=mem_ready.1 hi
   have hil:i < l.length:=by have:i < l.toArray.size:=(Array.getElem?_eq_some_iff.1 ho).1; simpa using this
   rw [hall i hil] at hu
   cases hu
 | succ d ih =>
   intro ls vals w hs hrem hE hV hD hB hW hK
   refine ⟨fun hr=>hQ vals w hE (fun i hi=>hV i hi (hend ls hs hr i hi)) (fun i j b hi hj=>hD i j b hi hj (hend ls hs hr i hi) (hend ls hs hr j hj)) (fun i b hi=>hB i b hi (hend ls hs hr i hi)),fun i hi=>?_⟩
   obtain ⟨hu,o,ho,hall⟩:=mem_ready.1 hi
   have hil:i < l.length:=by have:i < l.toArray.size:=(Array.getElem?_eq_some_iff.1 ho).1; simpa using this
   have hol:l[i]?=some o:=by simpa using ho
   refine wpOp_mono ?_ (hS i o hol vals w hE (fun e he hb=>?_) fun j oj t hj hp hd=>hW j oj t hj (by
    obtain ⟨e,he,hb,hei⟩:=hp
    cases hls:ls.getD j true with
    | false=>rfl
    | true =>
      have:=hK j oj hj hls e he hb
      rw [hei,hu] at this
      cases this) hd)
   ·rintro a' w' ⟨v,rfl,hE',hRv,hov⟩
    rw [putAll_upd l 0 i a0 vals v o hA hol,Nat.zero_add]
    obtain ⟨rem,h1,h2,h3⟩:=hrem
    have him:i ∈ rem:=(h3 i hil).1 hu
    have hls:∀ k,k < l.length->k ≠ i->(ls.setIfInBounds i true).getD k true=true->ls.getD k true=true:=fun k hk hki h'=>by
     rwa [getD_set_ne true (by omega)] at h'
    refine ih _ _ _ (by simpa using hs) ⟨rem.erase i,by rw [List.length_erase_of_mem him]; omega,h2.erase i,fun k hk=>?_⟩ (hE.trans hE') (fun k hk hk'=>?_) (fun k j b hk hj hk' hj' e1 e2=>?_) (fun k b hk hk' e1=>?_) (hW.step hA hol v fun j oj hj hp=>by
     by_cases hji:j=i
     ·exfalso
      subst hji
      have h4:j < ls.size:=by omega
      simp [h4] at hp
     ·exact ⟨hji,by rwa [getD_set_ne true (by omega)] at hp⟩) (fun j oj hj hp e he hb=>by
     by_cases hei:e.on=i
     ·rw [hei]
      have h4:i < ls.size:=by omega
      simp [h4]
     ·rw [getD_set_ne true (by omega)]
      by_cases hji:j=i
      ·subst hji
       obtain rfl:o=oj:=by rw [hol] at hj; simpa using hj
       have h1:=hlow j o hol e he hb
       have h2:=hall e he hb
       have h3:e.on < ls.size:=by omega
       simp [h3] at h2 ⊢
       exact h2
      ·rw [getD_set_ne true (by omega)] at hp
       exact hK j oj hj hp e he hb)
    ·by_cases hki:k=i
     ·subst hki
      have h4:k < ls.size:=by omega
      rw [h2.mem_erase_iff]
      simp [h4]
     ·rw [getD_set_ne true (by omega),h3 k hk,h2.mem_erase_iff]
      simp [hki]
    ·by_cases hki:k=i
     ·subst hki; rw [upd_same]; exact hRv
     ·rw [upd_ne _ _ hki]
      exact hR k _ w w' hE' (hV k hk (hls k hk hki hk'))
    ·by_cases hki:k=i <;> by_cases hji:j=i
     ·rw [hki,hji]
     ·exfalso
      subst hki
      rw [upd_same] at e1
      rw [upd_ne _ _ hji] at e2
      have g1:=hov b e1
      have g2:=hB j b hj (hls j hj hji hj') e2
      omega
     ·exfalso
      subst hji
      rw [upd_same] at e2
      rw [upd_ne _ _ hki] at e1
      have g1:=hov b e2
      have g2:=hB k b hk (hls k hk hki hk') e1
      omega
     ·rw [upd_ne _ _ hki] at e1
      rw [upd_ne _ _ hji] at e2
      exact hD k j b hk hj (hls k hk hki hk') (hls j hj hji hj') e1 e2
    ·by_cases hki:k=i
     ·subst hki
      rw [upd_same] at e1
      have g1:=hov b e1
      have:=hE.size
      omega
     ·rw [upd_ne _ _ hki] at e1
      have g2:=hB k b hk (hls k hk hki hk') e1
      have:=hE'.size
      omega
   ·have h1:=hlow i o hol e he hb
    have h2:=hall e he hb
    have h3:e.on < ls.size:=by omega
    exact hV e.on (by omega) (by simp [h3] at h2 ⊢; exact h2)
theorem wp_region_flow2 {id:Nat} (n:Nat) (hm:P.follows .mixedOrders=true) (hA:apartB (l.take n)=true) (hL:lowB (l.take n)=true) (hT:tail2B l n=true) (hR:∀ i v w w',Ext w w'->R i v w->R i v w')
    (hS:∀ i o,(l.take n)[i]?=some o->FlowStep2 P (tailPost P l n Q) (l.take n) w0 a0 R own i o)
    (hQ:∀ vals w,Ext w0 w->(∀ i,i < (l.take n).length->R i (vals i) w)->Apart (l.take n).length own vals->(∀ i b,i < (l.take n).length->own i (vals i)=some b->w0.heap.size <= b/\b < w.heap.size)->wpList P l.toArray Q (l.drop n) (putAll (l.take n) vals 0 a0) w) :
    (Code.region id l.toArray true).wp P Q a0 w0:=by
 have ok:=tailOk2_of hT
 have le:=ok.le
 have htl:(l.take n).length=n:=by simp; omega
 refine wp_region_any hm ?_
 obtain ⟨f,hf⟩:=putAll_start (l.take n) 0 a0
 have hq:=flow_sound2 (P:=P) (Q:=tailPost P l n Q) (w0:=w0) (a0:=a0) hA hL hR hS (fun vals w h1 h2 h3 h4=>hQ vals w h1 h2 h3 h4) (l.take n).length (Array.replicate n false) f { w0 with drawn:=w0.drawn+1 } (by simp; omega)
  ⟨List.range n,by simp; omega,List.nodup_range,fun i hi=>by
   have:i < n:=by omega
   simp [this]⟩ (Ext.refl w0).drew (fun i hi h=>by
   have:i < n:=by omega
   simp [this] at h) (fun i j b hi hj h=>by
   have:i < n:=by omega
   simp [this] at h) (fun i b hi h=>by
   have:i < n:=by omega
   simp [this] at h) (fun j oj t _ _ _=>by rw [hf]) (fun j oj hj h=>by
   have:j < n:=by rw [<- htl]; exact (List.getElem?_eq_some_iff.1 hj).1
   simp [this] at h)
 rw [hf,htl] at hq
 have:=wpAny_of_first2 (P:=P) (Q:=Q) ok n (List.range n) (Array.replicate l.toArray.size false) (Array.replicate n false) a0 w0.drew (by simp) List.nodup_range (by simp) (by simp) (fun i hi=>?_) (fun i hi=>?_) (fun i hi hi'=>?_) (fun i hi=>by simpa using hi) (fun j oj hj hjl=>by
  have:j < l.length:=by have:j < l.toArray.size:=(Array.getElem?_eq_some_iff.1 hj).1; simpa using this
  simp [this] at hjl) hq
 ·have hsz:n+(l.length - n)=l.toArray.size:=by simp; omega
  rw [hsz] at this
  exact this
 ·have h1:i < l.length:=by omega
  simp only [Array.getD,Array.size_replicate,List.size_toArray,h1,hi,dif_pos]
  simp
 ·have h1:i < l.length:=by omega
  simp [h1,hi]
 ·simp [hi']
theorem wpOp_take3 {n:Nat} (hG:∀ i o g,l.toArray[i]?=some o->i < n->o.guard=some g->g.1 < n) {i:Nat} (hi:i < n) {K:Act->World->Prop} {a:Act} {w:World} (h:wpOp P (l.take n).toArray Q i K a w):wpOp P l.toArray Q i K a w:=by
 unfold wpOp at *
 rw [Go.Proofs.YtkdjilgddbjcaaaGreat.take_get i hi] at h
 cases ho:l.toArray[i]? with
 | none=>simp only [ho] at h ⊢; exact h
 | some o =>
   simp only [ho] at h ⊢
   have hw:Region.wanted o (yielded (l.take n).toArray a.tmps)=Region.wanted o (yielded l.toArray a.tmps):=by
    unfold Region.wanted
    cases hg:o.guard with
    | none=>rfl
    | some g =>
      obtain ⟨g,b⟩:=g
      have:=Go.Proofs.YtkdjilgddbjcaaaGreat.take_get (l:=l) g (hG i o (g,b) ho hi hg)
      simp only [yielded,this]
   rw [hw] at h
   exact h
theorem wp_region_flow2_seq {id:Nat} (n:Nat) (hn:n <= l.length) (hG:∀ i o g,l.toArray[i]?=some o->i < n->o.guard=some g->g.1 < n) (hA:apartB (l.take n)=true) (hL:lowB (l.take n)=true) (hR:∀ i v w w',Ext w w'->R i v w->R i v w')
    (hS:∀ i o,(l.take n)[i]?=some o->FlowStep2 P Q (l.take n) w0 a0 R own i o)
    (hQ:∀ vals w,Ext w0 w->(∀ i,i < n->R i (vals i) w)->Apart n own vals->(∀ i b,i < n->own i (vals i)=some b->w0.heap.size <= b/\b < w.heap.size)->wpList P l.toArray Q (l.drop n) (putAll (l.take n) vals 0 a0) w) :
    (Code.region id l.toArray false).wp P Q a0 w0:=by
 have htl:(l.take n).length=n:=by simp; omega
 have hlow:∀ i o,(l.take n)[i]?=some o->∀ e ∈ o.after,Region.binds .any e=true->e.on < i:=fun i o ho e he hb=>by
  have hi:i < (l.take n).length:=by
   rcases Nat.lt_or_ge i (l.take n).length with h | h
   ·exact h
   ·rw [List.getElem?_eq_none h] at ho; cases ho
  simp only [lowB,List.all_eq_true,List.mem_range] at hL
  have:=hL i hi
  rw [ho] at this
  simp only [Option.map_some,Option.getD_some,Array.all_eq_true'] at this
  have h4:=this e he
  simpa [hb] using h4
 refine wp_region_lit ?_
 have key:∀ (d k:Nat) (vals:Nat->Value) (w:World),k+d=n->Ext w0 w->(∀ i,i < k->R i (vals i) w)->(∀ i j b,i < k->j < k->own i (vals i)=some b->own j (vals j)=some b->i=j)->(∀ i b,i < k->own i (vals i)=some b->w0.heap.size <= b/\b < w.heap.size)->Fresh (l.take n) vals a0 (fun j _=>k <= j)->wpList P l.toArray Q (l.drop k) (putAll (l.take n) vals 0 a0) w:=by
  intro d
  induction d with
  | zero =>
    intro k vals w hk hE hV hD hB _
    obtain rfl:k=n:=by omega
    exact hQ vals w hE hV hD hB
  | succ d ih =>
    intro k vals w hk hE hV hD hB hW
    have hkl:k < l.length:=by omega
    have hol:(l.take n)[k]?=some l[k]:=by rw [List.getElem?_take_of_lt (by omega)]; simp [hkl]
    have hoa:l.toArray[k]?=some l[k]:=by simp [hkl]
    rw [List.drop_eq_getElem_cons hkl]
    have hst:=wpOp_take3 (n:=n) hG (show k < n by omega) (hS k _ hol vals w hE (fun e he hb=>hV e.on (hlow k _ hol e he hb)) (fun j oj t hj hp hd=>hW j oj t hj (by
     obtain ⟨e,he,hb,hei⟩:=hp
     have:=hlow j oj hj e he hb
     omega) hd))
    have fin:∀ a' w',(∃ v,a'=(putAll (l.take n) vals 0 a0).put l[k].dst v/\Ext w w'/\R k v w'/\∀ b,own k v=some b->w.heap.size <= b/\b < w'.heap.size)->wpList P l.toArray Q (l.drop (k+1)) a' w':=by
     rintro a' w' ⟨v,rfl,hE',hRv,hov⟩
     rw [putAll_upd (l.take n) 0 k a0 vals v _ hA hol,Nat.zero_add]
     refine ih (k+1) _ _ (by omega) (hE.trans hE') (fun i hi=>?_) (fun i j b hi hj e1 e2=>?_) (fun i b hi e1=>?_) (hW.step hA hol v fun j oj _ hp=>⟨by omega,by omega⟩)
     ·by_cases hik:i=k
      ·subst hik; rw [upd_same]; exact hRv
      ·rw [upd_ne _ _ hik]; exact hR i _ w w' hE' (hV i (by omega))
     ·by_cases hik:i=k <;> by_cases hjk:j=k
      ·rw [hik,hjk]
      ·exfalso
       subst hik
       rw [upd_same] at e1
       rw [upd_ne _ _ hjk] at e2
       have g1:=hov b e1
       have g2:=hB j b (by omega) e2
       omega
      ·exfalso
       subst hjk
       rw [upd_same] at e2
       rw [upd_ne _ _ hik] at e1
       have g1:=hov b e2
       have g2:=hB i b (by omega) e1
       omega
      ·rw [upd_ne _ _ hik] at e1
       rw [upd_ne _ _ hjk] at e2
       exact hD i j b (by omega) (by omega) e1 e2
     ·by_cases hik:i=k
      ·subst hik
       rw [upd_same] at e1
       have g1:=hov b e1
       have:=hE.size
       omega
      ·rw [upd_ne _ _ hik] at e1
       have g2:=hB i b (by omega) e1
       have:=hE'.size
       omega
    unfold wpOp at hst
    simp only [hoa] at hst
    unfold wpList
    split
    ·rename_i hw
     rw [if_pos hw] at hst
     exact hst.imp (Oper.wp_mono fin) (fun h=>h)
    ·rename_i hw
     rw [if_neg hw] at hst
     exact fin _ _ hst
 obtain ⟨f,hf⟩:=putAll_start (l.take n) 0 a0
 have:=key n 0 f w0 (by omega) (Ext.refl w0) (fun i hi=>by omega) (fun i j b hi=>by omega) (fun i b hi=>by omega) (fun j oj t _ _ _=>by rw [hf])
 rw [hf] at this
 exact this
end
end Vc
end Go.Proofs.YtkdjilgddbjcaaaGreat
namespace Go.Proofs.YtkdjilgddbjcaaaGreat
open Go.RowKit
namespace Vc
structure Ent where
 g:List (Nat × Bool)
 on:Bool
 nb:Option Bx
 av:AV
inductive FR
 | no
 | yes (pre:Option Prop) (e:Ent)
def hasEdge (o:Oper) (j:Nat):Bool:=o.after.toList.any fun e=>Region.binds .any e && Nat.beq e.on j
def findDst:List Oper->Nat->Nat->Option Nat
 | [],_,_=>none
 | o :: r,i,t =>
   match o.dst with
   | some d=>bif Nat.beq d t then some i else findDst r (i+1) t
   | none=>findDst r (i+1) t
def subG:List (Nat × Bool)->List (Nat × Bool)->Bool
 | [],_=>true
 | (a,p) :: r,gs=>gs.any (fun q=>Nat.beq a q.1 && (p == q.2)) && subG r gs
def evF (s:St) (ops:List Oper) (ents:List Ent) (o:Oper) (gs:List (Nat × Bool)):Operand->AV
 | .tmp t =>
   match findDst ops 0 t with
   | none=>evS s (.tmp t)
   | some j =>
     bif hasEdge o j then
      match ents[j]? with
      | some e=>bif subG e.g gs then e.av else .u
      | none=>.u
     else
      match ops[j]? with
      | some oj=>bif hasEdge oj ents.length then evS s (.tmp t) else .u
      | none=>.u
 | x=>evS s x
def fcore (L:List Lay) (C:List Ctr) (s:St) (ops:List Oper) (ents:List Ent) (o:Oper) (g:List (Nat × Bool)) (on:Bool):FR :=
 match o.op with
 | .alloc T =>
   match getLay L T,g with
   | some l,[]=>bif Nat.beq l.kd 5 then .no else .yes none ⟨[],true,some ⟨T,l.zero⟩,.u⟩
   | _,_=>.no
 | .pick (.tmp c) a b =>
   match findDst ops 0 c with
   | some gi =>
     bif !hasEdge o gi then .no else
     match evF s ops ents o g (.tmp c),evF s ops ents o ((gi,true) :: g) a,evF s ops ents o ((gi,false) :: g) b with
     | .k (.c (.v (.bool p))),.k (.c (.v (.bool x))),.k (.c (.v (.bool y)))=>.yes none ⟨g,on,none,.k (.c (.v (.bool (bif p then x else y))))⟩
     | _,_,_=>.no
   | none=>.no
 | .call c =>
   match apure L s.bx (evF s ops ents o g) (.call c),amake L (evF s ops ents o g) (.call c) with
   | some (p,r),_=>.yes p ⟨g,on,none,r⟩
   | none,some (p,r)=>.yes p ⟨g,on,none,r⟩
   | none,none =>
     match acall C (evF s ops ents o g) c with
     | .yes pre r=>.yes (some pre) ⟨g,on,none,r⟩
     | _=>.no
 | .buildSlice T n parts =>
   match amake L (evF s ops ents o g) (.buildSlice T n parts) with
   | some (p,r)=>.yes p ⟨g,on,none,r⟩
   | none =>
     match g,abuild L (evF s ops ents o g) T n parts with
     | [],some b=>.yes none ⟨[],true,some b,.k (.c (.ln n))⟩
     | _,_=>.no
 | op =>
   match apure L s.bx (evF s ops ents o g) op with
   | some (p,r)=>.yes p ⟨g,on,none,r⟩
   | none=>.no
def isSt (o:Oper):Bool:=match o.op with | .store _ _ _=>true | _=>false
def fent0 (L:List Lay) (C:List Ctr) (s:St) (ops:List Oper) (ents:List Ent) (o:Oper):FR :=
 match o.guard with
 | none=>fcore L C s ops ents o [] true
 | some (gi,pol) =>
   bif hasEdge o gi && ((ops[gi]?).bind (·.dst)).isSome then
    match ents[gi]? with
    | some e =>
      match e.nb,e.av with
      | none,.k (.c (.v (.bool b)))=>fcore L C s ops ents o ((gi,pol) :: e.g) (e.on && (b == pol))
      | _,_=>.no
    | none=>.no
   else .no
def fent (L:List Lay) (C:List Ctr) (s:St) (ops:List Oper) (ents:List Ent) (o:Oper):FR :=
 bif isSt o then .yes none ⟨[],true,none,.u⟩ else fent0 L C s ops ents o
def boxA (x:AV) (i:Nat):AV:=match x with | .k (.c (.ln n))=>.k (.c (.ba i n)) | _=>.k (.c (.bx i 0))
def accum (s:St) (o:Oper) (e:Ent):St :=
 match e.nb with
 | some b=>putS { s with bx:=s.bx ++ [b] } o.dst (boxA e.av s.bx.length)
 | none=>putS s o.dst (bif e.g.isEmpty then e.av else .u)
def aflow (L:List Lay) (C:List Ctr) (s0:St) (ops:List Oper):List Oper->List Ent->St->(St->Prop)->Prop
 | [],_,s1,K=>K s1
 | o :: r,ents,s1,K =>
   match fent L C s0 ops ents o with
   | .no=>False
   | .yes none e=>aflow L C s0 ops r (ents ++ [e]) (accum s1 o e) K
   | .yes (some p) e =>
     match e.g with
     | []=>p/\aflow L C s0 ops r (ents ++ [e]) (accum s1 o e) K
     | _ :: _=>(e.on=true->p)/\aflow L C s0 ops r (ents ++ [e]) (accum s1 o e) K
def accums:St->List Oper->List Ent->St
 | s,o :: r,e :: es=>accums (accum s o e) r es
 | s,_,_=>s
def FOut (L:List Lay) (C:List Ctr) (s0:St) (ops:List Oper) (E:List Ent):Prop:=∀ i o,ops[i]?=some o->∃ pre e,fent L C s0 ops (E.take i) o=.yes pre e/\E[i]?=some e/\(e.on=true->due pre)
theorem aflow_out {L:List Lay} {C:List Ctr} {s0:St} {ops:List Oper} {K:St->Prop}:∀ (r:List Oper) (ents:List Ent) (s1:St),aflow L C s0 ops r ents s1 K->ops.drop ents.length=r ->
    ∃ E:List Ent,E.length=r.length/\K (accums s1 r E)/\∀ i o,r[i]?=some o->∃ pre e,fent L C s0 ops (ents ++ E.take i) o=.yes pre e/\E[i]?=some e/\(e.on=true->due pre)
 | [],ents,s1,h,_=>⟨[],rfl,h,fun i o ho=>by simp at ho⟩
 | o :: r,ents,s1,h,hd=>by
   have key:∀ (pre:Option Prop) (e:Ent),fent L C s0 ops ents o=.yes pre e->(e.on=true->due pre)->aflow L C s0 ops r (ents ++ [e]) (accum s1 o e) K->∃ E:List Ent,E.length=(o :: r).length/\K (accums s1 (o :: r) E)/\∀ i o',(o :: r)[i]?=some o'->∃ pre e,fent L C s0 ops (ents ++ E.take i) o'=.yes pre e/\E[i]?=some e/\(e.on=true->due pre):=fun pre e he hpe h=>by
    obtain ⟨E,h1,h2,h3⟩:=aflow_out r (ents ++ [e]) _ h (by
     rw [List.length_append,List.length_singleton,<- List.drop_drop,hd]; rfl)
    refine ⟨e :: E,by simp [h1],h2,fun i o' ho=>?_⟩
    cases i with
    | zero =>
      obtain rfl:o=o':=by simpa using ho
      exact ⟨pre,e,by simpa using he,rfl,hpe⟩
    | succ i =>
      obtain ⟨p,e',g1,g2,g3⟩:=h3 i o' (by simpa using ho)
      refine ⟨p,e',?_,by simpa using g2,g3⟩
      rw [List.take_succ_cons]
      rw [List.append_assoc] at g1
      exact g1
   unfold aflow at h
   split at h
   ·exact h.elim
   ·rename_i e he
    exact key none e he (fun _=>trivial) h
   ·rename_i p e he
    split at h
    ·exact key (some p) e he (fun _=>h.1) h.2
    ·exact key (some p) e he h.1 h.2
def boxV (x:AV) (b:Nat):Value:=match x with | .k (.c (.ln n))=>.slice (some ⟨b,0,none⟩) n n | _=>.pointer (some ⟨b,0,none⟩)
theorem boxA_rel {bs:Bs} {w:World} {i b:Nat} (h:bs.l[i]?=some b) (x:AV):relV bs w (boxA x i) (boxV x b):=by
 unfold boxA
 split
 ·exact ⟨b,h,rfl⟩
 ·rename_i hne
  have:boxV x b=.pointer (some ⟨b,0,none⟩):=by
   unfold boxV
   split
   ·exact absurd rfl (hne _)
   ·rfl
  rw [this]
  exact ⟨b,h,rfl⟩
def EntOK (bs:Bs) (lo:Nat) (w:World) (e:Ent) (v:Value):Prop :=
 (e.on=false->v=undef)/\(e.on=true->match e.nb with
  | none=>relV bs w e.av v
  | some x=>∃ b,v=boxV e.av b/\relV bs w e.av v/\BoxAt bs lo w b x/\b < w.heap.size)
theorem EntOK.ext {bs:Bs} {lo:Nat} {w w':World} {e:Ent} {v:Value} (h:EntOK bs lo w e v) (he:Ext w w'):EntOK bs lo w' e v:=by
 refine ⟨h.1,fun ho=>?_⟩
 have:=h.2 ho
 split at this
 ·exact (Keep.ext he).relV this
 ·obtain ⟨b,h1,h0,h2,h3⟩:=this
  exact ⟨b,h1,(Keep.ext he).relV h0,h2.ext he,Nat.lt_of_lt_of_le h3 he.size⟩
theorem EntOK.av {bs:Bs} {lo:Nat} {w:World} {e:Ent} {v:Value} (h:EntOK bs lo w e v) (ho:e.on=true):relV bs w e.av v:=by
 have:=h.2 ho
 split at this
 ·exact this
 ·obtain ⟨b,_,h0,_⟩:=this
  exact h0
def EntW (bs:Bs) (w:World) (e:Ent) (v:Value):Prop:=(e.on=false->v=undef)/\(e.on=true->relV bs w e.av v)
theorem EntOK.w {bs:Bs} {lo:Nat} {w:World} {e:Ent} {v:Value} (h:EntOK bs lo w e v):EntW bs w e v:=⟨h.1,h.av⟩
def ownE (E:List Ent) (i:Nat) (v:Value):Option Nat :=
 match E[i]? with
 | some e =>
   match e.nb,v with
   | some _,.pointer (some a)=>some a.block
   | some _,.slice (some a) _ _=>some a.block
   | _,_=>none
 | none=>none
theorem hasEdge_spec {o:Oper} {j:Nat} (h:hasEdge o j=true):∃ e ∈ o.after,Region.binds .any e=true/\e.on=j:=by
 unfold hasEdge at h
 simp only [List.any_eq_true,Bool.and_eq_true,Nat.beq_eq] at h
 obtain ⟨e,h1,h2,h3⟩:=h
 exact ⟨e,by simpa using h1,h2,h3⟩
theorem findDst_some:∀ {l:List Oper} {i t j:Nat},findDst l i t=some j->∃ k o,j=i+k/\l[k]?=some o/\o.dst=some t
 | [],_,_,_,h=>by simp [findDst] at h
 | o :: r,i,t,j,h=>by
   unfold findDst at h
   split at h
   ·rename_i d hd
    cases hb:Nat.beq d t with
    | true =>
      rw [hb] at h
      simp only [cond_true,Option.some.injEq] at h
      subst h
      have:d=t:=by simpa using hb
      subst this
      exact ⟨0,o,rfl,rfl,hd⟩
    | false =>
      rw [hb] at h
      obtain ⟨k,o',h1,h2,h3⟩:=findDst_some (l:=r) h
      exact ⟨k+1,o',by omega,by simpa using h2,h3⟩
   ·obtain ⟨k,o',h1,h2,h3⟩:=findDst_some (l:=r) h
    exact ⟨k+1,o',by omega,by simpa using h2,h3⟩
theorem findDst_none:∀ {l:List Oper} {i t:Nat},findDst l i t=none->∀ o ∈ l,o.dst ≠ some t
 | [],_,_,_,_,ho=>by cases ho
 | o :: r,i,t,h,o',ho=>by
   unfold findDst at h
   split at h
   ·rename_i d hd
    cases hb:Nat.beq d t with
    | true=>rw [hb] at h; simp at h
    | false =>
      rw [hb] at h
      rcases List.mem_cons.1 ho with rfl | ho
      ·rw [hd]
       intro e
       simp only [Option.some.injEq] at e
       subst e
       simp at hb
      ·exact findDst_none (l:=r) h o' ho
   ·rename_i hd
    rcases List.mem_cons.1 ho with rfl | ho
    ·rw [hd]; simp
    ·exact findDst_none (l:=r) h o' ho
theorem fcore_g {L:List Lay} {C:List Ctr} {s:St} {ops:List Oper} {ents:List Ent} {o:Oper} {g:List (Nat × Bool)} {on:Bool} {pre:Option Prop} {e:Ent} (h:fcore L C s ops ents o g on=.yes pre e) (hg:g=[]->on=true):(e.g=g/\e.on=on):=by
 unfold fcore at h
 split at h
 ·split at h
  ·rename_i l _
   cases h5:Nat.beq l.kd 5 with
   | true=>rw [h5] at h; cases h
   | false=>rw [h5] at h; cases h; exact ⟨rfl,(hg rfl).symm⟩
  ·cases h
 ·split at h
  ·rename_i gi _
   cases hed:hasEdge o gi with
   | false=>rw [hed] at h; cases h
   | true =>
     rw [hed] at h
     simp only [Bool.not_true,cond_false] at h
     split at h
     ·cases h; exact ⟨rfl,rfl⟩
     ·cases h
  ·cases h
 ·split at h
  ·cases h; exact ⟨rfl,rfl⟩
  ·cases h; exact ⟨rfl,rfl⟩
  ·split at h
   ·cases h; exact ⟨rfl,rfl⟩
   ·cases h
 ·split at h
  ·cases h; exact ⟨rfl,rfl⟩
  ·split at h
   ·cases h; exact ⟨rfl,(hg rfl).symm⟩
   ·cases h
 ·split at h
  ·cases h; exact ⟨rfl,rfl⟩
  ·cases h
theorem subG_spec {gs:List (Nat × Bool)}:∀ {l:List (Nat × Bool)},subG l gs=true->∀ q ∈ l,q ∈ gs
 | [],_,q,hq=>by cases hq
 | (a,p) :: r,h,q,hq=>by
   simp only [subG,Bool.and_eq_true,List.any_eq_true,Nat.beq_eq,beq_iff_eq] at h
   rcases List.mem_cons.1 hq with rfl | hq
   ·obtain ⟨⟨x,y⟩,h1,h2,h3⟩:=h.1
    simp only at h2 h3
    subst h2 h3
    exact h1
   ·exact subG_spec h.2 q hq
theorem ownE_box {E:List Ent} {i:Nat} {e:Ent} {x:Bx} {b:Nat} (h:E[i]?=some e) (hn:e.nb=some x):ownE E i (boxV e.av b)=some b:=by
 have key:(∃ n,boxV e.av b=.slice (some ⟨b,0,none⟩) n n) \/ boxV e.av b=.pointer (some ⟨b,0,none⟩):=by
  unfold boxV
  split
  ·exact .inl ⟨_,rfl⟩
  ·exact .inr rfl
 unfold ownE
 rw [h]
 rcases key with ⟨n,k⟩ | k <;> simp only [hn,k]
end Vc
end Go.Proofs.YtkdjilgddbjcaaaGreat
namespace Go.Proofs.YtkdjilgddbjcaaaGreat
open Go.RowKit
namespace Vc
section
variable {P:Program} {L:List Lay} {C:List Ctr} {W0 w0:World} {bs:Bs} {s:St} {a0:Act} {l:List Oper} {E:List Ent}
theorem take_get {α:Type} {l:List α} {i j:Nat} {x:α} (h:(l.take i)[j]?=some x):l[j]?=some x:=by
 rw [List.getElem?_take] at h
 split at h
 ·exact h
 ·cases h
theorem fout_ent (hE:FOut L C s l E) (hlen:E.length=l.length) {j:Nat} {f:Ent} (hf:E[j]?=some f):(f.g=[]/\f.on=true) \/ ∃ gi pol eg b,gi < j/\E[gi]?=some eg/\eg.nb=none/\eg.av=.k (.c (.v (.bool b)))/\f.g=(gi,pol) :: eg.g/\f.on=(eg.on && (b == pol)):=by
 have hj:j < l.length:=by rw [<- hlen]; exact (List.getElem?_eq_some_iff.1 hf).1
 obtain ⟨pre,e,h1,h2,_⟩:=hE j l[j] (by simp [hj])
 obtain rfl:e=f:=by rw [h2] at hf; simpa using hf
 unfold fent at h1
 cases hst:isSt l[j] with
 | true =>
   rw [hst] at h1
   cases h1
   exact .inl ⟨rfl,rfl⟩
 | false =>
 rw [hst] at h1
 simp only [cond_false] at h1
 unfold fent0 at h1
 split at h1
 ·exact .inl ⟨(fcore_g h1 (fun _=>rfl)).1,(fcore_g h1 (fun _=>rfl)).2⟩
 ·rename_i gi pol _
  cases hc:(hasEdge l[j] gi && ((l[gi]?).bind (·.dst)).isSome) with
  | false=>rw [hc] at h1; cases h1
  | true =>
    rw [hc] at h1
    simp only [cond_true] at h1
    split at h1 <;> try (cases h1; done)
    rename_i eg heg
    split at h1 <;> try (cases h1; done)
    rename_i b k2 k3
    obtain ⟨g1,g2⟩:=fcore_g h1 (by intro h; cases h)
    have hlt:gi < j:=by
     have:=(List.getElem?_eq_some_iff.1 heg).1
     rw [List.length_take] at this
     omega
    exact .inr ⟨gi,pol,eg,b,hlt,take_get heg,k2,k3,g1,g2⟩
theorem fout_on (hE:FOut L C s l E) (hlen:E.length=l.length):∀ (j:Nat) (f:Ent),E[j]?=some f->(∀ q ∈ f.g,∀ f' b,E[q.1]?=some f'->f'.av=.k (.c (.v (.bool b)))->(b == q.2)=true)->f.on=true:=by
 intro j
 induction j using Nat.strongRecOn with
 | _ j ih =>
   intro f hf hq
   rcases fout_ent hE hlen hf with ⟨_,h⟩ | ⟨gi,pol,eg,b,hlt,h1,h2,h3,h4,h5⟩
   ·exact h
   ·rw [h4] at hq
    rw [h5,ih gi hlt eg h1 (fun q hq'=>hq q (List.mem_cons_of_mem _ hq')),hq (gi,pol) (List.mem_cons_self ..) eg b h1 h3]
    rfl
theorem fout_cond (hE:FOut L C s l E) (hlen:E.length=l.length):∀ (j:Nat) (f:Ent),E[j]?=some f->f.on=true->∀ q ∈ f.g,∀ f' b,E[q.1]?=some f'->f'.av=.k (.c (.v (.bool b)))->(b == q.2)=true:=by
 intro j
 induction j using Nat.strongRecOn with
 | _ j ih =>
   intro f hf ho q hq f' b hf' hb
   rcases fout_ent hE hlen hf with ⟨h,_⟩ | ⟨gi,pol,eg,b',hlt,h1,h2,h3,h4,h5⟩
   ·rw [h] at hq; cases hq
   ·rw [h4] at hq
    rw [h5,Bool.and_eq_true] at ho
    rcases List.mem_cons.1 hq with rfl | hq
    ·simp only at hf'
     obtain rfl:eg=f':=by rw [h1] at hf'; simpa using hf'
     rw [h3] at hb
     simp only [AV.k.injEq,AK.c.injEq,AC.v.injEq,Value.bool.injEq] at hb
     subst hb
     exact ho.2
    ·exact ih gi hlt eg h1 ho.1 q hq f' b hf' hb
theorem evF_rel (hE:FOut L C s l E) (hlen:E.length=l.length) (hA:apartB l=true) (hI:insideB l a0.tmps.size=true) {vals:Nat->Value} {w:World} (hR:Rl W0 bs s a0 w) {i:Nat} {o:Oper}
    (hd:∀ e ∈ o.after,Region.binds .any e=true->∀ f,E[e.on]?=some f->EntW bs w f (vals e.on)) (hfr:Fresh l vals a0 (fun _ oj=>∃ e ∈ oj.after,Region.binds .any e=true/\e.on=i)) (hi:i <= E.length) (gs:List (Nat × Bool))
    (hgs:∀ q ∈ gs,∀ f b,E[q.1]?=some f->f.av=.k (.c (.v (.bool b)))->(b == q.2)=true) :
    ∀ x,relV bs w (evF s l (E.take i) o gs x) ((putAll l vals 0 a0).eval x):=by
 intro x
 cases x with
 | tmp t =>
   simp only [evF]
   cases hf:findDst l 0 t with
   | none =>
     simp only
     have hn:=findDst_none hf
     rw [putAll_eval_out l vals 0 a0 (.tmp t) (fun o ho d hd' e=>by
      cases e
      exact hn o ho hd')]
     exact hR.ev (.tmp t)
   | some j =>
     simp only
     obtain ⟨k,oj,rfl,hk,hkd⟩:=findDst_some hf
     rw [Nat.zero_add]
     cases hed:hasEdge o k with
     | false =>
       simp only [cond_false]
       rw [show l[k]?=some oj from hk]
       simp only
       cases hee:hasEdge oj (E.take i).length with
       | false=>trivial
       | true =>
         simp only [cond_true]
         rw [List.length_take,Nat.min_eq_left hi] at hee
         obtain ⟨e,he1,he2,he3⟩:=hasEdge_spec hee
         rw [hfr k oj t hk ⟨e,he1,he2,he3⟩ hkd]
         exact hR.ev (.tmp t)
     | true =>
       simp only [cond_true]
       cases hek:(E.take i)[k]? with
       | none=>trivial
       | some f =>
         simp only
         cases hsg:subG f.g gs with
         | false=>trivial
         | true =>
           simp only [cond_true]
           have hEk:=take_get hek
           obtain ⟨ed,hm,hb,rfl⟩:=hasEdge_spec hed
           have hok:=hd ed hm hb f hEk
           have hon:f.on=true:=fout_on hE hlen _ _ hEk fun q hq=>hgs q (subG_spec hsg q hq)
           have hv:=hok.2 hon
           rw [putAll_eval_in l vals 0 ed.on a0 oj t hA hI hk hkd,Nat.zero_add]
           exact hv
 | const v =>
   have:=hR.ev (.const v)
   simp only [evF]
   rw [putAll_eval_out l vals 0 a0 (.const v) (fun o _ d _ e=>by cases e)]
   exact this
 | global g=>trivial
 | func f=>trivial
theorem fcore_run (hL:∀ l ∈ L,LayOK P l) (hC:∀ c ∈ C,CtrOK P c) {Q:Exit->Act->World->Prop} {a:Act} {w:World} {ents:List Ent} {o:Oper} {g:List (Nat × Bool)} {pre:Option Prop} {e:Ent} {i:Nat}
    (hA:bs.ar=[]) (hG:bs.gh=[]) (hfr:∀ g,w.heap.size <= g->bs.away g) (hbx:BoxesAt bs W0.heap.size w s.bx) (hlo:W0.heap.size <= w.heap.size) (hEi:E[i]?=some e)
    (hev:∀ x,relV bs w (evF s l ents o g x) (a.eval x)) (hpick:∀ c gi p,findDst l 0 c=some gi->hasEdge o gi=true->relV bs w (.k (.c (.v (.bool p)))) (a.eval (.tmp c))->evF s l ents o g (.tmp c)=.k (.c (.v (.bool p)))->∀ x,relV bs w (evF s l ents o ((gi,p) :: g) x) (a.eval x))
    (h:fcore L C s l ents o g true=.yes pre e) (hp:due pre) :
    o.wp P a w (fun a' w'=>∃ v,a'=a.put o.dst v/\Ext w w'/\(∀ e',E[i]?=some e'->EntOK bs W0.heap.size w' e' v)/\∀ b,ownE E i v=some b->w.heap.size <= b/\b < w'.heap.size) Q:=by
 have fin:∀ (v:Value) (w':World),Ext w w'->e.nb=none->e.on=true->relV bs w' e.av v->∃ v',a.put o.dst v=a.put o.dst v'/\Ext w w'/\(∀ e',E[i]?=some e'->EntOK bs W0.heap.size w' e' v')/\∀ b,ownE E i v'=some b->w.heap.size <= b/\b < w'.heap.size:=fun v w' hx hnb hon hv=>by
  refine ⟨v,rfl,hx,fun e' he'=>?_,fun b hb=>?_⟩
  ·obtain rfl:e=e':=by rw [hEi] at he'; simpa using he'
   exact ⟨fun h=>(by rw [hon] at h; cases h),fun _=>(by rw [hnb]; exact hv)⟩
  ·unfold ownE at hb
   rw [hEi] at hb
   simp only [hnb] at hb
   cases hb
 unfold Oper.wp
 unfold fcore at h
 split at h
 ·rename_i T hop
  split at h
  ·rename_i l' hl
   cases h5:Nat.beq l'.kd 5 with
   | true=>rw [h5] at h; cases h
   | false =>
   rw [h5] at h
   cases h
   obtain ⟨hm,rfl⟩:=getLay_spec hl
   have hlo':=hL l' hm
   obtain ⟨i',z,hi,hz,hzr⟩:=hlo'.zero
   have hrun:(execOp a.eval o).run P w=.ok (.value (.pointer (some ⟨w.heap.size,0,none⟩))) (w.alloc (.cells z.cells.toList.toArray l'.t)):=by
    simp only [execOp,hop]
    refine run_v ?_
    simp [Instr.alloc,zeroValue,typeInfo,hi,hz,newVar,newRow]
   rw [hrun]
   have hx:Ext w (w.alloc (.cells z.cells.toList.toArray l'.t)):=(Ext.refl w).alloc _
   have hsz:(w.alloc (.cells z.cells.toList.toArray l'.t)).heap.size=w.heap.size+1:=by simp
   refine ⟨_,rfl,hx,fun e' he'=>?_,fun b hb=>?_⟩
   ·rw [hEi] at he'
    simp only [Option.some.injEq] at he'
    subst he'
    refine ⟨fun h=>(by cases h),fun _=>⟨w.heap.size,rfl,trivial,⟨hlo,z.cells.toList,by unfold World.alloc; simp,hzr bs _,softs_rel (softs_flat (hlo'.zsoft h5)) (hzr bs w)⟩,by omega⟩⟩
   ·unfold ownE at hb
    rw [hEi] at hb
    simp only [Option.some.injEq] at hb
    omega
  ·cases h
 ·rename_i c x y hop
  split at h
  ·rename_i gi hgi
   cases hed:hasEdge o gi with
   | false=>rw [hed] at h; cases h
   | true =>
   rw [hed] at h
   simp only [Bool.not_true,cond_false] at h
   split at h
   ·rename_i p q r h1 h2 h3
    cases h
    have hc:=hev (.tmp c)
    rw [h1] at hc
    obtain ⟨e1,_⟩:=hc
    have hrun:∃ v,(execOp a.eval o).run P w=.ok (.value v) w/\v=.bool (bif p then q else r):=by
     cases p with
     | true =>
       have hx:=hpick c gi true hgi hed ⟨e1,rfl⟩ h1 x
       rw [h2] at hx
       obtain ⟨e2,_⟩:=hx
       exact ⟨_,by simp [execOp,hop,e1,asBool,e2],rfl⟩
     | false =>
       have hy:=hpick c gi false hgi hed ⟨e1,rfl⟩ h1 y
       rw [h3] at hy
       obtain ⟨e2,_⟩:=hy
       exact ⟨_,by simp [execOp,hop,e1,asBool,e2],rfl⟩
    obtain ⟨v,hr,rfl⟩:=hrun
    rw [hr]
    exact fin _ w (Ext.refl w) rfl rfl ⟨rfl,rfl⟩
   ·cases h
  ·cases h
 ·rename_i c hop
  split at h
  ·rename_i hr
   cases h
   obtain ⟨v,h1,h2⟩:=apure_sound (o:=o) hL hev hbx (by rw [hop]; exact hr) hp
   rw [h1]
   exact fin v w (Ext.refl w) rfl rfl h2
  ·rename_i hr
   cases h
   obtain ⟨v,w',h1,h2,h3⟩:=amake_sound (o:=o) hL hev (fun v=>rfl) hfr (by rw [hop]; exact hr) hp
   rw [h1]
   exact fin v w' h2 rfl rfl h3
  ·split at h
   ·rename_i pre' r hcl
    cases h
    obtain ⟨f,args,h1,h2⟩:=acall_sound hC hA hG hev (fun f=>rfl) hop hcl hp
    rw [h1]
    refine h2.mono ?_
    rintro e w' ⟨v,rfl,he,hv⟩
    exact fin v w' he rfl rfl hv
   ·cases h
 ·rename_i T n parts hop
  split at h
  ·rename_i hr
   cases h
   obtain ⟨v,w',h1,h2,h3⟩:=amake_sound (o:=o) hL hev (fun v=>rfl) hfr (by rw [hop]; exact hr) hp
   rw [h1]
   exact fin v w' h2 rfl rfl h3
  ·split at h
   ·rename_i b _ hb
    cases h
    obtain ⟨vs,h1,h2,h3⟩:=abuild_sound (o:=o) hL hev hop hb
    rw [h1]
    have hx:Ext w (w.alloc (.cells vs.toArray b.T)):=(Ext.refl w).alloc _
    have hsz:(w.alloc (.cells vs.toArray b.T)).heap.size=w.heap.size+1:=by simp
    refine ⟨_,rfl,hx,fun e' he'=>?_,fun c hc=>?_⟩
    ·rw [hEi] at he'
     simp only [Option.some.injEq] at he'
     subst he'
     exact ⟨fun h=>(by cases h),fun _=>⟨w.heap.size,rfl,⟨_,_,rfl⟩,⟨hlo,vs,by unfold World.alloc; simp,(Keep.ext hx).relL h2,softs_rel (softs_flat h3) h2⟩,by omega⟩⟩
    ·unfold ownE at hc
     rw [hEi] at hc
     simp only [Option.some.injEq] at hc
     omega
   ·cases h
 ·split at h
  ·rename_i hr
   cases h
   obtain ⟨v,h1,h2⟩:=apure_sound (o:=o) hL hev hbx hr hp
   rw [h1]
   exact fin v w (Ext.refl w) rfl rfl h2
  ·cases h
theorem flow_at (hL:∀ l ∈ L,LayOK P l) (hC:∀ c ∈ C,CtrOK P c) {Q:Exit->Act->World->Prop} (hE:FOut L C s l E) (hlen:E.length=l.length) (hA:apartB l=true) (hI:insideB l a0.tmps.size=true) (i:Nat) (o:Oper) (ho:l[i]?=some o) (hns:isSt o=false)
    (vals:Nat->Value) (w:World) (hRw:Rl W0 bs s a0 w) (hdep:∀ e ∈ o.after,Region.binds .any e=true->∀ f,E[e.on]?=some f->EntW bs w f (vals e.on)) (hfr:Fresh l vals a0 (fun _ oj=>∃ e ∈ oj.after,Region.binds .any e=true/\e.on=i)) :
    wpOp P l.toArray Q i (fun a' w'=>∃ v,a'=(putAll l vals 0 a0).put o.dst v/\Ext w w'/\(∀ e,E[i]?=some e->EntOK bs W0.heap.size w' e v)/\∀ b,ownE E i v=some b->w.heap.size <= b/\b < w'.heap.size) (putAll l vals 0 a0) w:=by
 obtain ⟨pre,e,hf,hei,hpre⟩:=hE i o ho
 have hoa:l.toArray[i]?=some o:=by simpa using ho
 have hlo:W0.heap.size <= w.heap.size:=hRw.ext.size
 have hil:i <= E.length:=by rw [hlen]; exact Nat.le_of_lt (List.getElem?_eq_some_iff.1 ho).1
 have hevv:=fun gs hgs=>evF_rel (i:=i) (o:=o) (vals:=vals) hE hlen hA hI hRw hdep hfr hil gs hgs
 have hpick:∀ (gs:List (Nat × Bool)),(∀ q ∈ gs,∀ f b,E[q.1]?=some f->f.av=.k (.c (.v (.bool b)))->(b == q.2)=true)->∀ c gi p,findDst l 0 c=some gi->hasEdge o gi=true->relV bs w (.k (.c (.v (.bool p)))) ((putAll l vals 0 a0).eval (.tmp c))->evF s l (E.take i) o gs (.tmp c)=.k (.c (.v (.bool p)))->∀ x,relV bs w (evF s l (E.take i) o ((gi,p) :: gs) x) ((putAll l vals 0 a0).eval x):=fun gs hgs c gi p hgi hed _ hev=>by
  refine hevv _ fun q hq f b hf' hav=>?_
  rcases List.mem_cons.1 hq with rfl | hq
  ·simp only at hf'
   simp only [evF,hgi] at hev
   rw [hed] at hev
   simp only [cond_true] at hev
   cases hek:(E.take i)[gi]? with
   | none=>rw [hek] at hev; cases hev
   | some f2 =>
     rw [hek] at hev
     simp only at hev
     have:=take_get hek
     obtain rfl:f=f2:=by rw [hf'] at this; simpa using this
     cases hsg:subG f.g gs with
     | false=>rw [hsg] at hev; cases hev
     | true =>
       rw [hsg] at hev
       simp only [cond_true] at hev
       rw [hev] at hav
       simp only [AV.k.injEq,AK.c.injEq,AC.v.injEq,Value.bool.injEq] at hav
       subst hav
       simp
  ·exact hgs q hq f b hf' hav
 unfold wpOp
 simp only [hoa]
 unfold fent at hf
 rw [hns] at hf
 simp only [cond_false] at hf
 unfold fent0 at hf
 split at hf
 ·rename_i hg
  have hw:Region.wanted o (yielded l.toArray (putAll l vals 0 a0).tmps)=true:=by unfold Region.wanted; rw [hg]
  rw [if_pos hw]
  obtain ⟨_,hon⟩:=fcore_g hf (fun _=>rfl)
  exact .inl (fcore_run hL hC hRw.har hRw.hgh hRw.fresh hRw.box hlo hei (hevv [] (by intro _ h; cases h)) (hpick [] (by intro _ h; cases h)) hf (hpre hon))
 ·rename_i gi pol hg
  cases hc:(hasEdge o gi && ((l[gi]?).bind (·.dst)).isSome) with
  | false=>rw [hc] at hf; cases hf
  | true =>
    rw [hc] at hf
    simp only [cond_true] at hf
    simp only [Bool.and_eq_true] at hc
    obtain ⟨hed,hds⟩:=hc
    split at hf <;> try (cases hf; done)
    rename_i eg heg
    split at hf <;> try (cases hf; done)
    rename_i b k2 k3
    have hEg:=take_get heg
    obtain ⟨ed,hm,hb,rfl⟩:=hasEdge_spec hed
    have hokk:=hdep ed hm hb eg hEg
    obtain ⟨hgg,hon⟩:=fcore_g hf (by intro h; cases h)
    have hcs:l[ed.on]? ≠ none:=by
     intro h
     rw [h] at hds
     cases hds
    have hslot:∀ v,vals ed.on=v->∃ d,((l.toArray[ed.on]?).bind (·.dst))=some d/\(putAll l vals 0 a0).eval (.tmp d)=v:=fun v hv=>by
     cases hog:l[ed.on]? with
     | none=>exact absurd hog hcs
     | some og =>
       rw [hog] at hds
       cases hdg:og.dst with
       | none=>simp [hdg] at hds
       | some d =>
         have hval:=putAll_eval_in l vals 0 ed.on a0 og d hA hI hog hdg
         rw [Nat.zero_add,hv] at hval
         have hoga:l.toArray[ed.on]?=some og:=by simpa using hog
         exact ⟨d,by rw [hoga]; exact hdg,hval⟩
    cases heon:eg.on with
    | false =>
      have hund:=hokk.1 heon
      obtain ⟨d,hd1,hd2⟩:=hslot undef hund
      have hy:yielded l.toArray (putAll l vals 0 a0).tmps ed.on=none:=by
       unfold yielded
       rw [hd1]
       simp only [Option.bind_some]
       cases hq:(putAll l vals 0 a0).tmps[d]? with
       | none=>rfl
       | some v =>
         have hdl:=(List.getElem?_eq_some_iff (l:=(putAll l vals 0 a0).tmps.toList)).1 (by simpa using hq)
         have:v=undef:=by
          rw [<- hd2]
          simp [Act.eval,Array.getD_eq_getD_getElem?,hq]
         subst this
         rfl
      have hwt:Region.wanted o (yielded l.toArray (putAll l vals 0 a0).tmps)=false:=by
       unfold Region.wanted
       rw [hg]
       simp only [hy]
       rfl
      rw [heon,Bool.false_and] at hon
      rw [if_neg (by rw [hwt]; decide)]
      refine ⟨undef,rfl,Ext.refl w,fun e' he'=>?_,fun b' hb'=>?_⟩
      ·obtain rfl:e=e':=by rw [hei] at he'; simpa using he'
       exact ⟨fun _=>rfl,fun h=>(by rw [hon] at h; cases h)⟩
      ·unfold ownE at hb'
       rw [hei] at hb'
       simp only at hb'
       split at hb'
       ·rename_i h; cases h
       ·rename_i h; cases h
       ·cases hb'
    | true =>
    have hok:=hokk.2 heon
    rw [k3] at hok
    obtain ⟨hv,_⟩:=hok
    rw [heon,Bool.true_and] at hon hf
    have hy:yielded l.toArray (putAll l vals 0 a0).tmps ed.on=some b:=by
     cases hog:l[ed.on]? with
     | none=>rw [hog] at hds; cases hds
     | some og =>
       rw [hog] at hds
       cases hdg:og.dst with
       | none=>simp [hdg] at hds
       | some d =>
         have hval:=putAll_eval_in l vals 0 ed.on a0 og d hA hI hog hdg
         rw [Nat.zero_add,hv] at hval
         have hdl:d < (putAll l vals 0 a0).tmps.size:=by
          rcases Nat.lt_or_ge d (putAll l vals 0 a0).tmps.size with h' | h'
          ·exact h'
          ·simp [Act.eval,Array.getD,Nat.not_lt.2 h',undef] at hval
         unfold yielded
         have hoga:l.toArray[ed.on]?=some og:=by simpa using hog
         simp only [hoga,Option.bind_some,hdg]
         simp only [Act.eval,Array.getD,hdl,dif_pos] at hval
         have hval':(putAll l vals 0 a0).tmps[d]=.bool b:=hval
         simp only [Array.getElem?_eq_getElem hdl,hval']
    have hwt:Region.wanted o (yielded l.toArray (putAll l vals 0 a0).tmps)=(b == pol):=by
     unfold Region.wanted
     rw [hg]
     simp only [hy]
     cases b <;> cases pol <;> rfl
    cases hbp:(b == pol) with
    | true =>
      rw [hbp] at hwt hf hon
      rw [if_pos hwt]
      have hall:∀ q ∈ (ed.on,pol) :: eg.g,∀ f b,E[q.1]?=some f->f.av=.k (.c (.v (.bool b)))->(b == q.2)=true:=fun q hq f b' hf' hav=>by
       rcases List.mem_cons.1 hq with rfl | hq
       ·simp only at hf'
        obtain rfl:f=eg:=by rw [hEg] at hf'; simpa using hf'.symm
        rw [k3] at hav
        simp only [AV.k.injEq,AK.c.injEq,AC.v.injEq,Value.bool.injEq] at hav
        subst hav
        exact hbp
       ·exact fout_cond hE hlen _ _ hEg heon q hq f b' hf' hav
      exact .inl (fcore_run hL hC hRw.har hRw.hgh hRw.fresh hRw.box hlo hei (hevv _ hall) (hpick _ hall) hf (hpre hon))
    | false =>
      rw [hbp] at hwt hon
      rw [if_neg (by rw [hwt]; decide)]
      refine ⟨undef,rfl,Ext.refl w,fun e' he'=>?_,fun b' hb'=>?_⟩
      ·obtain rfl:e=e':=by rw [hei] at he'; simpa using he'
       exact ⟨fun _=>rfl,fun h=>(by rw [hon] at h; cases h)⟩
      ·unfold ownE at hb'
       rw [hei] at hb'
       simp only at hb'
       split at hb'
       ·rename_i h; cases h
       ·rename_i h; cases h
       ·cases hb'
theorem flow_step (hL:∀ l ∈ L,LayOK P l) (hC:∀ c ∈ C,CtrOK P c) {Q:Exit->Act->World->Prop} (hE:FOut L C s l E) (hlen:E.length=l.length) (hA:apartB l=true) (hI:insideB l a0.tmps.size=true) (hR:Rl W0 bs s a0 w0) (i:Nat) (o:Oper) (ho:l[i]?=some o) (hns:isSt o=false) :
    FlowStep2 P Q l w0 a0 (fun i v w=>∀ e,E[i]?=some e->EntOK bs W0.heap.size w e v) (ownE E) i o:=fun vals w hext hdep hfr =>
 flow_at hL hC hE hlen hA hI i o ho hns vals w (hR.later hext) (fun e he hb f hf=>(hdep e he hb f hf).w) hfr
end
end Vc
end Go.Proofs.YtkdjilgddbjcaaaGreat
namespace Go.Proofs.YtkdjilgddbjcaaaGreat
open Go.RowKit
namespace Vc
section
variable {P:Program} {Q:Exit->Act->World->Prop} {l:List Oper} {w0:World} {a0:Act} {I:Array Bool->(Nat->Value)->World->Prop}
def FlowStep3 (P:Program) (Q:Exit->Act->World->Prop) (l:List Oper) (a0:Act) (I:Array Bool->(Nat->Value)->World->Prop) (i:Nat) (o:Oper):Prop :=
 ∀ (ls:Array Bool) (vals:Nat->Value) (w:World),ls.size=l.length->ls.getD i true=false->(∀ e ∈ o.after,Region.binds .any e=true->ls.getD e.on true=true)->I ls vals w->Fresh l vals a0 (fun _ oj=>∃ e ∈ oj.after,Region.binds .any e=true/\e.on=i) ->
   wpOp P l.toArray Q i (fun a' w'=>∃ v,a'=(putAll l vals 0 a0).put o.dst v/\I (ls.setIfInBounds i true) (Go.Proofs.YtkdjilgddbjcaaaGreat.upd vals i v) w') (putAll l vals 0 a0) w
theorem flow_sound3 (hA:apartB l=true) (hL:lowB l=true)
    (hS:∀ i o,l[i]?=some o->FlowStep3 P Q l a0 I i o)
    (hQ:∀ ls vals w,ls.size=l.length->(∀ i,i < l.length->ls.getD i true=true)->I ls vals w->Q .normal (putAll l vals 0 a0) w) :
    ∀ (d:Nat) (ls:Array Bool) (vals:Nat->Value) (w:World),ls.size=l.length->(∃ rem:List Nat,rem.length=d/\rem.Nodup/\∀ i,i < l.length->(ls.getD i true=false ↔ i ∈ rem)) ->
      I ls vals w->Fresh l vals a0 (fun j _=>ls.getD j true=false)->(∀ j oj,l[j]?=some oj->ls.getD j true=true->∀ e ∈ oj.after,Region.binds .any e=true->ls.getD e.on true=true) ->
      wpAny P .any l.toArray Q d ls (putAll l vals 0 a0) w:=by
 have hlow:∀ i o,l[i]?=some o->∀ e ∈ o.after,Region.binds .any e=true->e.on < i:=fun i o ho e he hb=>by
  have hi:i < l.length:=by
   rcases Nat.lt_or_ge i l.length with h | h
   ·exact h
   ·rw [List.getElem?_eq_none h] at ho; cases ho
  simp only [lowB,List.all_eq_true,List.mem_range] at hL
  have:=hL i hi
  rw [ho] at this
  simp only [Option.map_some,Option.getD_some,Array.all_eq_true'] at this
  have h4:=this e he
  simpa [hb] using h4
 have hend:∀ ls:Array Bool,ls.size=l.length->Region.ready .any l.toArray ls=[]->∀ i,i < l.length->ls.getD i true=true:=fun ls hs hr i hi=>by
  induction i using Nat.strongRecOn with
  | _ i ih =>
    rcases hb:ls.getD i true with _ | _
    ·exfalso
     have ho:l.toArray[i]?=some (l[i]):=by simp [hi]
     have:i ∈ Region.ready .any l.toArray ls:=mem_ready.2 ⟨hb,_,ho,fun e he hbd=>by
      have h1:=hlow i _ (by simp [hi]) e he hbd
      have h2:=ih e.on h1 (by omega)
      have h3:e.on < ls.size:=by omega
      simp [h3] at h2 ⊢
      exact h2⟩
     rw [hr] at this
     cases this
    ·rfl
 intro d
 induction d with
 | zero =>
   intro ls vals w hs hrem hI _ _
   obtain ⟨rem,h1,h2,h3⟩:=hrem
   have hall:∀ i,i < l.length->ls.getD i true=true:=fun i hi=>by
    rcases hb:ls.getD i true with _ | _
    ·have:=(h3 i hi).1 hb
     rw [List.length_eq_zero_iff.1 h1] at this
     cases this
    ·rfl
   refine ⟨List.eq_nil_iff_forall_not_mem.2 fun i hi=>?_,hQ ls vals w hs hall hI⟩
   obtain ⟨hu,o,ho,_⟩:=mem_ready.1 hi
   have hil:i < l.length:=by have:i < l.toArray.size:=(Array.getElem?_eq_some_iff.1 ho).1; simpa using this
   rw [hall i hil] at hu
   cases hu
 | succ d ih =>
   intro ls vals w hs hrem hI hW hK
   refine ⟨fun hr=>hQ ls vals w hs (hend ls hs hr) hI,fun i hi=>?_⟩
   obtain ⟨hu,o,ho,hall⟩:=mem_ready.1 hi
   have hil:i < l.length:=by have:i < l.toArray.size:=(Array.getElem?_eq_some_iff.1 ho).1; simpa using this
   have hol:l[i]?=some o:=by simpa using ho
   have hdeps:∀ e ∈ o.after,Region.binds .any e=true->ls.getD e.on true=true:=fun e he hb=>by
    have h1:=hlow i o hol e he hb
    have h2:=hall e he hb
    have h3:e.on < ls.size:=by omega
    simp [h3] at h2 ⊢
    exact h2
   refine wpOp_mono ?_ (hS i o hol ls vals w hs hu hdeps hI fun j oj t hj hp hd=>hW j oj t hj (by
    obtain ⟨e,he,hb,hei⟩:=hp
    cases hls:ls.getD j true with
    | false=>rfl
    | true =>
      have:=hK j oj hj hls e he hb
      rw [hei,hu] at this
      cases this) hd)
   rintro a' w' ⟨v,rfl,hI'⟩
   rw [putAll_upd l 0 i a0 vals v o hA hol,Nat.zero_add]
   obtain ⟨rem,h1,h2,h3⟩:=hrem
   have him:i ∈ rem:=(h3 i hil).1 hu
   refine ih _ _ _ (by simpa using hs) ⟨rem.erase i,by rw [List.length_erase_of_mem him]; omega,h2.erase i,fun k hk=>?_⟩ hI' (hW.step hA hol v fun j oj hj hp=>by
       by_cases hji:j=i
       ·exfalso
        subst hji
        have h4:j < ls.size:=by omega
        simp [h4] at hp
       ·exact ⟨hji,by rwa [getD_set_ne true (by omega)] at hp⟩) (fun j oj hj hp e he hb=>by
       by_cases hei:e.on=i
       ·rw [hei]
        have h4:i < ls.size:=by omega
        simp [h4]
       ·rw [getD_set_ne true (by omega)]
        by_cases hji:j=i
        ·subst hji
         obtain rfl:o=oj:=by rw [hol] at hj; simpa using hj
         exact hdeps e he hb
        ·rw [getD_set_ne true (by omega)] at hp
         exact hK j oj hj hp e he hb)
   by_cases hki:k=i
   ·subst hki
    have h4:k < ls.size:=by omega
    rw [h2.mem_erase_iff]
    simp [h4]
   ·rw [getD_set_ne true (by omega),h3 k hk,h2.mem_erase_iff]
    simp [hki]
theorem wp_region_flow3 {id:Nat} (n:Nat) (hm:P.follows .mixedOrders=true) (hA:apartB (l.take n)=true) (hL:lowB (l.take n)=true) (hT:tail2B l n=true)
    (hI:∀ vals,putAll (l.take n) vals 0 a0=a0->I (Array.replicate n false) vals w0.drew)
    (hS:∀ i o,(l.take n)[i]?=some o->FlowStep3 P (tailPost P l n Q) (l.take n) a0 I i o)
    (hQ:∀ ls vals w,ls.size=(l.take n).length->(∀ i,i < (l.take n).length->ls.getD i true=true)->I ls vals w->wpList P l.toArray Q (l.drop n) (putAll (l.take n) vals 0 a0) w) :
    (Code.region id l.toArray true).wp P Q a0 w0:=by
 have ok:=tailOk2_of hT
 have le:=ok.le
 have htl:(l.take n).length=n:=by simp; omega
 refine wp_region_any hm ?_
 obtain ⟨f,hf⟩:=putAll_start (l.take n) 0 a0
 have hq:=flow_sound3 (P:=P) (Q:=tailPost P l n Q) (a0:=a0) hA hL hS (fun ls vals w h1 h2 h3=>hQ ls vals w h1 h2 h3) (l.take n).length (Array.replicate n false) f { w0 with drawn:=w0.drawn+1 } (by simp; omega)
  ⟨List.range n,by simp; omega,List.nodup_range,fun i hi=>by
   have:i < n:=by omega
   simp [this]⟩ (hI f hf) (fun j oj t _ _ _=>by rw [hf]) (fun j oj hj h=>by
   have:j < n:=by rw [<- htl]; exact (List.getElem?_eq_some_iff.1 hj).1
   simp [this] at h)
 rw [hf,htl] at hq
 have:=wpAny_of_first2 (P:=P) (Q:=Q) ok n (List.range n) (Array.replicate l.toArray.size false) (Array.replicate n false) a0 w0.drew (by simp) List.nodup_range (by simp) (by simp) (fun i hi=>?_) (fun i hi=>?_) (fun i hi hi'=>?_) (fun i hi=>by simpa using hi) (fun j oj hj hjl=>by
  have:j < l.length:=by have:j < l.toArray.size:=(Array.getElem?_eq_some_iff.1 hj).1; simpa using this
  simp [this] at hjl) hq
 ·have hsz:n+(l.length - n)=l.toArray.size:=by simp; omega
  rw [hsz] at this
  exact this
 ·have h1:i < l.length:=by omega
  simp only [Array.getD,Array.size_replicate,List.size_toArray,h1,hi,dif_pos]
  simp
 ·have h1:i < l.length:=by omega
  simp [h1,hi]
 ·simp [hi']
end
end Vc
end Go.Proofs.YtkdjilgddbjcaaaGreat
