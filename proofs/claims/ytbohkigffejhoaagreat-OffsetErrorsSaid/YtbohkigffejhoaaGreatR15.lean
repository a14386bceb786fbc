import Derived.Test.YtbohkigffejhoaaGreatR14
open Bool (and_eq_true or_eq_true)
open List (ext_getElem? getElem?_cons_succ length_cons mem_append mem_cons mem_cons_self mem_map mem_singleton tail_drop)
open Nat (ble_eq lt_or_ge zero_add)
open Option (getD_some map_eq_some_iff map_none map_some)
open Option.some (injEq)
namespace Go.Proofs.YtbohkigffejhoaaGreat
open Go.RowKit
namespace Vc
section
variable {P:Program} {L:List Lay} {C:List Ctr} {W0 w0:World} {F:List (Option Nat)} {bs:Bs} {s:St} {a0:Act}
theorem Rl.take {a:Act} {w:World} (hX:none ∈ bs.fb/\bs.ow=[]) (h:Rl W0 F bs s a w) {b:Nat} {x:Bx} (hb:BoxAt bs W0.heap.size w b x) (hn:b ∉ bs.l) (hlt:b < w.heap.size):Rl W0 F (bs.more [b]) { s with bx:=s.bx ++ [x] } a w:=by
 have hk:Keep bs (bs.more [b]) w w:=Keep.more _ _ _ fun _ _ hf=>hf.2.2.2.2 hX.1;refine ⟨h.ext,h.lo,h.fbe,h.fbb,fun n b hn=>(by rw [show (bs.more [_]).ow=bs.ow from rfl,hX.2] at hn; cases hn),?_,by simp [h.len],fun i c y h1 h2=>?_,fun c hc=>?_,fun t y hy=>Keep.relV hk (h.tmp t y hy),h.tl,h.dfr⟩
 ·rw [List.nodup_append];refine ⟨h.nd,by simp,fun y hy z hz=>?_⟩;simp only [mem_singleton] at hz;subst hz;intro e;subst e;exact hn hy
 ·rcases lt_or_ge i bs.l.length with hi | hi
  ·rw [List.getElem?_append_left hi] at h1;rw [List.getElem?_append_left (by rw [<- h.len]; exact hi)] at h2;obtain ⟨g1,us,g2,g3,g4⟩:=h.box i c y h1 h2;exact ⟨g1,us,g2,Keep.relL hk g3,g4⟩
  ·have hi2:i=bs.l.length:=by
    have:i < (bs.l ++ [b]).length:=by
     rcases lt_or_ge i (bs.l ++ [b]).length with h' | h'
     ·exact h'
     ·rw [List.getElem?_eq_none h'] at h1; cases h1
    simp at this;omega
   subst hi2
   have e1:c=b:=by simpa using h1.symm
   have e2:y=x:=by rw [h.len] at h2; simpa using h2.symm
   subst e1 e2;obtain ⟨g1,us,g2,g3,g4⟩:=hb;exact ⟨g1,us,g2,Keep.relL hk g3,g4⟩
 ·rcases mem_append.1 hc with hc | hc
  ·exact h.bnd c hc
  ·simp only [mem_singleton] at hc;subst hc;exact hlt
theorem aSa (hX:none ∈ bs.fb/\bs.ow=[]) {l:List Oper} {E:List Ent} {vals:Nat->Value} {w:World} (hlen:E.length=l.length) (hon:∀ (j:Nat) (f:Ent),E[j]?=some f->(f.g=[]->f.on=true)) (hgn:∀ (j:Nat) (f:Ent),E[j]?=some f->f.nb ≠ none->f.g=[]) (hok:∀ (i:Nat) (e:Ent),E[i]?=some e->EntOK bs W0.heap.size w e (vals i))
    (hap:Apart l.length (a4y E) vals) (hnew:∀ i b,i < l.length->a4y E i (vals i)=some b->b ∉ bs.l) :
    ∀ (d k:Nat) (s1:St) (a1:Act) (news:List Nat),k+d=l.length->(∀ b ∈ news,∃ i,i < k/\a4y E i (vals i)=some b)->Rl W0 F (bs.more news) s1 a1 w->∃ bs2,Rl W0 F bs2 (a6u true s1 (l.drop k) (E.drop k)) (a0E (l.drop k) vals k a1) w:=by
 intro d
 induction d with
 | zero =>
   intro k s1 a1 news hk _ hR;rw [List.drop_of_length_le (by omega),List.drop_of_length_le (by omega)]
   exact ⟨_,hR⟩
 | succ d ih =>
   intro k s1 a1 news hk hnews hR
   have hkl:k < l.length:=by omega
   have hkE:k < E.length:=by omega
   rw [List.drop_eq_getElem_cons hkl,List.drop_eq_getElem_cons hkE];simp only [a6u,a0E]
   have hEk:E[k]?=some E[k]:=by simp [hkE]
   have ok:=hok k _ hEk
   cases hnb:E[k].nb with
   | none =>
     have e1:a8v true s1 l[k] E[k]=a4u s1 l[k].dst (bif E[k].g.isEmpty then E[k].av else .u):=by
      unfold a8v;simp only [hnb,Bool.true_or,Bool.and_true]
     rw [e1];refine ih (k+1) _ _ news (by omega) (fun b hb=>?_) (hR.put ?_ _)
     ·obtain ⟨i,h1,h2⟩:=hnews b hb;exact ⟨i,by omega,h2⟩
     ·cases hg:E[k].g with
      | cons _ _=>trivial
      | nil =>
        have hv:=ok.2 (hon k _ hEk hg);rw [hnb] at hv
        exact Keep.relV (Keep.more bs w news fun _ _ hf=>hf.2.2.2.2 hX.1) hv
   | some x =>
     have hg:=hgn k _ hEk (by rw [hnb]; simp);have hv:=ok.2 (hon k _ hEk hg);rw [hnb] at hv;obtain ⟨b,hvk,_,hbox,hlt⟩:=hv
     have hown:a4y E k (vals k)=some b:=by
      rw [hvk];exact a9m hEk hnb
     have e1:a8v true s1 l[k] E[k]=a4u { s1 with bx:=s1.bx ++ [x] } l[k].dst (b0i E[k].av s1.bx.length):=by
      unfold a8v;simp only [hnb]
     rw [e1]
     have hbn:b ∉ bs.l ++ news:=by
      intro hm;rcases mem_append.1 hm with hm | hm
      ·exact hnew k b hkl hown hm
      ·obtain ⟨i,h1,h2⟩:=hnews b hm;have:=hap i k b (by omega) hkl h2 hown;omega
     have hbox':BoxAt (bs.more news) W0.heap.size w b x:=by
      obtain ⟨g1,us,g2,g3,g4⟩:=hbox;exact ⟨g1,us,g2,Keep.relL (Keep.more bs w news fun _ _ hf=>hf.2.2.2.2 hX.1) g3,g4⟩
     have hR2:=(Rl.take (bs:=bs.more news) hX hR hbox' hbn hlt).put (r:=(b0i E[k].av s1.bx.length)) (v:=vals k) (by
      rw [hvk]
      exact aLT (by rw [<- hR.len]; simp) _) l[k].dst
     have e3:(bs.more news).more [b]=bs.more (news ++ [b]):=by simp [Bs.more]
     rw [e3] at hR2;refine ih (k+1) _ _ (news ++ [b]) (by omega) (fun c hc=>?_) hR2;rcases mem_append.1 hc with hc | hc
     ·obtain ⟨i,h1,h2⟩:=hnews c hc;exact ⟨i,by omega,h2⟩
     ·simp only [mem_singleton] at hc;subst hc;exact ⟨k,by omega,hown⟩
theorem aLg {ops:List Oper} {ents:List Ent} {o:Oper} {g:List (Nat × Bool)} {on:Bool} {pre:Option Prop} {e:Ent} (h:a8h L C s ops ents o g on=.yes pre e) (hn:e.nb ≠ none):e.g=[]:=by
 unfold a8h at h;split at h
 ·split at h
  ·rename_i l _
   cases h5:(Nat.beq l.kd 5 || !plL l.zero) with
   | true=>rw [h5] at h; cases h
   | false=>rw [h5] at h; cases h; rfl
  ·cases h
 ·split at h
  ·rename_i gi _
   cases hed:a01 o gi with
   | false=>rw [hed] at h; cases h
   | true =>
     rw [hed] at h;simp only [Bool.not_true,cond_false] at h;split at h
     ·cases h; exact absurd rfl hn
     ·cases h
  ·cases h
 ·split at h
  ·cases h; exact absurd rfl hn
  ·cases h; exact absurd rfl hn
  ·split at h
   ·cases h; exact absurd rfl hn
   ·split at h
    ·cases h; exact absurd rfl hn
    ·cases h
 ·split at h
  ·cases h; exact absurd rfl hn
  ·split at h
   ·cases h; exact absurd rfl hn
   ·split at h
    ·rename_i b _ _ _
     cases hp:plL b.cs with
     | false=>rw [hp] at h; cases h
     | true=>rw [hp] at h; cases h; rfl
    ·cases h
 ·split at h
  ·cases h; exact absurd rfl hn
  ·cases h
theorem aDk {l:List Oper} {E:List Ent} (hE:aL3 L C s l E) (hlen:E.length=l.length):∀ (j:Nat) (f:Ent),E[j]?=some f->f.nb ≠ none->f.g=[]:=fun j f hf hn=>by
 have hj:j < l.length:=by rw [<- hlen]; exact (List.getElem?_eq_some_iff.1 hf).1
 obtain ⟨pre,e,h1,h2,_⟩:=hE j l[j] (by simp [hj])
 obtain rfl:e=f:=by rw [h2] at hf; simpa using hf
 unfold aFU at h1
 cases hst:aME l[j] with
 | true =>
   rw [hst] at h1;cases h1
   exact absurd rfl hn
 | false =>
 rw [hst] at h1;simp only [cond_false] at h1;unfold aMJ at h1;split at h1
 ·exact aLg h1 hn
 ·rename_i gi pol _
  cases hc:(a01 l[j] gi && ((l[gi]?).bind (·.dst)).isSome) with
  | false=>rw [hc] at h1; cases h1
  | true =>
    rw [hc] at h1;simp only [cond_true] at h1
    split at h1 <;> try (cases h1; done)
    split at h1 <;> try (cases h1; done)
    exact aLg h1 hn
end
inductive STg
 | o (i off:Nat)
 | n (k:Nat)
structure SE where
 tg:STg
 n:Nat
 ys:List AC
 cs:List AC
def sent (L:List Lay) (s:St) (ops:List Oper) (ents:List Ent) (o:Oper):Option SE :=
 match o.guard,o.op with
 | none,.store T a x =>
   match a09 L T,evF s ops ents o [] x with
   | some l,.k y =>
     bif Nat.beq (wid y.cells) l.size && a3x y.cells then
      match evF s ops ents o [] a with
      | .k (.c (.bx i off)) =>
        match s.bx[i]? with
        | some b=>bif Nat.ble (off+l.size) (wid b.cs) then (upd 99 b.cs off l.size (wid b.cs) y.cells).map fun cs=>⟨.o i off,l.size,y.cells,cs⟩ else none
        | none=>none
      | _ =>
        match a with
        | .tmp t =>
          match a1A ops 0 t with
          | some k =>
            bif a01 o k then
             match ents[k]? with
             | some e =>
               match e.nb,e.av with
               | some b,.u=>bif Nat.ble (0+l.size) (wid b.cs) then (upd 99 b.cs 0 l.size (wid b.cs) y.cells).map fun cs=>⟨.n k,l.size,y.cells,cs⟩ else none
               | _,_=>none
             | none=>none
            else none
          | none=>none
        | _=>none
     else none
   | _,_=>none
 | _,_=>none
def sAt (L:List Lay) (s:St) (ops:List Oper) (E:List Ent) (j:Nat):Option SE :=
 match ops[j]? with
 | some o=>bif aME o then sent L s ops (E.take j) o else none
 | none=>none
def aXK (i:Nat):STg->Bool
 | .o k _=>Nat.beq k i
 | .n _=>false
def b0f (i:Nat):STg->Bool
 | .n k=>Nat.beq k i
 | .o _ _=>false
def a8g (F:Nat->Option SE) (p:STg->Bool):Nat->Option (Nat × SE)
 | 0=>none
 | n+1 =>
   match a8g F p n with
   | some r=>some r
   | none =>
     match F n with
     | some se=>bif p se.tg then some (n,se) else none
     | none=>none
theorem a15 {F:Nat->Option SE} {p:STg->Bool}:∀ {n j:Nat} {se:SE},a8g F p n=some (j,se)->j < n/\F j=some se/\p se.tg=true
 | 0,_,_,h=>by cases h
 | n+1,j,se,h=>by
   unfold a8g at h;split at h
   ·rename_i r hr;simp only [injEq] at h;subst h;obtain ⟨h1,h2,h3⟩:=a15 hr;exact ⟨by omega,h2,h3⟩
   ·split at h
    ·rename_i se' hs
     cases hp:p se'.tg with
     | false=>rw [hp] at h; cases h
     | true =>
       rw [hp] at h;simp only [cond_true,injEq,Prod.mk.injEq] at h;obtain ⟨rfl,rfl⟩:=h;exact ⟨by omega,hs,hp⟩
    ·cases h
def aPs (f:Nat->Bx->Bx):Nat->List Bx->List Bx
 | _,[]=>[]
 | i,b :: r=>f i b :: aPs f (i+1) r
theorem aKH (f:Nat->Bx->Bx):∀ (l:List Bx) (k i:Nat),(aPs f k l)[i]?=(l[i]?).map (f (k+i))
 | [],_,_=>rfl
 | b :: r,k,0=>rfl
 | b :: r,k,i+1=>by
   simp only [aPs,getElem?_cons_succ];rw [aKH f r (k+1) i];congr 2;omega
theorem aKG (f:Nat->Bx->Bx):∀ (l:List Bx) (k:Nat),(aPs f k l).length=l.length
 | [],_=>rfl
 | b :: r,k=>by simp only [aPs,length_cons,aKG f r]
def aSI (f:Nat->Ent->Ent):Nat->List Ent->List Ent
 | _,[]=>[]
 | i,b :: r=>f i b :: aSI f (i+1) r
theorem aKF (f:Nat->Ent->Ent):∀ (l:List Ent) (k i:Nat),(aSI f k l)[i]?=(l[i]?).map (f (k+i))
 | [],_,_=>rfl
 | b :: r,k,0=>rfl
 | b :: r,k,i+1=>by
   simp only [aSI,getElem?_cons_succ];rw [aKF f r (k+1) i];congr 2;omega
theorem aKE (f:Nat->Ent->Ent):∀ (l:List Ent) (k:Nat),(aSI f k l).length=l.length
 | [],_=>rfl
 | b :: r,k=>by simp only [aSI,length_cons,aKE f r]
def bx1 (F:Nat->Option SE) (n:Nat) (d:Nat->Bool) (i:Nat) (b:Bx):Bx :=
 match a8g F (aXK i) n with
 | some (j,se)=>bif d j then ⟨b.T,se.cs⟩ else b
 | none=>b
def aA8 (F:Nat->Option SE) (n:Nat) (d:Nat->Bool) (bx:List Bx):List Bx:=aPs (bx1 F n d) 0 bx
def eAt (F:Nat->Option SE) (n:Nat) (d:Nat->Bool) (i:Nat) (e:Ent):Ent :=
 match e.nb with
 | some b =>
   match a8g F (b0f i) n with
   | some (j,se)=>bif d j then { e with nb:=some ⟨b.T,se.cs⟩ } else e
   | none=>e
 | none=>e
theorem aQR (F:Nat->Option SE) (n:Nat) (d:Nat->Bool) (i:Nat) (e:Ent):(eAt F n d i e).g=e.g/\(eAt F n d i e).on=e.on/\(eAt F n d i e).av=e.av/\((eAt F n d i e).nb=none ↔ e.nb=none):=by
 unfold eAt;split
 ·rename_i b hb;split
  ·rename_i j se _;cases d j <;> simp [hb]
  ·simp
 ·simp
theorem a7s {F:Nat->Option SE} {n:Nat} {d d':Nat->Bool} {i:Nat} {e:Ent} (h:∀ j se,a8g F (b0f i) n=some (j,se)->d j=d' j):eAt F n d i e=eAt F n d' i e:=by
 unfold eAt;split
 ·split
  ·rename_i j se hf;rw [h j se hf]
  ·rfl
 ·rfl
theorem aQQ {F:Nat->Option SE} {n:Nat} {d:Nat->Bool} {i:Nat} {e:Ent} (h:∀ j se,a8g F (b0f i) n=some (j,se)->d j=false):eAt F n d i e=e:=by
 unfold eAt;split
 ·split
  ·rename_i j se hf;rw [h j se hf];rfl
  ·rfl
 ·rfl
theorem a5d (F:Nat->Option SE) (n:Nat) (d:Nat->Bool) (bx:List Bx) (i:Nat):(aA8 F n d bx)[i]?=(bx[i]?).map (bx1 F n d i):=by
 unfold aA8;rw [aKH,zero_add]
theorem aG2 {F:Nat->Option SE} {n:Nat} {d d':Nat->Bool} {i:Nat} {b:Bx} (h:∀ j se,a8g F (aXK i) n=some (j,se)->d j=d' j):bx1 F n d i b=bx1 F n d' i b:=by
 unfold bx1;split
 ·rename_i j se hf;rw [h j se hf]
 ·rfl
theorem a8t {F:Nat->Option SE} {n:Nat} {d d':Nat->Bool} {bx:List Bx} (h:∀ i j se,a8g F (aXK i) n=some (j,se)->d j=d' j):aA8 F n d bx=aA8 F n d' bx:=by
 apply ext_getElem?;intro i;rw [a5d,a5d];congr 1;funext b;exact aG2 (h i)
def gOf (ents:List Ent) (o:Oper):List (Nat × Bool) :=
 match o.guard with
 | none=>[]
 | some (gi,pol)=>match ents[gi]? with | some e=>(gi,pol) :: e.g | none=>[]
def ldB (F:Nat->Option SE) (n:Nat) (s:St) (ops:List Oper) (ents:List Ent) (o:Oper):Bool :=
 match o.op with
 | .load _ x =>
   match evF s ops ents o (gOf ents o) x with
   | .k (.c (.bx i _))=>(a8g F (aXK i) n).isNone
   | _=>true
 | _=>true
def idB (j:Nat):Option (Nat × SE)->Bool
 | some (k,_)=>Nat.beq k j
 | none=>false
def stB (F:Nat->Option SE) (n:Nat) (j:Nat) (o:Oper):Bool :=
 bif aME o then
  match F j with
  | some se =>
    match se.tg with
    | .o i _=>idB j (a8g F (aXK i) n)
    | .n k=>idB j (a8g F (b0f k) n)
  | none=>false
 else true
def allB (f:Nat->Oper->Bool):Nat->List Oper->Bool
 | _,[]=>true
 | i,o :: r=>f i o && allB f (i+1) r
theorem allB_get {f:Nat->Oper->Bool}:∀ {l:List Oper} {k i:Nat} {o:Oper},allB f k l=true->l[i]?=some o->f (k+i) o=true
 | [],_,_,_,_,h=>by simp at h
 | x :: r,k,0,o,h,hi=>by
   simp only [allB,and_eq_true] at h
   obtain rfl:x=o:=by simpa using hi
   exact h.1
 | x :: r,k,i+1,o,h,hi=>by
   simp only [allB,and_eq_true] at h;have:=allB_get (i:=i) h.2 (by simpa using hi);rw [show k+(i+1)=k+1+i by omega];exact this
def aHM (L:List Lay) (s:St) (ops:List Oper) (E:List Ent):Bool :=
 allB (fun j o=>stB (sAt L s ops E) ops.length j o && ldB (sAt L s ops E) ops.length s ops (E.take j) o) 0 ops
def aAT (L:List Lay) (C:List Ctr) (s0:St) (ops:List Oper):List Oper->List Ent->(List Ent->Prop)->Prop
 | [],ents,K=>K ents
 | o :: r,ents,K =>
   match aFU L C s0 ops ents o with
   | .no=>False
   | .yes none e=>aAT L C s0 ops r (ents ++ [e]) K
   | .yes (some p) e =>
     match e.g with
     | []=>p/\aAT L C s0 ops r (ents ++ [e]) K
     | _ :: _=>(e.on=true->p)/\aAT L C s0 ops r (ents ++ [e]) K
theorem aCs {L:List Lay} {C:List Ctr} {s0:St} {ops:List Oper} {K:List Ent->Prop}:∀ (r:List Oper) (ents:List Ent),aAT L C s0 ops r ents K ->
    ∃ E:List Ent,E.length=r.length/\K (ents ++ E)/\∀ i o,r[i]?=some o->∃ pre e,aFU L C s0 ops (ents ++ E.take i) o=.yes pre e/\E[i]?=some e/\(e.on=true->due pre)
 | [],ents,h=>⟨[],rfl,by rw [List.append_nil]; exact h,fun i o ho=>by simp at ho⟩
 | o :: r,ents,h=>by
   have key:∀ (pre:Option Prop) (e:Ent),aFU L C s0 ops ents o=.yes pre e->(e.on=true->due pre)->aAT L C s0 ops r (ents ++ [e]) K->∃ E:List Ent,E.length=(o :: r).length/\K (ents ++ E)/\∀ i o',(o :: r)[i]?=some o'->∃ pre e,aFU L C s0 ops (ents ++ E.take i) o'=.yes pre e/\E[i]?=some e/\(e.on=true->due pre):=fun pre e he hpe h=>by
    obtain ⟨E,h1,h2,h3⟩:=aCs r (ents ++ [e]) h;refine ⟨e :: E,by simp [h1],by simpa using h2,fun i o' ho=>?_⟩
    cases i with
    | zero =>
      obtain rfl:o=o':=by simpa using ho
      exact ⟨pre,e,by simpa using he,rfl,hpe⟩
    | succ i =>
      obtain ⟨p,e',g1,g2,g3⟩:=h3 i o' (by simpa using ho);refine ⟨p,e',?_,by simpa using g2,g3⟩;rw [List.take_succ_cons];rw [List.append_assoc] at g1;exact g1
   unfold aAT at h;split at h
   ·exact h.elim
   ·rename_i e he;exact key none e he (fun _=>trivial) h
   ·rename_i p e he;split at h
    ·exact key (some p) e he (fun _=>h.1) h.2
    ·exact key (some p) e he h.1 h.2
def aNP:Nat->Bool:=fun _=>true
def plT:List AV->Bool
 | []=>true
 | x :: l=>plV x && plT l
def plB:List Bx->Bool
 | []=>true
 | x :: l=>plL x.cs && plB l
def plE:List Ent->Bool
 | []=>true
 | x :: l=>plV x.av && plE l
theorem aOY:∀ {l:List AV} {i:Nat} {x:AV},plT l=true->l[i]?=some x->plV x=true
 | y :: l,0,x,h,e=>by
   simp only [plT,and_eq_true] at h
   obtain rfl:y=x:=by simpa using e
   exact h.1
 | y :: l,i+1,x,h,e=>by
   simp only [plT,and_eq_true] at h;exact aOY h.2 (by simpa using e)
theorem aO1:∀ {l:List Bx} {i:Nat} {x:Bx},plB l=true->l[i]?=some x->plL x.cs=true
 | y :: l,0,x,h,e=>by
   simp only [plB,and_eq_true] at h
   obtain rfl:y=x:=by simpa using e
   exact h.1
 | y :: l,i+1,x,h,e=>by
   simp only [plB,and_eq_true] at h;exact aO1 h.2 (by simpa using e)
theorem aO0:∀ {l:List Ent} {i:Nat} {x:Ent},plE l=true->l[i]?=some x->plV x.av=true
 | y :: l,0,x,h,e=>by
   simp only [plE,and_eq_true] at h
   obtain rfl:y=x:=by simpa using e
   exact h.1
 | y :: l,i+1,x,h,e=>by
   simp only [plE,and_eq_true] at h;exact aO0 h.2 (by simpa using e)
def aWc (L:List Lay) (C:List Ctr) (ops:List Oper) (s:St) (K:St->Prop):Prop :=
 aAT L C s ops ops [] fun E=>bif aHM L s ops E && plT s.tm && plB s.bx && plE E then K (a6u true { s with bx:=aA8 (sAt L s ops E) ops.length aNP s.bx } ops (aSI (eAt (sAt L s ops E) ops.length aNP) 0 E)) else False
section
variable {P:Program} {L:List Lay} {C:List Ctr} {W0 w0:World} {F:List (Option Nat)} {bs:Bs} {s:St} {a0:Act} {l:List Oper} {E:List Ent} {w:World}
theorem aAP (hX:none ∈ bs.fb/\bs.ow=[]) {lo g off n:Nat} {b:Bx} {cs ys:List AC} {us:List Value} (hlo:bs.lo=lo) (hb:BoxAt bs lo w g b) (hu:upd 99 b.cs off n (wid b.cs) ys=some cs) (hn:(a0d ys).length=n) (hle:off+n <= wid b.cs) (hsoft:a3x ys=true)
    (hr:relL bs w (a0d ys) us):Keep bs bs w (w.setCells g off us)/\BoxAt bs lo (w.setCells g off us) g ⟨b.T,cs⟩/\(w.setCells g off us).heap.size=w.heap.size/\∀ k,k ≠ g->(w.setCells g off us).heap[k]?=w.heap[k]?:=by
 obtain ⟨h1,vs,h2,h3,h4⟩:=hb
 have hul:us.length=n:=by rw [<- hr.len,hn]
 have hvl:vs.length=wid b.cs:=by rw [<- h3.len,a2E]
 obtain ⟨k1,k2,k3⟩:=a1R g us off w vs b.T h2 (by omega)
 have hk:Keep bs bs w (w.setCells g off us):=⟨fun u l hs=>a6U hs h2 (fun v hv=>h4.1 v (by simpa using hv)) (by rw [k2]; exact Nat.le_refl _) fun k _=>k3 k,fun _ _ _ hc=>a6a hc h2 (fun v hv=>h4.1 v (by simpa using hv)) fun k _=>k3 k,fun _ _ e=>e,fun c hc1 hc2=>⟨hc1,by rw [k2]; exact hc2,a3a (k3 c (by rw [hlo] at hc1; omega))⟩,
  fun c hc=>absurd hX.1 hc.2.2.2.2,fun n ob _ e=>(by rw [hX.2] at e; cases e),rfl⟩
 refine ⟨hk,⟨h1,_,k1,?_,fun u hu=>?_,aJ4 hu h4.2 (a3J _ hsoft)⟩,k2,k3⟩
 ·rw [aCC hu];refine Keep.relL hk (relL.append (relL.append (h3.take off) hr) ?_)
  have e:vs.drop (off+us.length)=(vs.drop (off+n)).take (wid b.cs - off - n):=by rw [hul]; exact (List.take_of_length_le (by simp; omega)).symm
  rw [e];exact (h3.drop (off+n)).take _
 ·simp only [mem_append] at hu;rcases hu with (hu | hu) | hu
  ·exact h4.1 u (List.mem_of_mem_take hu)
  ·exact a4B (a3K hsoft) hr u hu
  ·exact h4.1 u (List.mem_of_mem_drop hu)
theorem Rl.store_new (hX:none ∈ bs.fb/\bs.ow=[]) {a:Act} (h:Rl W0 F bs s a w) {g off n:Nat} {b:Bx} {cs ys:List AC} {us:List Value} (hg:g ∉ bs.l) (hb:BoxAt bs W0.heap.size w g b) (hu:upd 99 b.cs off n (wid b.cs) ys=some cs) (hn:(a0d ys).length=n) (hle:off+n <= wid b.cs) (hsoft:a3x ys=true)
    (hr:relL bs w (a0d ys) us):Rl W0 F bs s a (w.setCells g off us):=by
 obtain ⟨hk,_,k2,k3⟩:=aAP hX h.lo hb hu hn hle hsoft hr;refine ⟨a4m hb.1 us off h.ext,h.lo,h.fbe,h.fbb,h.own.later (by rw [k2]; exact Nat.le_refl _),h.nd,h.len,fun j c x hj hx=>?_,fun c hc=>by rw [k2]; exact h.bnd c hc,fun t x hx=>Keep.relV hk (h.tmp t x hx),h.tl,h.dfr⟩;obtain ⟨g1,us',g2,g3,g4⟩:=h.box j c x hj hx
 have hne:c ≠ g:=by
  rintro rfl;exact hg (List.mem_of_getElem? hj)
 exact ⟨g1,us',by rw [k3 c hne]; exact g2,Keep.relL hk g3,g4⟩
theorem EntOK.keep {w':World} {e:Ent} {v:Value} {lo:Nat} (h:EntOK bs lo w e v) (hk:Keep bs bs w w') (hs:w.heap.size <= w'.heap.size) (hh:∀ b x,e.nb=some x->e.on=true->v=aSK e.av b->w'.heap[b]?=w.heap[b]?):EntOK bs lo w' e v:=by
 refine ⟨h.1,fun ho=>?_⟩;have:=h.2 ho
 cases hn:e.nb with
 | none =>
   rw [hn] at this
   exact Keep.relV hk this
 | some x =>
   rw [hn] at this;obtain ⟨b,h1,h0,⟨h2,vs,h3,h4,h5⟩,h6⟩:=this;exact ⟨b,h1,Keep.relV hk h0,⟨h2,vs,by rw [hh b x hn ho h1]; exact h3,Keep.relL hk h4,h5⟩,by omega⟩
theorem aVC {s':St} (h:s'.tm=s.tm) (ops:List Oper) (ents:List Ent) (o:Oper) (g:List (Nat × Bool)):evF s' ops ents o g=evF s ops ents o g:=by
 have he:∀ x,evS s' x=evS s x:=fun x=>by
  unfold evS
  split <;> first | rfl | rw [h]
 funext x;unfold evF;split
 ·split
  ·exact he _
  ·split <;> simp only [he]
 ·exact he _
theorem aUF {bx bx':List Bx} {ev:Operand->AV} {op:Op} (h:∀ T x,op=.load T x->∀ i off,ev x=.k (.c (.bx i off))->bx'[i]?=bx[i]?):a2g L bx' ev op=a2g L bx ev op:=by
 cases op with
 | load T x =>
   simp only [a2g]
   cases hx:ev x with
   | k y =>
     cases y with
     | c z =>
       cases z with
       | bx i off =>
         have e:=h T x rfl i off hx
         cases a09 L T with
         | none=>rfl
         | some l=>simp only [e]
       | _=>cases a09 L T <;> rfl
     | g cs=>cases a09 L T <;> rfl
   | _=>cases a09 L T <;> rfl
 | unOp a b c=>cases a <;> rfl
 | slice T x a b c=>cases a <;> cases b <;> cases c <;> rfl
 | _=>rfl
theorem aLh {s':St} (h:s'.tm=s.tm) {ops:List Oper} {ents:List Ent} {o:Oper} {g:List (Nat × Bool)} {on:Bool} (hb:∀ T x,o.op=.load T x->∀ i off,evF s ops ents o g x=.k (.c (.bx i off))->s'.bx[i]?=s.bx[i]?):a8h L C s' ops ents o g on=a8h L C s ops ents o g on:=by
 unfold a8h;simp only [aVC h];have e:=aUF (L:=L) (bx:=s.bx) (bx':=s'.bx) (ev:=evF s ops ents o g) (op:=o.op) hb;split
 ·rfl
 ·rfl
 ·rename_i c hop;rw [hop] at e;rw [e]
 ·rfl
 ·rw [e]
theorem aY0 {s':St} (h:s'.tm=s.tm) {ops:List Oper} {ents:List Ent} {o:Oper} (hb:∀ T x,o.op=.load T x->∀ i off,evF s ops ents o (gOf ents o) x=.k (.c (.bx i off))->s'.bx[i]?=s.bx[i]?):aFU L C s' ops ents o=aFU L C s ops ents o:=by
 unfold aFU;congr 1;unfold aMJ;split
 ·rename_i hg
  have e:gOf ents o=[]:=by unfold gOf; rw [hg]
  rw [e] at hb;exact aLh h hb
 ·rename_i gi pol hg;congr 1;split
  ·rename_i e he
   have e1:gOf ents o=(gi,pol) :: e.g:=by unfold gOf; rw [hg]; simp only [he]
   rw [e1] at hb;split
   ·exact aLh h hb
   ·rfl
  ·rfl
structure SI (L:List Lay) (s:St) (l:List Oper) (E:List Ent) (W0:World) (F:List (Option Nat)) (bs:Bs) (a0:Act) (ls:Array Bool) (vals:Nat->Value) (w:World):Prop where
 rl:Rl W0 F bs { s with bx:=aA8 (sAt L s l E) l.length (fun j=>ls.getD j false) s.bx } a0 w
 ent:∀ i e,E[i]?=some e->ls.getD i false=true->EntOK bs W0.heap.size w (eAt (sAt L s l E) l.length (fun j=>ls.getD j false) i e) (vals i)
 ap:∀ i j b,ls.getD i false=true->ls.getD j false=true->a4y E i (vals i)=some b->a4y E j (vals j)=some b->i=j
 bd:∀ i b,ls.getD i false=true->a4y E i (vals i)=some b->b ∉ bs.l/\b < w.heap.size
 dn:∀ j oj,l[j]?=some oj->ls.getD j false=true->∀ e ∈ oj.after,Region.binds .any e=true->ls.getD e.on false=true
theorem aVF {ls:Array Bool} {i:Nat} (hi:i < ls.size) (j:Nat):(ls.setIfInBounds i true).getD j false=true ↔ j=i \/ ls.getD j false=true:=by
 by_cases h:j=i
 ·subst h; simp [hi]
 ·rw [getD_set_ne false (by omega)]; simp [h]
theorem a2C {ls:Array Bool} {i j:Nat} (h:j ≠ i):(ls.setIfInBounds i true).getD j false=ls.getD j false:=getD_set_ne false (by omega)
theorem aVx {j:Nat} {r:Option (Nat × SE)} (h:idB j r=true):∃ se,r=some (j,se):=by
 unfold idB at h;split at h
 ·rename_i k se
  have:k=j:=by simpa using h
  subst this;exact ⟨se,rfl⟩
 ·cases h
theorem aO2 {i:Nat} {g:STg} (h:aXK i g=true):∃ off,g=.o i off:=by
 unfold aXK at h;split at h
 ·rename_i k off
  have:k=i:=by simpa using h
  subst this;exact ⟨off,rfl⟩
 ·cases h
theorem aHY {i:Nat} {g:STg} (h:b0f i g=true):g=.n i:=by
 unfold b0f at h;split at h
 ·rename_i k
  have:k=i:=by simpa using h
  subst this;rfl
 ·cases h
theorem aXM {E E':List Ent} {i:Nat} {e e':Ent} {v:Value} (h:E[i]?=some e) (h':E'[i]?=some e') (hn:e.nb=none ↔ e'.nb=none):a4y E i v=a4y E' i v:=by
 unfold a4y;rw [h,h'];simp only
 cases h1:e.nb with
 | none=>rw [hn.1 h1]
 | some x =>
   cases h2:e'.nb with
   | none=>rw [hn.2 h2] at h1; cases h1
   | some y=>cases v <;> first | rfl | (rename_i a; cases a <;> rfl) | (rename_i a _ _; cases a <;> rfl)
theorem aHC {o:Oper} (h:o.guard=none) (y:Nat->Option Bool):Region.wanted o y=true:=by unfold Region.wanted; rw [h]
theorem aJv (hL:∀ l ∈ L,a1I P l) (hC:∀ c ∈ C,CtrOK P c) {Q:Exit->Act->World->Prop} (hE:aL3 L C s l E) (hlen:E.length=l.length) (hA:a2l l=true) (hlow:aC0 l=true) (hI:a1L l a0.tmps.size=true) (hst:aHM L s l E=true) (hX:none ∈ bs.fb/\bs.ow=[]) (hzE:none ∈ F->∀ (j:Nat) (f:Ent),E[j]?=some f->plV f.av=true) (i:Nat) (o:Oper) (ho:l[i]?=some o) :
    a4M P Q l a0 (SI L s l E W0 F bs a0) i o:=by
 intro ls vals w hs hu hd hS hf;have hi:i < l.length:=(List.getElem?_eq_some_iff.1 ho).1
 have his:i < ls.size:=by omega
 have hif:ls.getD i false=false:=by simp [his] at hu ⊢; exact hu
 have hlo:∀ e ∈ o.after,Region.binds .any e=true->e.on < i:=fun e he hb=>by
  simp only [aC0,List.all_eq_true,List.mem_range] at hlow;have:=hlow i hi;rw [ho] at this;simp only [map_some,getD_some,Array.all_eq_true'] at this;simpa [hb] using this e he
 have hdep:∀ e ∈ o.after,Region.binds .any e=true->ls.getD e.on false=true:=fun e he hb=>by
  have h1:=hd e he hb;have h2:=hlo e he hb
  have h3:e.on < ls.size:=by omega
  simp [h3] at h1 ⊢;exact h1
 have hE':aL3 L C { s with bx:=aA8 (sAt L s l E) l.length (fun j=>ls.getD j false) s.bx } l E:=fun k ok hok=>by
  obtain ⟨pre,e,h1,h2,h3⟩:=hE k ok hok;refine ⟨pre,e,?_,h2,h3⟩;refine (aY0 (s:=s) (s':={ s with bx:=aA8 (sAt L s l E) l.length (fun j=>ls.getD j false) s.bx }) rfl ?_).trans h1
  ·intro T x hop b off hev;have hk:=allB_get hst hok;rw [zero_add,and_eq_true] at hk;have hk2:=hk.2;unfold ldB at hk2;rw [hop] at hk2;simp only at hk2;rw [hev] at hk2;simp only [Option.isNone_iff_eq_none] at hk2;show (aA8 (sAt L s l E) l.length (fun j=>ls.getD j false) s.bx)[b]?=s.bx[b]?;rw [a5d]
   cases s.bx[b]? with
   | none=>rfl
   | some x=>simp only [map_some,bx1,hk2]
 have hwd:∀ e ∈ o.after,Region.binds .any e=true->∀ f,E[e.on]?=some f->b3n bs w f (vals e.on):=fun e he hb f hf'=>by
  have:=(hS.ent e.on f hf' (hdep e he hb)).w;obtain ⟨_,g2,g3,_⟩:=aQR (sAt L s l E) l.length (fun j=>ls.getD j false) e.on f;unfold b3n at this ⊢;rwa [g2,g3] at this
 cases hso:aME o with
 | false =>
   have hFi:sAt L s l E i=none:=by unfold sAt; rw [ho]; simp only [hso,cond_false]
   have hne:∀ {p:STg->Bool} {j:Nat} {se:SE},a8g (sAt L s l E) p l.length=some (j,se)->j ≠ i:=fun h hj=>by
    obtain ⟨_,h2,_⟩:=a15 h;rw [hj,hFi] at h2;cases h2
   refine wpOp_mono ?_ (aQF (Q:=Q) hL hC hE' hlen hA hI hzE i o ho hso vals w hS.rl hwd hf);rintro a' w' ⟨v,ha,hx,hen,hov⟩;refine ⟨v,ha,⟨?_,fun k e hk hdk=>?_,fun k j b hk hj e1 e2=>?_,fun k b hk e1=>?_,fun j oj hoj hj e he hb=>?_⟩⟩
   ·have e1:aA8 (sAt L s l E) l.length (fun j=>(ls.setIfInBounds i true).getD j false) s.bx=aA8 (sAt L s l E) l.length (fun j=>ls.getD j false) s.bx:=a8t fun q j se h=>a2C (hne h);rw [e1];exact hS.rl.later hx
   ·by_cases hki:k=i
    ·subst hki;rw [upd_same,aQQ fun j se h=>?_]
     ·exact hen e hk
     ·have hj:=hne h;show (ls.setIfInBounds k true).getD j false=false;rw [a2C hj];obtain ⟨h1,h2,h3⟩:=a15 h;have h4:=aHY h3
      cases hlj:ls.getD j false with
      | false=>rfl
      | true =>
        exfalso;unfold sAt at h2
        cases hoj:l[j]? with
        | none=>rw [hoj] at h2; cases h2
        | some oj =>
          rw [hoj] at h2;simp only at h2
          cases hsj:aME oj with
          | false=>rw [hsj] at h2; cases h2
          | true =>
            rw [hsj] at h2;simp only [cond_true] at h2
            have hed:a01 oj k=true:=by
             unfold sent at h2
             split at h2 <;> try (cases h2; done)
             split at h2 <;> try (cases h2; done)
             rename_i l' y _ _
             cases hc:(Nat.beq (wid y.cells) l'.size && a3x y.cells) with
             | false=>rw [hc] at h2; cases h2
             | true =>
               rw [hc] at h2;simp only [cond_true] at h2;split at h2
               ·split at h2 <;> try (cases h2; done)
                rename_i b _
                cases hc2:Nat.ble (_+l'.size) (wid b.cs) with
                | false=>rw [hc2] at h2; cases h2
                | true =>
                  rw [hc2] at h2;simp only [cond_true,map_eq_some_iff] at h2;obtain ⟨cs,_,rfl⟩:=h2;cases h4
               ·split at h2 <;> try (cases h2; done)
                split at h2 <;> try (cases h2; done)
                rename_i k' _
                cases hed:a01 oj k' with
                | false=>rw [hed] at h2; cases h2
                | true =>
                  rw [hed] at h2;simp only [cond_true] at h2
                  split at h2 <;> try (cases h2; done)
                  split at h2 <;> try (cases h2; done)
                  rename_i b _ _
                  cases hc2:Nat.ble (0+l'.size) (wid b.cs) with
                  | false=>rw [hc2] at h2; cases h2
                  | true =>
                    rw [hc2] at h2;simp only [cond_true,map_eq_some_iff] at h2;obtain ⟨cs,_,rfl⟩:=h2;cases h4;exact hed
            obtain ⟨e',he',hb',hon⟩:=a1i hed;have:=hS.dn j oj hoj hlj e' he' hb';rw [hon,hif] at this;cases this
    ·rw [upd_ne _ _ hki]
     have hdk':ls.getD k false=true:=by rwa [a2C hki] at hdk
     rw [a7s (d':=fun j=>ls.getD j false) fun j se h=>a2C (hne h)];exact (hS.ent k e hk hdk').ext hx hS.rl.okB
   ·by_cases hki:k=i <;> by_cases hji:j=i
    ·rw [hki,hji]
    ·exfalso;subst hki;rw [upd_same] at e1;rw [upd_ne _ _ hji] at e2;have g1:=hov b e1;have g2:=(hS.bd j b (by rwa [a2C hji] at hj) e2).2;omega
    ·exfalso;subst hji;rw [upd_same] at e2;rw [upd_ne _ _ hki] at e1;have g1:=hov b e2;have g2:=(hS.bd k b (by rwa [a2C hki] at hk) e1).2;omega
    ·rw [upd_ne _ _ hki] at e1;rw [upd_ne _ _ hji] at e2;exact hS.ap k j b (by rwa [a2C hki] at hk) (by rwa [a2C hji] at hj) e1 e2
   ·by_cases hki:k=i
    ·subst hki;rw [upd_same] at e1;have g1:=hov b e1;exact ⟨fun hm=>by have:=hS.rl.bnd b hm; omega,g1.2⟩
    ·rw [upd_ne _ _ hki] at e1;have g2:=hS.bd k b (by rwa [a2C hki] at hk) e1;have:=hx.size;exact ⟨g2.1,by omega⟩
   ·rcases (aVF his j).1 hj with rfl | hj
    ·obtain rfl:o=oj:=by rw [ho] at hoj; simpa using hoj
     exact (aVF his e.on).2 (.inr (hdep e he hb))
    ·exact (aVF his e.on).2 (.inr (hS.dn j oj hoj hj e he hb))
 | true =>
   have hstb:stB (sAt L s l E) l.length i o=true:=by
    have hk:=allB_get hst ho;rw [zero_add,and_eq_true] at hk;exact hk.1
   unfold stB at hstb;rw [hso] at hstb;simp only [cond_true] at hstb
   split at hstb <;> try (cases hstb; done)
   rename_i se hFi
   have hse:sent L s l (E.take i) o=some se:=by
    unfold sAt at hFi;rw [ho] at hFi;simp only [hso,cond_true] at hFi;exact hFi
   have hEi:∀ e,E[i]?=some e->e=⟨[],true,none,.u⟩:=fun e he=>by
    obtain ⟨pre,e',h1,h2,_⟩:=hE i o ho;unfold aFU at h1;rw [hso] at h1;cases h1;rw [h2] at he;simpa using he.symm
   have hoa:l.toArray[i]?=some o:=by simpa using ho
   have hil:i <= E.length:=by omega
   have hev:∀ x,relV bs w (evF s l (E.take i) o [] x) ((a0E l vals 0 a0).eval x):=fun x=>by
    have:=aQJ (i:=i) (o:=o) (vals:=vals) hE' hlen hA hI hS.rl hwd hf hil [] (by intro _ h; cases h) x;rwa [aVC (s:=s) (s':={ s with bx:=aA8 (sAt L s l E) l.length (fun j=>ls.getD j false) s.bx }) rfl] at this
   have fin:∀ (g:Nat) (w':World),Keep bs bs w w'->w'.heap.size=w.heap.size->(∀ k,k ≠ g->w'.heap[k]?=w.heap[k]?) ->
       Rl W0 F bs { s with bx:=aA8 (sAt L s l E) l.length (fun j=>(ls.setIfInBounds i true).getD j false) s.bx } a0 w' ->
       (∀ k e,E[k]?=some e->k ≠ i->ls.getD k false=true->(∃ b x,e.nb=some x/\a4y E k (vals k)=some b/\b=g)->EntOK bs W0.heap.size w' (eAt (sAt L s l E) l.length (fun j=>(ls.setIfInBounds i true).getD j false) k e) (vals k)) ->
       (∀ k e,E[k]?=some e->k ≠ i->ls.getD k false=true->(∀ b x,e.nb=some x->a4y E k (vals k)=some b->b ≠ g)->eAt (sAt L s l E) l.length (fun j=>(ls.setIfInBounds i true).getD j false) k e=eAt (sAt L s l E) l.length (fun j=>ls.getD j false) k e) ->
       SI L s l E W0 F bs a0 (ls.setIfInBounds i true) (Go.Proofs.YtbohkigffejhoaaGreat.upd vals i undef) w':=fun g w' hk hsz hh hrl hg1 hg2=>by
    refine ⟨hrl,fun k e hke hdk=>?_,fun k j b hk hj e1 e2=>?_,fun k b hk e1=>?_,fun j oj hoj hj e he hb=>?_⟩
    ·by_cases hki:k=i
     ·subst hki;have:=hEi e hke;subst this;rw [upd_same];exact ⟨fun h=>(by cases h),fun _=>trivial⟩
     ·rw [upd_ne _ _ hki]
      have hdk':ls.getD k false=true:=by rwa [a2C hki] at hdk
      by_cases hc:∃ b x,e.nb=some x/\a4y E k (vals k)=some b/\b=g
      ·exact hg1 k e hke hki hdk' hc
      ·have hc':∀ b x,e.nb=some x->a4y E k (vals k)=some b->b ≠ g:=fun b x h1 h2 h3=>hc ⟨b,x,h1,h2,h3⟩;rw [hg2 k e hke hki hdk' hc'];refine (hS.ent k e hke hdk').keep hk (by omega) fun b x hn _ hv=>hh b ?_;obtain ⟨_,_,hav,hnn⟩:=aQR (sAt L s l E) l.length (fun j=>ls.getD j false) k e
       cases hen:e.nb with
       | none=>rw [hnn.2 hen] at hn; cases hn
       | some y =>
         rw [hav] at hv;refine hc' b y hen ?_;rw [hv];exact a9m hke hen
    ·have dk:∀ q,(ls.setIfInBounds i true).getD q false=true->a4y E q (Go.Proofs.YtbohkigffejhoaaGreat.upd vals i undef q)=some b->q ≠ i/\ls.getD q false=true/\a4y E q (vals q)=some b:=fun q h1 h2=>by
      by_cases hqi:q=i
      ·exfalso;subst hqi;unfold a4y at h2
       cases hq:E[q]? with
       | none=>rw [hq] at h2; cases h2
       | some e =>
         have:=hEi e hq;subst this;rw [hq] at h2;cases h2
      ·rw [upd_ne _ _ hqi] at h2;exact ⟨hqi,by rwa [a2C hqi] at h1,h2⟩
     obtain ⟨_,p1,p2⟩:=dk k hk e1;obtain ⟨_,q1,q2⟩:=dk j hj e2;exact hS.ap k j b p1 q1 p2 q2
    ·by_cases hki:k=i
     ·exfalso;subst hki;unfold a4y at e1
      cases hq:E[k]? with
      | none=>rw [hq] at e1; cases e1
      | some e =>
        have:=hEi e hq;subst this;rw [hq] at e1;cases e1
     ·rw [upd_ne _ _ hki] at e1;have g2:=hS.bd k b (by rwa [a2C hki] at hk) e1;exact ⟨g2.1,by omega⟩
    ·rcases (aVF his j).1 hj with rfl | hj
     ·obtain rfl:o=oj:=by rw [ho] at hoj; simpa using hoj
      exact (aVF his e.on).2 (.inr (hdep e he hb))
     ·exact (aVF his e.on).2 (.inr (hS.dn j oj hoj hj e he hb))
   unfold wpOp;simp only [hoa];unfold sent at hse
   split at hse <;> try (cases hse; done)
   rename_i T a x hgd hop;rw [if_pos (aHC hgd _)];refine .inl ?_;have hdst:∀ v:Value,(a0E l vals 0 a0).put o.dst v=(a0E l vals 0 a0).put o.dst v:=fun _=>rfl
   split at hse <;> try (cases hse; done)
   rename_i ly y hly hy;obtain ⟨hm,rfl⟩:=a0c hly
   cases hc:(Nat.beq (wid y.cells) ly.size && a3x y.cells) with
   | false=>rw [hc] at hse; cases hse
   | true =>
   rw [hc] at hse;simp only [cond_true] at hse;simp only [and_eq_true,Nat.beq_eq] at hc;obtain ⟨hw1,hsoft⟩:=hc;have hry:=hev x;rw [hy] at hry;have hcr:=a2J hry
   have hn:(a0d y.cells).length=ly.size:=by rw [a2E,hw1]
   have run:∀ (g off:Nat) (b:Bx),(a0E l vals 0 a0).eval a=.pointer (some ⟨g,off,none⟩)->BoxAt bs W0.heap.size w g b->off+ly.size <= wid b.cs ->
       (execOp (a0E l vals 0 a0).eval o).run P w=.ok .skip (w.setCells g off ((a0E l vals 0 a0).eval x).cells.toList):=fun g off b hv hb hle=>by
    obtain ⟨_,vs,b2,b3,_⟩:=hb;simp only [execOp,hop,hv];refine a7Q (a2X w g off ly.t ((a0E l vals 0 a0).eval x) vs b.T b2 ?_ ?_ (relL.one hcr))
    ·rw [<- hcr.len,hn,<- b3.len,a2E]; exact hle
    ·rw [<- hcr.len,hn]; exact (hL ly hm).size
   unfold Oper.wp;split at hse
   ·rename_i ib off hax
    split at hse <;> try (cases hse; done)
    rename_i b hb
    cases hc2:Nat.ble (off+ly.size) (wid b.cs) with
    | false=>rw [hc2] at hse; cases hse
    | true =>
    rw [hc2] at hse;simp only [cond_true,map_eq_some_iff] at hse;obtain ⟨cs,hu',rfl⟩:=hse;simp only [ble_eq] at hc2;obtain ⟨se',hT⟩:=aVx hstb;have hra:=hev a;rw [hax] at hra;obtain ⟨g,hgb,hv⟩:=hra
    have hbx:(aA8 (sAt L s l E) l.length (fun j=>ls.getD j false) s.bx)[ib]?=some b:=by
     rw [a5d,hb];simp only [map_some,bx1,hT,hif,cond_false]
    have hB:=hS.rl.box ib g b hgb hbx;rw [run g off b hv hB hc2];obtain ⟨hk,_,k2,k3⟩:=aAP hX hS.rl.lo hB hu' hn hc2 hsoft hcr;refine ⟨undef,rfl,fin g _ hk k2 k3 ?_ (fun k e hke hki hdk ⟨b',x',h1,h2,h3⟩=>?_) (fun k e hke hki hdk _=>a7s fun j se h=>?_)⟩
    ·have h1:=hS.rl.store hgb hbx hu' hn hc2 hsoft hcr
     have e1:(aA8 (sAt L s l E) l.length (fun j=>ls.getD j false) s.bx).set ib ⟨b.T,cs⟩=aA8 (sAt L s l E) l.length (fun j=>(ls.setIfInBounds i true).getD j false) s.bx:=by
      apply ext_getElem?;intro q;rw [List.getElem?_set,a5d,a5d];by_cases hq:ib=q
      ·subst hq;rw [if_pos rfl,if_pos (by rw [aA8,aKG]; exact (List.getElem?_eq_some_iff.1 hb).1),hb];obtain ⟨_,hF',_⟩:=a15 hT;rw [hFi] at hF'
       obtain rfl:(⟨.o ib off,ly.size,y.cells,cs⟩:SE)=se':=by simpa using hF'
       have hd1:(ls.setIfInBounds i true).getD i false=true:=(aVF his i).2 (.inl rfl);simp only [map_some,bx1,hT,hd1,cond_true]
      ·rw [if_neg hq];congr 1;funext b';refine aG2 fun j se h=>?_
       have:j ≠ i:=by
        rintro rfl;obtain ⟨_,g2,g3⟩:=a15 h;rw [hFi] at g2;cases g2;obtain ⟨_,g4⟩:=aO2 g3;cases g4;exact hq rfl
       exact (a2C this).symm
     rw [<- e1];exact h1
    ·exfalso;subst h3;exact (hS.bd k b' hdk h2).1 (List.mem_of_getElem? hgb)
    ·have:j ≠ i:=by
      rintro rfl;obtain ⟨_,g2,g3⟩:=a15 h;rw [hFi] at g2;cases g2;have:=aHY g3;cases this
     exact a2C this
   ·split at hse <;> try (cases hse; done)
    rename_i t _
    split at hse <;> try (cases hse; done)
    rename_i kb hfd
    cases hed:a01 o kb with
    | false=>rw [hed] at hse; cases hse
    | true =>
    rw [hed] at hse;simp only [cond_true] at hse
    split at hse <;> try (cases hse; done)
    rename_i e hek
    split at hse <;> try (cases hse; done)
    rename_i b hnb hav
    cases hc2:Nat.ble (0+ly.size) (wid b.cs) with
    | false=>rw [hc2] at hse; cases hse
    | true =>
    rw [hc2] at hse;simp only [cond_true,map_eq_some_iff] at hse;obtain ⟨cs,hu',rfl⟩:=hse;simp only [ble_eq] at hc2;obtain ⟨se',hT⟩:=aVx hstb;have hEk:=take_get hek;obtain ⟨ed,hem,heb,hon⟩:=a1i hed
    have hdk:ls.getD kb false=true:=by rw [<- hon]; exact hdep ed hem heb
    have hok:=hS.ent kb e hEk hdk
    have hoff:eAt (sAt L s l E) l.length (fun j=>ls.getD j false) kb e=e:=aQQ fun j se h=>by
     rw [hT] at h;cases h;exact hif
    rw [hoff] at hok;have hg0:=aDk hE hlen kb e hEk (by rw [hnb]; simp);have hon':=aAr hE hlen kb e hEk (by rw [hg0]; intro _ h; cases h);have hok2:=hok.2 hon';rw [hnb] at hok2;obtain ⟨g,hvk,_,hB,hlt⟩:=hok2
    have hown:a4y E kb (vals kb)=some g:=by rw [hvk]; exact a9m hEk hnb
    obtain ⟨hgn,_⟩:=hS.bd kb g hdk hown;obtain ⟨kk,ok',hkk,hok',hdt⟩:=a1j hfd;rw [zero_add] at hkk;subst hkk
    have hv:(a0E l vals 0 a0).eval (.tmp t)=.pointer (some ⟨g,0,none⟩):=by
     rw [a1T l vals 0 kb a0 ok' t hA hI hok' hdt,zero_add,hvk,hav];rfl
    rw [run g 0 b hv hB hc2];obtain ⟨hk,hB2,k2,k3⟩:=aAP hX hS.rl.lo hB hu' hn hc2 hsoft hcr
    have hbxe:aA8 (sAt L s l E) l.length (fun j=>(ls.setIfInBounds i true).getD j false) s.bx=aA8 (sAt L s l E) l.length (fun j=>ls.getD j false) s.bx:=a8t fun q j se h=>by
     have:j ≠ i:=by
      rintro rfl;obtain ⟨_,g2,g3⟩:=a15 h;rw [hFi] at g2;cases g2;obtain ⟨_,g4⟩:=aO2 g3;cases g4
     exact a2C this
    refine ⟨undef,rfl,fin g _ hk k2 k3 ?_ (fun k e' hke hki hdk' ⟨b',x',h1,h2,h3⟩=>?_) (fun k e' hke hki hdk' hno=>a7s fun j se h=>?_)⟩
    ·rw [hbxe];exact hS.rl.store_new hX hgn hB hu' hn hc2 hsoft hcr
    ·subst h3;have hkk:=hS.ap k kb b' hdk' hdk h2 hown;subst hkk
     obtain rfl:e=e':=by rw [hEk] at hke; simpa using hke
     obtain ⟨_,hF',_⟩:=a15 hT;rw [hFi] at hF'
     obtain rfl:(⟨.n k,ly.size,y.cells,cs⟩:SE)=se':=by simpa using hF'
     have hd1:(ls.setIfInBounds i true).getD i false=true:=(aVF his i).2 (.inl rfl)
     have e1:eAt (sAt L s l E) l.length (fun j=>(ls.setIfInBounds i true).getD j false) k e={ e with nb:=some ⟨b.T,cs⟩ }:=by
      unfold eAt;rw [hnb];simp only [hT,hd1,cond_true]
     rw [e1];refine ⟨fun h=>?_,fun _=>⟨b',hvk,?_,hB2,by omega⟩⟩
     ·simp only at h;rw [hon'] at h;cases h
     ·simp only [hav];trivial
    ·have:j ≠ i:=by
      rintro rfl;obtain ⟨_,g2,g3⟩:=a15 h;rw [hFi] at g2;cases g2;have:=aHY g3;cases this
      obtain rfl:e=e':=by rw [hEk] at hke; simpa using hke
      exact hno g b hnb hown rfl
     exact a2C this
theorem Rl.mark {a:Act} (h:Rl W0 F bs s a w) (ht:plT s.tm=true) (hb:plB s.bx=true):Rl W0 (none :: F) ⟨bs.lo,bs.l,[],none :: bs.fb⟩ s a w:=by
 refine ⟨h.ext,h.lo,by rw [h.fbe],fun b hm=>?_,fun n b hn=>(by cases hn),h.nd,h.len,fun i c x h1 h2=>?_,h.bnd,fun t x hx=>aCN (bs:=bs) (bs':=⟨bs.lo,bs.l,[],none :: bs.fb⟩) rfl rfl (aOY ht hx) (h.tmp t x hx),h.tl,h.dfr⟩
 ·rcases mem_cons.1 hm with hm | hm
  ·cases hm
  ·exact h.fbb b hm
 ·obtain ⟨g1,us,g2,g3,g4⟩:=h.box i c x h1 h2;exact ⟨g1,us,g2,aHX (bs:=bs) (bs':=⟨bs.lo,bs.l,[],none :: bs.fb⟩) rfl rfl (aCO (aO1 hb h2)) g3,g4⟩
theorem Rl.unmark {a:Act} (h:Rl W0 (none :: F) bs s a w):∃ bs',Rl W0 F bs' s a w:=by
 have hz:none ∈ bs.fb:=by rw [h.fbe]; exact mem_cons_self ..
 have hk:Keep bs ⟨bs.lo,bs.l,bs.ow,F⟩ w w:=⟨fun _ _ h=>h,fun _ _ _ h=>h,fun _ _ h=>h,fun _ h1 h2=>⟨h1,h2,fun _=>rfl⟩,fun b hf=>absurd hz hf.2.2.2.2,fun _ _ _ e=>⟨e,fun _ _=>rfl⟩,rfl⟩
 refine ⟨⟨bs.lo,bs.l,bs.ow,F⟩,h.ext,h.lo,rfl,fun b hm=>h.fbb b (List.mem_cons_of_mem _ hm),h.own,h.nd,h.len,fun i c x h1 h2=>?_,h.bnd,fun t x hx=>Keep.relV hk (h.tmp t x hx),h.tl,h.dfr⟩;obtain ⟨g1,us,g2,g3,g4⟩:=h.box i c x h1 h2;exact ⟨g1,us,g2,Keep.relL hk g3,g4⟩
theorem aG4 (hm:P.follows .mixedOrders=true) (hL:∀ l ∈ L,a1I P l) (hC:∀ c ∈ C,CtrOK P c) {Q:Exit->Act->World->Prop} {id:Nat} {K:St->Prop} (h:aWc L C l s K) (hA:a2l l=true) (hlow:aC0 l=true) (hI:a1L l s.tm.length=true) (hT:a4A l l.length=true) (hR0:Rl W0 F bs s a0 w0)
    (hk0:∀ s' bs' a' w',K s'->Rl W0 F bs' s' a' w'->Q .normal a' w'):(Code.region id l.toArray true).wp P Q a0 w0:=by
 obtain ⟨E,hlen,h2,h3⟩:=aCs _ _ h;rw [List.nil_append] at h2
 have hE:aL3 L C s l E:=fun i o ho=>by
  obtain ⟨pre,e,g1,g2,g3⟩:=h3 i o ho;exact ⟨pre,e,by simpa using g1,g2,g3⟩
 cases hst0:(aHM L s l E && plT s.tm && plB s.bx && plE E) with
 | false=>rw [hst0] at h2; exact h2.elim
 | true =>
 rw [hst0] at h2;simp only [cond_true] at h2;simp only [and_eq_true] at hst0;obtain ⟨⟨⟨hst,hp1⟩,hp2⟩,hp3⟩:=hst0;have hR:=hR0.mark hp1 hp2
 have hk:∀ s' bs' a' w',K s'->Rl W0 (none :: F) bs' s' a' w'->Q .normal a' w':=fun s' bs' a' w' h1 h2=>by
  obtain ⟨bs2,h3⟩:=h2.unmark;exact hk0 s' bs2 a' w' h1 h3
 have hX:none ∈ (none :: bs.fb)/\([]:List (Option Nat))=[]:=⟨mem_cons_self ..,rfl⟩
 revert hR hk hX;generalize hbs:(⟨bs.lo,bs.l,[],none :: bs.fb⟩:Bs)=bsX;intro hR hk hX
 replace hX:none ∈ bsX.fb/\bsX.ow=[]:=by rw [<- hbs]; exact hX
 rw [hR.tl] at hI;have htk:l.take l.length=l:=List.take_length;refine a2S (I:=SI L s l E W0 (none :: F) bsX a0) l.length hm (by rw [htk]; exact hA) (by rw [htk]; exact hlow) hT (fun vals _=>?_) (fun i o ho=>?_) (fun ls vals w hs hall hS=>?_)
 ·have d0:∀ j,(Array.replicate l.length false).getD j false=false:=fun j=>by simp [Array.getD]
  have e1:aA8 (sAt L s l E) l.length (fun j=>(Array.replicate l.length false).getD j false) s.bx=s.bx:=by
   apply ext_getElem?;intro i;rw [a5d]
   cases s.bx[i]? with
   | none=>rfl
   | some b =>
     simp only [map_some,bx1];split
     ·rw [d0]; rfl
     ·rfl
  exact ⟨by rw [e1]; exact hR.later (Ext.refl w0).drew,fun i e _ hd=>(by rw [d0] at hd; cases hd),fun i j b hd=>(by rw [d0] at hd; cases hd),fun i b hd=>(by rw [d0] at hd; cases hd),fun j oj _ hd=>(by rw [d0] at hd; cases hd)⟩
 ·rw [htk] at ho ⊢;exact aJv hL hC hE hlen hA hlow hI hst hX (fun _ j f hf=>aO0 hp3 hf) i o ho
 ·rw [htk] at hs hall ⊢
  have hd:∀ j,j < l.length->ls.getD j false=true:=fun j hj=>by
   have h1:=hall j hj
   have h4:j < ls.size:=by omega
   simp [h4] at h1 ⊢;exact h1
  have e1:aA8 (sAt L s l E) l.length (fun j=>ls.getD j false) s.bx=aA8 (sAt L s l E) l.length aNP s.bx:=a8t fun i j se h=>hd j (a15 h).1
  have hget:∀ i,(aSI (eAt (sAt L s l E) l.length aNP) 0 E)[i]?=(E[i]?).map (eAt (sAt L s l E) l.length aNP i):=fun i=>by rw [aKF,zero_add]
  have hmem:∀ {j:Nat} {f:Ent},(aSI (eAt (sAt L s l E) l.length aNP) 0 E)[j]?=some f->∃ e,E[j]?=some e/\eAt (sAt L s l E) l.length aNP j e=f:=fun {j f} hf=>by
   rw [hget] at hf;simpa using hf
  have hlt:∀ {j:Nat} {e:Ent},E[j]?=some e->j < l.length:=fun h=>by rw [<- hlen]; exact (List.getElem?_eq_some_iff.1 h).1
  have hownE:∀ i v,a4y (aSI (eAt (sAt L s l E) l.length aNP) 0 E) i v=a4y E i v:=fun i v=>by
   cases hi:E[i]? with
   | none =>
     unfold a4y;rw [hget,hi]
     rfl
   | some e=>exact aXM (by rw [hget,hi]; rfl) hi (aQR ..).2.2.2
  have hSr:=hS.rl;rw [e1] at hSr
  obtain ⟨bs2,hR2⟩:=aSa hX (W0:=W0) (bs:=bsX) (vals:=vals) (w:=w) (l:=l) (E:=aSI (eAt (sAt L s l E) l.length aNP) 0 E) (by rw [aKE]; exact hlen) (fun j f hf hg=>by
   obtain ⟨e,h1,rfl⟩:=hmem hf;obtain ⟨g1,g2,_,_⟩:=aQR (sAt L s l E) l.length aNP j e;rw [g2];rw [g1] at hg
   exact aAr hE hlen j e h1 (by rw [hg]; intro _ h; cases h)) (fun j f hf hn=>by
   obtain ⟨e,h1,rfl⟩:=hmem hf;obtain ⟨g1,_,_,g4⟩:=aQR (sAt L s l E) l.length aNP j e;rw [g1]
   exact aDk hE hlen j e h1 (fun h=>hn (g4.2 h))) (fun j f hf=>by
   obtain ⟨e,h1,rfl⟩:=hmem hf;have:=hS.ent j e h1 (hd j (hlt h1))
   rwa [a7s (d':=aNP) fun q se h=>hd q (a15 h).1] at this) (fun i j b hi hj h1 h2=>by
   rw [hownE] at h1 h2
   exact hS.ap i j b (hd i hi) (hd j hj) h1 h2) (fun i b hi h1=>by
   rw [hownE] at h1
   exact (hS.bd i b (hd i hi) h1).1) l.length 0 _ a0 [] (by omega) (fun b hb=>by cases hb) (by rw [show bsX.more []=bsX by simp [Bs.more]]; exact hSr)
  simp only [List.drop_zero] at hR2;rw [List.drop_length];exact hk _ _ _ _ h2 hR2
def nbB (E:List Ent) (vals:Nat->Value):Nat->List Ent->List (Nat × Bx)
 | _,[]=>[]
 | k,e :: es =>
   match e.nb with
   | none=>nbB E vals (k+1) es
   | some x=>((a4y E k (vals k)).getD 0,x) :: nbB E vals (k+1) es
theorem a9T {vals:Nat->Value}:∀ (es:List Ent) (k:Nat) (q:Nat × Bx),q ∈ nbB E vals k es->∃ i e,es[i]?=some e/\e.nb=some q.2/\q.1=(a4y E (k+i) (vals (k+i))).getD 0
 | [],_,_,h=>by cases h
 | e :: es,k,q,h=>by
   unfold nbB at h
   cases hn:e.nb with
   | none =>
     rw [hn] at h;obtain ⟨i,e',h1,h2,h3⟩:=a9T es (k+1) q h
     exact ⟨i+1,e',by simpa using h1,h2,by rw [h3,show k+1+i=k+(i+1) by omega]⟩
   | some x =>
     rw [hn] at h;rcases mem_cons.1 h with rfl | h
     ·exact ⟨0,e,rfl,hn,rfl⟩
     ·obtain ⟨i,e',h1,h2,h3⟩:=a9T es (k+1) q h;exact ⟨i+1,e',by simpa using h1,h2,by rw [h3,show k+1+i=k+(i+1) by omega]⟩
theorem aKr {B:List Nat} {x:AV} {u:Value} (hx:plV x=true) (h:relV bs w x u):relV (bs.more B) w x u:=by
 have h1:relV ⟨bs.lo,bs.l,bs.ow,[none]⟩ w x u:=aCN (bs:=bs) (bs':=⟨bs.lo,bs.l,bs.ow,[none]⟩) rfl rfl hx h;have h2:=Keep.relV (Keep.more ⟨bs.lo,bs.l,bs.ow,[none]⟩ w B fun _ _ hf=>hf.2.2.2.2 (mem_cons_self ..)) h1;exact aCN (bs:=Bs.more ⟨bs.lo,bs.l,bs.ow,[none]⟩ B) (bs':=bs.more B) rfl rfl hx h2
theorem aTA {B:List Nat} {xs:List AC} {us:List Value} (hx:plL xs=true) (h:relL bs w (a0d xs) us):relL (bs.more B) w (a0d xs) us:=by
 have h1:relK bs w (.g xs) (.agg us.toArray):=⟨us,rfl,h⟩
 obtain ⟨us',e,h2⟩:=aKr (B:=B) (x:=.k (.g xs)) hx h1
 obtain rfl:us=us':=by simpa using e
 exact h2
theorem aOT (s1:St) (X:List Bx) (d:Option Nat) (r:AV):(⟨(a4u s1 d r).tm,X⟩:St)=a4u ⟨s1.tm,X⟩ d r:=by cases d <;> rfl
theorem aOU (s1:St) (d:Option Nat) (r:AV):(a4u s1 d r).bx=s1.bx:=by cases d <;> rfl
theorem aAU {m:Bool} {vals:Nat->Value} (hR0:Rl W0 F bs s a0 w0) (hx:Ext w0 w) (hlen:E.length=l.length) (hon:∀ (j:Nat) (f:Ent),E[j]?=some f->(f.g=[]->f.on=true)) (hgn:∀ (j:Nat) (f:Ent),E[j]?=some f->f.nb ≠ none->f.g=[]) (hok:∀ (i:Nat) (e:Ent),E[i]?=some e->EntOK bs W0.heap.size w e (vals i))
    (hap:Apart l.length (a4y E) vals) (hnew:∀ i b,i < l.length->a4y E i (vals i)=some b->w0.heap.size <= b/\b < w.heap.size) (hm:m=true->∀ (i:Nat) (e:Ent),E[i]?=some e->e.nb=none) (hpl:∀ (i:Nat) (e:Ent) (x:Bx),E[i]?=some e->e.nb=some x->plL x.cs=true) :
    ∃ bs2,Rl W0 F bs2 (a6u m s l E) (a0E l vals 0 a0) w:=by
 have hown:∀ (i:Nat) (e:Ent) (x:Bx),E[i]?=some e->e.nb=some x->∃ b,a4y E i (vals i)=some b/\vals i=aSK e.av b/\BoxAt bs W0.heap.size w b x/\w0.heap.size <= b/\b < w.heap.size:=fun i e x he hn=>by
  have h1:=(hok i e he).2 (hon i e he (hgn i e he (by rw [hn]; simp)));rw [hn] at h1;obtain ⟨b,hv,_,hb,_⟩:=h1
  have ho:a4y E i (vals i)=some b:=by rw [hv]; exact a9m he hn
  obtain ⟨g1,g2⟩:=hnew i b (by rw [<- hlen]; exact (List.getElem?_eq_some_iff.1 he).1) ho;exact ⟨b,ho,hv,hb,g1,g2⟩
 have hB:∀ q ∈ nbB E vals 0 E,∃ i,a4y E i (vals i)=some q.1/\i < l.length/\BoxAt bs W0.heap.size w q.1 q.2/\plL q.2.cs=true/\w0.heap.size <= q.1/\q.1 < w.heap.size:=fun q hq=>by
  obtain ⟨i,e,h1,h2,h3⟩:=a9T E 0 q hq;rw [zero_add] at h3;obtain ⟨b,g1,g2,g3,g4⟩:=hown i e q.2 h1 h2;rw [g1] at h3;simp only [getD_some] at h3;rw [h3];exact ⟨i,g1,by rw [<- hlen]; exact (List.getElem?_eq_some_iff.1 h1).1,g3,hpl i e q.2 h1 h2,g4⟩
 have hnd:∀ (es:List Ent) (k:Nat),E.drop k=es->((nbB E vals k es).map Prod.fst).Nodup:=fun es=>by
  induction es with
  | nil=>intro k _; exact List.nodup_nil
  | cons e es ih =>
    intro k hk
    have hek:E[k]?=some e:=by
     have:=congrArg (·[0]?) hk;simpa using this
    have hk':E.drop (k+1)=es:=by
     have:=congrArg List.tail hk;simpa [tail_drop] using this
    unfold nbB
    cases hn:e.nb with
    | none=>exact ih (k+1) hk'
    | some x =>
      simp only [List.map_cons,List.nodup_cons];refine ⟨fun hm'=>?_,ih (k+1) hk'⟩;obtain ⟨q,hq,he⟩:=mem_map.1 hm';obtain ⟨i,e',h1,h2,h3⟩:=a9T es (k+1) q hq
      have hi:E[k+1+i]?=some e':=by rw [<- hk',List.getElem?_drop] at h1; exact h1
      obtain ⟨b,g1,_⟩:=hown k e x hek hn;obtain ⟨b',g1',_⟩:=hown (k+1+i) e' q.2 hi h2;rw [g1'] at h3;rw [g1] at he;simp only [getD_some] at h3 he;have:=hap k (k+1+i) b (by rw [<- hlen]; exact (List.getElem?_eq_some_iff.1 hek).1) (by rw [<- hlen]; exact (List.getElem?_eq_some_iff.1 hi).1) g1 (by rw [g1',<- h3,he]);omega
 generalize hBX:nbB E vals 0 E=BX at hB
 have hndB:(BX.map Prod.fst).Nodup:=by rw [<- hBX]; exact hnd E 0 rfl
 have hBge:∀ b ∈ BX.map Prod.fst,w0.heap.size <= b:=fun b hb=>by
  obtain ⟨q,hq,rfl⟩:=mem_map.1 hb;obtain ⟨_,_,_,_,_,h,_⟩:=hB q hq;exact h
 have hk:Keep bs (bs.more (BX.map Prod.fst)) w0 w:=Keep.moreE hx hR0.okB _ hBge
 have hR1:Rl W0 F (bs.more (BX.map Prod.fst)) { s with bx:=s.bx ++ BX.map Prod.snd } a0 w:=by
  refine ⟨hR0.ext.trans hx,hR0.lo,hR0.fbe,hR0.fbb,hR0.own.more hBge hx.size,?_,by simp [hR0.len],fun i b x h1 h2=>?_,fun b hb=>?_,fun t x hx'=>Keep.relV hk (hR0.tmp t x hx'),hR0.tl,hR0.dfr⟩
  ·rw [List.nodup_append];refine ⟨hR0.nd,hndB,fun x hx1 y hy=>?_⟩;have h1:=hR0.bnd x hx1;have h2:=hBge y hy;omega
  ·rcases lt_or_ge i bs.l.length with hi | hi
   ·rw [List.getElem?_append_left hi] at h1;rw [List.getElem?_append_left (by rw [<- hR0.len]; exact hi)] at h2;obtain ⟨g1,us,g2,g3,g4⟩:=hR0.box i b x h1 h2;exact ⟨g1,us,a3t g2 hx,Keep.relL hk g3,g4⟩
   ·rw [List.getElem?_append_right hi] at h1;rw [List.getElem?_append_right (by rw [<- hR0.len]; exact hi),<- hR0.len] at h2;simp only [List.getElem?_map,map_eq_some_iff] at h1 h2;obtain ⟨q,hq,rfl⟩:=h1;obtain ⟨q',hq',rfl⟩:=h2
    obtain rfl:q=q':=by rw [hq] at hq'; simpa using hq'
    obtain ⟨_,_,_,⟨g1,us,g2,g3,g4⟩,hp,_⟩:=hB q (List.mem_of_getElem? hq);exact ⟨g1,us,g2,aTA hp g3,g4⟩
  ·rcases mem_append.1 hb with hb | hb
   ·exact Nat.lt_of_lt_of_le (hR0.bnd b hb) hx.size
   ·obtain ⟨q,hq,rfl⟩:=mem_map.1 hb;obtain ⟨_,_,_,_,_,_,h⟩:=hB q hq;exact h
 have key:∀ (es:List Ent) (ls:List Oper) (k:Nat) (s1:St) (a1:Act) (pre:List (Nat × Bx)),E.drop k=es->l.drop k=ls->es.length=ls.length->BX=pre ++ nbB E vals k es->s1.bx=s.bx ++ pre.map Prod.snd->Rl W0 F (bs.more (BX.map Prod.fst)) ⟨s1.tm,s.bx ++ BX.map Prod.snd⟩ a1 w ->
     Rl W0 F (bs.more (BX.map Prod.fst)) (a6u m s1 ls es) (a0E ls vals k a1) w:=fun es=>by
  induction es with
  | nil =>
    intro ls k s1 a1 pre _ _ hl hpre hbx hR;obtain rfl:ls=[]:=List.eq_nil_of_length_eq_zero (by simpa using hl.symm);have e1:a6u m s1 [] []=s1:=rfl
    have e2:BX=pre:=by rw [hpre]; simp [nbB]
    rw [e1]
    have:s1=⟨s1.tm,s.bx ++ BX.map Prod.snd⟩:=by rw [e2,<- hbx]
    rw [this]
    exact hR
  | cons e es ih =>
    intro ls k s1 a1 pre hE1 hl1 hl hpre hbx hR
    cases ls with
    | nil=>simp at hl
    | cons o ls =>
      have hek:E[k]?=some e:=by
       have:=congrArg (·[0]?) hE1;simpa using this
      have hE2:E.drop (k+1)=es:=by
       have:=congrArg List.tail hE1;simpa [tail_drop] using this
      have hl2:l.drop (k+1)=ls:=by
       have:=congrArg List.tail hl1;simpa [tail_drop] using this
      have ok:=hok k e hek;simp only [a6u,a0E]
      cases hn:e.nb with
      | none =>
        have e1:a8v m s1 o e=a4u s1 o.dst (bif e.g.isEmpty && (m || plV e.av) then e.av else .u):=by
         unfold a8v;simp only [hn]
        rw [e1];refine ih ls (k+1) _ _ pre hE2 hl2 (by simpa using hl) (by rw [hpre,nbB,hn]) (by rw [aOU,hbx]) ?_;rw [aOT];refine hR.put ?_ _
        cases hc:(e.g.isEmpty && (m || plV e.av)) with
        | false=>trivial
        | true =>
          simp only [and_eq_true,or_eq_true] at hc;have hv:=ok.2 (hon k e hek (List.isEmpty_iff.1 hc.1));rw [hn] at hv;rcases hc.2 with hm1 | hp
          ·have hBe:BX=[]:=by
            rw [<- hBX];refine List.eq_nil_iff_forall_not_mem.2 fun q hq=>?_;obtain ⟨i,e',h1,h2,_⟩:=a9T E 0 q hq;rw [hm hm1 i e' h1] at h2;cases h2
           rw [hBe];simpa [Bs.more] using hv
          ·exact aKr hp hv
      | some x =>
        obtain ⟨b,g1,g2,_⟩:=hown k e x hek hn
        have e1:a8v m s1 o e=a4u { s1 with bx:=s1.bx ++ [x] } o.dst (b0i e.av s1.bx.length):=by
         unfold a8v;simp only [hn]
        rw [e1]
        have hpre2:BX=(pre ++ [(b,x)]) ++ nbB E vals (k+1) es:=by
         rw [hpre,nbB,hn];simp [g1]
        refine ih ls (k+1) _ _ (pre ++ [(b,x)]) hE2 hl2 (by simpa using hl) hpre2 (by rw [aOU]; simp [hbx]) ?_;rw [aOT];refine hR.put ?_ _;rw [g2];refine aLT ?_ _;show (bs.l ++ BX.map Prod.fst)[s1.bx.length]?=some b;rw [hbx,List.getElem?_append_right (by simp [hR0.len])];simp [hR0.len,hpre2]
 exact ⟨_,key E l 0 s a0 [] rfl rfl hlen (by rw [hBX]; rfl) (by simp) hR1⟩
theorem aFW {ops:List Oper} {ents:List Ent} {o:Oper} {g:List (Nat × Bool)} {on:Bool} {pre:Option Prop} {e:Ent} {x:Bx} (h:a8h L C s ops ents o g on=.yes pre e) (hn:e.nb=some x):plL x.cs=true/\((∃ T,o.op=.alloc T) \/ ∃ T n ps y,o.op=.buildSlice T n ps/\a09 L T=some y/\Nat.beq y.kd 10=true):=by
 have no:∀ {p:Option Prop} {e':Ent},FR.yes p e'=FR.yes pre e->e'.nb=none->False:=fun h1 h2=>by
  cases h1;rw [h2] at hn;cases hn
 unfold a8h at h;split at h
 ·rename_i T hop;split at h
  ·rename_i l _
   cases h5:(Nat.beq l.kd 5 || !plL l.zero) with
   | true=>rw [h5] at h; cases h
   | false =>
     rw [h5] at h;cases h;cases hn;refine ⟨?_,.inl ⟨T,hop⟩⟩;simp only [Bool.or_eq_false_iff,Bool.not_eq_false'] at h5;exact h5.2
  ·cases h
 ·split at h
  ·rename_i gi _
   cases hed:a01 o gi with
   | false=>rw [hed] at h; cases h
   | true =>
     rw [hed] at h;simp only [Bool.not_true,cond_false] at h;split at h
     ·exact (no h rfl).elim
     ·cases h
  ·cases h
 ·split at h
  ·exact (no h rfl).elim
  ·exact (no h rfl).elim
  ·split at h
   ·exact (no h rfl).elim
   ·split at h
    ·exact (no h rfl).elim
    ·cases h
 ·rename_i T n ps hop;split at h
  ·exact (no h rfl).elim
  ·split at h
   ·exact (no h rfl).elim
   ·split at h
    ·rename_i b _ _ hb
     cases hp:plL b.cs with
     | false=>rw [hp] at h; cases h
     | true =>
       rw [hp] at h;cases h;cases hn;refine ⟨hp,.inr ⟨T,n,ps,?_⟩⟩;unfold aHg at hb
       split at hb <;> try (cases hb; done)
       rename_i y hy
       split at hb <;> try (cases hb; done)
       rename_i e0 l0 he hl
       cases hc:(Nat.beq y.kd 10 && Nat.beq l0.length n && Nat.ble n 1000 && Nat.ble 1 n && Nat.ble e0.size 100 && Nat.ble 1 e0.size && b0k e0.size l0) with
       | false=>rw [hc] at hb; cases hb
       | true =>
         simp only [and_eq_true] at hc;exact ⟨y,hop,hy,hc.1.1.1.1.1.1⟩
    ·cases h
 ·split at h
  ·exact (no h rfl).elim
  ·cases h
theorem aDl {l:List Oper} {E:List Ent} (hE:aL3 L C s l E) (hlen:E.length=l.length):∀ (j:Nat) (f:Ent) (x:Bx),E[j]?=some f->f.nb=some x->plL x.cs=true/\aKy L l=false:=fun j f x hf hn=>by
 have hj:j < l.length:=by rw [<- hlen]; exact (List.getElem?_eq_some_iff.1 hf).1
 obtain ⟨pre,e,h1,h2,_⟩:=hE j l[j] (by simp [hj])
 obtain rfl:e=f:=by rw [h2] at hf; simpa using hf
 have nb:∀ (r:List Oper) (i:Nat) (o:Oper),r[i]?=some o->((∃ T,o.op=.alloc T) \/ ∃ T n ps y,o.op=.buildSlice T n ps/\a09 L T=some y/\Nat.beq y.kd 10=true)->aKy L r=false:=fun r=>by
  induction r with
  | nil=>intro i o h; simp at h
  | cons p r ih =>
    intro i o ho hc
    cases i with
    | zero =>
      obtain rfl:p=o:=by simpa using ho
      unfold aKy
      rcases hc with ⟨T,h⟩ | ⟨T,n,ps,y,h,h3,h4⟩
      ·rw [h]; rfl
      ·rw [h]; simp only [h3,h4]; rfl
    | succ i =>
      unfold aKy;rw [ih i o (by simpa using ho) hc,Bool.and_false]
 unfold aFU at h1
 cases hst:aME l[j] with
 | true =>
   rw [hst] at h1;cases h1
   cases hn
 | false =>
 rw [hst] at h1;simp only [cond_false] at h1;unfold aMJ at h1;split at h1
 ·obtain ⟨p1,p2⟩:=aFW h1 hn;exact ⟨p1,nb l j l[j] (by simp [hj]) p2⟩
 ·rename_i gi pol _
  cases hc:(a01 l[j] gi && ((l[gi]?).bind (·.dst)).isSome) with
  | false=>rw [hc] at h1; cases h1
  | true =>
    rw [hc] at h1;simp only [cond_true] at h1
    split at h1 <;> try (cases h1; done)
    split at h1 <;> try (cases h1; done)
    obtain ⟨p1,p2⟩:=aFW h1 hn;exact ⟨p1,nb l j l[j] (by simp [hj]) p2⟩
end
def a5J (o:Oper) (i:Nat):Bool:=o.after.any fun e=>Region.binds .any e && e.on == i
def a1f (i n:Nat):Nat->List Oper->List Oper
 | _,[]=>[]
 | j,o :: r=>(bif Nat.ble n j && !(a5J o i) then { o with after:=o.after.push ⟨i,.data⟩ } else o) :: a1f i n (j+1) r
def aZo (f:Nat->Oper->Bool):Nat->List Oper->Bool
 | _,[]=>true
 | j,o :: r=>f j o && aZo f (j+1) r
def aYU (o:Oper):Bool:=match o.op with | .unOp .not _ _=>true | _=>false
def aPE (i n:Nat) (l:List Oper):Bool :=
 match l[i]? with
 | none=>false
 | some oi=>aYU oi && oi.guard.isNone && Nat.blt i n && Region.noSelect l.toArray && aZo (fun j o=>Nat.beq j i || a5J o i || a5J oi j || oi.apart l.toArray o) 0 l && aZo (fun j o=>!(Nat.ble n j) || a5J o i || oi.after.all fun e=>!(Region.binds .any e) || a5J o e.on) 0 l
def a92:List Oper->Nat
 | []=>0
 | o :: r=>bif aYU o then 0 else a92 r+1
theorem a7H {f:Nat->Oper->Bool}:∀ {l:List Oper} {k j:Nat} {o:Oper},aZo f k l=true->l[j]?=some o->f (k+j) o=true
 | [],_,_,_,_,h=>by simp at h
 | x :: r,k,0,o,h,hj=>by
   simp only [aZo,and_eq_true] at h
   obtain rfl:x=o:=by simpa using hj
   exact h.1
 | x :: r,k,j+1,o,h,hj=>by
   simp only [aZo,and_eq_true] at h;have:=a7H (j:=j) h.2 (by simpa using hj);rwa [show k+1+j=k+(j+1) by omega] at this
theorem aKM (i n:Nat):∀ (k:Nat) (l:List Oper),(a1f i n k l).length=l.length
 | _,[]=>rfl
 | k,_ :: r=>by rw [a1f,length_cons,length_cons,aKM i n (k+1) r]
theorem a5X (i n:Nat):∀ (k:Nat) (l:List Oper) (j:Nat),(a1f i n k l)[j]?=(l[j]?).map fun o=>bif Nat.ble n (k+j) && !(a5J o i) then { o with after:=o.after.push ⟨i,.data⟩ } else o
 | _,[],j=>by simp [a1f]
 | k,o :: r,0=>by simp [a1f]
 | k,o :: r,j+1=>by
   rw [a1f,getElem?_cons_succ,a5X i n (k+1) r j,getElem?_cons_succ,show k+1+j=k+(j+1) by omega]
theorem a4H {o:Oper} {i:Nat}:a5J o i=true ↔ ∃ e ∈ o.after,Region.binds .any e=true/\e.on=i:=by
 unfold a5J;rw [Array.any_eq_true'];simp
section
variable {P:Program} {l:List Oper} {i n:Nat} {Q:Exit->Act->World->Prop}
theorem aMo {ls:Array Bool} {j:Nat} (h:j ∈ Region.ready .any (a1f i n 0 l).toArray ls):j ∈ Region.ready .any l.toArray ls:=by
 rw [mem_ready] at h ⊢;obtain ⟨h0,o,ho,h1⟩:=h
 have ho:(a1f i n 0 l)[j]?=some o:=by simpa using ho
 rw [a5X] at ho;obtain ⟨o',ho',rfl⟩:=map_eq_some_iff.1 ho;refine ⟨h0,o',by simpa using ho',fun e he hb=>h1 e ?_ hb⟩
 cases hc:(Nat.ble n (0+j) && !(a5J o' i)) with
 | true=>simp only [cond_true]; exact Array.mem_push.2 (.inl he)
 | false=>simpa using he
theorem a5W {ls:Array Bool} {j:Nat} (h:j ∈ Region.ready .any l.toArray ls) (hi:ls.getD i false=true \/ ∀ o,l[j]?=some o->n <= j->a5J o i=true):j ∈ Region.ready .any (a1f i n 0 l).toArray ls:=by
 rw [mem_ready] at h ⊢;obtain ⟨h0,o,ho,h1⟩:=h
 have ho:l[j]?=some o:=by simpa using ho
 refine ⟨h0,_,by simpa using (by rw [a5X,ho]; rfl:(a1f i n 0 l)[j]?=some _),fun e he hb=>?_⟩;dsimp only at he
 cases hc:(Nat.ble n (0+j) && !(a5J o i)) with
 | true =>
   rw [hc] at he;simp only [cond_true] at he;rcases Array.mem_push.1 he with he | rfl
   ·exact h1 e he hb
   ·rcases hi with hi | hi
    ·exact hi
    ·simp only [and_eq_true,Bool.not_eq_true',zero_add] at hc;have:=hi o ho (Nat.le_of_ble_eq_true hc.1);rw [hc.2] at this
     cases this
 | false =>
   rw [hc] at he;exact h1 e he hb
theorem aXS {x:Value} {w:World} {T:TypeId} {r:Operand->Value} {o:Oper} {y:Operand} (ho:o.op=.unOp .not T y) (hx:r y=x):(∃ v,∀ w,(execOp r o).run P w=.ok (.value v) w) \/ ∀ a K,(∀ c a w,¬ Q (.panic c) a w)->o.upon P a K Q ((execOp r o).run P w)->False:=by
 cases x with
 | bool b=>exact .inl ⟨.bool !b,fun w=>by simp only [execOp,ho,hx]; rfl⟩
 | _ =>
   right;intro a K hp h;simp only [execOp,ho,hx] at h
   first | exact h | exact hp _ _ _ h
theorem aYF {j:Nat} {K K':Act->World->Prop} {a:Act} {w:World} (hK:∀ a w,K a w->K' a w) (h:wpOp P (a1f i n 0 l).toArray Q j K a w):wpOp P l.toArray Q j K' a w:=by
 have hy:∀ k,yielded (a1f i n 0 l).toArray a.tmps k=yielded l.toArray a.tmps k:=fun k=>by
  unfold yielded;simp only [List.getElem?_toArray,a5X]
  cases l[k]? with
  | none=>rfl
  | some o =>
    simp only [map_some,Option.bind_some];cases (Nat.ble n (0+k) && !(a5J o i)) <;> rfl
 have hw:∀ o:Oper,Region.wanted o (yielded (a1f i n 0 l).toArray a.tmps)=Region.wanted o (yielded l.toArray a.tmps):=fun o=>by rw [funext hy]
 refine wpOp_mono hK ?_;unfold wpOp at h ⊢;simp only [List.getElem?_toArray,a5X] at h ⊢
 cases ho:l[j]? with
 | none=>rw [ho] at h; exact h
 | some o =>
   rw [ho] at h;simp only [map_some] at h
   cases hc:(Nat.ble n (0+j) && !(a5J o i)) with
   | true=>rw [hc] at h; simp only [cond_true] at h; rw [hw] at h; exact h
   | false=>rw [hc] at h; simp only [cond_false] at h; rw [hw] at h; exact h
theorem aMs (h:aPE i n l=true) (hp:∀ c a w,¬ Q (.panic c) a w) (hLO:¬ LetsOut Q):∀ (f:Nat) (ls:Array Bool) (a:Act) (w:World),i < ls.size->wpAny P .any (a1f i n 0 l).toArray Q f ls a w->wpAny P .any l.toArray Q f ls a w:=by
 unfold aPE at h;split at h
 ·cases h
 rename_i oi hoi;simp only [and_eq_true] at h;obtain ⟨⟨⟨⟨⟨c1,c2⟩,c3⟩,c4⟩,c5⟩,c6⟩:=h
 have hin:i < n:=by simpa [Nat.blt_eq] using c3
 have hg:oi.guard=none:=by simpa using c2
 have hoi':(a1f i n 0 l)[i]?=some oi:=by
  rw [a5X,hoi]
  have:Nat.ble n (0+i)=false:=by
   rw [Bool.eq_false_iff];intro e;have:=Nat.le_of_ble_eq_true e;omega
  rw [map_some,this];rfl
 have key:∀ (ls:Array Bool) (j:Nat),i < ls.size->j ∈ Region.ready .any l.toArray ls->j ∉ Region.ready .any (a1f i n 0 l).toArray ls->i ∈ Region.ready .any l.toArray ls:=fun ls j hs hj hn=>by
  have h1:ls.getD i false=false:=by
   cases e:ls.getD i false with
   | false=>rfl
   | true=>exact absurd (a5W hj (.inl e)) hn
  have h2:∃ o,l[j]?=some o/\n <= j/\a5J o i=false:=by
   apply Classical.byContradiction;intro hc;refine hn (a5W hj (.inr fun o ho hnj=>?_))
   cases e:a5J o i with
   | true=>rfl
   | false=>exact absurd ⟨o,ho,hnj,e⟩ hc
  obtain ⟨o,ho,hnj,hne⟩:=h2;have h3:=a7H c6 ho;simp only [zero_add,hne,Bool.or_false,or_eq_true,Bool.not_eq_true'] at h3
  have h4:(oi.after.all fun e=>!(Region.binds .any e) || a5J o e.on)=true:=by
   rcases h3 with h3 | h3
   ·rw [Nat.ble_eq_true_of_le hnj] at h3; cases h3
   ·exact h3
  rw [mem_ready] at hj ⊢;obtain ⟨_,o',ho',hd⟩:=hj
  have:o'=o:=by
   have:l[j]?=some o':=by simpa using ho'
   rw [ho] at this;exact (Option.some.inj this).symm
  subst this;refine ⟨by simpa [hs] using h1,oi,by simpa using hoi,fun e he hb=>?_⟩;have h5:=Array.all_eq_true_iff_forall_mem.1 h4 e he;rw [hb] at h5;obtain ⟨e',he',hb',hon⟩:=a4H.1 (by simpa using h5);rw [<- hon];exact hd e' he' hb'
 intro f
 induction f with
 | zero =>
   intro ls a w hs H;refine ⟨?_,H.2⟩
   cases hr:Region.ready .any l.toArray ls with
   | nil=>rfl
   | cons j t =>
     exfalso
     have hj:j ∈ Region.ready .any l.toArray ls:=by rw [hr]; exact mem_cons_self ..
     have hn:∀ k,k ∉ Region.ready .any (a1f i n 0 l).toArray ls:=fun k hk=>by rw [H.1] at hk; cases hk
     have hi:=key ls j hs hj (hn j)
     exact hn i (a5W hi (.inr fun o ho hni=>absurd hni (by omega)))
 | succ f ih =>
   intro ls a w hs H;by_cases hi:i ∈ Region.ready .any l.toArray ls
   ·have h1:=H.2 i (a5W hi (.inr fun o ho hni=>absurd hni (by omega)));unfold wpOp at h1;simp only [List.getElem?_toArray,hoi'] at h1
    have hw:∀ y,Region.wanted oi y=true:=fun y=>by unfold Region.wanted; rw [hg]
    rw [if_pos (hw _)] at h1;rcases h1 with h1 | h1
    ·obtain ⟨T,y,hop⟩:∃ T y,oi.op=.unOp .not T y:=by
      unfold aYU at c1;split at c1
      ·rename_i T y e; exact ⟨T,y,e⟩
      ·cases c1
     unfold Oper.wp at h1;rcases aXS (P:=P) (Q:=Q) (w:=w) hop (rfl:a.eval y=a.eval y) with ⟨v,hv⟩ | hv
     ·rw [hv w] at h1;have h2:wpAny P .any (a1f i n 0 l).toArray Q f (ls.setIfInBounds i true) (a.put oi.dst v) w:=h1;refine wpAny_first (by simpa using hoi) (fun j o cs b ho=>Region.noSelect_spec c4 j o cs b ho) (fun c a w hq=>absurd hq (hp _ _ _)) f ls a w (fun j oj hoj hji hun hno=>?_) hi (.inl ⟨hw _,hv⟩) (ih _ _ _ (by simpa using hs) h2);have h5:=a7H c5 (j:=j) (o:=oj) (by simpa using hoj);simp only [zero_add,or_eq_true] at h5;rcases h5 with ((h5 | h5) | h5) | h5
      ·exact absurd (Nat.eq_of_beq_eq_true h5) hji
      ·obtain ⟨e,he,hb,hon⟩:=a4H.1 h5;exact absurd hon (hno e he hb)
      ·obtain ⟨e,he,hb,hon⟩:=a4H.1 h5;obtain ⟨_,o,ho,hd⟩:=mem_ready.1 hi
       have:o=oi:=by
        have:l[i]?=some o:=by simpa using ho
        rw [hoi] at this;exact (Option.some.inj this).symm
       subst this;have h6:=hd e he hb;rw [hon] at h6;exfalso;rcases lt_or_ge j ls.size with h' | h'
       ·simp [h'] at hun h6; rw [hun] at h6; cases h6
       ·simp [Array.getElem?_eq_none h'] at h6
      ·exact h5
     ·exact (hv _ _ hp h1).elim
    ·exact absurd h1.2 hLO
   ·refine ⟨fun hr=>H.1 ?_,fun j hj=>?_⟩
    ·cases hr':Region.ready .any (a1f i n 0 l).toArray ls with
     | nil=>rfl
     | cons j t =>
       have hj:j ∈ Region.ready .any (a1f i n 0 l).toArray ls:=by rw [hr']; exact mem_cons_self ..
       have:=aMo hj;rw [hr] at this;cases this
    ·have hj':j ∈ Region.ready .any (a1f i n 0 l).toArray ls:=Classical.byContradiction fun hn=>hi (key ls j hs hj hn);exact aYF (fun a w=>ih _ a w (by simpa using hs)) (H.2 j hj')
end
def b0M (L:List Lay) (ev:Operand->AV) (T:TypeId) (x y:Operand):Bool :=
 match ev x,ev y,a09 L T with
 | .k (.c (.rd s _ _)),.k (.c (.v (.int _ _))),some d=>scB d.kd s
 | .k (.c (.ow _ _ s _)),.k (.c (.v (.int _ _))),some d=>scB d.kd s
 | _,_,_=>false
def b3O (z:Bool) (L:List Lay) (ev:Operand->AV):Op->Bool
 | .move _=>true
 | .extract _ _=>z
 | .assign _=>z
 | .slice T x none (some y) none=>b0M L ev T x y
 | .slice T x (some y) none none=>b0M L ev T x y
 | .indexAddr T x y=>b0M L ev T x y
 | .fieldAddr _ x _=>(match ev x with | .k (.c (.bx _ _))=>true | _=>false)
 | .binOp _ _ x y _=>(match ev x,ev y with | .k (.c (.v _)),.k (.c (.v _))=>true | _,_=>false)
 | _=>false
theorem aOQ {R:AC->Value->Prop} {B:Nat->Prop} {w:World} {u:Value} {s:Sc} {f:Bool} {l:List s.T} (h:RdR R B w u s f l):∃ a cap,u=.slice a l.length cap/\l.length <= cap/\(l ≠ []->∃ b o,a=some ⟨b,o,none⟩):=by
 obtain ⟨a,cap,b,off,e,_,h2,_,h4,_⟩:=h;refine ⟨a,cap,e,h4,fun hn=>⟨b,off,?_⟩⟩;rcases h2 with h2 | h2
 ·exact absurd (List.length_eq_zero_iff.1 h2) hn
 ·exact h2
section
variable {P:Program} {L:List Lay} {C:List Ctr}
theorem aOW (hL:∀ l ∈ L,a1I P l) {bs:Bs} {w:World} {bx:List Bx} {ev:Operand->AV} {ρ:Operand->Value} (hev:∀ x,relV bs w (ev x) (ρ x)) {o:Oper} {pre:Option Prop} {r:AV}
    {z:Bool} (h:b3O z L ev o.op=true) (ha:a2g L bx ev o.op=some (pre,r)) (hp:due pre):∃ v,∀ w',(execOp ρ o).run P w'=.ok (.value v) w':=by
 have form:∀ {T:TypeId} {x y:Operand},b0M L ev T x y=true->∃ (d:Lay) (s:Sc) (xs:List s.T) (k:IntKind) (i:Int) (a:Option Addr) (cap:Nat),a09 L T=some d/\scB d.kd s=true/\ρ x=.slice a xs.length cap/\xs.length <= cap/\(xs ≠ []->∃ b o,a=some ⟨b,o,none⟩)/\ρ y=.int k i/\ev y=.k (.c (.v (.int k i)))/\((∃ f,ev x=.k (.c (.rd s f xs))) \/ ∃ n t,ev x=.k (.c (.ow n t s xs))):=fun {T x y} h=>by
  unfold b0M at h
  split at h <;> try (cases h; done)
  ·rename_i s f xs k i d hx hy hl;have hr:=hev x; have hs:=hev y;rw [hx] at hr; rw [hy] at hs;have hr':RdR (relE bs w) (Fz bs w) w (ρ x) s f xs:=hr;obtain ⟨a,cap,e1,e2,e3⟩:=aOQ hr';exact ⟨d,s,xs,k,i,a,cap,hl,h,e1,e2,e3,hs.1,hy,.inl ⟨f,hx⟩⟩
  ·rename_i n t s xs k i d hx hy hl;have hr:=hev x; have hs:=hev y;rw [hx] at hr; rw [hy] at hs;obtain ⟨ob,g1,g2⟩:=hr;have hr':RdR (relE bs w) (fun _=>True) w (ρ x) s false xs:=g2.rd fun _ _=>trivial;obtain ⟨a,cap,e1,e2,e3⟩:=aOQ hr';exact ⟨d,s,xs,k,i,a,cap,hl,h,e1,e2,e3,hs.1,hy,.inr ⟨n,t,hx⟩⟩
 unfold b3O at h;split at h
 ·rename_i x hop;exact ⟨ρ x,fun w'=>by simp only [execOp,hop]; rfl⟩
 ·rename_i x i hop;rw [hop] at ha;simp only [a2g] at ha;split at ha
  ·rename_i xs hx;simp only [map_eq_some_iff,Prod.mk.injEq] at ha;obtain ⟨y,hy,_,_⟩:=ha;have hr:=hev x;rw [hx] at hr;obtain ⟨us,hu,hk⟩:=hr;obtain ⟨u,h1,h2⟩:=hk.get hy;refine ⟨u,fun w'=>?_⟩;simp only [execOp,hop,hu];refine a0O ?_;simp [Instr.extract,h1]
  ·cases ha
 ·rename_i x hop;exact ⟨ρ x,fun w'=>by simp only [execOp,hop]; rfl⟩
 ·rename_i T x y hop;obtain ⟨d,s,xs,k,i,a,cap,hl,hkd,e1,e2,e3,e4,hy,hx⟩:=form h;obtain ⟨hm,rfl⟩:=a0c hl;obtain ⟨ie,z,hu,hie,hsz,_⟩:=(hL d hm).sc s (a4e hkd)
  have hd:0 <= i/\i <= (xs.length:Int):=by
   rw [hop] at ha
   rcases hx with ⟨f,hx⟩ | ⟨n,t,hx⟩
   ·simp only [a2g,hx,hy,hl,hkd,cond_true,injEq,Prod.mk.injEq] at ha;rw [<- ha.1] at hp; exact hp
   ·simp only [a2g,hx,hy,hl,hkd,cond_true,injEq,Prod.mk.injEq] at ha;rw [<- ha.1] at hp; exact hp
  refine ⟨.slice (if cap=0 then a else a.map (·.add 0)) i.toNat cap,fun w'=>?_⟩;have:=a4X (P:=P) hu hie a xs.length cap k i hd.1 hd.2 e2 (w:=w');simp only [execOp,hop,map_none,map_some,e4,e1];exact a0O this
 ·rename_i T x y hop;obtain ⟨d,s,xs,k,i,a,cap,hl,hkd,e1,e2,e3,e4,hy,hx⟩:=form h;obtain ⟨hm,rfl⟩:=a0c hl;obtain ⟨ie,z,hu,hie,hsz,_⟩:=(hL d hm).sc s (a4e hkd)
  have hd:0 <= i/\i <= (xs.length:Int):=by
   rw [hop] at ha
   rcases hx with ⟨f,hx⟩ | ⟨n,t,hx⟩
   ·simp only [a2g,hx,hy,hl,hkd,cond_true,injEq,Prod.mk.injEq] at ha;rw [<- ha.1] at hp; exact hp
   ·simp only [a2g,hx,hy,hl,hkd,cond_true,injEq,Prod.mk.injEq] at ha;rw [<- ha.1] at hp; exact hp
  refine ⟨.slice (if cap=i.toNat then a else a.map (·.add (i.toNat*ie.size))) (xs.length - i.toNat) (cap - i.toNat),fun w'=>?_⟩;have:=a4Y (P:=P) hu hie a xs.length cap k i hd.1 hd.2 (w:=w');simp only [execOp,hop,map_none,map_some,e4,e1];exact a0O this
 ·rename_i T x y hop;obtain ⟨d,s,xs,k,i,a,cap,hl,hkd,e1,e2,e3,e4,hy,hx⟩:=form h;obtain ⟨hm,rfl⟩:=a0c hl;obtain ⟨ie,z,hu,hie,hsz,_⟩:=(hL d hm).sc s (a4e hkd)
  have hd:0 <= i/\i < (xs.length:Int):=by
   rw [hop] at ha
   rcases hx with ⟨f,hx⟩ | ⟨n,t,hx⟩
   ·simp only [a2g,hx,hy,hl,hkd,cond_true,injEq,Prod.mk.injEq] at ha;rw [<- ha.1] at hp; exact hp
   ·simp only [a2g,hx,hy,hl,hkd,cond_true,injEq,Prod.mk.injEq] at ha;rw [<- ha.1] at hp; exact hp
  obtain ⟨b,off,rfl⟩:=e3 (by rintro rfl; simp at hd; omega);refine ⟨.pointer (some ⟨b,off+i.toNat*ie.size,none⟩),fun w'=>?_⟩;have:=a1v (P:=P) hu hie b off xs.length cap k i hd.1 hd.2 w';simp only [execOp,hop,e4,e1];exact a0O this
 ·rename_i S x f hop;rw [hop] at ha;split at h
  ·rename_i i off hx;simp only [a2g,hx] at ha
   split at ha <;> try (cases ha; done)
   all_goals first | (rename_i hx' _; cases hx'; done) | skip
   rename_i i' off' l hx' hl;cases hx';simp only [map_eq_some_iff,Prod.mk.injEq] at ha;obtain ⟨d,hd,_,_⟩:=ha;obtain ⟨hm,rfl⟩:=a0c hl;have hr:=hev x;rw [hx] at hr;obtain ⟨b,_,e1⟩:=hr;refine ⟨.pointer (some ⟨b,off+d.1,none⟩),fun w'=>?_⟩;simp only [execOp,hop,e1];exact a0O (a3j (hL l hm) hd b off w')
  ·cases h
 ·rename_i op T x y _ hop;rw [hop] at ha;split at h
  ·rename_i a b hx hy;simp only [a2g,hx,hy,map_eq_some_iff,Prod.mk.injEq] at ha;obtain ⟨q,hq,e1,_⟩:=ha;have hr:=hev x; have hs:=hev y;rw [hx] at hr; rw [hy] at hs;refine ⟨q.2,fun w'=>?_⟩
   have:=aL1 (P:=P) (pre:=q.1) (r:=q.2) hq (by rw [e1]; exact hp) T (fun hb=>by
    cases hl:a09 L T with
    | none=>rw [hl] at hb; cases hb
    | some l =>
      rw [hl] at hb;obtain ⟨hm,rfl⟩:=a0c hl
      exact (hL l hm).bool (Nat.eq_of_beq_eq_true hb)) x y w'
   simp only [execOp,hop,hr.1,hs.1];exact a0O this
  ·cases h
 ·cases h
def a8M (f:Nat->Bool):List Nat->Option Nat
 | []=>none
 | i :: r=>bif f i then some i else a8M f r
theorem a3W {f:Nat->Bool}:∀ {l:List Nat} {i:Nat},a8M f l=some i->i ∈ l/\f i=true
 | j :: r,i,h=>by
   unfold a8M at h
   cases hf:f j with
   | true =>
     rw [hf] at h
     obtain rfl:j=i:=by simpa using h
     exact ⟨mem_cons_self ..,hf⟩
   | false =>
     rw [hf] at h;obtain ⟨h1,h2⟩:=a3W (l:=r) h;exact ⟨List.mem_cons_of_mem _ h1,h2⟩
def owe (pre:Option Prop) (K:Prop):Prop :=
 match pre with
 | some p=>p/\K
 | none=>K
def aG9 (ops:List Oper) (ls:Array Bool) (i:Nat) (o:Oper):Bool:=aZo (fun j oj=>Nat.beq j i || ls.getD j true || a5J oj i || o.apart ops.toArray oj) 0 ops
def aUd (f:Nat->Prop):List Nat->Prop
 | []=>True
 | i :: r=>f i/\aUd f r
theorem aAt {f:Nat->Prop}:∀ {l:List Nat},aUd f l->∀ i ∈ l,f i
 | _ :: _,h,i,hi=>by
   rcases mem_cons.1 hi with rfl | hi
   ·exact h.1
   ·exact aAt h.2 i hi
def b5Q (z:Bool) (L:List Lay) (ops:List Oper) (ls:Array Bool) (s:St) (i:Nat):Bool :=
 match ops[i]? with
 | some o=>o.guard.isNone && b3O z L (evS s) o.op && aG9 ops ls i o
 | none=>false
def aJB (z:Bool) (L:List Lay) (C:List Ctr) (ops:List Oper) (K:St->Prop):Nat->Array Bool->St->Prop
 | 0,ls,s=>bif (Region.ready .any ops.toArray ls).isEmpty then K s else False
 | d+1,ls,s =>
   bif (Region.ready .any ops.toArray ls).isEmpty then False
   else match a8M (b5Q z L ops ls s) (Region.ready .any ops.toArray ls) with
    | some i =>
      match ops[i]? with
      | some o =>
        match a2g L s.bx (evS s) o.op with
        | some (pre,r)=>owe pre (aJB z L C ops K d (ls.setIfInBounds i true) (a4u s o.dst r))
        | none=>False
      | none=>False
    | none=>aUd (fun i=>match ops[i]? with
        | some o=>aop L C o s fun s'=>aJB z L C ops K d (ls.setIfInBounds i true) s'
        | none=>False) (Region.ready .any ops.toArray ls)
variable {W0:World} {F:List (Option Nat)}
theorem aJA {z:Bool} (hz:none ∉ F) (hL:∀ l ∈ L,a1I P l) (hC:∀ c ∈ C,CtrOK P c) {Q:Exit->Act->World->Prop} {l:List Oper} {K:St->Prop} (hns:Region.noSelect l.toArray=true) (hp:∀ c a w,¬ Q (.panic c) a w) (hk:∀ s' bs' a' w',K s'->Rl W0 F bs' s' a' w'->Q .normal a' w') :
    ∀ (d:Nat) (ls:Array Bool) (s:St) (bs:Bs) (a:Act) (w:World),aJB z L C l K d ls s->Rl W0 F bs s a w->wpAny P .any l.toArray Q d ls a w:=by
 intro d
 induction d with
 | zero =>
   intro ls s bs a w h hR;unfold aJB at h
   cases he:(Region.ready .any l.toArray ls).isEmpty with
   | false=>rw [he] at h; exact h.elim
   | true =>
     rw [he] at h
     exact ⟨List.isEmpty_iff.1 he,hk _ _ _ _ h hR⟩
 | succ d ih =>
   intro ls s bs a w h hR;unfold aJB at h
   cases hr:(Region.ready .any l.toArray ls).isEmpty with
   | true=>rw [hr] at h; exact h.elim
   | false =>
     rw [hr] at h;simp only [cond_false] at h;split at h
     ·rename_i i hf;obtain ⟨hi,hpi⟩:=a3W hf;split at h
      ·rename_i o ho;unfold b5Q at hpi;rw [ho] at hpi;simp only [and_eq_true,Option.isNone_iff_eq_none] at hpi;obtain ⟨⟨hg,hb⟩,hap⟩:=hpi;split at h
       ·rename_i pre r har
        have hd:due pre/\aJB z L C l K d (ls.setIfInBounds i true) (a4u s o.dst r):=by
         cases pre with
         | none=>exact ⟨trivial,h⟩
         | some p=>exact h
        obtain ⟨v,hv⟩:=aOW hL hR.ev hb har hd.1;obtain ⟨v',h1,h2⟩:=a3X hL hR.ev hR.box har hd.1;rw [hv w] at h1
        obtain rfl:v=v':=by simpa using h1
        refine wpAny_first (by simpa using ho) (fun j o cs b ho=>Region.noSelect_spec hns j o cs b ho) (fun c a w hq=>absurd hq (hp _ _ _)) d ls a w (fun j oj hoj hji hun hno=>?_) hi (.inl ⟨by unfold Region.wanted; rw [hg],hv⟩) (ih _ _ _ _ _ hd.2 (hR.put h2 o.dst));have h5:=a7H hap (j:=j) (o:=oj) (by simpa using hoj);simp only [zero_add,or_eq_true] at h5;rcases h5 with ((h5 | h5) | h5) | h5
        ·exact absurd (Nat.eq_of_beq_eq_true h5) hji
        ·rw [hun] at h5; cases h5
        ·obtain ⟨e,he,hb,hon⟩:=a4H.1 h5;exact absurd hon (hno e he hb)
        ·exact h5
       ·exact h.elim
      ·exact h.elim
     ·refine ⟨fun he=>(by rw [he] at hr; cases hr),fun i hi=>?_⟩;have hx:=aAt h i hi;split at hx
      ·rename_i o ho;obtain ⟨hg,h2⟩:=aLW (Q:=Q) hz hL hC hx hR
       have hoa:l.toArray[i]?=some o:=by simpa using ho
       unfold wpOp;simp only [hoa]
       have hw:Region.wanted o (yielded l.toArray a.tmps)=true:=by unfold Region.wanted; rw [hg]
       rw [if_pos hw];exact .inl (h2 _ fun s' bs' a' w' hK hR'=>ih _ _ _ _ _ hK hR')
      ·exact hx.elim
