import Derived.Test.YtkdjilgddbjcaaaGreatR11
namespace Go.Proofs.YtkdjilgddbjcaaaGreat
open Go.RowKit
namespace Vc
section
variable {P:Program} {L:List Lay} {C:List Ctr} {W0 w0:World} {bs:Bs} {s:St} {a0:Act}
theorem Rl.take {a:Act} {w:World} (h:Rl W0 bs s a w) {b:Nat} {x:Bx} (hb:BoxAt bs W0.heap.size w b x) (hn:b ∉ bs.l) (hlt:b < w.heap.size):Rl W0 (bs.more [b]) { s with bx:=s.bx ++ [x] } a w:=by
 have hk:Keep bs (bs.more [b]) w w:=Keep.more _ _ _
 refine ⟨h.ext,h.lo,h.har,h.hgh,?_,by simp [h.len],fun i c y h1 h2=>?_,fun c hc=>?_,fun t y hy=>hk.relV (h.tmp t y hy),h.tl,h.dfr⟩
 ·rw [List.nodup_append]
  refine ⟨h.nd,by simp,fun y hy z hz=>?_⟩
  simp only [List.mem_singleton] at hz
  subst hz
  intro e
  subst e
  exact hn hy
 ·rcases Nat.lt_or_ge i bs.l.length with hi | hi
  ·rw [List.getElem?_append_left hi] at h1
   rw [List.getElem?_append_left (by rw [<- h.len]; exact hi)] at h2
   obtain ⟨g1,us,g2,g3,g4⟩:=h.box i c y h1 h2
   exact ⟨g1,us,g2,hk.relL g3,g4⟩
  ·have hi2:i=bs.l.length:=by
    have:i < (bs.l ++ [b]).length:=by
     rcases Nat.lt_or_ge i (bs.l ++ [b]).length with h' | h'
     ·exact h'
     ·rw [List.getElem?_eq_none h'] at h1; cases h1
    simp at this
    omega
   subst hi2
   have e1:c=b:=by simpa using h1.symm
   have e2:y=x:=by rw [h.len] at h2; simpa using h2.symm
   subst e1 e2
   obtain ⟨g1,us,g2,g3,g4⟩:=hb
   exact ⟨g1,us,g2,hk.relL g3,g4⟩
 ·rcases List.mem_append.1 hc with hc | hc
  ·exact h.bnd c hc
  ·simp only [List.mem_singleton] at hc
   subst hc
   exact hlt
theorem accums_rl {l:List Oper} {E:List Ent} {vals:Nat->Value} {w:World} (hlen:E.length=l.length) (hon:∀ (j:Nat) (f:Ent),E[j]?=some f->(f.g=[]->f.on=true)) (hgn:∀ (j:Nat) (f:Ent),E[j]?=some f->f.nb ≠ none->f.g=[]) (hok:∀ (i:Nat) (e:Ent),E[i]?=some e->EntOK bs W0.heap.size w e (vals i))
    (hap:Apart l.length (ownE E) vals) (hnew:∀ i b,i < l.length->ownE E i (vals i)=some b->b ∉ bs.l) :
    ∀ (d k:Nat) (s1:St) (a1:Act) (news:List Nat),k+d=l.length->(∀ b ∈ news,∃ i,i < k/\ownE E i (vals i)=some b)->Rl W0 (bs.more news) s1 a1 w->∃ bs2,Rl W0 bs2 (accums s1 (l.drop k) (E.drop k)) (putAll (l.drop k) vals k a1) w:=by
 intro d
 induction d with
 | zero =>
   intro k s1 a1 news hk _ hR
   rw [List.drop_of_length_le (by omega),List.drop_of_length_le (by omega)]
   exact ⟨_,hR⟩
 | succ d ih =>
   intro k s1 a1 news hk hnews hR
   have hkl:k < l.length:=by omega
   have hkE:k < E.length:=by omega
   rw [List.drop_eq_getElem_cons hkl,List.drop_eq_getElem_cons hkE]
   simp only [accums,putAll]
   have hEk:E[k]?=some E[k]:=by simp [hkE]
   have ok:=hok k _ hEk
   cases hnb:E[k].nb with
   | none =>
     have e1:accum s1 l[k] E[k]=putS s1 l[k].dst (bif E[k].g.isEmpty then E[k].av else .u):=by
      unfold accum
      simp only [hnb]
     rw [e1]
     refine ih (k+1) _ _ news (by omega) (fun b hb=>?_) (hR.put ?_ _)
     ·obtain ⟨i,h1,h2⟩:=hnews b hb
      exact ⟨i,by omega,h2⟩
     ·cases hg:E[k].g with
      | cons _ _=>trivial
      | nil =>
        have hv:=ok.2 (hon k _ hEk hg)
        rw [hnb] at hv
        exact (Keep.more bs w news).relV hv
   | some x =>
     have hg:=hgn k _ hEk (by rw [hnb]; simp)
     have hv:=ok.2 (hon k _ hEk hg)
     rw [hnb] at hv
     obtain ⟨b,hvk,_,hbox,hlt⟩:=hv
     have hown:ownE E k (vals k)=some b:=by
      rw [hvk]
      exact ownE_box hEk hnb
     have e1:accum s1 l[k] E[k]=putS { s1 with bx:=s1.bx ++ [x] } l[k].dst (boxA E[k].av s1.bx.length):=by
      unfold accum
      simp only [hnb]
     rw [e1]
     have hbn:b ∉ bs.l ++ news:=by
      intro hm
      rcases List.mem_append.1 hm with hm | hm
      ·exact hnew k b hkl hown hm
      ·obtain ⟨i,h1,h2⟩:=hnews b hm
       have:=hap i k b (by omega) hkl h2 hown
       omega
     have hbox':BoxAt (bs.more news) W0.heap.size w b x:=by
      obtain ⟨g1,us,g2,g3,g4⟩:=hbox
      exact ⟨g1,us,g2,(Keep.more bs w news).relL g3,g4⟩
     have hR2:=(hR.take hbox' hbn hlt).put (r:=(boxA E[k].av s1.bx.length)) (v:=vals k) (by
      rw [hvk]
      exact boxA_rel (by rw [<- hR.len]; simp) _) l[k].dst
     have e3:(bs.more news).more [b]=bs.more (news ++ [b]):=by simp [Bs.more]
     rw [e3] at hR2
     refine ih (k+1) _ _ (news ++ [b]) (by omega) (fun c hc=>?_) hR2
     rcases List.mem_append.1 hc with hc | hc
     ·obtain ⟨i,h1,h2⟩:=hnews c hc
      exact ⟨i,by omega,h2⟩
     ·simp only [List.mem_singleton] at hc
      subst hc
      exact ⟨k,by omega,hown⟩
theorem fcore_nb {ops:List Oper} {ents:List Ent} {o:Oper} {g:List (Nat × Bool)} {on:Bool} {pre:Option Prop} {e:Ent} (h:fcore L C s ops ents o g on=.yes pre e) (hn:e.nb ≠ none):e.g=[]:=by
 unfold fcore at h
 split at h
 ·split at h
  ·rename_i l _
   cases h5:Nat.beq l.kd 5 with
   | true=>rw [h5] at h; cases h
   | false=>rw [h5] at h; cases h; rfl
  ·cases h
 ·split at h
  ·rename_i gi _
   cases hed:hasEdge o gi with
   | false=>rw [hed] at h; cases h
   | true =>
     rw [hed] at h
     simp only [Bool.not_true,cond_false] at h
     split at h
     ·cases h; exact absurd rfl hn
     ·cases h
  ·cases h
 ·split at h
  ·cases h; exact absurd rfl hn
  ·cases h; exact absurd rfl hn
  ·split at h
   ·cases h; exact absurd rfl hn
   ·cases h
 ·split at h
  ·cases h; exact absurd rfl hn
  ·split at h
   ·cases h; rfl
   ·cases h
 ·split at h
  ·cases h; exact absurd rfl hn
  ·cases h
theorem fout_nb {l:List Oper} {E:List Ent} (hE:FOut L C s l E) (hlen:E.length=l.length):∀ (j:Nat) (f:Ent),E[j]?=some f->f.nb ≠ none->f.g=[]:=fun j f hf hn=>by
 have hj:j < l.length:=by rw [<- hlen]; exact (List.getElem?_eq_some_iff.1 hf).1
 obtain ⟨pre,e,h1,h2,_⟩:=hE j l[j] (by simp [hj])
 obtain rfl:e=f:=by rw [h2] at hf; simpa using hf
 unfold fent at h1
 cases hst:isSt l[j] with
 | true =>
   rw [hst] at h1
   cases h1
   exact absurd rfl hn
 | false =>
 rw [hst] at h1
 simp only [cond_false] at h1
 unfold fent0 at h1
 split at h1
 ·exact fcore_nb h1 hn
 ·rename_i gi pol _
  cases hc:(hasEdge l[j] gi && ((l[gi]?).bind (·.dst)).isSome) with
  | false=>rw [hc] at h1; cases h1
  | true =>
    rw [hc] at h1
    simp only [cond_true] at h1
    split at h1 <;> try (cases h1; done)
    split at h1 <;> try (cases h1; done)
    exact fcore_nb h1 hn
end
inductive STg
 | o (i off:Nat)
 | n (k:Nat)
structure SE where
 tg:STg
 n:Nat
 ys:List AC
 cs:List AC
def sent (L:List Lay) (s:St) (ops:List Oper) (ents:List Ent) (o:Oper):Option SE :=
 match o.guard,o.op with
 | none,.store T a x =>
   match getLay L T,evF s ops ents o [] x with
   | some l,.k y =>
     bif Nat.beq (wid y.cells) l.size && softs y.cells then
      match evF s ops ents o [] a with
      | .k (.c (.bx i off)) =>
        match s.bx[i]? with
        | some b=>bif Nat.ble (off+l.size) (wid b.cs) then (upd 99 b.cs off l.size (wid b.cs) y.cells).map fun cs=>⟨.o i off,l.size,y.cells,cs⟩ else none
        | none=>none
      | _ =>
        match a with
        | .tmp t =>
          match findDst ops 0 t with
          | some k =>
            bif hasEdge o k then
             match ents[k]? with
             | some e =>
               match e.nb,e.av with
               | some b,.u=>bif Nat.ble (0+l.size) (wid b.cs) then (upd 99 b.cs 0 l.size (wid b.cs) y.cells).map fun cs=>⟨.n k,l.size,y.cells,cs⟩ else none
               | _,_=>none
             | none=>none
            else none
          | none=>none
        | _=>none
     else none
   | _,_=>none
 | _,_=>none
def sAt (L:List Lay) (s:St) (ops:List Oper) (E:List Ent) (j:Nat):Option SE :=
 match ops[j]? with
 | some o=>bif isSt o then sent L s ops (E.take j) o else none
 | none=>none
def pOld (i:Nat):STg->Bool
 | .o k _=>Nat.beq k i
 | .n _=>false
def pNew (i:Nat):STg->Bool
 | .n k=>Nat.beq k i
 | .o _ _=>false
def findT (F:Nat->Option SE) (p:STg->Bool):Nat->Option (Nat × SE)
 | 0=>none
 | n+1 =>
   match findT F p n with
   | some r=>some r
   | none =>
     match F n with
     | some se=>bif p se.tg then some (n,se) else none
     | none=>none
theorem findT_spec {F:Nat->Option SE} {p:STg->Bool}:∀ {n j:Nat} {se:SE},findT F p n=some (j,se)->j < n/\F j=some se/\p se.tg=true
 | 0,_,_,h=>by cases h
 | n+1,j,se,h=>by
   unfold findT at h
   split at h
   ·rename_i r hr
    simp only [Option.some.injEq] at h
    subst h
    obtain ⟨h1,h2,h3⟩:=findT_spec hr
    exact ⟨by omega,h2,h3⟩
   ·split at h
    ·rename_i se' hs
     cases hp:p se'.tg with
     | false=>rw [hp] at h; cases h
     | true =>
       rw [hp] at h
       simp only [cond_true,Option.some.injEq,Prod.mk.injEq] at h
       obtain ⟨rfl,rfl⟩:=h
       exact ⟨by omega,hs,hp⟩
    ·cases h
def mapB (f:Nat->Bx->Bx):Nat->List Bx->List Bx
 | _,[]=>[]
 | i,b :: r=>f i b :: mapB f (i+1) r
theorem mapB_get (f:Nat->Bx->Bx):∀ (l:List Bx) (k i:Nat),(mapB f k l)[i]?=(l[i]?).map (f (k+i))
 | [],_,_=>rfl
 | b :: r,k,0=>rfl
 | b :: r,k,i+1=>by
   simp only [mapB,List.getElem?_cons_succ]
   rw [mapB_get f r (k+1) i]
   congr 2
   omega
theorem mapB_len (f:Nat->Bx->Bx):∀ (l:List Bx) (k:Nat),(mapB f k l).length=l.length
 | [],_=>rfl
 | b :: r,k=>by simp only [mapB,List.length_cons,mapB_len f r]
def mapE (f:Nat->Ent->Ent):Nat->List Ent->List Ent
 | _,[]=>[]
 | i,b :: r=>f i b :: mapE f (i+1) r
theorem mapE_get (f:Nat->Ent->Ent):∀ (l:List Ent) (k i:Nat),(mapE f k l)[i]?=(l[i]?).map (f (k+i))
 | [],_,_=>rfl
 | b :: r,k,0=>rfl
 | b :: r,k,i+1=>by
   simp only [mapE,List.getElem?_cons_succ]
   rw [mapE_get f r (k+1) i]
   congr 2
   omega
theorem mapE_len (f:Nat->Ent->Ent):∀ (l:List Ent) (k:Nat),(mapE f k l).length=l.length
 | [],_=>rfl
 | b :: r,k=>by simp only [mapE,List.length_cons,mapE_len f r]
def bx1 (F:Nat->Option SE) (n:Nat) (d:Nat->Bool) (i:Nat) (b:Bx):Bx :=
 match findT F (pOld i) n with
 | some (j,se)=>bif d j then ⟨b.T,se.cs⟩ else b
 | none=>b
def bxAt (F:Nat->Option SE) (n:Nat) (d:Nat->Bool) (bx:List Bx):List Bx:=mapB (bx1 F n d) 0 bx
def eAt (F:Nat->Option SE) (n:Nat) (d:Nat->Bool) (i:Nat) (e:Ent):Ent :=
 match e.nb with
 | some b =>
   match findT F (pNew i) n with
   | some (j,se)=>bif d j then { e with nb:=some ⟨b.T,se.cs⟩ } else e
   | none=>e
 | none=>e
theorem eAt_g (F:Nat->Option SE) (n:Nat) (d:Nat->Bool) (i:Nat) (e:Ent):(eAt F n d i e).g=e.g/\(eAt F n d i e).on=e.on/\(eAt F n d i e).av=e.av/\((eAt F n d i e).nb=none ↔ e.nb=none):=by
 unfold eAt
 split
 ·rename_i b hb
  split
  ·rename_i j se _
   cases d j <;> simp [hb]
  ·simp
 ·simp
theorem eAt_congr {F:Nat->Option SE} {n:Nat} {d d':Nat->Bool} {i:Nat} {e:Ent} (h:∀ j se,findT F (pNew i) n=some (j,se)->d j=d' j):eAt F n d i e=eAt F n d' i e:=by
 unfold eAt
 split
 ·split
  ·rename_i j se hf
   rw [h j se hf]
  ·rfl
 ·rfl
theorem eAt_off {F:Nat->Option SE} {n:Nat} {d:Nat->Bool} {i:Nat} {e:Ent} (h:∀ j se,findT F (pNew i) n=some (j,se)->d j=false):eAt F n d i e=e:=by
 unfold eAt
 split
 ·split
  ·rename_i j se hf
   rw [h j se hf]
   rfl
  ·rfl
 ·rfl
theorem bxAt_get (F:Nat->Option SE) (n:Nat) (d:Nat->Bool) (bx:List Bx) (i:Nat):(bxAt F n d bx)[i]?=(bx[i]?).map (bx1 F n d i):=by
 unfold bxAt
 rw [mapB_get,Nat.zero_add]
theorem bx1_congr {F:Nat->Option SE} {n:Nat} {d d':Nat->Bool} {i:Nat} {b:Bx} (h:∀ j se,findT F (pOld i) n=some (j,se)->d j=d' j):bx1 F n d i b=bx1 F n d' i b:=by
 unfold bx1
 split
 ·rename_i j se hf
  rw [h j se hf]
 ·rfl
theorem bxAt_congr {F:Nat->Option SE} {n:Nat} {d d':Nat->Bool} {bx:List Bx} (h:∀ i j se,findT F (pOld i) n=some (j,se)->d j=d' j):bxAt F n d bx=bxAt F n d' bx:=by
 apply List.ext_getElem?
 intro i
 rw [bxAt_get,bxAt_get]
 congr 1
 funext b
 exact bx1_congr (h i)
def gOf (ents:List Ent) (o:Oper):List (Nat × Bool) :=
 match o.guard with
 | none=>[]
 | some (gi,pol)=>match ents[gi]? with | some e=>(gi,pol) :: e.g | none=>[]
def ldB (F:Nat->Option SE) (n:Nat) (s:St) (ops:List Oper) (ents:List Ent) (o:Oper):Bool :=
 match o.op with
 | .load _ x =>
   match evF s ops ents o (gOf ents o) x with
   | .k (.c (.bx i _))=>(findT F (pOld i) n).isNone
   | _=>true
 | _=>true
def idB (j:Nat):Option (Nat × SE)->Bool
 | some (k,_)=>Nat.beq k j
 | none=>false
def stB (F:Nat->Option SE) (n:Nat) (j:Nat) (o:Oper):Bool :=
 bif isSt o then
  match F j with
  | some se =>
    match se.tg with
    | .o i _=>idB j (findT F (pOld i) n)
    | .n k=>idB j (findT F (pNew k) n)
  | none=>false
 else true
def allB (f:Nat->Oper->Bool):Nat->List Oper->Bool
 | _,[]=>true
 | i,o :: r=>f i o && allB f (i+1) r
theorem allB_get {f:Nat->Oper->Bool}:∀ {l:List Oper} {k i:Nat} {o:Oper},allB f k l=true->l[i]?=some o->f (k+i) o=true
 | [],_,_,_,_,h=>by simp at h
 | x :: r,k,0,o,h,hi=>by
   simp only [allB,Bool.and_eq_true] at h
   obtain rfl:x=o:=by simpa using hi
   exact h.1
 | x :: r,k,i+1,o,h,hi=>by
   simp only [allB,Bool.and_eq_true] at h
   have:=allB_get (i:=i) h.2 (by simpa using hi)
   rw [show k+(i+1)=k+1+i by omega]
   exact this
def storesB (L:List Lay) (s:St) (ops:List Oper) (E:List Ent):Bool :=
 allB (fun j o=>stB (sAt L s ops E) ops.length j o && ldB (sAt L s ops E) ops.length s ops (E.take j) o) 0 ops
def aflowE (L:List Lay) (C:List Ctr) (s0:St) (ops:List Oper):List Oper->List Ent->(List Ent->Prop)->Prop
 | [],ents,K=>K ents
 | o :: r,ents,K =>
   match fent L C s0 ops ents o with
   | .no=>False
   | .yes none e=>aflowE L C s0 ops r (ents ++ [e]) K
   | .yes (some p) e =>
     match e.g with
     | []=>p/\aflowE L C s0 ops r (ents ++ [e]) K
     | _ :: _=>(e.on=true->p)/\aflowE L C s0 ops r (ents ++ [e]) K
theorem aflowE_out {L:List Lay} {C:List Ctr} {s0:St} {ops:List Oper} {K:List Ent->Prop}:∀ (r:List Oper) (ents:List Ent),aflowE L C s0 ops r ents K ->
    ∃ E:List Ent,E.length=r.length/\K (ents ++ E)/\∀ i o,r[i]?=some o->∃ pre e,fent L C s0 ops (ents ++ E.take i) o=.yes pre e/\E[i]?=some e/\(e.on=true->due pre)
 | [],ents,h=>⟨[],rfl,by rw [List.append_nil]; exact h,fun i o ho=>by simp at ho⟩
 | o :: r,ents,h=>by
   have key:∀ (pre:Option Prop) (e:Ent),fent L C s0 ops ents o=.yes pre e->(e.on=true->due pre)->aflowE L C s0 ops r (ents ++ [e]) K->∃ E:List Ent,E.length=(o :: r).length/\K (ents ++ E)/\∀ i o',(o :: r)[i]?=some o'->∃ pre e,fent L C s0 ops (ents ++ E.take i) o'=.yes pre e/\E[i]?=some e/\(e.on=true->due pre):=fun pre e he hpe h=>by
    obtain ⟨E,h1,h2,h3⟩:=aflowE_out r (ents ++ [e]) h
    refine ⟨e :: E,by simp [h1],by simpa using h2,fun i o' ho=>?_⟩
    cases i with
    | zero =>
      obtain rfl:o=o':=by simpa using ho
      exact ⟨pre,e,by simpa using he,rfl,hpe⟩
    | succ i =>
      obtain ⟨p,e',g1,g2,g3⟩:=h3 i o' (by simpa using ho)
      refine ⟨p,e',?_,by simpa using g2,g3⟩
      rw [List.take_succ_cons]
      rw [List.append_assoc] at g1
      exact g1
   unfold aflowE at h
   split at h
   ·exact h.elim
   ·rename_i e he
    exact key none e he (fun _=>trivial) h
   ·rename_i p e he
    split at h
    ·exact key (some p) e he (fun _=>h.1) h.2
    ·exact key (some p) e he h.1 h.2
def allD:Nat->Bool:=fun _=>true
def astore (L:List Lay) (C:List Ctr) (ops:List Oper) (s:St) (K:St->Prop):Prop :=
 aflowE L C s ops ops [] fun E=>bif storesB L s ops E then K (accums { s with bx:=bxAt (sAt L s ops E) ops.length allD s.bx } ops (mapE (eAt (sAt L s ops E) ops.length allD) 0 E)) else False
section
variable {P:Program} {L:List Lay} {C:List Ctr} {W0 w0:World} {bs:Bs} {s:St} {a0:Act} {l:List Oper} {E:List Ent} {w:World}
theorem box_store {lo g off n:Nat} {b:Bx} {cs ys:List AC} {us:List Value} (hlo:bs.lo=lo) (hb:BoxAt bs lo w g b) (hu:upd 99 b.cs off n (wid b.cs) ys=some cs) (hn:(flats ys).length=n) (hle:off+n <= wid b.cs) (hsoft:softs ys=true)
    (hr:relL bs w (flats ys) us):Keep bs bs w (w.setCells g off us)/\BoxAt bs lo (w.setCells g off us) g ⟨b.T,cs⟩/\(w.setCells g off us).heap.size=w.heap.size/\∀ k,k ≠ g->(w.setCells g off us).heap[k]?=w.heap[k]?:=by
 obtain ⟨h1,vs,h2,h3,h4⟩:=hb
 have hul:us.length=n:=by rw [<- hr.len,hn]
 have hvl:vs.length=wid b.cs:=by rw [<- h3.len,wid_eq]
 obtain ⟨k1,k2,k3⟩:=heap_setCells g us off w vs b.T h2 (by omega)
 have hk:Keep bs bs w (w.setCells g off us):=⟨fun u l hs a=>⟨slU_apart hs h2 (fun v hv=>h4 v (by simpa using hv)) k2 k3,a⟩,fun _ _ _ hc a=>⟨cell_apart hc h2 (fun v hv=>h4 v (by simpa using hv)) k3,a⟩,fun _ _ e=>e,fun c hc1 hc2=>⟨hc1,by rw [k2]; exact hc2,fun o=>by
  have hne:c ≠ g:=by rw [hlo] at hc1; omega
  unfold World.cell?
  simp only [k3 c hne]⟩⟩
 refine ⟨hk,⟨h1,_,k1,?_,fun u hu=>?_⟩,k2,k3⟩
 ·rw [upd_spec hu]
  refine hk.relL (relL.append (relL.append (h3.take off) hr) ?_)
  have e:vs.drop (off+us.length)=(vs.drop (off+n)).take (wid b.cs - off - n):=by rw [hul]; exact (List.take_of_length_le (by simp; omega)).symm
  rw [e]
  exact (h3.drop (off+n)).take _
 ·simp only [List.mem_append] at hu
  rcases hu with (hu | hu) | hu
  ·exact h4 u (List.mem_of_mem_take hu)
  ·exact softs_rel (softs_flat hsoft) hr u hu
  ·exact h4 u (List.mem_of_mem_drop hu)
theorem Rl.store_new {a:Act} (h:Rl W0 bs s a w) {g off n:Nat} {b:Bx} {cs ys:List AC} {us:List Value} (hg:g ∉ bs.l) (hb:BoxAt bs W0.heap.size w g b) (hu:upd 99 b.cs off n (wid b.cs) ys=some cs) (hn:(flats ys).length=n) (hle:off+n <= wid b.cs) (hsoft:softs ys=true)
    (hr:relL bs w (flats ys) us):Rl W0 bs s a (w.setCells g off us):=by
 obtain ⟨hk,_,k2,k3⟩:=box_store h.lo hb hu hn hle hsoft hr
 refine ⟨ext_setCells hb.1 us off h.ext,h.lo,h.har,h.hgh,h.nd,h.len,fun j c x hj hx=>?_,fun c hc=>by rw [k2]; exact h.bnd c hc,fun t x hx=>hk.relV (h.tmp t x hx),h.tl,h.dfr⟩
 obtain ⟨g1,us',g2,g3,g4⟩:=h.box j c x hj hx
 have hne:c ≠ g:=by
  rintro rfl
  exact hg (List.mem_of_getElem? hj)
 exact ⟨g1,us',by rw [k3 c hne]; exact g2,hk.relL g3,g4⟩
theorem EntOK.keep {w':World} {e:Ent} {v:Value} {lo:Nat} (h:EntOK bs lo w e v) (hk:Keep bs bs w w') (hs:w.heap.size <= w'.heap.size) (hh:∀ b x,e.nb=some x->e.on=true->v=boxV e.av b->w'.heap[b]?=w.heap[b]?):EntOK bs lo w' e v:=by
 refine ⟨h.1,fun ho=>?_⟩
 have:=h.2 ho
 cases hn:e.nb with
 | none =>
   rw [hn] at this
   exact hk.relV this
 | some x =>
   rw [hn] at this
   obtain ⟨b,h1,h0,⟨h2,vs,h3,h4,h5⟩,h6⟩:=this
   exact ⟨b,h1,hk.relV h0,⟨h2,vs,by rw [hh b x hn ho h1]; exact h3,hk.relL h4,h5⟩,by omega⟩
theorem evF_tm {s':St} (h:s'.tm=s.tm) (ops:List Oper) (ents:List Ent) (o:Oper) (g:List (Nat × Bool)):evF s' ops ents o g=evF s ops ents o g:=by
 have he:∀ x,evS s' x=evS s x:=fun x=>by
  unfold evS
  split <;> first | rfl | rw [h]
 funext x
 unfold evF
 split
 ·split
  ·exact he _
  ·split <;> simp only [he]
 ·exact he _
theorem apure_bx {bx bx':List Bx} {ev:Operand->AV} {op:Op} (h:∀ T x,op=.load T x->∀ i off,ev x=.k (.c (.bx i off))->bx'[i]?=bx[i]?):apure L bx' ev op=apure L bx ev op:=by
 cases op with
 | load T x =>
   simp only [apure]
   cases hx:ev x with
   | k y =>
     cases y with
     | c z =>
       cases z with
       | bx i off =>
         have e:=h T x rfl i off hx
         cases getLay L T with
         | none=>rfl
         | some l=>simp only [e]
       | _=>cases getLay L T <;> rfl
     | g cs=>cases getLay L T <;> rfl
   | _=>cases getLay L T <;> rfl
 | unOp a b c=>cases a <;> rfl
 | slice T x a b c=>cases a <;> cases b <;> cases c <;> rfl
 | _=>rfl
theorem fcore_bx {s':St} (h:s'.tm=s.tm) {ops:List Oper} {ents:List Ent} {o:Oper} {g:List (Nat × Bool)} {on:Bool} (hb:∀ T x,o.op=.load T x->∀ i off,evF s ops ents o g x=.k (.c (.bx i off))->s'.bx[i]?=s.bx[i]?):fcore L C s' ops ents o g on=fcore L C s ops ents o g on:=by
 unfold fcore
 simp only [evF_tm h]
 have e:=apure_bx (L:=L) (bx:=s.bx) (bx':=s'.bx) (ev:=evF s ops ents o g) (op:=o.op) hb
 split
 ·rfl
 ·rfl
 ·rename_i c hop
  rw [hop] at e
  rw [e]
 ·rfl
 ·rw [e]
theorem fent_bx {s':St} (h:s'.tm=s.tm) {ops:List Oper} {ents:List Ent} {o:Oper} (hb:∀ T x,o.op=.load T x->∀ i off,evF s ops ents o (gOf ents o) x=.k (.c (.bx i off))->s'.bx[i]?=s.bx[i]?):fent L C s' ops ents o=fent L C s ops ents o:=by
 unfold fent
 congr 1
 unfold fent0
 split
 ·rename_i hg
  have e:gOf ents o=[]:=by unfold gOf; rw [hg]
  rw [e] at hb
  exact fcore_bx h hb
 ·rename_i gi pol hg
  congr 1
  split
  ·rename_i e he
   have e1:gOf ents o=(gi,pol) :: e.g:=by unfold gOf; rw [hg]; simp only [he]
   rw [e1] at hb
   split
   ·exact fcore_bx h hb
   ·rfl
  ·rfl
structure SI (L:List Lay) (s:St) (l:List Oper) (E:List Ent) (W0:World) (bs:Bs) (a0:Act) (ls:Array Bool) (vals:Nat->Value) (w:World):Prop where
 rl:Rl W0 bs { s with bx:=bxAt (sAt L s l E) l.length (fun j=>ls.getD j false) s.bx } a0 w
 ent:∀ i e,E[i]?=some e->ls.getD i false=true->EntOK bs W0.heap.size w (eAt (sAt L s l E) l.length (fun j=>ls.getD j false) i e) (vals i)
 ap:∀ i j b,ls.getD i false=true->ls.getD j false=true->ownE E i (vals i)=some b->ownE E j (vals j)=some b->i=j
 bd:∀ i b,ls.getD i false=true->ownE E i (vals i)=some b->b ∉ bs.l/\b < w.heap.size
 dn:∀ j oj,l[j]?=some oj->ls.getD j false=true->∀ e ∈ oj.after,Region.binds .any e=true->ls.getD e.on false=true
theorem dset {ls:Array Bool} {i:Nat} (hi:i < ls.size) (j:Nat):(ls.setIfInBounds i true).getD j false=true ↔ j=i \/ ls.getD j false=true:=by
 by_cases h:j=i
 ·subst h; simp [hi]
 ·rw [getD_set_ne false (by omega)]; simp [h]
theorem dset_ne {ls:Array Bool} {i j:Nat} (h:j ≠ i):(ls.setIfInBounds i true).getD j false=ls.getD j false:=getD_set_ne false (by omega)
theorem idB_eq {j:Nat} {r:Option (Nat × SE)} (h:idB j r=true):∃ se,r=some (j,se):=by
 unfold idB at h
 split at h
 ·rename_i k se
  have:k=j:=by simpa using h
  subst this
  exact ⟨se,rfl⟩
 ·cases h
theorem pOld_eq {i:Nat} {g:STg} (h:pOld i g=true):∃ off,g=.o i off:=by
 unfold pOld at h
 split at h
 ·rename_i k off
  have:k=i:=by simpa using h
  subst this
  exact ⟨off,rfl⟩
 ·cases h
theorem pNew_eq {i:Nat} {g:STg} (h:pNew i g=true):g=.n i:=by
 unfold pNew at h
 split at h
 ·rename_i k
  have:k=i:=by simpa using h
  subst this
  rfl
 ·cases h
theorem ownE_av {E E':List Ent} {i:Nat} {e e':Ent} {v:Value} (h:E[i]?=some e) (h':E'[i]?=some e') (hn:e.nb=none ↔ e'.nb=none):ownE E i v=ownE E' i v:=by
 unfold ownE
 rw [h,h']
 simp only
 cases h1:e.nb with
 | none=>rw [hn.1 h1]
 | some x =>
   cases h2:e'.nb with
   | none=>rw [hn.2 h2] at h1; cases h1
   | some y=>cases v <;> first | rfl | (rename_i a; cases a <;> rfl) | (rename_i a _ _; cases a <;> rfl)
theorem wanted_none {o:Oper} (h:o.guard=none) (y:Nat->Option Bool):Region.wanted o y=true:=by unfold Region.wanted; rw [h]
theorem astore_step (hL:∀ l ∈ L,LayOK P l) (hC:∀ c ∈ C,CtrOK P c) {Q:Exit->Act->World->Prop} (hE:FOut L C s l E) (hlen:E.length=l.length) (hA:apartB l=true) (hlow:lowB l=true) (hI:insideB l a0.tmps.size=true) (hst:storesB L s l E=true) (i:Nat) (o:Oper) (ho:l[i]?=some o) :
    FlowStep3 P Q l a0 (SI L s l E W0 bs a0) i o:=by
 intro ls vals w hs hu hd hS hf
 have hi:i < l.length:=(List.getElem?_eq_some_iff.1 ho).1
 have his:i < ls.size:=by omega
 have hif:ls.getD i false=false:=by simp [his] at hu ⊢; exact hu
 have hlo:∀ e ∈ o.after,Region.binds .any e=true->e.on < i:=fun e he hb=>by
  simp only [lowB,List.all_eq_true,List.mem_range] at hlow
  have:=hlow i hi
  rw [ho] at this
  simp only [Option.map_some,Option.getD_some,Array.all_eq_true'] at this
  simpa [hb] using this e he
 have hdep:∀ e ∈ o.after,Region.binds .any e=true->ls.getD e.on false=true:=fun e he hb=>by
  have h1:=hd e he hb
  have h2:=hlo e he hb
  have h3:e.on < ls.size:=by omega
  simp [h3] at h1 ⊢
  exact h1
 have hE':FOut L C { s with bx:=bxAt (sAt L s l E) l.length (fun j=>ls.getD j false) s.bx } l E:=fun k ok hok=>by
  obtain ⟨pre,e,h1,h2,h3⟩:=hE k ok hok
  refine ⟨pre,e,?_,h2,h3⟩
  refine (fent_bx (s:=s) (s':={ s with bx:=bxAt (sAt L s l E) l.length (fun j=>ls.getD j false) s.bx }) rfl ?_).trans h1
  ·intro T x hop b off hev
   have hk:=allB_get hst hok
   rw [Nat.zero_add,Bool.and_eq_true] at hk
   have hk2:=hk.2
   unfold ldB at hk2
   rw [hop] at hk2
   simp only at hk2
   rw [hev] at hk2
   simp only [Option.isNone_iff_eq_none] at hk2
   show (bxAt (sAt L s l E) l.length (fun j=>ls.getD j false) s.bx)[b]?=s.bx[b]?
   rw [bxAt_get]
   cases s.bx[b]? with
   | none=>rfl
   | some x=>simp only [Option.map_some,bx1,hk2]
 have hwd:∀ e ∈ o.after,Region.binds .any e=true->∀ f,E[e.on]?=some f->EntW bs w f (vals e.on):=fun e he hb f hf'=>by
  have:=(hS.ent e.on f hf' (hdep e he hb)).w
  obtain ⟨_,g2,g3,_⟩:=eAt_g (sAt L s l E) l.length (fun j=>ls.getD j false) e.on f
  unfold EntW at this ⊢
  rwa [g2,g3] at this
 cases hso:isSt o with
 | false =>
   have hFi:sAt L s l E i=none:=by unfold sAt; rw [ho]; simp only [hso,cond_false]
   have hne:∀ {p:STg->Bool} {j:Nat} {se:SE},findT (sAt L s l E) p l.length=some (j,se)->j ≠ i:=fun h hj=>by
    obtain ⟨_,h2,_⟩:=findT_spec h
    rw [hj,hFi] at h2
    cases h2
   refine wpOp_mono ?_ (flow_at (Q:=Q) hL hC hE' hlen hA hI i o ho hso vals w hS.rl hwd hf)
   rintro a' w' ⟨v,ha,hx,hen,hov⟩
   refine ⟨v,ha,⟨?_,fun k e hk hdk=>?_,fun k j b hk hj e1 e2=>?_,fun k b hk e1=>?_,fun j oj hoj hj e he hb=>?_⟩⟩
   ·have e1:bxAt (sAt L s l E) l.length (fun j=>(ls.setIfInBounds i true).getD j false) s.bx=bxAt (sAt L s l E) l.length (fun j=>ls.getD j false) s.bx:=bxAt_congr fun q j se h=>dset_ne (hne h)
    rw [e1]
    exact hS.rl.later hx
   ·by_cases hki:k=i
    ·subst hki
     rw [upd_same,eAt_off fun j se h=>?_]
     ·exact hen e hk
     ·have hj:=hne h
      show (ls.setIfInBounds k true).getD j false=false
      rw [dset_ne hj]
      obtain ⟨h1,h2,h3⟩:=findT_spec h
      have h4:=pNew_eq h3
      cases hlj:ls.getD j false with
      | false=>rfl
      | true =>
        exfalso
        unfold sAt at h2
        cases hoj:l[j]? with
        | none=>rw [hoj] at h2; cases h2
        | some oj =>
          rw [hoj] at h2
          simp only at h2
          cases hsj:isSt oj with
          | false=>rw [hsj] at h2; cases h2
          | true =>
            rw [hsj] at h2
            simp only [cond_true] at h2
            have hed:hasEdge oj k=true:=by
             unfold sent at h2
             split at h2 <;> try (cases h2; done)
             split at h2 <;> try (cases h2; done)
             rename_i l' y _ _
             cases hc:(Nat.beq (wid y.cells) l'.size && softs y.cells) with
             | false=>rw [hc] at h2; cases h2
             | true =>
               rw [hc] at h2
               simp only [cond_true] at h2
               split at h2
               ·split at h2 <;> try (cases h2; done)
                rename_i b _
                cases hc2:Nat.ble (_+l'.size) (wid b.cs) with
                | false=>rw [hc2] at h2; cases h2
                | true =>
                  rw [hc2] at h2
                  simp only [cond_true,Option.map_eq_some_iff] at h2
                  obtain ⟨cs,_,rfl⟩:=h2
                  cases h4
               ·split at h2 <;> try (cases h2; done)
                split at h2 <;> try (cases h2; done)
                rename_i k' _
                cases hed:hasEdge oj k' with
                | false=>rw [hed] at h2; cases h2
                | true =>
                  rw [hed] at h2
                  simp only [cond_true] at h2
                  split at h2 <;> try (cases h2; done)
                  split at h2 <;> try (cases h2; done)
                  rename_i b _ _
                  cases hc2:Nat.ble (0+l'.size) (wid b.cs) with
                  | false=>rw [hc2] at h2; cases h2
                  | true =>
                    rw [hc2] at h2
                    simp only [cond_true,Option.map_eq_some_iff] at h2
                    obtain ⟨cs,_,rfl⟩:=h2
                    cases h4
                    exact hed
            obtain ⟨e',he',hb',hon⟩:=hasEdge_spec hed
            have:=hS.dn j oj hoj hlj e' he' hb'
            rw [hon,hif] at this
            cases this
    ·rw [upd_ne _ _ hki]
     have hdk':ls.getD k false=true:=by rwa [dset_ne hki] at hdk
     rw [eAt_congr (d':=fun j=>ls.getD j false) fun j se h=>dset_ne (hne h)]
     exact (hS.ent k e hk hdk').ext hx
   ·by_cases hki:k=i <;> by_cases hji:j=i
    ·rw [hki,hji]
    ·exfalso
     subst hki
     rw [upd_same] at e1
     rw [upd_ne _ _ hji] at e2
     have g1:=hov b e1
     have g2:=(hS.bd j b (by rwa [dset_ne hji] at hj) e2).2
     omega
    ·exfalso
     subst hji
     rw [upd_same] at e2
     rw [upd_ne _ _ hki] at e1
     have g1:=hov b e2
     have g2:=(hS.bd k b (by rwa [dset_ne hki] at hk) e1).2
     omega
    ·rw [upd_ne _ _ hki] at e1
     rw [upd_ne _ _ hji] at e2
     exact hS.ap k j b (by rwa [dset_ne hki] at hk) (by rwa [dset_ne hji] at hj) e1 e2
   ·by_cases hki:k=i
    ·subst hki
     rw [upd_same] at e1
     have g1:=hov b e1
     exact ⟨fun hm=>by have:=hS.rl.bnd b hm; omega,g1.2⟩
    ·rw [upd_ne _ _ hki] at e1
     have g2:=hS.bd k b (by rwa [dset_ne hki] at hk) e1
     have:=hx.size
     exact ⟨g2.1,by omega⟩
   ·rcases (dset his j).1 hj with rfl | hj
    ·obtain rfl:o=oj:=by rw [ho] at hoj; simpa using hoj
     exact (dset his e.on).2 (.inr (hdep e he hb))
    ·exact (dset his e.on).2 (.inr (hS.dn j oj hoj hj e he hb))
 | true =>
   have hstb:stB (sAt L s l E) l.length i o=true:=by
    have hk:=allB_get hst ho
    rw [Nat.zero_add,Bool.and_eq_true] at hk
    exact hk.1
   unfold stB at hstb
   rw [hso] at hstb
   simp only [cond_true] at hstb
   split at hstb <;> try (cases hstb; done)
   rename_i se hFi
   have hse:sent L s l (E.take i) o=some se:=by
    unfold sAt at hFi
    rw [ho] at hFi
    simp only [hso,cond_true] at hFi
    exact hFi
   have hEi:∀ e,E[i]?=some e->e=⟨[],true,none,.u⟩:=fun e he=>by
    obtain ⟨pre,e',h1,h2,_⟩:=hE i o ho
    unfold fent at h1
    rw [hso] at h1
    cases h1
    rw [h2] at he
    simpa using he.symm
   have hoa:l.toArray[i]?=some o:=by simpa using ho
   have hil:i <= E.length:=by omega
   have hev:∀ x,relV bs w (evF s l (E.take i) o [] x) ((putAll l vals 0 a0).eval x):=fun x=>by
    have:=evF_rel (i:=i) (o:=o) (vals:=vals) hE' hlen hA hI hS.rl hwd hf hil [] (by intro _ h; cases h) x
    rwa [evF_tm (s:=s) (s':={ s with bx:=bxAt (sAt L s l E) l.length (fun j=>ls.getD j false) s.bx }) rfl] at this
   have fin:∀ (g:Nat) (w':World),Keep bs bs w w'->w'.heap.size=w.heap.size->(∀ k,k ≠ g->w'.heap[k]?=w.heap[k]?) ->
       Rl W0 bs { s with bx:=bxAt (sAt L s l E) l.length (fun j=>(ls.setIfInBounds i true).getD j false) s.bx } a0 w' ->
       (∀ k e,E[k]?=some e->k ≠ i->ls.getD k false=true->(∃ b x,e.nb=some x/\ownE E k (vals k)=some b/\b=g)->EntOK bs W0.heap.size w' (eAt (sAt L s l E) l.length (fun j=>(ls.setIfInBounds i true).getD j false) k e) (vals k)) ->
       (∀ k e,E[k]?=some e->k ≠ i->ls.getD k false=true->(∀ b x,e.nb=some x->ownE E k (vals k)=some b->b ≠ g)->eAt (sAt L s l E) l.length (fun j=>(ls.setIfInBounds i true).getD j false) k e=eAt (sAt L s l E) l.length (fun j=>ls.getD j false) k e) ->
       SI L s l E W0 bs a0 (ls.setIfInBounds i true) (Go.Proofs.YtkdjilgddbjcaaaGreat.upd vals i undef) w':=fun g w' hk hsz hh hrl hg1 hg2=>by
    refine ⟨hrl,fun k e hke hdk=>?_,fun k j b hk hj e1 e2=>?_,fun k b hk e1=>?_,fun j oj hoj hj e he hb=>?_⟩
    ·by_cases hki:k=i
     ·subst hki
      have:=hEi e hke
      subst this
      rw [upd_same]
      exact ⟨fun h=>(by cases h),fun _=>trivial⟩
     ·rw [upd_ne _ _ hki]
      have hdk':ls.getD k false=true:=by rwa [dset_ne hki] at hdk
      by_cases hc:∃ b x,e.nb=some x/\ownE E k (vals k)=some b/\b=g
      ·exact hg1 k e hke hki hdk' hc
      ·have hc':∀ b x,e.nb=some x->ownE E k (vals k)=some b->b ≠ g:=fun b x h1 h2 h3=>hc ⟨b,x,h1,h2,h3⟩
       rw [hg2 k e hke hki hdk' hc']
       refine (hS.ent k e hke hdk').keep hk (by omega) fun b x hn _ hv=>hh b ?_
       obtain ⟨_,_,hav,hnn⟩:=eAt_g (sAt L s l E) l.length (fun j=>ls.getD j false) k e
       cases hen:e.nb with
       | none=>rw [hnn.2 hen] at hn; cases hn
       | some y =>
         rw [hav] at hv
         refine hc' b y hen ?_
         rw [hv]
         exact ownE_box hke hen
    ·have dk:∀ q,(ls.setIfInBounds i true).getD q false=true->ownE E q (Go.Proofs.YtkdjilgddbjcaaaGreat.upd vals i undef q)=some b->q ≠ i/\ls.getD q false=true/\ownE E q (vals q)=some b:=fun q h1 h2=>by
      by_cases hqi:q=i
      ·exfalso
       subst hqi
       unfold ownE at h2
       cases hq:E[q]? with
       | none=>rw [hq] at h2; cases h2
       | some e =>
         have:=hEi e hq
         subst this
         rw [hq] at h2
         cases h2
      ·rw [upd_ne _ _ hqi] at h2
       exact ⟨hqi,by rwa [dset_ne hqi] at h1,h2⟩
     obtain ⟨_,p1,p2⟩:=dk k hk e1
     obtain ⟨_,q1,q2⟩:=dk j hj e2
     exact hS.ap k j b p1 q1 p2 q2
    ·by_cases hki:k=i
     ·exfalso
      subst hki
      unfold ownE at e1
      cases hq:E[k]? with
      | none=>rw [hq] at e1; cases e1
      | some e =>
        have:=hEi e hq
        subst this
        rw [hq] at e1
        cases e1
     ·rw [upd_ne _ _ hki] at e1
      have g2:=hS.bd k b (by rwa [dset_ne hki] at hk) e1
      exact ⟨g2.1,by omega⟩
    ·rcases (dset his j).1 hj with rfl | hj
     ·obtain rfl:o=oj:=by rw [ho] at hoj; simpa using hoj
      exact (dset his e.on).2 (.inr (hdep e he hb))
     ·exact (dset his e.on).2 (.inr (hS.dn j oj hoj hj e he hb))
   unfold wpOp
   simp only [hoa]
   unfold sent at hse
   split at hse <;> try (cases hse; done)
   rename_i T a x hgd hop
   rw [if_pos (wanted_none hgd _)]
   refine .inl ?_
   have hdst:∀ v:Value,(putAll l vals 0 a0).put o.dst v=(putAll l vals 0 a0).put o.dst v:=fun _=>rfl
   split at hse <;> try (cases hse; done)
   rename_i ly y hly hy
   obtain ⟨hm,rfl⟩:=getLay_spec hly
   cases hc:(Nat.beq (wid y.cells) ly.size && softs y.cells) with
   | false=>rw [hc] at hse; cases hse
   | true =>
   rw [hc] at hse
   simp only [cond_true] at hse
   simp only [Bool.and_eq_true,Nat.beq_eq] at hc
   obtain ⟨hw1,hsoft⟩:=hc
   have hry:=hev x
   rw [hy] at hry
   have hcr:=cells_rel hry
   have hn:(flats y.cells).length=ly.size:=by rw [wid_eq,hw1]
   have run:∀ (g off:Nat) (b:Bx),(putAll l vals 0 a0).eval a=.pointer (some ⟨g,off,none⟩)->BoxAt bs W0.heap.size w g b->off+ly.size <= wid b.cs ->
       (execOp (putAll l vals 0 a0).eval o).run P w=.ok .skip (w.setCells g off ((putAll l vals 0 a0).eval x).cells.toList):=fun g off b hv hb hle=>by
    obtain ⟨_,vs,b2,b3,_⟩:=hb
    simp only [execOp,hop,hv]
    refine run_u (run_storeAt_any w g off ly.t ((putAll l vals 0 a0).eval x) vs b.T b2 ?_ ?_ (relL.one hcr))
    ·rw [<- hcr.len,hn,<- b3.len,wid_eq]; exact hle
    ·rw [<- hcr.len,hn]; exact (hL ly hm).size
   unfold Oper.wp
   split at hse
   ·rename_i ib off hax
    split at hse <;> try (cases hse; done)
    rename_i b hb
    cases hc2:Nat.ble (off+ly.size) (wid b.cs) with
    | false=>rw [hc2] at hse; cases hse
    | true =>
    rw [hc2] at hse
    simp only [cond_true,Option.map_eq_some_iff] at hse
    obtain ⟨cs,hu',rfl⟩:=hse
    simp only [Nat.ble_eq] at hc2
    obtain ⟨se',hT⟩:=idB_eq hstb
    have hra:=hev a
    rw [hax] at hra
    obtain ⟨g,hgb,hv⟩:=hra
    have hbx:(bxAt (sAt L s l E) l.length (fun j=>ls.getD j false) s.bx)[ib]?=some b:=by
     rw [bxAt_get,hb]
     simp only [Option.map_some,bx1,hT,hif,cond_false]
    have hB:=hS.rl.box ib g b hgb hbx
    rw [run g off b hv hB hc2]
    obtain ⟨hk,_,k2,k3⟩:=box_store hS.rl.lo hB hu' hn hc2 hsoft hcr
    refine ⟨undef,rfl,fin g _ hk k2 k3 ?_ (fun k e hke hki hdk ⟨b',x',h1,h2,h3⟩=>?_) (fun k e hke hki hdk _=>eAt_congr fun j se h=>?_)⟩
    ·have h1:=hS.rl.store hgb hbx hu' hn hc2 hsoft hcr
     have e1:(bxAt (sAt L s l E) l.length (fun j=>ls.getD j false) s.bx).set ib ⟨b.T,cs⟩=bxAt (sAt L s l E) l.length (fun j=>(ls.setIfInBounds i true).getD j false) s.bx:=by
      apply List.ext_getElem?
      intro q
      rw [List.getElem?_set,bxAt_get,bxAt_get]
      by_cases hq:ib=q
      ·subst hq
       rw [if_pos rfl,if_pos (by rw [bxAt,mapB_len]; exact (List.getElem?_eq_some_iff.1 hb).1),hb]
       obtain ⟨_,hF',_⟩:=findT_spec hT
       rw [hFi] at hF'
       obtain rfl:(⟨.o ib off,ly.size,y.cells,cs⟩:SE)=se':=by simpa using hF'
       have hd1:(ls.setIfInBounds i true).getD i false=true:=(dset his i).2 (.inl rfl)
       simp only [Option.map_some,bx1,hT,hd1,cond_true]
      ·rw [if_neg hq]
       congr 1
       funext b'
       refine bx1_congr fun j se h=>?_
       have:j ≠ i:=by
        rintro rfl
        obtain ⟨_,g2,g3⟩:=findT_spec h
        rw [hFi] at g2
        cases g2
        obtain ⟨_,g4⟩:=pOld_eq g3
        cases g4
        exact hq rfl
       exact (dset_ne this).symm
     rw [<- e1]
     exact h1
    ·exfalso
     subst h3
     exact (hS.bd k b' hdk h2).1 (List.mem_of_getElem? hgb)
    ·have:j ≠ i:=by
      rintro rfl
      obtain ⟨_,g2,g3⟩:=findT_spec h
      rw [hFi] at g2
      cases g2
      have:=pNew_eq g3
      cases this
     exact dset_ne this
   ·split at hse <;> try (cases hse; done)
    rename_i t _
    split at hse <;> try (cases hse; done)
    rename_i kb hfd
    cases hed:hasEdge o kb with
    | false=>rw [hed] at hse; cases hse
    | true =>
    rw [hed] at hse
    simp only [cond_true] at hse
    split at hse <;> try (cases hse; done)
    rename_i e hek
    split at hse <;> try (cases hse; done)
    rename_i b hnb hav
    cases hc2:Nat.ble (0+ly.size) (wid b.cs) with
    | false=>rw [hc2] at hse; cases hse
    | true =>
    rw [hc2] at hse
    simp only [cond_true,Option.map_eq_some_iff] at hse
    obtain ⟨cs,hu',rfl⟩:=hse
    simp only [Nat.ble_eq] at hc2
    obtain ⟨se',hT⟩:=idB_eq hstb
    have hEk:=take_get hek
    obtain ⟨ed,hem,heb,hon⟩:=hasEdge_spec hed
    have hdk:ls.getD kb false=true:=by rw [<- hon]; exact hdep ed hem heb
    have hok:=hS.ent kb e hEk hdk
    have hoff:eAt (sAt L s l E) l.length (fun j=>ls.getD j false) kb e=e:=eAt_off fun j se h=>by
     rw [hT] at h
     cases h
     exact hif
    rw [hoff] at hok
    have hg0:=fout_nb hE hlen kb e hEk (by rw [hnb]; simp)
    have hon':=fout_on hE hlen kb e hEk (by rw [hg0]; intro _ h; cases h)
    have hok2:=hok.2 hon'
    rw [hnb] at hok2
    obtain ⟨g,hvk,_,hB,hlt⟩:=hok2
    have hown:ownE E kb (vals kb)=some g:=by rw [hvk]; exact ownE_box hEk hnb
    obtain ⟨hgn,_⟩:=hS.bd kb g hdk hown
    obtain ⟨kk,ok',hkk,hok',hdt⟩:=findDst_some hfd
    rw [Nat.zero_add] at hkk
    subst hkk
    have hv:(putAll l vals 0 a0).eval (.tmp t)=.pointer (some ⟨g,0,none⟩):=by
     rw [putAll_eval_in l vals 0 kb a0 ok' t hA hI hok' hdt,Nat.zero_add,hvk,hav]
     rfl
    rw [run g 0 b hv hB hc2]
    obtain ⟨hk,hB2,k2,k3⟩:=box_store hS.rl.lo hB hu' hn hc2 hsoft hcr
    have hbxe:bxAt (sAt L s l E) l.length (fun j=>(ls.setIfInBounds i true).getD j false) s.bx=bxAt (sAt L s l E) l.length (fun j=>ls.getD j false) s.bx:=bxAt_congr fun q j se h=>by
     have:j ≠ i:=by
      rintro rfl
      obtain ⟨_,g2,g3⟩:=findT_spec h
      rw [hFi] at g2
      cases g2
      obtain ⟨_,g4⟩:=pOld_eq g3
      cases g4
     exact dset_ne this
    refine ⟨undef,rfl,fin g _ hk k2 k3 ?_ (fun k e' hke hki hdk' ⟨b',x',h1,h2,h3⟩=>?_) (fun k e' hke hki hdk' hno=>eAt_congr fun j se h=>?_)⟩
    ·rw [hbxe]
     exact hS.rl.store_new hgn hB hu' hn hc2 hsoft hcr
    ·subst h3
     have hkk:=hS.ap k kb b' hdk' hdk h2 hown
     subst hkk
     obtain rfl:e=e':=by rw [hEk] at hke; simpa using hke
     obtain ⟨_,hF',_⟩:=findT_spec hT
     rw [hFi] at hF'
     obtain rfl:(⟨.n k,ly.size,y.cells,cs⟩:SE)=se':=by simpa using hF'
     have hd1:(ls.setIfInBounds i true).getD i false=true:=(dset his i).2 (.inl rfl)
     have e1:eAt (sAt L s l E) l.length (fun j=>(ls.setIfInBounds i true).getD j false) k e={ e with nb:=some ⟨b.T,cs⟩ }:=by
      unfold eAt
      rw [hnb]
      simp only [hT,hd1,cond_true]
     rw [e1]
     refine ⟨fun h=>?_,fun _=>⟨b',hvk,?_,hB2,by omega⟩⟩
     ·simp only at h
      rw [hon'] at h
      cases h
     ·simp only [hav]
      trivial
    ·have:j ≠ i:=by
      rintro rfl
      obtain ⟨_,g2,g3⟩:=findT_spec h
      rw [hFi] at g2
      cases g2
      have:=pNew_eq g3
      cases this
      obtain rfl:e=e':=by rw [hEk] at hke; simpa using hke
      exact hno g b hnb hown rfl
     exact dset_ne this
theorem astore_sound (hm:P.follows .mixedOrders=true) (hL:∀ l ∈ L,LayOK P l) (hC:∀ c ∈ C,CtrOK P c) {Q:Exit->Act->World->Prop} {id:Nat} {K:St->Prop} (h:astore L C l s K) (hA:apartB l=true) (hlow:lowB l=true) (hI:insideB l s.tm.length=true) (hT:tail2B l l.length=true) (hR:Rl W0 bs s a0 w0)
    (hk:∀ s' bs' a' w',K s'->Rl W0 bs' s' a' w'->Q .normal a' w'):(Code.region id l.toArray true).wp P Q a0 w0:=by
 obtain ⟨E,hlen,h2,h3⟩:=aflowE_out _ _ h
 rw [List.nil_append] at h2
 have hE:FOut L C s l E:=fun i o ho=>by
  obtain ⟨pre,e,g1,g2,g3⟩:=h3 i o ho
  exact ⟨pre,e,by simpa using g1,g2,g3⟩
 cases hst:storesB L s l E with
 | false=>rw [hst] at h2; exact h2.elim
 | true =>
 rw [hst] at h2
 simp only [cond_true] at h2
 rw [hR.tl] at hI
 have htk:l.take l.length=l:=List.take_length
 refine wp_region_flow3 (I:=SI L s l E W0 bs a0) l.length hm (by rw [htk]; exact hA) (by rw [htk]; exact hlow) hT (fun vals _=>?_) (fun i o ho=>?_) (fun ls vals w hs hall hS=>?_)
 ·have d0:∀ j,(Array.replicate l.length false).getD j false=false:=fun j=>by simp [Array.getD]
  have e1:bxAt (sAt L s l E) l.length (fun j=>(Array.replicate l.length false).getD j false) s.bx=s.bx:=by
   apply List.ext_getElem?
   intro i
   rw [bxAt_get]
   cases s.bx[i]? with
   | none=>rfl
   | some b =>
     simp only [Option.map_some,bx1]
     split
     ·rw [d0]; rfl
     ·rfl
  exact ⟨by rw [e1]; exact hR.later (Ext.refl w0).drew,fun i e _ hd=>(by rw [d0] at hd; cases hd),fun i j b hd=>(by rw [d0] at hd; cases hd),fun i b hd=>(by rw [d0] at hd; cases hd),fun j oj _ hd=>(by rw [d0] at hd; cases hd)⟩
 ·rw [htk] at ho ⊢
  exact astore_step hL hC hE hlen hA hlow hI hst i o ho
 ·rw [htk] at hs hall ⊢
  have hd:∀ j,j < l.length->ls.getD j false=true:=fun j hj=>by
   have h1:=hall j hj
   have h4:j < ls.size:=by omega
   simp [h4] at h1 ⊢
   exact h1
  have e1:bxAt (sAt L s l E) l.length (fun j=>ls.getD j false) s.bx=bxAt (sAt L s l E) l.length allD s.bx:=bxAt_congr fun i j se h=>hd j (findT_spec h).1
  have hget:∀ i,(mapE (eAt (sAt L s l E) l.length allD) 0 E)[i]?=(E[i]?).map (eAt (sAt L s l E) l.length allD i):=fun i=>by rw [mapE_get,Nat.zero_add]
  have hmem:∀ {j:Nat} {f:Ent},(mapE (eAt (sAt L s l E) l.length allD) 0 E)[j]?=some f->∃ e,E[j]?=some e/\eAt (sAt L s l E) l.length allD j e=f:=fun {j f} hf=>by
   rw [hget] at hf
   simpa using hf
  have hlt:∀ {j:Nat} {e:Ent},E[j]?=some e->j < l.length:=fun h=>by rw [<- hlen]; exact (List.getElem?_eq_some_iff.1 h).1
  have hownE:∀ i v,ownE (mapE (eAt (sAt L s l E) l.length allD) 0 E) i v=ownE E i v:=fun i v=>by
   cases hi:E[i]? with
   | none =>
     unfold ownE
     rw [hget,hi]
     rfl
   | some e=>exact ownE_av (by rw [hget,hi]; rfl) hi (eAt_g ..).2.2.2
  have hSr:=hS.rl
  rw [e1] at hSr
  obtain ⟨bs2,hR2⟩:=accums_rl (W0:=W0) (bs:=bs) (vals:=vals) (w:=w) (l:=l) (E:=mapE (eAt (sAt L s l E) l.length allD) 0 E) (by rw [mapE_len]; exact hlen) (fun j f hf hg=>by
   obtain ⟨e,h1,rfl⟩:=hmem hf
   obtain ⟨g1,g2,_,_⟩:=eAt_g (sAt L s l E) l.length allD j e
   rw [g2]
   rw [g1] at hg
   exact fout_on hE hlen j e h1 (by rw [hg]; intro _ h; cases h)) (fun j f hf hn=>by
   obtain ⟨e,h1,rfl⟩:=hmem hf
   obtain ⟨g1,_,_,g4⟩:=eAt_g (sAt L s l E) l.length allD j e
   rw [g1]
   exact fout_nb hE hlen j e h1 (fun h=>hn (g4.2 h))) (fun j f hf=>by
   obtain ⟨e,h1,rfl⟩:=hmem hf
   have:=hS.ent j e h1 (hd j (hlt h1))
   rwa [eAt_congr (d':=allD) fun q se h=>hd q (findT_spec h).1] at this) (fun i j b hi hj h1 h2=>by
   rw [hownE] at h1 h2
   exact hS.ap i j b (hd i hi) (hd j hj) h1 h2) (fun i b hi h1=>by
   rw [hownE] at h1
   exact (hS.bd i b (hd i hi) h1).1) l.length 0 _ a0 [] (by omega) (fun b hb=>by cases hb) (by rw [show bs.more []=bs by simp [Bs.more]]; exact hSr)
  simp only [List.drop_zero] at hR2
  rw [List.drop_length]
  exact hk _ _ _ _ h2 hR2
end
end Vc
end Go.Proofs.YtkdjilgddbjcaaaGreat
