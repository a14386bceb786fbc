import Derived.Test.YtbohkigffejhoaaGreatR02
import Derived.OrdersHeld
namespace Go.Proofs.YtbohkigffejhoaaGreat
open Go.RowKit
def aFT (o:Oper):Bool :=
 match o.op with
 | .move _ | .assign _ | .pick .. | .load .. | .fieldAddr .. | .field .. | .indexAddr .. | .index .. | .binOp .. | .unOp .. | .build .. | .extract .. | .convert .. | .slice .. | .makeFunc .. | .nilCheck _=>true
 | _=>false
theorem aOF {P:Program} {s:Sem Value} {w w':World} {n:Next} (h:(do pure (Next.value (<- s)):Sem Next).run P w=.ok n w'):∃ u,n=.value u:=by
 rw [Sem.run_bind] at h
 cases hs:s.run P w with
 | ok a w1=>rw [hs] at h; simp [Sem.run_pure] at h; exact ⟨a,h.1.symm⟩
 | halt x w1=>rw [hs] at h; simp at h
theorem a5f {α:Type} {r:Result α} {k:α->World->Result Next} {n:Next} {w':World} (h:r.andThen k=.ok n w') (hk:∀ a w1,k a w1=.ok n w'->∃ u,n=.value u):∃ u,n=.value u:=by
 cases r with
 | ok a w1=>exact hk a w1 h
 | halt x w1=>simp [Result.andThen] at h
theorem aIu {P:Program} {o:Oper} {ρ:Operand->Value} {w w':World} {n:Next} (hf:aFT o=true) (h:(execOp ρ o).run P w=.ok n w'):∃ u,n=.value u:=by
 obtain ⟨dst,op,type,pos,after,guard⟩:=o;unfold aFT at hf;cases op <;> simp only [Bool.false_eq_true] at hf <;> simp only [execOp] at h
 case move x=>simp [Sem.run_pure] at h; exact ⟨_,h.1.symm⟩
 case assign x=>simp [Sem.run_pure] at h; exact ⟨_,h.1.symm⟩
 case pick c a b =>
  rw [Sem.run_bind] at h
  cases hs:(asBool (ρ c)).run P w with
  | ok a w1=>rw [hs] at h; simp [Sem.run_pure] at h; exact ⟨_,h.1.symm⟩
  | halt x w1=>rw [hs] at h; simp at h
 case nilCheck x =>
  repeat' (first | split at h | (rw [Sem.run_bind] at h))
  all_goals first
   | (simp [Sem.run_pure] at h; exact ⟨_,h.1.symm⟩)
   | (exfalso; simp [runtimePanic] at h; done)
   | (refine a5f h fun a w1 h=>?_
      rw [Sem.run_bind] at h;refine a5f h fun b w2 h=>?_;split at h
      ·rw [Sem.run_bind] at h;refine a5f h fun _ _ h=>?_;simp [Sem.run_pure] at h;exact ⟨_,h.1.symm⟩
      ·simp [Sem.run_pure] at h
       exact ⟨_,h.1.symm⟩)
 all_goals exact aOF h
section
variable {P:Program} {Q:Exit->Act->World->Prop} {l:List Oper} {n:Nat} {S:World->Prop} {ops:Array Oper}
theorem a7O {o:Oper} {a:Act} {v:Value} (hf:aFT o=true) (h:∀ w,S w->o.quietAt P a S w v) (w:World) (hS:S w):(execOp a.eval o).run P w=.ok (.value v) w:=by
 have h1:=h w hS;unfold Oper.quietAt at h1
 cases hr:(execOp a.eval o).run P w with
 | halt x w'=>rw [hr] at h1; exact h1.elim
 | ok x w' =>
   obtain ⟨u,rfl⟩:=aIu hf hr;rw [hr] at h1;obtain ⟨e1,e2⟩:=h1;rw [e1,e2]
def a3O (Q:Exit->Act->World->Prop) (K:Act->World->Prop):Exit->Act->World->Prop
 | .normal,a,w=>K a w
 | e,a,w=>Q e a w
def aJ3 (P:Program) (ops:Array Oper) (S:World->Prop) (Q:Exit->Act->World->Prop) (last:List Oper):List (List Oper × Oper)->Act->World->Prop
 | [],a,w=>wpQuiet P ops S (fun a'=>Q .normal a' w) last a
 | (fl,o) :: rest,a,w=>wpQuiet P ops S (fun a'=>wpList P ops (a3O Q fun a2 w2=>S w2/\aJ3 P ops S Q last rest a2 w2) [o] a' w) fl a
def a4w (ops:Array Oper):List Nat->Array Bool->Option (Array Bool)
 | [],ls=>some ls
 | i :: r,ls=>if (Region.ready .any ops ls).contains i && Region.free .any ops ls i && ((ops[i]?).map aFT).getD false then a4w ops r (ls.setIfInBounds i true) else none
def a2H (l:List Oper) (i:Nat):Oper:=(l[i]?).getD default
theorem a9l {i:Nat} {o:Oper} (h:l.toArray[i]?=some o):a2H l i=o:=by
 have:l[i]?=some o:=by simpa using h
 simp [a2H,this]
def b3l (Q:Exit->Act->World->Prop):Prop:=∀ c a d v w,Q (.panic c) (Act.put a d v) w->Q (.panic c) a w
theorem a5H (hs:Region.noSelect l.toArray=true) (hQ:b3l Q) {K:Act->Prop} {w:World} (hS:S w) {f:Nat}:∀ (fl:List Nat) (ls ls':Array Bool) (a:Act),
    a4w l.toArray fl ls=some ls'->(∀ a',K a'->wpAnyH P .any l.toArray Q S f ls' a' w)->wpQuiet P l.toArray S K (fl.map (a2H l)) a->wpAnyH P .any l.toArray Q S (fl.length+f) ls a w:=by
 intro fl
 induction fl with
 | nil =>
   intro ls ls' a h hK hq;simp only [a4w,Option.some.injEq] at h;subst h;rw [List.length_nil,Nat.zero_add]
   exact hK a hq
 | cons i r ih =>
   intro ls ls' a h hK hq;simp only [a4w] at h;split at h
   ·rename_i hc;simp only [Bool.and_eq_true] at hc;obtain ⟨⟨hr,hf⟩,hfl⟩:=hc
    cases ho:l.toArray[i]? with
    | none=>rw [ho] at hfl; cases hfl
    | some o =>
      rw [ho] at hfl
      have hfo:aFT o=true:=by simpa using hfl
      rw [List.map_cons,a9l ho] at hq;rw [List.length_cons,show r.length+1+f=(r.length+f)+1 by omega];simp only [wpQuiet] at hq;by_cases hw:Region.wanted o (yielded l.toArray a.tmps)=true
      ·rw [if_pos hw] at hq;obtain ⟨v,hv,hn⟩:=hq;exact wpAnyH_take ho hs hf hr (fun c a' w' h'=>hQ c a' _ _ w' h') (.inl ⟨hw,fun w' hw'=>a7O hfo hv w' hw'⟩) hS (ih _ _ _ h hK hn)
      ·rw [if_neg hw] at hq;exact wpAnyH_take ho hs hf hr (fun c a' w' h'=>hQ c a' _ _ w' h') (.inr ⟨by simpa using hw,rfl⟩) hS (ih _ _ _ h hK hq)
   ·cases h
theorem aIe {K:Act->World->Prop} (h:LetsOut (a3O Q K)):LetsOut Q:=h
def a2y (P:Program) (l:List Oper) (n:Nat) (Q:Exit->Act->World->Prop):Exit->Act->World->Prop
 | .normal,a,w=>wpList P l.toArray Q (l.drop n) a w
 | .panic _,_,_=>False
 | e,a,w=>Q e a w
theorem aBa (ok:aHl l n):∀ (f:Nat) (rem:List Nat) (ls ls':Array Bool) (a:Act) (w:World),rem.length=f->rem.Nodup->ls.size=l.length->ls'.size=n ->
    (∀ i,i < n->ls.getD i true=ls'.getD i true)->(∀ i,i < n->(ls.getD i true=false ↔ i ∈ rem))->(∀ i,n <= i->i < l.length->ls.getD i true=false)->(∀ i ∈ rem,i < n) ->
    wpAny P .any (l.take n).toArray (a2y P l n Q) f ls' a w->wpAny P .any l.toArray Q (f+(l.length - n)) ls a w:=by
 intro f
 induction f with
 | zero =>
   intro rem ls ls' a w hr hnd hs hs' hsame hmem htl hlt hq;have hrem:rem=[]:=List.length_eq_zero_iff.1 hr;subst hrem;rw [Nat.zero_add]
   exact aMc ok _ n ls a w rfl (Nat.le_refl _) ok.le hs (fun i hi h=>by have:=(hmem i hi).1 h; cases this) htl hq.2
 | succ f ih =>
   intro rem ls ls' a w hr hnd hs hs' hsame hmem htl hlt hq;have le:=ok.le
   have hready:∀ i,i < n->(i ∈ Region.ready .any (l.take n).toArray ls' ↔ i ∈ Region.ready .any l.toArray ls):=fun i hi=>by
    rw [mem_ready,mem_ready,hsame i hi,take_get i hi];have hsz:ls'.size=n:=hs'
    have key:∀ o,l.toArray[i]?=some o->((∀ e ∈ o.after,Region.binds .any e=true->ls'.getD e.on false=true) ↔ (∀ e ∈ o.after,Region.binds .any e=true->ls.getD e.on false=true)):=fun o ho=>by
     refine forall_congr' fun e=>forall_congr' fun he=>forall_congr' fun hb=>?_;have h1:e.on < i:=ok.low i o ho e he hb;have h2:=hsame e.on (by omega)
     have h3:e.on < ls'.size:=by omega
     have h4:e.on < ls.size:=by omega
     simp [h3,h4] at h2 ⊢;rw [h2]
    constructor
    ·rintro ⟨p,o,ho,q⟩; exact ⟨p,o,ho,(key o ho).1 q⟩
    ·rintro ⟨p,o,ho,q⟩; exact ⟨p,o,ho,(key o ho).2 q⟩
   have hex:∃ i,i ∈ rem:=by
    cases rem with
    | nil=>simp at hr
    | cons x _=>exact ⟨x,List.mem_cons_self ..⟩
   have hleast:∃ i,i < n/\ls.getD i true=false/\∀ k,k < i->ls.getD k true ≠ false:=by
    obtain ⟨i,hi⟩:=hex
    have:∀ (m i:Nat),i <= m->i < n->ls.getD i true=false->∃ i,i < n/\ls.getD i true=false/\∀ k,k < i->ls.getD k true ≠ false:=by
     intro m
     induction m with
     | zero=>intro i h0 h1 h2; exact ⟨i,h1,h2,fun k hk=>by omega⟩
     | succ m ihm =>
       intro i h0 h1 h2;by_cases h:∃ k,k < i/\ls.getD k true=false
       ·obtain ⟨k,hk,hk2⟩:=h; exact ihm k (by omega) (by omega) hk2
       ·exact ⟨i,h1,h2,fun k hk hk2=>h ⟨k,hk,hk2⟩⟩
    exact this i i (Nat.le_refl _) (hlt i hi) ((hmem i (hlt i hi)).2 hi)
   obtain ⟨i0,hi0,hu0,hmin⟩:=hleast
   have hr0:i0 ∈ Region.ready .any l.toArray ls:=by
    have ho:l.toArray[i0]?=some (l[i0]'(by omega)):=by simp [show i0 < l.length by omega]
    exact mem_ready.2 ⟨hu0,_,ho,fun e he hb=>aAo (by have:=ok.low i0 _ ho e he hb; omega) (hmin _ (ok.low i0 _ ho e he hb))⟩
   rw [show f+1+(l.length - n)=(f+(l.length - n))+1 by omega];refine ⟨fun h=>(by rw [h] at hr0; cases hr0),fun i hi=>?_⟩
   have hin:i < n:=by
    rcases Nat.lt_or_ge i n with h | h
    ·exact h
    ·obtain ⟨hu,o,ho,hall⟩:=mem_ready.1 hi
     have hil:i < l.length:=by have:i < l.toArray.size:=(Array.getElem?_eq_some_iff.1 ho).1; simpa using this
     obtain ⟨k,hk,hkk⟩:=ok.waits i i0 hil h (by omega);obtain ⟨oj,hoj,e,he,hb,hon⟩:=Region.waitsFor_spec hk;have:oj=o:=Option.some.inj (hoj.symm.trans ho);subst this;have h3:=hall e he hb
     have hk0:ls.getD k true=false:=by
      rcases hkk with rfl | ⟨hk1,_,hk2⟩
      ·exact hu0
      ·exact htl k hk1 (by omega)
     rw [hon,getD_both hk0] at h3;cases h3
   have hu:=(mem_ready.1 hi).1;have hirem:i ∈ rem:=(hmem i hin).1 hu;have hq2:=hq.2 i ((hready i hin).2 hi)
   have hq3:wpOp P (l.take n).toArray Q i (wpAny P .any (l.take n).toArray (a2y P l n Q) f (ls'.setIfInBounds i true)) a w:=by
    unfold wpOp at hq2 ⊢;have hQ':LetsOut (a2y P l n Q)->LetsOut Q:=fun h=>h
    cases ho:(l.take n).toArray[i]? with
    | none=>simp only [ho] at hq2 ⊢; exact hq2
    | some o =>
      simp only [ho] at hq2 ⊢;split
      ·rename_i hw;rw [if_pos hw] at hq2
       rcases hq2 with h | ⟨h1,h2⟩
       ·refine .inl ?_
        unfold Oper.wp at *
        generalize (execOp a.eval o).run P w=res at *
        cases res with
        | ok x w' =>
          cases x <;> simp only [Oper.upon] at h ⊢ <;>
           first
            | exact h
            | exact Calls.mono h (fun e w'' he=>by cases e <;> first | exact he | exact he.elim)
        | halt x w'=>cases x <;> simp only [Oper.upon] at h ⊢ <;> first | exact h | exact (h:False).elim
       ·exact .inr ⟨h1,hQ' h2⟩
      ·rename_i hw;rw [if_neg hw] at hq2;exact hq2
   refine aOe ok hin (wpOp_mono (fun a' w' h'=>?_) hq3);refine ih (rem.erase i) (ls.setIfInBounds i true) (ls'.setIfInBounds i true) a' w' ?_ (hnd.erase i) (by simpa using hs) (by simpa using hs') (fun k hk=>?_) (fun k hk=>?_) (fun k hk hk'=>?_) (fun k hk=>hlt k (List.mem_of_mem_erase hk)) h'
   ·rw [List.length_erase_of_mem hirem]; omega
   ·by_cases hki:k=i
    ·subst hki
     have h3:k < ls'.size:=by omega
     have h4:k < ls.size:=by omega
     simp [h3,h4]
    ·rw [getD_set_ne true (by omega),getD_set_ne true (by omega)]; exact hsame k hk
   ·by_cases hki:k=i
    ·subst hki
     have h4:k < ls.size:=by omega
     rw [hnd.mem_erase_iff];simp [h4]
    ·rw [getD_set_ne true (by omega),hmem k hk,hnd.mem_erase_iff];simp [hki]
   ·rw [getD_set_ne true (by omega)]; exact htl k hk hk'
def aO8 (K:Act->World->Prop):Exit->Act->World->Prop
 | .normal,a,w=>K a w
 | _,_,_=>False
theorem a8E {K:Act->World->Prop} {a:Act} {w:World} (h:K a w):aO8 K .normal a w:=h
theorem aEE {K:Act->World->Prop} {o:Oper} {a:Act} {w:World} (hQ:∀ a w,K a w->Q .normal a w) (h:wpList P ops (aO8 K) [o] a w):wpList P ops Q [o] a w:=by
 simp only [wpList] at *
 split
 ·rename_i hw;rw [if_pos hw] at h
  rcases h with h | ⟨h1,a0,w0,h2⟩
  ·refine .inl ?_
   unfold Oper.wp at *
   generalize (execOp a.eval o).run P w=res at *
   cases res with
   | ok x w' =>
     cases x <;> simp only [Oper.upon] at h ⊢ <;>
      first
       | exact hQ _ _ h
       | exact Calls.mono h (fun e w'' he=>by cases e <;> first | exact hQ _ _ he | exact he.elim | (obtain ⟨_,_,h0⟩:=he; exact h0.elim))
       | exact Rows.mono h (fun _ _ he=>hQ _ _ he)
       | exact h
   | halt x w'=>cases x <;> simp only [Oper.upon] at h ⊢ <;> first | exact h | exact (h:False).elim
  ·exact (h2:False).elim
 ·rename_i hw;rw [if_neg hw] at h;exact hQ _ _ h
theorem aOD {last:List Oper} {fl:List Oper} {o:Oper} {rest:List (List Oper × Oper)} {a:Act} {w:World}
    (h:∀ K:Act->World->Prop,(∀ a2 w2,S w2->aJ3 P ops S Q last rest a2 w2->K a2 w2)->wpQuiet P ops S (fun a'=>wpList P ops (aO8 K) [o] a' w) fl a):aJ3 P ops S Q last ((fl,o) :: rest) a w:=by
 have h0:=h (fun a2 w2=>S w2/\aJ3 P ops S Q last rest a2 w2) (fun a2 w2 h1 h2=>⟨h1,h2⟩)
 have mono:∀ (fl:List Oper) (a:Act) {K K':Act->Prop},(∀ a,K a->K' a)->wpQuiet P ops S K fl a->wpQuiet P ops S K' fl a:=by
  intro fl
  induction fl with
  | nil=>intro a K K' hk h; exact hk _ h
  | cons o r ih =>
    intro a K K' hk h
    simp only [wpQuiet] at *
    split
    ·rename_i hw;rw [if_pos hw] at h;exact Oper.quiet_mono (fun a h=>ih a hk h) h
    ·rename_i hw;rw [if_neg hw] at h;exact ih _ hk h
 exact mono fl a (fun a' h'=>aEE (fun _ _ h=>h) h') h0
end
inductive Tree where
 | leaf (last:List Nat)
 | one (fl:List Nat) (i:Nat) (t:Tree)
 | two (fl:List Nat) (i j:Nat) (t u:Tree)
def Tree.count:Tree->Nat
 | .leaf last=>last.length
 | .one fl _ t=>fl.length+1+t.count
 | .two fl _ _ t _=>fl.length+1+t.count
def a4d (ops:Array Oper):Tree->Array Bool->Bool
 | .leaf last,ls=>match a4w ops last ls with
   | some ls'=>(Region.ready .any ops ls').isEmpty
   | none=>false
 | .one fl i t,ls=>match a4w ops fl ls with
   | some ls'=>Region.ready .any ops ls' == [i] && (ops[i]?).isSome && a4d ops t (ls'.setIfInBounds i true)
   | none=>false
 | .two fl i j t u,ls=>match a4w ops fl ls with
   | some ls'=>Region.ready .any ops ls' == [i,j] && (ops[i]?).isSome && (ops[j]?).isSome && t.count == u.count && a4d ops t (ls'.setIfInBounds i true) && a4d ops u (ls'.setIfInBounds j true)
   | none=>false
def b0H (ops:Array Oper) (t:Tree):Bool :=
 Region.noSelect ops && t.count == ops.size && a4d ops t (Array.replicate ops.size false)
section
variable {P:Program} {Q:Exit->Act->World->Prop} {l:List Oper} {n:Nat} {S:World->Prop} {ops:Array Oper}
def a4c (P:Program) (l:List Oper) (ops:Array Oper) (S:World->Prop) (Q:Exit->Act->World->Prop):Tree->Act->World->Prop
 | .leaf last,a,w=>wpQuiet P ops S (fun a'=>Q .normal a' w) (last.map (a2H l)) a
 | .one fl i t,a,w=>wpQuiet P ops S (fun a'=>wpList P ops (a3O Q fun a2 w2=>S w2/\a4c P l ops S Q t a2 w2) [a2H l i] a' w) (fl.map (a2H l)) a
 | .two fl i j t u,a,w=>wpQuiet P ops S (fun a'=>wpList P ops (a3O Q fun a2 w2=>S w2/\a4c P l ops S Q t a2 w2) [a2H l i] a' w/\wpList P ops (a3O Q fun a2 w2=>S w2/\a4c P l ops S Q u a2 w2) [a2H l j] a' w) (fl.map (a2H l)) a
theorem aCU {K:Act->World->Prop} {K':Act->World->Prop} {j:Nat} {o:Oper} (ho:l.toArray[j]?=some o) (hK:∀ a w,K a w->K' a w) {a:Act} {w:World}
    (hk:wpList P l.toArray (a3O Q K) [o] a w):wpOp P l.toArray Q j K' a w:=by
 unfold wpOp;simp only [ho];simp only [wpList] at hk;split
 ·rename_i hw;rw [if_pos hw] at hk
  rcases hk with hk | ⟨hk1,hk2⟩
  ·refine .inl ?_
   have key:∀ (res:Result Next),o.upon P a (fun a2 w2=>a3O Q K .normal a2 w2) (a3O Q K) res->o.upon P a K' Q res:=by
    intro res hu
    cases res with
    | ok x w' =>
      cases x <;> simp only [Oper.upon] at hu ⊢ <;>
       first
        | exact hu.elim
        | exact hK _ _ hu
        | exact Calls.mono hu (fun e w'' he=>by cases e <;> first | exact hK _ _ he | exact he)
        | exact Rows.mono hu (fun _ _ he=>hK _ _ he)
    | halt x w'=>cases x <;> simp only [Oper.upon] at hu ⊢ <;> first | exact hu | exact hu.elim
   exact key _ hk
  ·exact .inr ⟨hk1,aIe hk2⟩
 ·rename_i hw;rw [if_neg hw] at hk;exact hK _ _ hk
theorem a5S (hs:Region.noSelect l.toArray=true) (hQ:b3l Q):∀ (t:Tree) (ls:Array Bool) (a:Act) (w:World),
    a4d l.toArray t ls=true->S w->a4c P l l.toArray S Q t a w->wpAnyH P .any l.toArray Q S t.count ls a w
 | .leaf last,ls,a,w,hB,hS,h=>by
   simp only [a4d] at hB
   cases hf:a4w l.toArray last ls with
   | none=>rw [hf] at hB; cases hB
   | some ls' =>
     rw [hf] at hB
     have hr:Region.ready .any l.toArray ls'=[]:=by simpa using hB
     have:=a5H (P:=P) (Q:=Q) hs hQ (K:=fun a'=>Q .normal a' w) hS (f:=0) last ls ls' a hf (fun a' h'=>⟨hr,h'⟩) h
     simpa [Tree.count] using this
 | .one fl i t,ls,a,w,hB,hS,h=>by
   simp only [a4d] at hB
   cases hf:a4w l.toArray fl ls with
   | none=>rw [hf] at hB; cases hB
   | some ls' =>
     rw [hf] at hB;simp only [Bool.and_eq_true,beq_iff_eq] at hB;obtain ⟨⟨hr,hi⟩,hB2⟩:=hB;obtain ⟨o,ho⟩:=Option.isSome_iff_exists.1 hi;have h':wpQuiet P l.toArray S (fun a'=>wpList P l.toArray (a3O Q fun a2 w2=>S w2/\a4c P l l.toArray S Q t a2 w2) [a2H l i] a' w) (fl.map (a2H l)) a:=h;rw [a9l ho] at h';have:=a5H (P:=P) (Q:=Q) hs hQ hS (f:=t.count+1) fl ls ls' a hf (fun a' hk=>?_) h'
     ·rw [show (Tree.one fl i t).count=fl.length+(t.count+1) by simp [Tree.count]; omega];exact this
     ·refine wpAnyH_all hr (by simp) fun j hj=>?_
      obtain rfl:j=i:=by simpa using hj
      exact aCU ho (fun a2 w2 h2=>⟨h2.1,a5S hs hQ t _ _ _ hB2 h2.1 h2.2⟩) hk
 | .two fl i i' t u,ls,a,w,hB,hS,h=>by
   simp only [a4d] at hB
   cases hf:a4w l.toArray fl ls with
   | none=>rw [hf] at hB; cases hB
   | some ls' =>
     rw [hf] at hB;simp only [Bool.and_eq_true,beq_iff_eq] at hB;obtain ⟨⟨⟨⟨⟨hr,hi⟩,hi'⟩,hc⟩,hB2⟩,hB3⟩:=hB;obtain ⟨o,ho⟩:=Option.isSome_iff_exists.1 hi;obtain ⟨o',ho'⟩:=Option.isSome_iff_exists.1 hi';have h':wpQuiet P l.toArray S (fun a'=>wpList P l.toArray (a3O Q fun a2 w2=>S w2/\a4c P l l.toArray S Q t a2 w2) [a2H l i] a' w/\wpList P l.toArray (a3O Q fun a2 w2=>S w2/\a4c P l l.toArray S Q u a2 w2) [a2H l i'] a' w) (fl.map (a2H l)) a:=h;rw [a9l ho,a9l ho'] at h';have:=a5H (P:=P) (Q:=Q) hs hQ hS (f:=t.count+1) fl ls ls' a hf (fun a' hk=>?_) h'
     ·rw [show (Tree.two fl i i' t u).count=fl.length+(t.count+1) by simp [Tree.count]; omega];exact this
     ·refine wpAnyH_all hr (by simp) fun j hj=>?_
      have hj2:j=i \/ j=i':=by simpa using hj
      rcases hj2 with rfl | rfl
      ·exact aCU ho (fun a2 w2 h2=>⟨h2.1,a5S hs hQ t _ _ _ hB2 h2.1 h2.2⟩) hk.1
      ·rw [hc];exact aCU ho' (fun a2 w2 h2=>⟨h2.1,a5S hs hQ u _ _ _ hB3 h2.1 h2.2⟩) hk.2
theorem aA9 {id:Nat} {a:Act} {w:World} (S:World->Prop) (n:Nat) (t:Tree) (hm:P.follows .mixedOrders=true) (hB:b0H (l.take n).toArray t=true) (hT:aW7 l.toArray n=true) (hS:S w.drew)
    (h:a4c P (l.take n) (l.take n).toArray S (a2y P l n Q) t a w.drew):(Code.region id l.toArray true).wp P Q a w:=by
 have ok:=aOr hT;have le:=ok.le
 have htl:(l.take n).length=n:=by simp; omega
 simp only [b0H,Bool.and_eq_true,beq_iff_eq] at hB;obtain ⟨⟨h1,h2⟩,h3⟩:=hB;refine wp_region_any hm ?_;have hq:=wpAny_of_held _ _ _ _ (a5S (l:=l.take n) (Q:=a2y P l n Q) h1 (fun _ _ _ _ _ h=>h) t _ a w.drew h3 hS h);rw [h2] at hq
 have hsz':(l.take n).toArray.size=n:=by simpa using htl
 rw [hsz'] at hq;have:=aBa (P:=P) (Q:=Q) ok n (List.range n) (Array.replicate l.toArray.size false) (Array.replicate n false) a w.drew (by simp) List.nodup_range (by simp) (by simp) (fun i hi=>?_) (fun i hi=>?_) (fun i hi hi'=>?_) (fun i hi=>by simpa using hi) hq
 ·have hsz:n+(l.length - n)=l.toArray.size:=by simp; omega
  rw [hsz] at this;exact this
 ·have h1:i < l.length:=by omega
  simp only [Array.getD,Array.size_replicate,List.size_toArray,h1,hi,dif_pos];simp
 ·have h1:i < l.length:=by omega
  simp [h1,hi]
 ·simp [hi']
theorem aJ6 {fl:List Nat} {i:Nat} {t:Tree} {a:Act} {w:World}
    (h:∀ K:Act->World->Prop,(∀ a2 w2,S w2->a4c P l ops S Q t a2 w2->K a2 w2)->wpQuiet P ops S (fun a'=>wpList P ops (aO8 K) [a2H l i] a' w) (fl.map (a2H l)) a):a4c P l ops S Q (.one fl i t) a w :=
 aOD (last:=[]) (rest:=[]) (S:=S) (Q:=fun e a2 w2=>match e with | .normal=>a4c P l ops S Q t a2 w2 | e=>Q e a2 w2) (fun K hK=>h K fun a2 w2 h1 h2=>hK a2 w2 h1 h2)
theorem aOn {last:List Nat} {a:Act} {w:World} {l':List Oper} (h:wpQuiet P ops S (fun a'=>wpList P l'.toArray Q (l'.drop n) a' w) (last.map (a2H l)) a):a4c P l ops S (a2y P l' n Q) (.leaf last) a w:=h
theorem aOm {i:Nat} {t:Tree} {a:Act} {w:World}
    (h:∀ K:Act->World->Prop,(∀ a2 w2,S w2->a4c P l ops S Q t a2 w2->K a2 w2)->wpList P ops (aO8 K) [a2H l i] a w):a4c P l ops S Q (.one [] i t) a w :=
 aJ6 fun K hK=>wpQuiet_nil (h K hK)
