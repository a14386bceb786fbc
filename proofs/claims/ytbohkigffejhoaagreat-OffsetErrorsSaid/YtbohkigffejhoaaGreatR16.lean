import Derived.Test.YtbohkigffejhoaaGreatR15
import Derived.Deep.LoopGhost
import Derived.Laws.MakeOwn
import Derived.Test.YtbohkigffejhoaaGreatR07
import Derived.Test.YtbohkigffejhoaaGreatR09
open Bool (and_eq_true)
open List (all_eq_true cons_append getElem?_map mem_append mem_cons mem_cons_of_mem mem_cons_self mem_filter mem_map mem_of_mem_take nil_append not_mem_nil)
open Nat (beq_eq ble_eq blt_eq le_refl)
open Option.some (injEq)
open Go.Proofs.Tryz (prog)
namespace Go.Proofs.YtbohkigffejhoaaGreat
open Go.RowKit
namespace Vc
section
variable {P:Program} {L:List Lay} {C:List Ctr} {W0 w0:World} {F:List (Option Nat)} {bs:Bs} {s:St} {a0:Act}
def a0u:List Oper->Nat
 | []=>0
 | o :: r =>
   match o.op with
   | .store _ _ _=>0
   | _=>a0u r+1
def a8f:List Oper->Nat
 | []=>0
 | o :: r =>
   match o.op with
   | .store _ _ _=>0
   | .assign _=>0
   | _=>a8f r+1
def aIt (ops:List Oper):Nat:=bif a4A ops (a8f ops) then a8f ops else a0u ops
def aLX:List Oper->Bool
 | []=>false
 | o :: r=>o.guard.isSome || aLX r
def b2r (c:Option Nat) (ops:List Oper):Nat :=
 match c with
 | some n=>bif a4A ops n && Nat.ble n (a0u ops) then n else aIt ops
 | none=>aIt ops
def aCe (n:Nat) (ops:List Oper) (m:Nat):Bool:=a2l (ops.take n) && aC0 (ops.take n) && a4A ops n && a1L (ops.take n) m
def aFL (n:Nat):List Oper->Bool
 | []=>true
 | o :: r=>(match o.guard with | some g=>Nat.blt g.1 n | none=>true) && aFL n r
theorem aAn {n:Nat}:∀ {l:List Oper} {i:Nat} {o:Oper} {g:Nat × Bool},aFL n l=true->l[i]?=some o->o.guard=some g->g.1 < n
 | [],_,_,_,_,h,_=>by simp at h
 | x :: r,0,o,g,h,hi,hg=>by
   simp only [aFL,and_eq_true] at h
   obtain rfl:x=o:=by simpa using hi
   rw [hg] at h
   simpa using h.1
 | x :: r,i+1,o,g,h,hi,hg=>by
   simp only [aFL,and_eq_true] at h;exact aAn h.2 (by simpa using hi) hg
theorem a7r:∀ l:List Oper,a0u l <= l.length
 | []=>le_refl _
 | o :: r=>by
   unfold a0u;split
   ·exact Nat.zero_le _
   ·have:=a7r r;simp only [List.length_cons]; omega
theorem a9Q:∀ {l:List Oper} {i:Nat} {o:Oper},(l.take (a0u l))[i]?=some o->aME o=false
 | [],i,o,h=>by simp at h
 | x :: r,i,o,h=>by
   unfold a0u at h;split at h
   ·simp at h
   ·rename_i hx
    cases i with
    | zero =>
      obtain rfl:x=o:=by simpa using h
      unfold aME;split
      ·rename_i hs; exact absurd hs (hx _ _ _)
      ·rfl
    | succ i=>exact a9Q (l:=r) (by simpa using h)
theorem aCc:∀ l:List Oper,a8f l <= a0u l
 | []=>le_refl _
 | o :: r=>by
   unfold a8f a0u;have:=aCc r
   split <;> split <;> first | omega | simp_all
theorem aDm (l:List Oper):aIt l <= a0u l:=by
 unfold aIt
 cases a4A l (a8f l) with
 | true=>exact aCc l
 | false=>exact le_refl _
theorem aY6 (c:Option Nat) (l:List Oper):b2r c l <= a0u l:=by
 unfold b2r
 cases c with
 | none=>exact aDm l
 | some n =>
   simp only
   cases h:a4A l n && Nat.ble n (a0u l) with
   | true =>
     simp only [and_eq_true,ble_eq] at h
     exact h.2
   | false=>exact aDm l
theorem aPh {l:List Oper} {n i:Nat} {o:Oper} (hle:n <= a0u l) (h:(l.take n)[i]?=some o):aME o=false:=by
 refine a9Q (l:=l) (i:=i) ?_;rw [List.getElem?_take] at h ⊢;split at h
 ·rw [if_pos (by omega)]; exact h
 ·cases h
def aVL (ops:List Oper) (m:Nat):Bool:=a2l (ops.take (a0u ops)) && aC0 (ops.take (a0u ops)) && a1L (ops.take (a0u ops)) m && aFL (a0u ops) (ops.take (a0u ops))
theorem a4K {b:Bool} {p:Prop} (h:bif b then p else False):b=true/\p:=by
 cases b with
 | true=>exact ⟨rfl,h⟩
 | false=>exact h.elim
def aY4 (f:Nat->Prop):List Nat->Prop
 | []=>True
 | i :: r=>f i/\aY4 f r
theorem aFX {f:Nat->Prop}:∀ {l:List Nat},aY4 f l->∀ i ∈ l,f i
 | _ :: _,h,i,hi=>by
   rcases mem_cons.1 hi with rfl | hi
   ·exact h.1
   ·exact aFX h.2 i hi
def b0l (L:List Lay) (C:List Ctr) (ops:List Oper) (K:St->Prop):Nat->Array Bool->St->Prop
 | 0,ls,s=>bif (Region.ready .any ops.toArray ls).isEmpty then K s else False
 | d+1,ls,s =>
   bif (Region.ready .any ops.toArray ls).isEmpty then False
   else aY4 (fun i=>match ops[i]? with
    | some o=>aop L C o s fun s'=>b0l L C ops K d (ls.setIfInBounds i true) s'
    | none=>False) (Region.ready .any ops.toArray ls)
theorem aNJ (hz:none ∉ F) (hL:∀ l ∈ L,a1I P l) (hC:∀ c ∈ C,CtrOK P c) {Q:Exit->Act->World->Prop} {l:List Oper} {K:St->Prop} (hk:∀ s' bs' a' w',K s'->Rl W0 F bs' s' a' w'->Q .normal a' w') :
    ∀ (d:Nat) (ls:Array Bool) (s:St) (bs:Bs) (a:Act) (w:World),b0l L C l K d ls s->Rl W0 F bs s a w->wpAny P .any l.toArray Q d ls a w:=by
 intro d
 induction d with
 | zero =>
   intro ls s bs a w h hR;simp only [b0l] at h;obtain ⟨h1,h2⟩:=a4K h
   exact ⟨List.isEmpty_iff.1 h1,hk _ _ _ _ h2 hR⟩
 | succ d ih =>
   intro ls s bs a w h hR;simp only [b0l] at h
   cases hr:(Region.ready .any l.toArray ls).isEmpty with
   | true=>rw [hr] at h; exact h.elim
   | false =>
     rw [hr] at h;simp only [cond_false] at h;refine ⟨fun he=>(by rw [he] at hr; cases hr),fun i hi=>?_⟩;have hx:=aFX h i hi;split at hx
     ·rename_i o ho;obtain ⟨hg,h2⟩:=aLW (Q:=Q) hz hL hC hx hR
      have hoa:l.toArray[i]?=some o:=by simpa using ho
      unfold wpOp;simp only [hoa]
      have hw:Region.wanted o (yielded l.toArray a.tmps)=true:=by unfold Region.wanted; rw [hg]
      rw [if_pos hw];exact .inl (h2 _ fun s' bs' a' w' hK hR'=>ih _ s' bs' a' w' hK hR')
     ·exact hx.elim
def b3S (o:Oper):Bool :=
 match o.op with
 | .makeSlice ..=>true
 | _=>false
def aVz (L:List Lay) (s:St) (o1 o2 o3:Oper):Option ((Int × Int) × (Nat × Nat × Nat)) :=
 match o1.op,o2.op,o3.op,o1.guard,o2.guard,o3.guard,o1.dst,o2.dst,o3.dst with
 | .makeSlice T x y,.buildSlice T2 1 ps,.call c,none,none,none,some d1,some d2,some d3 =>
   match a09 L T,evS s x,evS s y,a8u L (evS s) o2.op,c.callee,c.args.toList,c.argTypes.toList with
   | some l,.k (.c (.v (.int .i64 n))),.k (.c (.v (.int .i64 m))),some (_,.k (.c (.sl [_]))),.builtin .append,[.tmp e1,.tmp e2],[U,V] =>
     bif ps.toList.all (fun p=>match p.2 with | .const _=>true | _=>false) && Nat.beq l.kd 2 && Nat.beq T2 T && Nat.beq U T && Nat.beq V T && Nat.beq e1 d1 && Nat.beq e2 d2 && Nat.ble (d1+1) d2 && Nat.ble (d2+1) s.tm.length then some ((n,m),(d1,d2,d3)) else none
   | _,_,_,_,_,_,_=>none
 | _,_,_,_,_,_,_,_,_=>none
def aZp (L:List Lay) (o1 o2 o3:Oper) (s:St) (K:St->Prop):Prop :=
 match aVz L s o1 o2 o3,a8u L (evS s) o2.op with
 | some ((n,m),(d1,d2,d3)),some (pre,.k (.c (.sl l)))=>(n=m/\0 <= n/\n <= 1000000)/\due pre/\K (a4u (a4u (a4u s (some d1) .u) (some d2) .u) (some d3) (.k (.c (.sl (List.replicate n.toNat 0 ++ l)))))
 | _,_=>False
def aUG (L:List Lay) (C:List Ctr):List Oper->St->(St->Prop)->Prop
 | o1 :: o2 :: o3 :: r,s,K=>bif b3S o1 then aZp L o1 o2 o3 s fun s'=>aZm L C r s' K else aop L C o1 s fun s'=>aUG L C (o2 :: o3 :: r) s' K
 | l,s,K=>aZm L C l s K
theorem aR9 {a:Act} {t:Nat} {v:Value} (h:t < a.tmps.size):(a.put (some t) v).eval (.tmp t)=v:=by
 simp [Act.put,Act.eval,Array.getD,h]
theorem aNH {a:Act} {t t':Nat} {v:Value} (h:t ≠ t'):(a.put (some t) v).eval (.tmp t')=a.eval (.tmp t'):=by
 simp only [Act.put,Act.eval,Array.getD_eq_getD_getElem?];rw [Array.getElem?_setIfInBounds_ne (by simpa using h)]
theorem aUH {a:Act} {d:Option Nat} {v:Value}:(a.put d v).tmps.size=a.tmps.size:=by cases d <;> simp [Act.put]
theorem aR5 {α:Type} {b:Bool} {x r:α} (h:(bif b then some x else none)=some r):b=true/\x=r:=by
 cases b with
 | false=>cases h
 | true=>exact ⟨rfl,by simpa using h⟩
theorem aMI (ev ev':Operand->AV) (ps:List (Nat × Operand)) (h:∀ p ∈ ps,ev p.2=ev' p.2):∀ n,aVe ev ps n=aVe ev' ps n:=by
 induction ps with
 | nil=>intro n; rfl
 | cons p ps ih =>
   intro n;obtain ⟨i,x⟩:=p;unfold aVe;rw [h (i,x) (mem_cons_self ..),ih (fun q hq=>h q (mem_cons_of_mem _ hq))]
theorem aQI (s s':St) (v:Value):evS s (.const v)=evS s' (.const v):=by
 cases v with
 | slice a n c=>cases a <;> cases n <;> cases c <;> rfl
 | _=>rfl
theorem aJz (hL:∀ l ∈ L,a1I P l) {ops:Array Oper} {Q:Exit->Act->World->Prop} {o1 o2 o3:Oper} {r:List Oper} {a:Act} {w:World} {K:St->Prop} (h:aZp L o1 o2 o3 s K) (hR:Rl W0 F bs s a w)
    (hk:∀ s' bs' a' w',K s'->Rl W0 F bs' s' a' w'->wpList P ops Q r a' w'):wpList P ops Q (o1 :: o2 :: o3 :: r) a w:=by
 unfold aZp at h
 split at h <;> try exact h.elim
 rename_i n m d1 d2 d3 pre l hf hmk;obtain ⟨⟨rfl,hn0,hn1⟩,hdue,hK⟩:=h;unfold aVz at hf
 split at hf <;> try (cases hf; done)
 rename_i T x y T2 ps c d1' d2' d3' ho1 ho2 ho3 hg1 hg2 hg3 hd1 hd2 hd3
 split at hf <;> try (cases hf; done)
 rename_i la n' m' pre' z e1 e2 U V hla hx hy hmk' hcal hargs htys;obtain ⟨hc,hq⟩:=aR5 (x:=((n',m'),(d1',d2',d3'))) (r:=((n,n),(d1,d2,d3))) hf;clear hf;simp only [and_eq_true,beq_eq,ble_eq] at hc;obtain ⟨⟨⟨⟨⟨⟨⟨⟨hcs,hk2⟩,rfl⟩,rfl⟩,rfl⟩,rfl⟩,rfl⟩,hlt⟩,hlt2⟩:=hc;cases hq;rw [hmk] at hmk';simp only [injEq,Prod.mk.injEq,AV.k.injEq,AK.c.injEq,AC.sl.injEq] at hmk';obtain ⟨_,rfl⟩:=hmk';obtain ⟨hm,rfl⟩:=a0c hla;obtain ⟨e,ie,z0,hu,hi,hsz,hz,hzc,hby⟩:=(hL la hm).slice hk2;have hz0:=(hL la hm).zero2 hk2 e ie hu hi;rw [hz] at hz0;cases hz0;have hxv:=hR.ev x;rw [hx] at hxv;have hyv:=hR.ev y;rw [hy] at hyv;obtain ⟨k,rfl⟩:=Int.eq_ofNat_of_zero_le hn0;rw [Int.toNat_natCast] at hK
 have run1:(execOp a.eval o1).run P w=.ok (.value (.slice (some ⟨w.heap.size,0,none⟩) k k)) (w.alloc (.cells (Array.replicate k (.int .u32 0)) e)):=by
  have:=run_make (P:=P) w la.t e ie (.int .u32 0) hu hi hz .i64 .i64 (k:Int) (k:Int) (by omega) (Int.le_refl _) (by rw [hby]; omega) (by omega);rw [hsz,Int.toNat_natCast,show (Value.int IntKind.u32 0).cells=#[Value.int .u32 0] from rfl,aB4] at this;simp only [execOp,ho1,hxv.1,hyv.1];exact a0O this
 refine wpList_plain hg1 fun K1 hK1=>?_;unfold Oper.wp;rw [run1];refine hK1 _ _ ?_
 obtain ⟨w1,hw1⟩:∃ w1,w.alloc (.cells (Array.replicate k (.int .u32 0)) e)=w1:=⟨_,rfl⟩
 have hE1:Ext w w1:=by rw [<- hw1]; exact (Ext.refl w).alloc _
 have hb1:w1.heap[w.heap.size]?=some (.cells (Array.replicate k (.int .u32 0)) e (0,0)):=by rw [<- hw1]; unfold World.alloc; simp
 have hs1:w1.heap.size=w.heap.size+1:=by rw [<- hw1]; unfold World.alloc; simp
 rw [hw1,hd1]
 have hown1:OwnG w.heap.size e 1 uC w1 (.slice (some ⟨w.heap.size,0,none⟩) (List.replicate k 0).length (List.replicate k 0).length) (List.replicate k 0):=by
  refine ⟨by simp [a3L a6h],.inr ⟨w.heap.size,_,_,rfl,le_refl _,hb1,le_refl _,by simp [maxLen]; omega,by simp,?_⟩⟩;apply List.ext_getElem
  ·simp [a3L a6h]
  ·intro i h1 h2
   have hik:i < k:=by simpa using h1
   have:=aDs (f:=uC) a6h (List.replicate k 0) i 0 0 (by simp [hik]) (by decide);rw [Nat.mul_one,Nat.add_zero] at this;rw [List.getElem?_eq_getElem h2] at this;simp [uC] at this;simp [this]
 rw [show (List.replicate k 0).length=k by simp] at hown1;have hR1:Rl W0 F bs (a4u s (some d1) .u) (a.put (some d1) (.slice (some ⟨w.heap.size,0,none⟩) k k)) w1:=(hR.later hE1).put (r:=.u) trivial _
 have hmk1:a8u L (evS (a4u s (some d1) .u)) o2.op=some (pre,.k (.c (.sl [z]))):=by
  rw [<- hmk,ho2];simp only [a8u]
  rw [aMI (evS (a4u s (some d1) .u)) (evS s) ps.toList (fun p hp=>by
   have:=all_eq_true.1 hcs p hp;revert this
   cases p.2 with
   | const v=>intro _; exact aQI _ _ v
   | _=>intro h; cases h)]
 obtain ⟨v2,w2,run2,hE2,hv2⟩:=a5g hL hR1.ev (fun _=>rfl) hmk1 hdue;refine wpList_plain hg2 fun K2 hK2=>?_;unfold Oper.wp;rw [run2];refine hK2 _ _ ?_;rw [hd2];have hown2:=hown1.later hE2;have hsl:SlU w2 v2 [z]:=hv2.1;have htl:=hR.tl
 have eX:((a.put (some d1) (.slice (some ⟨w.heap.size,0,none⟩) k k)).put (some d2) v2).eval (.tmp d1)=.slice (some ⟨w.heap.size,0,none⟩) k k:=by
  rw [aNH (by omega),aR9 (by omega)]
 have eY:((a.put (some d1) (.slice (some ⟨w.heap.size,0,none⟩) k k)).put (some d2) v2).eval (.tmp d2)=v2:=aR9 (by rw [aUH]; omega)
 have ho3':o3.op=.call { callee:=.builtin .append,args:=#[.tmp d1,.tmp d2],argTypes:=#[la.t,la.t] }:=by
  rw [ho3];obtain ⟨cal,args,tys⟩:=c;simp only at hcal hargs htys;subst hcal
  have h1:args=#[.tmp d1,.tmp d2]:=by rw [<- Array.toList_inj]; simpa using hargs
  have h2:tys=#[la.t,la.t]:=by rw [<- Array.toList_inj]; simpa using htys
  rw [h1,h2]
 refine aJw (f:=uC) (k:=1) hg3 _ _ ho3' hu (z:=.int .u32 0) (bytes:=4) (by rw [hi]; simp [hz,hsz,hby]) rfl (by decide) a6h aOk w.heap.size _ _ (List.replicate k 0) [z] eX eY hown2 hsl (by simp [maxLen]; omega) (by simp; omega) (by have:=hE2.size; omega) fun v3 w3 ho hg hat=>?_;have hE3:Ext w w3:=(hE1.trans hE2).grown hg (fun i hi=>by simp only [Value.ownBlock,injEq] at hi; omega);rw [hd3];refine hk _ bs _ _ hK ((((hR.later hE3).put (r:=.u) trivial (some d1)).put (r:=.u) trivial (some d2)).put ?_ (some d3));exact ⟨OwnG.sl a6h ho,trivial⟩
theorem aAR (hz:none ∉ F) (hL:∀ l ∈ L,a1I P l) (hC:∀ c ∈ C,CtrOK P c) {ops:Array Oper} {Q:Exit->Act->World->Prop}:∀ {l:List Oper} {s:St} {bs:Bs} {a:Act} {w:World} {K:St->Prop},aUG L C l s K->Rl W0 F bs s a w ->
    (∀ (s':St) (bs':Bs) (a':Act) (w':World),K s'->Rl W0 F bs' s' a' w'->Q .normal a' w')->wpList P ops Q l a w
 | [],_,_,_,_,_,h,hR,hk=>a2P hz hL hC (l:=[]) h hR hk
 | [o],_,_,_,_,_,h,hR,hk=>a2P hz hL hC (l:=[o]) h hR hk
 | [o,o'],_,_,_,_,_,h,hR,hk=>a2P hz hL hC (l:=[o,o']) h hR hk
 | o1 :: o2 :: o3 :: r,s,bs,a,w,K,h,hR,hk=>by
   unfold aUG at h
   cases hm:b3S o1 with
   | true =>
     rw [hm] at h;simp only [cond_true] at h
     exact aJz hL h hR fun _ _ _ _ h' hR'=>a2P hz hL hC h' hR' hk
   | false =>
     rw [hm] at h;simp only [cond_false] at h;exact aHa hz hL hC h hR fun _ _ _ _ h' hR'=>aAR hz hL hC h' hR' hk
def aUE (L:List Lay) (C:List Ctr) (n:Nat) (ops:List Oper) (s:St) (K:St->Prop):Prop:=aHd L C s (ops.take n) (ops.take n) [] s fun s1=>aZm L C (ops.drop n) s1 K
theorem aE4 {l:List Oper} {E:List Ent} (hE:aL3 L C s l E) (hlen:E.length=l.length):aKy L l=true->∀ (i:Nat) (e:Ent),E[i]?=some e->e.nb=none:=fun hm i e he=>by
 cases hn:e.nb with
 | none=>rfl
 | some x =>
   have:=(aDl hE hlen i e x he hn).2;rw [hm] at this;cases this
theorem aG8 (hz:none ∉ F) (hL:∀ l ∈ L,a1I P l) (hC:∀ c ∈ C,CtrOK P c) {Q:Exit->Act->World->Prop} {n:Nat} {l:List Oper} {K:St->Prop} (hns:n <= a0u l) (hcd:aCe n l s.tm.length=true) (h:aUE L C n l s K) (hR:Rl W0 F bs s a0 w0)
    (hk:∀ s' bs' a' w',K s'->Rl W0 F bs' s' a' w'->Q .normal a' w'):wpAny P .any l.toArray Q l.toArray.size (Array.replicate l.toArray.size false) a0 { w0 with drawn:=w0.drawn+1 }:=by
 have hc:=hcd;have hf:=h;unfold aUE at hf;simp only [aCe,and_eq_true] at hc;obtain ⟨⟨⟨c1,c2⟩,c3⟩,c4⟩:=hc;rw [hR.tl] at c4;obtain ⟨E,e1,e2,e3⟩:=aAS _ _ _ hf (by simp)
 have hE:aL3 L C s (l.take n) E:=fun i o ho=>by
  obtain ⟨pre,e,g1,g2,g3⟩:=e3 i o ho;exact ⟨pre,e,by simpa using g1,g2,g3⟩
 refine aR8 n c1 c2 c3 (R:=fun i v w=>okB bs w=true/\∀ e,E[i]?=some e->EntOK bs W0.heap.size w e v) (own:=a4y E) (fun i v w w' hx h=>⟨a7c h.1 hx.size,fun e he=>(h.2 e he).ext hx h.1⟩) (fun i o ho=>a7p hL hC hE e1 c1 c4 hR (fun h=>absurd h hz) i o ho (aPh hns ho)) (fun vals w hx hv hap hnew=>?_);obtain ⟨bs2,hR2⟩:=aAU (m:=aKy L (l.take n)) hR hx e1 (fun j f hf hg=>aAr hE e1 j f hf (by rw [hg]; intro _ h; cases h)) (aDk hE e1) (fun i e he=>(hv i (by rw [<- e1]; exact (List.getElem?_eq_some_iff.1 he).1)).2 e he) hap hnew (aE4 hE e1) (fun i e x he hn=>(aDl hE e1 i e x he hn).1);exact a2P hz hL hC e2 hR2 hk
def aVE (c:Option Nat):Bool :=
 match c with
 | some n=>Nat.ble 1000 n
 | none=>false
def b2q (c:Option Nat):Bool :=
 match c with
 | some n=>Nat.ble 2000 n
 | none=>false
def b4Y (L:List Lay) (C:List Ctr) (c:Option Nat) (ops:List Oper) (draw:Bool) (s:St) (K:St->Prop):Prop :=
 match draw,aLX ops with
 | true,_=>bif aVE c then (bif Region.noSelect ops.toArray then aJB (b2q c) L C ops K ops.length (Array.replicate ops.length false) s else False)
   else bif aCe (b2r c ops) ops s.tm.length then aUE L C (b2r c ops) ops s K
   else bif Nat.ble ops.length 8 then b0l L C ops K ops.length (Array.replicate ops.length false) s
   else bif aPE (a92 ops) (a0u ops) ops && aCe (aIt (a1f (a92 ops) (a0u ops) 0 ops)) (a1f (a92 ops) (a0u ops) 0 ops) s.tm.length then aUE L C (aIt (a1f (a92 ops) (a0u ops) 0 ops)) (a1f (a92 ops) (a0u ops) 0 ops) s K
   else bif a2l ops && aC0 ops && a1L ops s.tm.length && a4A ops ops.length then aWc L C ops s K else False
 | false,true=>bif aVL ops s.tm.length then aHd L C s (ops.take (a0u ops)) (ops.take (a0u ops)) [] s fun s1=>aZm L C (ops.drop (a0u ops)) s1 K else False
 | false,false=>bif ops.any b3S then aUG L C ops s K else aZm L C ops s K
theorem aND (hz:none ∉ F) (hm:P.follows .mixedOrders=true) (hL:∀ l ∈ L,a1I P l) (hC:∀ c ∈ C,CtrOK P c) {Q:Exit->Act->World->Prop} {c:Option Nat} {l:List Oper} {draw:Bool} {id:Nat} {K:St->Prop} (h:b4Y L C c l draw s K) (hR:Rl W0 F bs s a0 w0)
    (hk:∀ s' bs' a' w',K s'->Rl W0 F bs' s' a' w'->Q .normal a' w'):(Code.region id l.toArray draw).wp P Q a0 w0:=by
 unfold b4Y at h;split at h
 ·cases heg:aVE c with
  | true =>
    rw [heg] at h;simp only [cond_true] at h;obtain ⟨hns,h⟩:=a4K h;have h1:=aJA (Q:=fun e a w=>e=.normal/\Q .normal a w) hz hL hC hns (fun c a w h=>by cases h.1) (fun s' bs' a' w' h hR=>⟨rfl,hk s' bs' a' w' h hR⟩) l.length (Array.replicate l.length false) s bs a0 w0.drew h (hR.later (Ext.refl w0).drew)
    exact wp_mono (wp_region_any hm (by simpa using h1)) fun e a w h=>by
     obtain ⟨rfl,h⟩:=h
     exact h
  | false =>
  rw [heg] at h;simp only [cond_false] at h
  cases hcd:aCe (b2r c l) l s.tm.length with
  | false =>
    rw [hcd] at h;simp only [cond_false] at h
    cases h8:Nat.ble l.length 8 with
    | false =>
      rw [h8] at h;simp only [cond_false] at h
      cases hlt:aPE (a92 l) (a0u l) l && aCe (aIt (a1f (a92 l) (a0u l) 0 l)) (a1f (a92 l) (a0u l) 0 l) s.tm.length with
      | true =>
        rw [hlt] at h;simp only [cond_true] at h;simp only [and_eq_true] at hlt;have h1:=aG8 (Q:=fun e a w=>e=.normal/\Q .normal a w) hz hL hC (aDm _) hlt.2 h hR (fun s' bs' a' w' h hR=>⟨rfl,hk s' bs' a' w' h hR⟩)
        have hsz:(a1f (a92 l) (a0u l) 0 l).toArray.size=l.toArray.size:=by simp [aKM]
        rw [hsz] at h1
        have hi:a92 l < l.length:=by
         have:=hlt.1;unfold aPE at this;split at this
         ·cases this
         ·rename_i oi ho; exact (List.getElem?_eq_some_iff.1 ho).1
        have h2:=aMs (P:=P) hlt.1 (fun c a w h=>by cases h.1) (fun h=>by obtain ⟨a,w,h⟩:=h; cases h.1) _ _ _ _ (by simpa using hi) h1
        exact wp_mono (wp_region_any hm h2) fun e a w h=>by
         obtain ⟨rfl,h⟩:=h
         exact h
      | false =>
      rw [hlt] at h;simp only [cond_false] at h;obtain ⟨hc,hf⟩:=a4K h;simp only [and_eq_true] at hc;obtain ⟨⟨⟨c1,c2⟩,c3⟩,c4⟩:=hc
      exact aG4 hm hL hC hf c1 c2 c3 c4 hR hk
    | true =>
    rw [h8] at h;have hf:b0l L C l K l.length (Array.replicate l.length false) s:=h;refine wp_region_any hm ?_;have:=aNJ hz hL hC (Q:=Q) hk l.length (Array.replicate l.length false) s bs a0 w0.drew hf (hR.later (Ext.refl w0).drew)
    simpa using this
  | true =>
  rw [hcd] at h;simp only [cond_true] at h;exact wp_region_any hm (aG8 hz hL hC (aY6 c l) hcd h hR hk)
 ·obtain ⟨hc,hf⟩:=a4K h;simp only [aVL,and_eq_true] at hc;obtain ⟨⟨⟨c1,c2⟩,c4⟩,c5⟩:=hc;rw [hR.tl] at c4;have hle:=a7r l
  have htl:(l.take (a0u l)).length=a0u l:=by simp; omega
  obtain ⟨E,e1,e2,e3⟩:=aAS _ _ _ hf (by simp)
  have hE:aL3 L C s (l.take (a0u l)) E:=fun i o ho=>by
   obtain ⟨pre,e,g1,g2,g3⟩:=e3 i o ho;exact ⟨pre,e,by simpa using g1,g2,g3⟩
  refine a6y (a0u l) hle (fun i o g ho hi hg=>aAn c5 (i:=i) (by rw [List.getElem?_take_of_lt hi]; simpa using ho) hg) c1 c2 (R:=fun i v w=>okB bs w=true/\∀ e,E[i]?=some e->EntOK bs W0.heap.size w e v) (own:=a4y E) (fun i v w w' hx h=>⟨a7c h.1 hx.size,fun e he=>(h.2 e he).ext hx h.1⟩) (fun i o ho=>a7p hL hC hE e1 c1 c4 hR (fun h=>absurd h hz) i o ho (a9Q ho)) (fun vals w hx hv hap hnew=>?_);rw [<- htl] at hv hap hnew;obtain ⟨bs2,hR2⟩:=aAU (m:=aKy L (l.take (a0u l))) hR hx e1 (fun j f hf hg=>aAr hE e1 j f hf (by rw [hg]; intro _ h; cases h)) (aDk hE e1) (fun i e he=>(hv i (by rw [<- e1]; exact (List.getElem?_eq_some_iff.1 he).1)).2 e he) hap hnew (aE4 hE e1) (fun i e x he hn=>(aDl hE e1 i e x he hn).1);exact a2P hz hL hC e2 hR2 hk
 ·cases hm:l.any b3S with
  | true=>rw [hm] at h; exact wp_region_lit (aAR hz hL hC h hR hk)
  | false=>rw [hm] at h; exact wp_region_lit (a2P hz hL hC h hR hk)
def b2m:(s t:Sc)->List s.T->List t.T->Prop
 | .P,.P,a,b=>a=b
 | .U,.U,a,b=>a=b
 | .V,.V,a,b=>a=b
 | .C,.C,a,b=>a=b
 | .F,.F,a,b=>a=b
 | _,_,_,_=>False
theorem aDo:∀ {s t:Sc} {l:List s.T} {r:List t.T},b2m s t l r->∃ e:s=t,e ▸ l=r:=by
 intro s t l r h
 cases s <;> cases t <;> first | exact h.elim | exact ⟨rfl,h⟩
def eqL:List AC->List AC->Prop
 | .I a :: xs,.I b :: ys=>a=b/\eqL xs ys
 | .I a :: .I b :: xs,.R q :: ys=>a=q.num/\b=(q.den:Int)/\eqL xs ys
 | .R a :: xs,.R b :: ys=>a=b/\eqL xs ys
 | .v a :: xs,.v b :: ys=>a=b/\eqL xs ys
 | .sl a :: xs,.sl b :: ys=>a=b/\eqL xs ys
 | .v a :: .sl l :: xs,.I z :: ys=>a=.bool (decide (z < 0))/\l=Lb.limbs z.natAbs/\eqL xs ys
 | .pl k a :: xs,.pl j b :: ys=>k=j/\a=b/\eqL xs ys
 | .Z a p :: xs,.Z b q :: ys=>a=b/\p=q/\eqL xs ys
 | .R p :: xs,.Z b q :: ys=>b=true/\p=q/\eqL xs ys
 | .v a :: .sl l :: .v c :: .sl m :: xs,.Z b _ :: ys=>(a=.bool false/\l=[]/\c=.bool false/\m=[])/\b=false/\eqL xs ys
 | .rd s f l :: xs,.rd t g r :: ys=>f=g/\b2m s t l r/\eqL xs ys
 | [],[]=>True
 | _,_=>False
theorem aLi:∀ (xs ys:List AC),eqL xs ys->a0d xs=a0d ys:=by
 intro xs ys
 fun_induction eqL xs ys with
 | case1 a xs b ys ih=>rintro ⟨rfl,h⟩; rw [a0d,a0d,ih h]
 | case2 a b xs q ys ih=>rintro ⟨rfl,rfl,h⟩; simp only [a0d,AC.flat,ih h,cons_append,nil_append]
 | case3 a xs b ys ih=>rintro ⟨rfl,h⟩; rw [a0d,a0d,ih h]
 | case4 a xs b ys ih=>rintro ⟨rfl,h⟩; rw [a0d,a0d,ih h]
 | case5 a xs b ys ih=>rintro ⟨rfl,h⟩; rw [a0d,a0d,ih h]
 | case6 a l xs z ys ih=>rintro ⟨rfl,rfl,h⟩; simp only [a0d,AC.flat,ih h,cons_append,nil_append]
 | case7 k a xs j b ys ih=>rintro ⟨rfl,rfl,h⟩; rw [a0d,a0d,ih h]
 | case8 a p xs b q ys ih=>rintro ⟨rfl,rfl,h⟩; rw [a0d,a0d,ih h]
 | case9 p xs b q ys ih=>rintro ⟨rfl,rfl,h⟩; rw [a0d,a0d,ih h]; rfl
 | case10 a l c m xs b q ys ih=>rintro ⟨⟨rfl,rfl,rfl,rfl⟩,rfl,h⟩; simp only [a0d,AC.flat,ih h,cons_append,nil_append,cond_false]
 | case11 s f l xs t g r ys ih =>
   rintro ⟨rfl,h1,h2⟩;obtain ⟨rfl,rfl⟩:=aDo h1
   rw [a0d,a0d,ih h2]
 | case12=>intro _; rfl
 | case13=>intro h; exact h.elim
def eqG:List AC->List AC->Prop
 | [.v (.slice none 0 0)],[.rd _ _ l]=>l=[]
 | xs,ys=>eqL xs ys
theorem aOP (bs:Bs) (w:World) (s:Sc) (f:Bool):rel1 bs w (.rd s f []) (.slice none 0 0):=⟨none,0,0,0,rfl,fun _=>rfl,.inl rfl,fun _=>rfl,le_refl _,fun i x hx=>by simp at hx⟩
theorem aY3 {bs:Bs} {w:World} {xs ys:List AC} {us:List Value} (h:eqG xs ys) (k:relL bs w (a0d xs) us):relL bs w (a0d ys) us:=by
 unfold eqG at h;split at h
 ·subst h
  match us,k with
  | [u],k =>
    obtain ⟨⟨rfl,_⟩,_⟩:=k;exact ⟨aOP ..,trivial⟩
 ·rw [<- aLi _ _ h]; exact k
def eqK:AK->AK->Prop
 | .c (.v x),.c (.v y)=>x=y
 | .c (.sl x),.c (.sl y)=>x=y
 | .c (.pt x),.c (.pt y)=>x=y
 | .c (.pp x),.c (.pp y)=>x=y
 | .c (.bx i o),.c (.bx j p)=>bif Nat.beq i j && Nat.beq o p then True else False
 | .c (.ba i n),.c (.ba j m)=>bif Nat.beq i j && Nat.beq n m then True else False
 | .c (.pl k x),.c (.pl j y)=>k=j/\x=y
 | .c (.rd s f l),.c (.rd t g r)=>bif f || !g then b2m s t l r else False
 | .c (.v (.slice none 0 0)),.c (.rd _ _ l)=>l=[]
 | .g xs,.g ys=>eqG xs ys
 | _,_=>False
def b4U:List AK->List AK->Prop
 | [],[]=>True
 | x :: l,y :: r=>eqK x y/\b4U l r
 | _,_=>False
def eqV:AV->AV->Prop
 | .k x,.k y=>eqK x y
 | .t xs,.t ys=>b4U xs ys
 | _,_=>False
theorem aQO {bs:Bs} {w:World}:∀ {x y:AK} {u:Value},eqK x y->relK bs w x u->relK bs w y u:=by
 intro x y
 fun_cases eqK x y with
 | case1 a b=>rintro u rfl k; exact k
 | case2 a b=>rintro u rfl k; exact k
 | case3 a b=>rintro u rfl k; exact k
 | case4 a b=>rintro u rfl k; exact k
 | case5 i o j p hb =>
   intro u _ k;simp only [and_eq_true,beq_eq] at hb;obtain ⟨rfl,rfl⟩:=hb
   exact k
 | case6 i o j p hb=>intro u h; exact h.elim
 | case7 i o j p hb =>
   intro u _ k;simp only [and_eq_true,beq_eq] at hb;obtain ⟨rfl,rfl⟩:=hb
   exact k
 | case8 i o j p hb=>intro u h; exact h.elim
 | case9 k a j b=>rintro u ⟨rfl,rfl⟩ h; exact h
 | case10 s f l t g r hb =>
   intro u h k;obtain ⟨rfl,rfl⟩:=aDo h;obtain ⟨a,cap,b,off,h1,h2,h3⟩:=k;refine ⟨a,cap,b,off,h1,fun hg=>?_,h3⟩;subst hg
   exact h2 (by simpa using hb)
 | case11=>intro u h; exact h.elim
 | case12=>rintro u rfl ⟨rfl,_⟩; exact aOP ..
 | case13 a b=>rintro u h ⟨us,e,k⟩; exact ⟨us,e,aY3 h k⟩
 | case14=>intro u h; exact h.elim
theorem aLj {bs:Bs} {w:World}:∀ {x y:List AK} {u:List Value},b4U x y->relKs bs w x u->relKs bs w y u
 | [],[],_,_,k=>k
 | _ :: _,_ :: _,_ :: _,h,k=>⟨aQO h.1 k.1,aLj h.2 k.2⟩
 | _ :: _,_ :: _,[],_,k=>k.elim
 | [],_ :: _,_,h,_=>h.elim
 | _ :: _,[],_,h,_=>h.elim
theorem aQL {bs:Bs} {w:World} {x y:AV} {u:Value} (h:eqV x y) (k:relV bs w x u):relV bs w y u:=by
 unfold eqV at h;split at h
 ·exact aQO h k
 ·obtain ⟨us,e,k⟩:=k;exact ⟨us,e,aLj h k⟩
 ·exact h.elim
def aBF (n:Nat):AC->Bool
 | .bx i _=>Nat.blt i n
 | .ba i _=>Nat.blt i n
 | .ow _ _ _ _=>false
 | .os _ _ _=>false
 | .oe _ _ _ _ _=>false
 | .oc _ _=>false
 | _=>true
def aG0 (n:Nat):List AC->Bool
 | []=>true
 | x :: l=>aBF n x && aG0 n l
def aZi (n:Nat):AV->Bool
 | .u=>true
 | .k (.c x)=>aBF n x
 | .k (.g xs)=>aG0 n xs
 | .t _=>false
def aIq:AV->Option Nat
 | .k (.c (.ow m _ _ _))=>some m
 | _=>none
def aUv (n:Nat) (x:AV):Bool:=(aIq x).isSome || aZi n x
def okT (n:Nat):List AV->Bool
 | []=>true
 | x :: l=>aUv n x && okT n l
def okX (n:Nat):List Bx->Bool
 | []=>true
 | b :: l=>aG0 n b.cs && okX n l
def okS (s:St):Bool:=okT s.bx.length s.tm && okX s.bx.length s.bx
def leV:AV->AV->Prop
 | .k (.c (.ow _ T s l)),.k (.c (.ow _ T' s' l'))=>bif Nat.beq T T' then b2m s s' l l' else False
 | .k (.c (.v (.slice none 0 0))),.k (.c (.ow _ _ _ l))=>l=[]
 | .k (.c (.ow _ _ s l)),.k (.c (.rd s' false l'))=>b2m s s' l l'
 | x,y=>eqV x y
def frT:List AV->List AV->List Nat
 | x :: l,y :: r =>
   match aIq x,y with
   | some n,.k (.c (.rd _ _ _))=>n :: frT l r
   | _,_=>frT l r
 | _,_=>[]
def frB (fr:List Nat) (ms:List (Option Nat)):Bool:=fr.all fun n=>ms.all fun o=>match o with | some m=>!Nat.beq m n | none=>true
def leT:List AV->List AV->Prop
 | [],[]=>True
 | _ :: l,.u :: r=>leT l r
 | x :: l,y :: r=>leV x y/\leT l r
 | _,_=>False
def leB:List Bx->List Bx->Prop
 | _,[]=>True
 | b :: l,c :: r=>bif Nat.beq b.T c.T then eqL b.cs c.cs/\leB l r else False
 | [],_ :: _=>False
def aO3:List AV->List AV->List (Nat × Option Nat)
 | x :: l,y :: r=>match aIq y with | some n=>(n,aIq x) :: aO3 l r | none=>aO3 l r
 | _,_=>[]
def b1r:Nat->List (Nat × Option Nat)->Bool
 | _,[]=>true
 | k,q :: r=>Nat.beq q.1 k && b1r (k+1) r
def aY5:List (Option Nat)->Bool
 | []=>true
 | none :: r=>aY5 r
 | some n :: r=>!r.any (fun o=>match o with | some m=>Nat.beq m n | none=>false) && aY5 r
def b4O (l:List (Nat × Option Nat)):Bool:=b1r 0 l && aY5 (l.map Prod.snd)
def leS (s s':St):Prop:=bif okS s' && b4O (aO3 s.tm s'.tm) && frB (frT s.tm s'.tm) ((aO3 s.tm s'.tm).map Prod.snd) then leT s.tm s'.tm/\leB s.bx s'.bx else False
theorem aCQ:∀ {l r:List AV} {t n k0:Nat} {x y:AV},l[t]?=some x->r[t]?=some y->aIq y=some n->b1r k0 (aO3 l r)=true->k0 <= n/\((aO3 l r).map Prod.snd)[n - k0]?=some (aIq x)
 | [],_,_,_,_,_,_,h,_,_,_=>by simp at h
 | _ :: _,[],_,_,_,_,_,_,h,_,_=>by simp at h
 | a :: l,b :: r,0,n,k0,x,y,h1,h2,h3,h4=>by
   obtain rfl:a=x:=by simpa using h1
   obtain rfl:b=y:=by simpa using h2
   unfold aO3 at h4 ⊢;rw [h3] at h4 ⊢;simp only [b1r,and_eq_true,beq_eq] at h4;obtain ⟨rfl,_⟩:=h4
   exact ⟨le_refl _,by simp⟩
 | a :: l,b :: r,t+1,n,k0,x,y,h1,h2,h3,h4=>by
   unfold aO3 at h4 ⊢
   cases hb:aIq b with
   | none =>
     rw [hb] at h4
     exact aCQ (t:=t) (by simpa using h1) (by simpa using h2) h3 h4
   | some m =>
     rw [hb] at h4;simp only [b1r,and_eq_true,beq_eq] at h4;obtain ⟨g1,g2⟩:=aCQ (t:=t) (by simpa using h1) (by simpa using h2) h3 h4.2;refine ⟨by omega,?_⟩;simp only [List.map_cons];rw [show n - k0=(n - (k0+1))+1 by omega,List.getElem?_cons_succ];exact g2
theorem aQD:∀ {l r:List AV} {t n:Nat} {x y:AV} {sh:Sc} {f:Bool} {xs:List sh.T},l[t]?=some x->r[t]?=some y->aIq x=some n->y=.k (.c (.rd sh f xs))->n ∈ frT l r
 | [],_,_,_,_,_,_,_,_,h,_,_,_=>by simp at h
 | _ :: _,[],_,_,_,_,_,_,_,_,h,_,_=>by simp at h
 | a :: l,b :: r,0,n,x,y,sh,f,xs,h1,h2,h3,h4=>by
   obtain rfl:a=x:=by simpa using h1
   obtain rfl:b=y:=by simpa using h2
   subst h4;unfold frT;rw [h3]
   exact mem_cons_self ..
 | a :: l,b :: r,t+1,n,x,y,sh,f,xs,h1,h2,h3,h4=>by
   have:=aQD (l:=l) (r:=r) (t:=t) (by simpa using h1) (by simpa using h2) h3 h4;unfold frT;split
   ·exact mem_cons_of_mem _ this
   ·exact this
theorem aFY:∀ {l:List (Option Nat)} {i j n:Nat},aY5 l=true->l[i]?=some (some n)->l[j]?=some (some n)->i=j
 | [],_,_,_,_,h,_=>by simp at h
 | o :: r,i,j,n,h,hi,hj=>by
   have hr:aY5 r=true:=by
    cases o with
    | none=>exact h
    | some m=>simp only [aY5,and_eq_true] at h; exact h.2
   have no:∀ {k:Nat},o=some n->r[k]?=some (some n)->False:=fun {k} ho hk=>by
    subst ho;simp only [aY5,and_eq_true,Bool.not_eq_true'] at h;have h1:=List.any_eq_false.1 h.1 _ (List.mem_of_getElem? hk);simp at h1
   cases i with
   | zero =>
     cases j with
     | zero=>rfl
     | succ j=>exact (no (by simpa using hi) (k:=j) (by simpa using hj)).elim
   | succ i =>
     cases j with
     | zero=>exact (no (by simpa using hj) (k:=i) (by simpa using hi)).elim
     | succ j=>rw [aFY hr (i:=i) (j:=j) (by simpa using hi) (by simpa using hj)]
section
variable {bs:Bs} {w:World} {n:Nat} {ms:List (Option Nat)}
def Bs.cut (b:Bs) (n:Nat) (ms:List (Option Nat)):Bs:=⟨b.lo,b.l.take n,ms.map (fun o=>o.bind fun m=>(b.ow[m]?).join),b.fb⟩
theorem aQS {i b:Nat} (h:bs.l[i]?=some b) (hi:i < n):(bs.cut n ms).l[i]?=some b:=by
 show (bs.l.take n)[i]?=some b;rw [List.getElem?_take,if_pos hi];exact h
theorem aLm {j b:Nat} (h:(bs.cut n ms).ow[j]?=some (some b)):∃ m,ms[j]?=some (some m)/\bs.ow[m]?=some (some b):=by
 simp only [Bs.cut,getElem?_map,Option.map_eq_some_iff] at h;obtain ⟨o,h1,h2⟩:=h
 cases o with
 | none=>cases h2
 | some m =>
   refine ⟨m,h1,?_⟩;simp only [Option.bind_some] at h2
   cases hb:bs.ow[m]? with
   | none=>rw [hb] at h2; cases h2
   | some o=>rw [hb] at h2; simp only [Option.join_some] at h2; rw [h2]
theorem aQT {b:Nat} (h:Fz bs w b):Fz (bs.cut n ms) w b:=by
 refine ⟨h.1,fun hm=>h.2.1 (mem_of_mem_take hm),fun hm=>?_,h.2.2.2⟩;obtain ⟨j,hj⟩:=List.getElem?_of_mem hm;obtain ⟨m,_,h2⟩:=aLm hj;exact h.2.2.1 (List.mem_of_getElem? h2)
theorem a9o:∀ x u,relE bs w x u->relE (bs.cut n ms) w x u:=fun x u h=>by
 cases x with
 | rd s f l=>exact RdR.keep (w:=w) (fun _ _ h=>h) (fun b hb=>⟨aQT hb,fun _=>rfl⟩) h
 | _=>exact h
theorem aG1:∀ {x:AC} {u:Value},aBF n x=true->rel1 bs w x u->rel1 (bs.cut n ms) w x u
 | .v _,_,_,h=>h
 | .sl _,_,_,h=>h
 | .bx _ _,_,hn,⟨b,h,e⟩=>⟨b,aQS h (by simpa [aBF] using hn),e⟩
 | .sp _,_,_,h=>h
 | .pt _,_,_,h=>h
 | .pp _,_,_,h=>h
 | .op _,_,_,h=>h
 | .oq _,_,_,h=>h
 | .ba _ _,_,hn,⟨b,h,e⟩=>⟨b,aQS h (by simpa [aBF] using hn),e⟩
 | .ln _,_,_,h=>h
 | .pl _ _,_,_,h=>h
 | .rd _ _ _,_,_,h=>RdR.keep (w:=w) a9o (fun b hb=>⟨aQT hb,fun _=>rfl⟩) h
 | .rc _,_,_,⟨b,o,e,h1,h2⟩=>⟨b,o,e,aQT h1,h2.keep (w:=w) a9o fun _=>rfl⟩
 | .I _,_,_,h=>h
 | .R _,_,_,h=>h
 | .Z _ _,_,_,h=>h
theorem aCp:∀ {l:List AC},aG0 n l=true->a2r aTG l=true
 | [],_=>rfl
 | x :: l,h=>by
   simp only [aG0,and_eq_true] at h;rw [a2r,aCp h.2]
   cases x <;> first | rfl | (simp [aBF] at h)
theorem aR2 {x:AC} (h:aBF n x=true):∀ y ∈ x.flat,aBF n y=true:=by
 intro y hy;cases x <;> simp only [AC.flat,mem_cons,not_mem_nil,or_false] at hy
 case Z b q=>cases b <;> simp only [cond_true,cond_false,mem_cons,not_mem_nil,or_false] at hy <;> rcases hy with rfl | rfl | rfl | rfl <;> rfl
 case I=>rcases hy with rfl | rfl <;> rfl
 case R=>rcases hy with rfl | rfl | rfl | rfl <;> rfl
 all_goals (subst hy; exact h)
theorem a8s:∀ {l:List AC},aG0 n l=true->∀ y ∈ a0d l,aBF n y=true
 | [],_,y,hy=>by simp [a0d] at hy
 | x :: l,h,y,hy=>by
   simp only [aG0,and_eq_true] at h;simp only [a0d,mem_append] at hy;rcases hy with hy | hy
   ·exact aR2 h.1 y hy
   ·exact a8s h.2 y hy
theorem aAO:∀ {l:List AC} {us:List Value},(∀ y ∈ l,aBF n y=true)->relL bs w l us->relL (bs.cut n ms) w l us
 | [],[],_,_=>trivial
 | x :: _,_ :: _,h,k=>⟨aG1 (h x (mem_cons_self ..)) k.1,aAO (fun y hy=>h y (mem_cons_of_mem _ hy)) k.2⟩
 | [],_ :: _,_,k=>k.elim
 | _ :: _,[],_,k=>k.elim
theorem aR3:∀ {x:AV} {u:Value},aZi n x=true->relV bs w x u->relV (bs.cut n ms) w x u
 | .u,_,_,_=>trivial
 | .k (.c _),_,h,k=>aG1 h k
 | .k (.g _),_,h,⟨us,e,k⟩=>⟨us,e,aAO (a8s h) k⟩
 | .t _,_,h,_=>by simp [aZi] at h
theorem aYB {x y:AV} {u:Value} (ho:OwOK bs w) (hf:∀ b,some b ∈ bs.fb->b < bs.lo) (hz:none ∉ bs.fb) (h:leV x y) (hy:aUv n y=true) (hid:∀ k,aIq y=some k->ms[k]?=some (aIq x)) (hfr:∀ m,aIq x=some m->(∃ s f l,y=.k (.c (.rd s f l)))->some m ∉ ms) (k:relV bs w x u):relV (bs.cut n ms) w y u:=by
 unfold leV at h;split at h
 ·rename_i m T s l m' T' s' l'
  cases hT:Nat.beq T T' with
  | false=>rw [hT] at h; exact h.elim
  | true =>
    rw [hT] at h
    obtain rfl:T=T':=by simpa using hT
    obtain ⟨rfl,rfl⟩:=aDo h;obtain ⟨ob,e,g⟩:=k;refine ⟨ob,?_,?_⟩
    ·simp only [Bs.cut,getElem?_map,hid m' rfl,aIq,Option.map_some,Option.bind_some,e,Option.join_some]
    ·rcases g with g | ⟨b,cap,e1,e2,g⟩
     ·exact .inl g
     ·exact .inr ⟨b,cap,e1,e2,g.keep (w:=w) a9o rfl⟩
 ·rename_i m' T' s' l';subst h;obtain ⟨rfl,_⟩:=k;exact ⟨none,by simp only [Bs.cut,getElem?_map,hid m' rfl,aIq,Option.map_some,Option.bind_none],.inl ⟨rfl,rfl,rfl⟩⟩
 ·rename_i m T s l s' l';obtain ⟨rfl,rfl⟩:=aDo h;obtain ⟨ob,e,g⟩:=k;have hm:=hfr m rfl ⟨_,_,_,rfl⟩
  exact RdR.keep (w:=w) a9o (fun b hb=>⟨hb,fun _=>rfl⟩) (g.rd (B:=Fz (bs.cut n ms) w) fun b hb=>by
   subst hb;obtain ⟨h1,h2,h3,h4⟩:=ho m b e;refine ⟨h2,fun hm=>h3 (mem_of_mem_take hm),fun hm'=>?_,fun hm=>by have:=hf b hm; omega,hz⟩;obtain ⟨j,hj⟩:=List.getElem?_of_mem hm';obtain ⟨m',h5,h6⟩:=aLm hj;obtain rfl:=h4 m' h6
   exact hm (List.mem_of_getElem? h5))
 ·rename_i h1 h2 h3;have k2:=aQL h k;refine aR3 ?_ k2
  cases hi:aIq y with
  | none=>simpa [aUv,hi] using hy
  | some m =>
    exfalso;unfold aIq at hi;split at hi
    ·unfold eqV at h;split at h
     ·rename_i hx hy;cases hy;unfold eqK at h
      split at h <;> first | exact h.elim | (rename_i hy; cases hy) | (rename_i hy _; cases hy)
     ·rename_i hy; cases hy
     ·exact h.elim
    ·cases hi
theorem aPc:∀ {l:List AV} {t:Nat} {x:AV},okT n l=true->l[t]?=some x->aUv n x=true
 | [],_,_,_,h=>by simp at h
 | y :: l,0,x,h,hx=>by
   simp only [okT,and_eq_true] at h
   obtain rfl:y=x:=by simpa using hx
   exact h.1
 | y :: l,t+1,x,h,hx=>by
   simp only [okT,and_eq_true] at h;exact aPc h.2 (by simpa using hx)
theorem aH0:∀ {l:List Bx} {t:Nat} {x:Bx},okX n l=true->l[t]?=some x->aG0 n x.cs=true
 | [],_,_,_,h=>by simp at h
 | y :: l,0,x,h,hx=>by
   simp only [okX,and_eq_true] at h
   obtain rfl:y=x:=by simpa using hx
   exact h.1
 | y :: l,t+1,x,h,hx=>by
   simp only [okX,and_eq_true] at h;exact aH0 h.2 (by simpa using hx)
theorem aYD:∀ {l r:List AV} {t:Nat} {y:AV},leT l r->r[t]?=some y->y=.u \/ ∃ x,l[t]?=some x/\leV x y:=by
 intro l r
 fun_induction leT l r with
 | case1=>intro t y _ h; simp at h
 | case2 x l r ih =>
   intro t y h hy
   cases t with
   | zero=>exact .inl (by simpa using hy.symm)
   | succ t =>
     rcases ih h (t:=t) (by simpa using hy) with e | ⟨z,h1,h2⟩
     ·exact .inl e
     ·exact .inr ⟨z,by simpa using h1,h2⟩
 | case3 x l z r _ ih =>
   intro t y h hy
   cases t with
   | zero =>
     obtain rfl:z=y:=by simpa using hy
     exact .inr ⟨x,rfl,h.1⟩
   | succ t =>
     rcases ih h.2 (t:=t) (by simpa using hy) with e | ⟨z,h1,h2⟩
     ·exact .inl e
     ·exact .inr ⟨z,by simpa using h1,h2⟩
 | case4=>intro t y h; exact h.elim
theorem aYC:∀ {l r:List AV},leT l r->l.length=r.length:=by
 intro l r
 fun_induction leT l r with
 | case1=>intro _; rfl
 | case2 x l r ih=>intro h; simp [ih h]
 | case3 x l z r _ ih=>intro h; simp [ih h.2]
 | case4=>intro h; exact h.elim
theorem aPD:∀ {l r:List Bx} {t:Nat} {y:Bx},leB l r->r[t]?=some y->∃ x,l[t]?=some x/\x.T=y.T/\eqL x.cs y.cs
 | _,[],_,_,_,h=>by simp at h
 | b :: l,c :: r,t,y,h,hy=>by
   simp only [leB] at h
   cases hb:Nat.beq b.T c.T with
   | false=>rw [hb] at h; exact h.elim
   | true =>
     rw [hb] at h;simp only [cond_true] at h
     have hT:b.T=c.T:=by simpa using hb
     cases t with
     | zero =>
       obtain rfl:c=y:=by simpa using hy
       exact ⟨b,rfl,hT,h.1⟩
     | succ t =>
       obtain ⟨x,h1,h2⟩:=aPD h.2 (t:=t) (by simpa using hy)
       exact ⟨x,by simpa using h1,h2⟩
 | [],_ :: _,_,_,h,_=>h.elim
theorem aPC:∀ {l r:List Bx},leB l r->r.length <= l.length
 | _,[],_=>Nat.zero_le _
 | b :: l,c :: r,h=>by
   simp only [leB] at h
   cases hb:Nat.beq b.T c.T with
   | false=>rw [hb] at h; exact h.elim
   | true =>
     rw [hb] at h;have:=aPC (l:=l) (r:=r) h.2
     simp only [List.length_cons]; omega
 | [],_ :: _,h=>h.elim
theorem Rl.weak {W0:World} {F:List (Option Nat)} {s s':St} {a:Act} (h:Rl W0 F bs s a w) (hz:none ∉ F) (hle:leS s s'):Rl W0 F (bs.cut s'.bx.length ((aO3 s.tm s'.tm).map Prod.snd)) s' a w:=by
 unfold leS at hle
 cases hok:okS s' && b4O (aO3 s.tm s'.tm) && frB (frT s.tm s'.tm) ((aO3 s.tm s'.tm).map Prod.snd) with
 | false=>rw [hok] at hle; exact hle.elim
 | true =>
   rw [hok] at hle;simp only [cond_true] at hle;simp only [okS,b4O,and_eq_true] at hok;obtain ⟨⟨⟨o1,o2⟩,o3,o4⟩,o5⟩:=hok;obtain ⟨l1,l2⟩:=hle;have hlen:=aPC l2;refine ⟨h.ext,h.lo,h.fbe,h.fbb,fun j b hj=>?_,h.nd.sublist (List.take_sublist _ _),?_,fun i b x hb hx=>?_,fun b hb=>h.bnd b (mem_of_mem_take hb),fun t y hy=>?_,?_,h.dfr⟩
   ·obtain ⟨m,h1,h2⟩:=aLm hj;obtain ⟨g1,g2,g3,g4⟩:=h.own m b h2;refine ⟨g1,g2,fun hm=>g3 (mem_of_mem_take hm),fun i hi=>?_⟩;obtain ⟨m',h3,h4⟩:=aLm hi;obtain rfl:=g4 m' h4;exact aFY o4 h3 h1
   ·show (bs.l.take s'.bx.length).length=s'.bx.length;rw [List.length_take,h.len]; omega
   ·have hb':bs.l[i]?=some b:=take_get hb;obtain ⟨z,h1,h2,h3⟩:=aPD l2 hx;obtain ⟨g1,vs,g2,g3,g4,_⟩:=h.box i b z hb' h1;rw [aLi _ _ h3] at g3;exact ⟨g1,vs,by rw [<- h2]; exact g2,aAO (a8s (aH0 o2 hx)) g3,g4,aCp (aH0 o2 hx)⟩
   ·rcases aYD l1 hy with rfl | ⟨x,h1,h2⟩
    ·trivial
    ·refine aYB h.own h.fb (by rw [h.fbe]; exact hz) h2 (aPc o1 hy) (fun k hk=>by simpa using (aCQ h1 hy hk o3).2) (fun m hm hq=>?_) (h.tmp t x h1);obtain ⟨sh,f,xs,hq⟩:=hq;have h5:=all_eq_true.1 o5 m (aQD h1 hy hm hq);intro hin;have h6:=all_eq_true.1 h5 _ hin;simp at h6
   ·rw [<- aYC l1]; exact h.tl
end
def tmI (s:St) (t:Nat):Int:=match s.tm[t]? with | some (.k (.c (.v (.int _ z))))=>z | _=>0
inductive LI:Type 1
 | inv (id:Nat) (α:Type) (st:α->St) (inv:St->α->Prop) (μ:α->Nat)
 | unroll (id n:Nat)
 | cut (id n:Nat)
def LI.id:LI->Nat
 | .inv id _ _ _ _=>id
 | .unroll id _=>id
 | .cut _ _=>0
def aYW:List LI->Nat->Option LI
 | [],_=>none
 | .cut _ _ :: r,t=>aYW r t
 | l :: r,t=>bif Nat.beq l.id t then some l else aYW r t
def aQx:List LI->Nat->Option Nat
 | [],_=>none
 | .cut i n :: r,t=>bif Nat.beq i t then some n else aQx r t
 | _ :: r,t=>aQx r t
def aIw:Code->Nat
 | .region id _ _=>id
 | .seq a _=>aIw a
 | .block _ c=>aIw c
 | _=>0
inductive AEx
 | normal
 | ret
 | exit (id:Nat)
def AEx.ex:AEx->Exit
 | .normal=>.normal
 | .ret=>.ret
 | .exit id=>.exit id
def aW6 (K:St->Prop) (Q:AEx->St->Prop):AEx->St->Prop
 | .normal,s=>K s
 | e,s=>Q e s
def rounds (f:St->(AEx->St->Prop)->Prop) (Q:AEx->St->Prop):Nat->St->Prop
 | 0,_=>False
 | n+1,s=>f s (aW6 (rounds f Q n) Q)
def awp (L:List Lay) (C:List Ctr) (I:List LI):Code->St->(AEx->St->Prop)->Prop
 | .skip,s,Q=>Q .normal s
 | .region id ops draw,s,Q=>b4Y L C (aQx I id) ops.toList draw s (Q .normal)
 | .seq a b,s,Q=>awp L C I a s fun e s'=>match e with
   | .normal=>awp L C I b s' Q
   | e=>Q e s'
 | .cond c a b,s,Q =>
   match evS s c with
   | .k (.c (.v (.bool t)))=>(t=true->awp L C I a s Q)/\(t=false->awp L C I b s Q)
   | _=>False
 | .block id c,s,Q=>awp L C I c s fun e s'=>match e with
   | .exit i=>bif Nat.beq i id then Q .normal s' else Q (.exit i) s'
   | e=>Q e s'
 | .exit id,s,Q=>Q (.exit id) s
 | .ret,s,Q=>Q .ret s
 | .loop c,s,Q =>
   match aYW I (aIw c) with
   | some (.inv _ _ st inv μ)=>(∃ x,inv s x/\leS s (st x))/\∀ x,inv s x->awp L C I c (st x) (aW6 (fun s'=>∃ y,inv s y/\μ y < μ x/\leS s' (st y)) Q)
   | some (.unroll _ n)=>rounds (fun s Q=>awp L C I c s Q) Q n s
   | _=>False
 | _,_,_=>False
theorem a2k {I:List LI} (hz:none ∉ F) (hm:P.follows .mixedOrders=true) (hL:∀ l ∈ L,a1I P l) (hC:∀ c ∈ C,CtrOK P c):∀ (c:Code) (s:St) (bs:Bs) (a:Act) (w:World) (Qa:AEx->St->Prop) (Q:Exit->Act->World->Prop),awp L C I c s Qa->Rl W0 F bs s a w ->
    (∀ e s' bs' a' w',Qa e s'->Rl W0 F bs' s' a' w'->Q e.ex a' w')->c.wp P Q a w
 | .skip,s,bs,a,w,Qa,Q,h,hR,hk=>wp_skip (hk .normal s bs a w h hR)
 | .region id ops draw,s,bs,a,w,Qa,Q,h,hR,hk=>by
   have:=aND (id:=id) (Q:=Q) hz hm hL hC h hR (fun s' bs' a' w' hK hR'=>hk .normal s' bs' a' w' hK hR')
   simpa using this
 | .seq x y,s,bs,a,w,Qa,Q,h,hR,hk=>by
   refine wp_seq (a2k hz hm hL hC x s bs a w _ _ h hR fun e s' bs' a' w' hq hR'=>?_)
   cases e with
   | normal=>exact a2k hz hm hL hC y s' bs' a' w' Qa Q hq hR' hk
   | ret=>exact hk .ret s' bs' a' w' hq hR'
   | exit id=>exact hk (.exit id) s' bs' a' w' hq hR'
 | .cond c x y,s,bs,a,w,Qa,Q,h,hR,hk=>by
   simp only [awp] at h;split at h
   ·rename_i t ht;have hv:=hR.ev c;rw [ht] at hv;obtain ⟨hv,_⟩:=hv;refine wp_cond hv ?_
    cases t with
    | true=>exact a2k hz hm hL hC x s bs a w Qa Q (h.1 rfl) hR hk
    | false=>exact a2k hz hm hL hC y s bs a w Qa Q (h.2 rfl) hR hk
   ·exact h.elim
 | .block id c,s,bs,a,w,Qa,Q,h,hR,hk=>by
   refine wp_block (a2k hz hm hL hC c s bs a w _ _ h hR fun e s' bs' a' w' hq hR'=>?_)
   cases e with
   | normal=>exact hk .normal s' bs' a' w' hq hR'
   | ret=>exact hk .ret s' bs' a' w' hq hR'
   | exit i =>
     simp only at hq;simp only [AEx.ex,Exit.inBlock]
     cases hb:Nat.beq i id with
     | true =>
       rw [hb] at hq
       have:i=id:=by simpa using hb
       subst this;simp only [if_true]
       exact hk .normal s' bs' a' w' hq hR'
     | false =>
       rw [hb] at hq
       have:¬ i=id:=by intro e; subst e; simp at hb
       simp only [this,if_false]
       exact hk (.exit i) s' bs' a' w' hq hR'
 | .exit id,s,bs,a,w,Qa,Q,h,hR,hk=>wp_exit (hk (.exit id) s bs a w h hR)
 | .ret,s,bs,a,w,Qa,Q,h,hR,hk=>wp_ret (hk .ret s bs a w h hR)
 | .loop c,s,bs,a,w,Qa,Q,h,hR,hk=>by
   have out:∀ (K:St->Prop) (K':Act->World->Prop),(∀ s' bs' a' w',K s'->Rl W0 F bs' s' a' w'->K' a' w')->∀ e s' bs' a' w',aW6 K Qa e s'->Rl W0 F bs' s' a' w'->Exit.then K' Q e.ex a' w':=fun K K' hK e s' bs' a' w' hq hR'=>by
    cases e with
    | normal=>exact hK s' bs' a' w' hq hR'
    | ret=>exact hk .ret s' bs' a' w' hq hR'
    | exit i=>exact hk (.exit i) s' bs' a' w' hq hR'
   simp only [awp] at h;split at h
   ·rename_i _ α st inv μ _;obtain ⟨⟨x0,hx0,hle0⟩,hround⟩:=h;refine wp_loop_ghost (fun n a w=>∃ x bs,μ x=n/\inv s x/\Rl W0 F bs (st x) a w) (μ x0) ⟨x0,_,rfl,hx0,hR.weak hz hle0⟩ fun n a' w'=>?_;rintro ⟨x,bs',rfl,hx,hR'⟩;refine a2k hz hm hL hC c (st x) bs' a' w' _ _ (hround x hx) hR' (out _ _ fun s2 bs2 a2 w2 hK hR2=>?_);obtain ⟨y,h1,h2,h3⟩:=hK;exact ⟨μ y,h2,y,_,rfl,h1,hR2.weak hz h3⟩
   ·rename_i n _;refine wp_loop_ghost (fun n a w=>∃ s bs,rounds (fun s Q=>awp L C I c s Q) Qa n s/\Rl W0 F bs s a w) n ⟨s,bs,h,hR⟩ fun n a' w'=>?_;rintro ⟨s1,bs1,hr,hR1⟩
    cases n with
    | zero=>exact hr.elim
    | succ n =>
      simp only [rounds] at hr;refine a2k hz hm hL hC c s1 bs1 a' w' _ _ hr hR1 (out _ _ fun s2 bs2 a2 w2 hK hR2=>?_);exact ⟨n,Nat.lt_succ_self n,s2,bs2,hK,hR2⟩
   ·exact h.elim
 | .rangeFunc _ _ _ _,_,_,_,_,_,_,h,_,_=>h.elim
 | .scope _,_,_,_,_,_,_,h,_,_=>h.elim
 | .label _,_,_,_,_,_,_,h,_,_=>h.elim
 | .goto _,_,_,_,_,_,_,h,_,_=>h.elim
 | .refuse _,_,_,_,_,_,_,h,_,_=>h.elim
end
def aXU:AC->Bool
 | .v _=>true
 | .sl _=>true
 | .sp _=>true
 | .ln _=>true
 | .I _=>true
 | .R _=>true
 | .Z _ _=>true
 | _=>false
section
variable {bs bs':Bs} {w:World} {p q:Prop} (hA:p) (hG:q)
theorem b4E {p q:Prop} (_:p) (_:q):∀ {x:AC} {u:Value},aXU x=true->rel1 bs w x u->rel1 bs' w x u
 | .v _,_,_,h=>h
 | .sl _,_,_,h=>⟨h.1,trivial⟩
 | .sp _,_,_,⟨b,o,h1,h2,_⟩=>⟨b,o,h1,h2,trivial⟩
 | .ln _,_,_,h=>h
 | .I _,_,_,h=>h
 | .R _,_,_,h=>h
 | .Z _ _,_,_,h=>h
 | .bx _ _,_,h,_ | .pt _,_,h,_ | .pp _,_,h,_ | .op _,_,h,_ | .oq _,_,h,_ | .ba _ _,_,h,_ | .pl _ _,_,h,_ | .rd _ _ _,_,h,_ | .rc _,_,h,_ | .ow _ _ _ _,_,h,_ | .os _ _ _,_,h,_ | .oe _ _ _ _ _,_,h,_ | .oc _ _,_,h,_=>by simp [aXU] at h
include hA hG
end
def aT7:AC->Bool
 | .rd _ _ _=>true
 | .rc _=>true
 | x=>aXU x
def b3V:List AC->Bool
 | []=>true
 | x :: l=>aT7 x && b3V l
def b3W:AK->Bool
 | .c x=>aT7 x
 | .g xs=>b3V xs
def aT6:List AK->Bool
 | []=>true
 | x :: l=>b3W x && aT6 l
def aT5:AV->Bool
 | .u=>true
 | .k x=>b3W x
 | .t xs=>aT6 xs
section
variable {bs bs':Bs} {w:World} (hz:∀ b,Fz bs w b->Fz bs' w b)
include hz
theorem aDi:∀ x u,relE bs w x u->relE bs' w x u:=fun x u h=>by
 cases x with
 | rd s f l=>exact RdR.keep (w:=w) (fun _ _ h=>h) (fun b hb=>⟨hz b hb,fun _=>rfl⟩) h
 | _=>exact h
theorem b4Q:∀ {x:AC} {u:Value},aT7 x=true->rel1 bs w x u->rel1 bs' w x u:=fun {x u} h k=>by
 unfold aT7 at h;split at h
 ·exact RdR.keep (w:=w) (aDi hz) (fun b hb=>⟨hz b hb,fun _=>rfl⟩) k
 ·obtain ⟨b,o,e,h1,h2⟩:=k;exact ⟨b,o,e,hz b h1,h2.keep (w:=w) (aDi hz) fun _=>rfl⟩
 ·exact b4E trivial trivial h k
omit hz in
theorem aT3 {x:AC} (h:aT7 x=true):∀ y ∈ x.flat,aT7 y=true:=by
 intro y hy;cases x <;> simp only [AC.flat,mem_cons,not_mem_nil,or_false] at hy
 case Z b q=>cases b <;> simp only [cond_true,cond_false,mem_cons,not_mem_nil,or_false] at hy <;> rcases hy with rfl | rfl | rfl | rfl <;> rfl
 case I=>rcases hy with rfl | rfl <;> rfl
 case R=>rcases hy with rfl | rfl | rfl | rfl <;> rfl
 all_goals (subst hy; exact h)
omit hz in
theorem aFP:∀ {l:List AC},b3V l=true->∀ x ∈ a0d l,aT7 x=true
 | [],_,x,hx=>by simp [a0d] at hx
 | y :: l,h,x,hx=>by
   simp only [b3V,and_eq_true] at h;simp only [a0d,mem_append] at hx;rcases hx with hx | hx
   ·exact aT3 h.1 x hx
   ·exact aFP h.2 x hx
theorem aLd:∀ {l:List AC} {us:List Value},(∀ x ∈ l,aT7 x=true)->relL bs w l us->relL bs' w l us
 | [],[],_,_=>trivial
 | x :: _,_ :: _,h,k=>⟨b4Q hz (h x (mem_cons_self ..)) k.1,aLd (fun y hy=>h y (mem_cons_of_mem _ hy)) k.2⟩
 | [],_ :: _,_,k=>k.elim
 | _ :: _,[],_,k=>k.elim
theorem aDj:∀ {x:AK} {u:Value},b3W x=true->relK bs w x u->relK bs' w x u
 | .c _,_,h,k=>b4Q hz h k
 | .g _,_,h,⟨us,e,k⟩=>⟨us,e,aLd hz (aFP h) k⟩
theorem aFQ:∀ {x:List AK} {u:List Value},aT6 x=true->relKs bs w x u->relKs bs' w x u
 | [],[],_,_=>trivial
 | _ :: _,_ :: _,h,k=>by
   simp only [aT6,and_eq_true] at h
   exact ⟨aDj hz h.1 k.1,aFQ h.2 k.2⟩
 | [],_ :: _,_,k=>k.elim
 | _ :: _,[],_,k=>k.elim
theorem aT4:∀ {x:AV} {u:Value},aT5 x=true->relV bs w x u->relV bs' w x u
 | .u,_,_,_=>trivial
 | .k _,_,h,k=>aDj hz h k
 | .t _,_,h,⟨us,e,k⟩=>⟨us,e,aFQ hz h k⟩
end
def frm (bs:Bs):List (Option Nat):=bs.l.map some ++ (bs.ow.filter Option.isSome ++ bs.fb)
abbrev Bs.inn (bs:Bs) (w:World):Bs:=⟨w.heap.size,[],[],frm bs⟩
theorem a5Y {bs:Bs} {w:World} (hG:okF bs w=true):none ∉ frm bs:=fun h=>by
 simp only [frm,mem_append,mem_map,mem_filter] at h;rcases h with ⟨b,_,h⟩ | ⟨_,h⟩ | h
 ·cases h
 ·cases h
 ·have:=all_eq_true.1 hG _ h;simp at this
theorem b2h {bs:Bs} {w:World} (hA:okB bs w=true) (hG:okF bs w=true):∀ b,some b ∈ frm bs->b < w.heap.size:=fun b h=>by
 simp only [okB,and_eq_true,all_eq_true] at hA;simp only [frm,mem_append,mem_map,mem_filter] at h;rcases h with ⟨c,hc,h⟩ | ⟨h,_⟩ | h
 ·cases h;simpa using hA.1 _ hc
 ·simpa using hA.2 _ h
 ·simpa using all_eq_true.1 hG _ h
theorem aVs {bs:Bs} {w:World} (hG:okF bs w=true):∀ b,Fz bs w b->Fz (bs.inn w) w b:=fun b h=>by
 refine ⟨h.1,by simp,by simp,fun hm=>?_,a5Y hG⟩;have hm:some b ∈ frm bs:=hm;simp only [frm,mem_append,mem_map,mem_filter] at hm;rcases hm with ⟨c,hc,hm⟩ | ⟨hm,_⟩ | hm
 ·cases hm;exact h.2.1 hc
 ·exact h.2.2.1 hm
 ·exact h.2.2.2.1 hm
abbrev Bs.out (bs:Bs):Bs:=⟨bs.lo,bs.l,[],bs.fb⟩
def b4C:AC->AC
 | .ow _ _ s l=>.rd s false l
 | .os _ s l=>.rd s false l
 | .oe _ _ s l i=>.rc (s.enc (l.getD i s.d))
 | .oc _ cs=>.rc cs
 | x=>x
def aO7:List AC->List AC
 | []=>[]
 | x :: l=>b4C x :: aO7 l
def b4B:AK->AK
 | .c x=>.c (b4C x)
 | .g xs=>.g (aO7 xs)
def aXN:List AK->List AK
 | []=>[]
 | x :: l=>b4B x :: aXN l
def b1o:AV->AV
 | .u=>.u
 | .k x=>.k (b4B x)
 | .t xs=>.t (aXN xs)
section
variable {bs:Bs} {w:World} (ho:OwOK bs w) (hf:∀ b,some b ∈ bs.fb->b < bs.lo) (hz:none ∉ bs.fb)
include ho hf hz
omit ho hf hz in
theorem aHZ:∀ b,Fz bs w b->Fz bs.out w b:=fun b h=>⟨h.1,h.2.1,by simp,h.2.2.2⟩
theorem aCS {n b:Nat} (h:bs.ow[n]?=some (some b)):Fz bs.out w b:=by
 obtain ⟨h1,h2,h3,_⟩:=ho n b h;exact ⟨h2,h3,by simp,fun hm=>by have:=hf b hm; omega,hz⟩
theorem b5S {x:AC} {u:Value} (h:rel1 bs w x u):rel1 bs.out w (b4C x) u:=by
 have hE:=aDi (bs:=bs) (bs':=bs.out) (w:=w) aHZ
 cases x with
 | ow m t s l =>
   obtain ⟨ob,e,g⟩:=h
   exact RdR.keep (w:=w) hE (fun b hb=>⟨hb,fun _=>rfl⟩) (g.rd (B:=Fz bs.out w) fun b hb=>aCS ho hf hz (by rw [e,hb]))
 | os m s l=>exact RdR.keep (w:=w) hE (fun b hb=>⟨aCS ho hf hz hb,fun _=>rfl⟩) h
 | oe m t s l i =>
   obtain ⟨b,cap,e,e2,hi,g⟩:=h
   exact ⟨b,_,e2,aCS ho hf hz e,(g.el hi).keep (w:=w) hE fun _=>rfl⟩
 | oc m cs =>
   obtain ⟨b,o,e,e2,g⟩:=h
   exact ⟨b,_,e2,aCS ho hf hz e,g.keep (w:=w) hE fun _=>rfl⟩
 | rd s f l=>exact RdR.keep (w:=w) hE (fun b hb=>⟨aHZ b hb,fun _=>rfl⟩) h
 | rc cs =>
   obtain ⟨b,o,e,h1,h2⟩:=h
   exact ⟨b,o,e,aHZ b h1,h2.keep (w:=w) hE fun _=>rfl⟩
 | _=>exact h
theorem aTE:∀ {l:List AC} {us:List Value},relL bs w (a0d l) us->relL bs.out w (a0d (aO7 l)) us:=fun {l}=>by
 have key:∀ {l:List AC} {us:List Value},relL bs w l us->relL bs.out w (aO7 l) us:=fun {l}=>by
  induction l with
  | nil=>intro us h; match us,h with | [],_=>trivial
  | cons x l ih=>intro us h; match us,h with | _ :: _,h=>exact ⟨b5S ho hf hz h.1,ih h.2⟩
 have app:∀ a b:List AC,aO7 (a ++ b)=aO7 a ++ aO7 b:=fun a b=>by
  induction a with
  | nil=>rfl
  | cons x a ih=>simp only [cons_append,aO7,ih]
 have fl:∀ l:List AC,a0d (aO7 l)=aO7 (a0d l):=fun l=>by
  induction l with
  | nil=>rfl
  | cons x l ih =>
    rw [aO7,a0d,a0d,app,ih];congr 1
    cases x with
    | Z b q=>cases b <;> rfl
    | _=>rfl
 intro us h;rw [fl];exact key h
theorem aKu:∀ {x:AK} {u:Value},relK bs w x u->relK bs.out w (b4B x) u
 | .c _,_,h=>b5S ho hf hz h
 | .g _,_,⟨us,e,h⟩=>⟨us,e,aTE ho hf hz h⟩
theorem aEZ:∀ {l:List AK} {us:List Value},relKs bs w l us->relKs bs.out w (aXN l) us
 | [],[],_=>trivial
 | _ :: _,_ :: _,h=>⟨aKu ho hf hz h.1,aEZ h.2⟩
 | [],_ :: _,h=>h.elim
 | _ :: _,[],h=>h.elim
theorem aTD:∀ {x:AV} {u:Value},relV bs w x u->relV bs.out w (b1o x) u
 | .u,_,_=>trivial
 | .k _,_,h=>aKu ho hf hz h
 | .t _,_,⟨us,e,h⟩=>⟨us,e,aEZ ho hf hz h⟩
end
def aZk:AC->Bool
 | .pl _ _=>true
 | x=>aT7 x
def b34:List AC->Bool
 | []=>true
 | x :: l=>aZk x && b34 l
def b4X:AK->Bool
 | .c (.pt _)=>true
 | .c (.pp _)=>true
 | .c (.pl _ _)=>true
 | .g xs=>b34 xs
 | x=>b3W x
def a9e:List AK->Bool
 | []=>true
 | x :: l=>b4X x && a9e l
section
variable {bs:Bs} {w:World} (hG:okF bs w=true)
include hG
theorem aUC {x:AC} {u:Value} (h:aZk x=true) (k:rel1 bs w x u):rel1 (bs.inn w) w x u:=by
 unfold aZk at h;split at h
 ·exact SlV.keep k fun b _ h2=>⟨h2,h2,fun _=>rfl⟩
 ·exact b4Q (aVs hG) h k
omit hG in
theorem aUA {x:AC} (h:aZk x=true):∀ y ∈ x.flat,aZk y=true:=by
 intro y hy;cases x <;> simp only [AC.flat,mem_cons,not_mem_nil,or_false] at hy
 case Z b q=>cases b <;> simp only [cond_true,cond_false,mem_cons,not_mem_nil,or_false] at hy <;> rcases hy with rfl | rfl | rfl | rfl <;> rfl
 case I=>rcases hy with rfl | rfl <;> rfl
 case R=>rcases hy with rfl | rfl | rfl | rfl <;> rfl
 all_goals (subst hy; exact h)
omit hG in
theorem aG5:∀ {l:List AC},b34 l=true->∀ x ∈ a0d l,aZk x=true
 | [],_,x,hx=>by simp [a0d] at hx
 | y :: l,h,x,hx=>by
   simp only [b34,and_eq_true] at h;simp only [a0d,mem_append] at hx;rcases hx with hx | hx
   ·exact aUA h.1 x hx
   ·exact aG5 h.2 x hx
theorem aLU:∀ {l:List AC} {us:List Value},(∀ x ∈ l,aZk x=true)->relL bs w l us->relL (bs.inn w) w l us
 | [],[],_,_=>trivial
 | x :: _,_ :: _,h,k=>⟨aUC hG (h x (mem_cons_self ..)) k.1,aLU (fun y hy=>h y (mem_cons_of_mem _ hy)) k.2⟩
 | [],_ :: _,_,k=>k.elim
 | _ :: _,[],_,k=>k.elim
theorem aUB {x:AK} {u:Value} (h:b4X x=true) (k:relK bs w x u):relK (bs.inn w) w x u:=by
 have ho:Old bs.lo w.heap.size w w:=fun b _ h2=>⟨h2,h2,fun _=>rfl⟩
 unfold b4X at h;split at h
 ·exact SlP.keep k ho
 ·exact SlQ.keep k ho
 ·exact SlV.keep k ho
 ·obtain ⟨us,e,k⟩:=k; exact ⟨us,e,aLU hG (aG5 h) k⟩
 ·exact aDj (aVs hG) h k
theorem aG6:∀ {x:List AK} {u:List Value},a9e x=true->relKs bs w x u->relKs (bs.inn w) w x u
 | [],[],_,_=>trivial
 | _ :: _,_ :: _,h,k=>by
   simp only [a9e,and_eq_true] at h
   exact ⟨aUB hG h.1 k.1,aG6 h.2 k.2⟩
 | [],_ :: _,_,k=>k.elim
 | _ :: _,[],_,k=>k.elim
end
def aUD (L:List Lay) (s:St):ResultVar->Option AK
 | .tmp t =>
   match s.tm[t]? with
   | some (.k x)=>some x
   | _=>none
 | .cell t T =>
   match s.tm[t]?,a09 L T with
   | some (.k (.c (.bx i off))),some l =>
     match s.bx[i]? with
     | some b =>
       match (cut 99 b.cs off l.size).bind (mkK l.agg) with
       | some (.k x)=>some x
       | _=>none
     | none=>none
   | _,_=>none
def aNC (L:List Lay) (s:St):List ResultVar->Option (List AK)
 | []=>some []
 | r :: l =>
   match aUD L s r,aNC L s l with
   | some x,some xs=>some (x :: xs)
   | _,_=>none
def aZl (L:List Lay) (s:St) (l:List ResultVar):Option AV :=
 match aNC L s l with
 | some [x]=>some (.k x)
 | some xs=>some (.t xs)
 | none=>none
section
variable {P:Program} {L:List Lay} {C:List Ctr} {W0 w:World} {F:List (Option Nat)} {bs:Bs} {s:St} {a:Act}
def a6i (tmps:Array Value):ResultVar->Sem Value
 | .tmp t=>pure (tmps.getD t undef)
 | .cell a t=>do loadVar t (<- asAddr (tmps.getD a undef))
theorem aR7 (hL:∀ l ∈ L,a1I P l) (hR:Rl W0 F bs s a w) {r:ResultVar} {x:AK} (h:aUD L s r=some x):∃ v,(a6i a.tmps r).run P w=.ok v w/\relK bs w x v:=by
 cases r with
 | tmp t =>
   simp only [aUD] at h;split at h
   ·rename_i x' ht;simp only [injEq] at h;subst h;exact ⟨_,rfl,hR.tmp t _ ht⟩
   ·cases h
 | cell t T =>
   simp only [aUD] at h;split at h
   ·rename_i i off l ht hl;split at h
    ·rename_i b hb;split at h
     ·rename_i x' hx;simp only [injEq] at h;subst h;simp only [Option.bind_eq_some_iff] at hx;obtain ⟨cs,hc,hk⟩:=hx;obtain ⟨hm,rfl⟩:=a0c hl;obtain ⟨g,hg,hv⟩:=hR.tmp t _ ht;obtain ⟨_,vs,h2,h3,_⟩:=hR.box i g b hg hb;obtain ⟨e1,e2⟩:=a4o _ _ _ _ _ hc
      have hrel:relL bs w (a0d cs) ((vs.drop off).take l.size):=by rw [e1]; exact (h3.drop off).take _
      refine ⟨_,?_,a3A hk hrel⟩;have:=a2M (P:=P) (hL l hm) g off w _ (by rw [<- hrel.len,e2]) (a0B h2 off l.size);simp only [Instr.loadAt,Instr.sureAddr,Sem.run_bind,Sem.run_pure,Result.andThen_ok] at this;simp only [a6i,hv,asAddr,Sem.run_bind,Sem.run_pure,Result.andThen_ok];exact this
     ·cases h
    ·cases h
   ·cases h
theorem aG7 (hL:∀ l ∈ L,a1I P l) (hR:Rl W0 F bs s a w):∀ {l:List ResultVar} {xs:List AK},aNC L s l=some xs->∃ vs:List Value,(l.mapM (a6i a.tmps)).run P w=.ok vs w/\relKs bs w xs vs
 | [],xs,h=>by
   simp only [aNC,injEq] at h;subst h
   exact ⟨[],by simp,trivial⟩
 | r :: l,xs,h=>by
   simp only [aNC] at h;split at h
   ·rename_i x xs' hx hl;simp only [injEq] at h;subst h;obtain ⟨v,h1,h2⟩:=aR7 hL hR hx;obtain ⟨vs,h3,h4⟩:=aG7 hL hR hl;exact ⟨v :: vs,by simp [List.mapM_cons,h1,h3],h2,h4⟩
   ·cases h
theorem a7T (fn:Func) (tmps:Array Value):results fn tmps=(do
    let vs <- fn.results.mapM (a6i tmps)
    pure (if h:vs.size=1 then vs[0] else .tuple vs)):=by
 unfold results;congr 1
theorem a5e (hL:∀ l ∈ L,a1I P l) (hR:Rl W0 F bs s a w) {fn:Func} {x:AV} (h:aZl L s fn.results.toList=some x):∃ v,(results fn a.tmps).run P w=.ok v w/\relV bs w x v:=by
 unfold aZl at h
 have key:∀ xs,aNC L s fn.results.toList=some xs->∃ vs:List Value,(fn.results.mapM (a6i a.tmps)).run P w=.ok vs.toArray w/\relKs bs w xs vs:=fun xs hx=>by
  obtain ⟨vs,h1,h2⟩:=aG7 hL hR hx;refine ⟨vs,?_,h2⟩;rw [Array.mapM_eq_mapM_toList];simp [h1]
 rw [a7T];split at h
 ·rename_i y hy;simp only [injEq] at h;subst h;obtain ⟨vs,h1,h2⟩:=key _ hy
  match vs,h2 with
  | [v],h2=>exact ⟨v,by simp [h1],h2.1⟩
 ·rename_i xs hne hy;simp only [injEq] at h;subst h;obtain ⟨vs,h1,h2⟩:=key _ hy;refine ⟨.tuple vs.toArray,?_,vs,rfl,h2⟩;have hl:=h2.len
  have:¬ vs.length=1:=by
   intro e;rw [e] at hl
   match xs,hl with
   | [y],_=>exact hne y rfl
  simp [h1,this]
 ·cases h
def owes (L:List Lay) (C:List Ctr) (I:List LI) (fn:Func) (body:Code) (xs:List AK) (r:AV):Prop :=
 awp L C I body ⟨xs.map .k ++ List.replicate (fn.ntmps - xs.length) .u,[]⟩ fun e s =>
  match e with
  | .exit _=>False
  | _ =>
    match aZl L s fn.results.toList with
    | some x=>eqV (b1o x) r
    | none=>False
theorem aCH {n:Nat} {xs:List AK} {vs:List Value} (hx:relKs bs w xs vs) (hA:okB bs w=true) (hG:okF bs w=true) (hnx:a9e xs=true):Rl w (frm bs) (bs.inn w) ⟨xs.map .k ++ List.replicate (n - xs.length) .u,[]⟩ { tmps:=vs.toArray ++ Array.replicate (n - vs.toArray.size) undef,defers:=[] } w:=by
 have hxl:=hx.len;refine ⟨Ext.refl w,rfl,rfl,b2h hA hG,fun n b h=>(by simp at h),List.nodup_nil,rfl,fun i b x h _=>(by simp at h),fun b hb=>(by cases hb),fun t x ht=>?_,by simp [hxl],rfl⟩;simp only at ht;rcases Nat.lt_or_ge t xs.length with hlt | hge
 ·rw [List.getElem?_append_left (by simpa using hlt)] at ht;simp only [getElem?_map,Option.map_eq_some_iff] at ht;obtain ⟨y,hy,rfl⟩:=ht;obtain ⟨u,h1,h2⟩:=(aG6 hG hnx hx).get hy
  have hlt':t < vs.length:=by omega
  have e:(vs.toArray ++ Array.replicate (n - vs.toArray.size) undef).getD t undef=u:=by
   have hu:vs[t]=u:=by simpa [hlt'] using h1
   simp [Array.getD_eq_getD_getElem?,Array.getElem?_append,hlt',hu]
  rw [e];exact h2
 ·rw [List.getElem?_append_right (by simpa using hge)] at ht;rw [List.getElem?_replicate] at ht;split at ht
  ·simp only [injEq] at ht;subst ht;trivial
  ·cases ht
theorem a7X {bs1:Bs} {s1:St} {a1:Act} {w1:World} {x r:AV} {v:Value} (hG:okF bs w=true) (hR:Rl w (frm bs) bs1 s1 a1 w1) (hv:relV bs1 w1 x v) (he:eqV (b1o x) r) (hn:aT5 r=true):relV bs w1 r v:=by
 have hz:=a5Y hG;have h1:=aTD hR.own hR.fb (by rw [hR.fbe]; exact hz) hv;refine aT4 (bs:=bs1.out) (fun b h=>?_) hn (aQL he h1)
 have hm:some b ∉ frm bs:=by rw [<- hR.fbe]; exact h.2.2.2.1
 simp only [frm,mem_append,mem_map,mem_filter,not_or,not_exists,not_and] at hm;exact ⟨h.1,fun h'=>hm.1 b h' rfl,fun h'=>by have:=hm.2.1 h'; simp at this,hm.2.2,fun h'=>hz (by simp [frm,h'])⟩
theorem a2j (hm:P.follows .mixedOrders=true) (hL:∀ l ∈ L,a1I P l) (hC:∀ c ∈ C,CtrOK P c) {f:Nat} {fn:Func} {body:Code} (hf:P.funcs[f]?=some fn) (hb:fn.body=some body) {xs:List AK} {vs:List Value} {r:AV}
    (hx:relKs bs w xs vs) (hA:okB bs w=true) (hG:okF bs w=true) (hnx:a9e xs=true) (hnr:aT5 r=true) {I:List LI} (h:owes L C I fn body xs r):Calls P f vs.toArray w fun e w'=>∃ v,e=.returned v/\Ext w w'/\relV bs w' r v:=by
 refine calls_of_wp hf hb ?_;refine a2k (a5Y hG) hm hL hC body _ _ _ _ _ _ h (aCH hx hA hG hnx) fun e s' bs' a' w' hq hR'=>?_
 cases e with
 | exit id=>exact hq.elim
 | normal =>
   simp only at hq;split at hq
   ·rename_i x hx';obtain ⟨v,h1,h2⟩:=a5e hL hR' hx';exact ⟨hR'.dfr,v,h1,v,rfl,hR'.ext,a7X hG hR' h2 hq hnr⟩
   ·exact hq.elim
 | ret =>
   simp only at hq;split at hq
   ·rename_i x hx';obtain ⟨v,h1,h2⟩:=a5e hL hR' hx';exact ⟨hR'.dfr,v,h1,v,rfl,hR'.ext,a7X hG hR' h2 hq hnr⟩
   ·exact hq.elim
end
def LT:List Lay:=[
 ⟨33,2,true,0,0,[.v (.bool false),.sl []],[(0,1),(1,1)]⟩,
 ⟨35,4,true,0,0,[.v (.bool false),.sl [],.v (.bool false),.sl []],[(0,2),(2,2)]⟩,
 ⟨73,8,true,0,0,[.v (.bool false),.sl [],.v (.bool false),.sl [],.v (.bool false),.sl [],.v (.bool false),.sl []],[(0,4),(4,4)]⟩,
 ⟨43,2,true,11,0,[.v (.int .i64 0),.v (.int .i64 0)],[(0,1),(1,1)]⟩,
 ⟨3,1,false,3,0,[.v (.int .i64 0)],[]⟩,
 ⟨2,1,false,3,0,[.v (.int .i64 0)],[]⟩,
 ⟨121,1,false,4,0,[.v (.int .u64 0)],[]⟩,
 ⟨189,1,false,5,0,[.v (.int .u32 0)],[]⟩,
 ⟨4,1,false,1,0,[.v (.bool false)],[]⟩,
 ⟨31,1,false,2,0,[.sl []],[]⟩,
 ⟨44,1,false,8,43,[.v (.slice none 0 0)],[]⟩,
 ⟨61,1,false,9,44,[.v (.slice none 0 0)],[]⟩,
 ⟨215,1,false,10,35,[.v (.slice none 0 0)],[]⟩,
 ⟨37,1,false,0,0,[.v (.int .i64 0)],[]⟩]
theorem a3c:∀ l ∈ LT,a1I prog l:=by
 have h:LT.all (aYE prog)=true:=by kernel_rfl
 intro l hl;exact a90 (all_eq_true.1 h l hl)
theorem mixed:prog.follows .mixedOrders=true:=by kernel_rfl
section
variable {bs:Bs} {w:World}
theorem aOL {p q:Prop} (_:p) (_:q) {x:Int} {u:Value}:relK bs w (.g [.I x]) u ↔ ∃ b s,u=.agg #[.bool b,s]/\IsI w b s x:=by
 constructor
 ·rintro ⟨us,rfl,h⟩
  match us,h with
  | [u1,u2],h =>
    obtain ⟨⟨rfl,_⟩,h2,_⟩:=h;exact ⟨_,u2,rfl,rfl,h2.1⟩
 ·rintro ⟨b,s,rfl,hb,hs⟩;exact ⟨[.bool b,s],rfl,⟨by rw [hb],rfl⟩,⟨hs,trivial⟩,trivial⟩
theorem a9L {x:AK} {us:List Value} (h:relKs bs w [x] us):∃ u,us=[u]/\relK bs w x u:=by
 match us,h with
 | [u],h=>exact ⟨u,rfl,h.1⟩
theorem a6X {x y:AK} {us:List Value} (h:relKs bs w [x,y] us):∃ u v,us=[u,v]/\relK bs w x u/\relK bs w y v:=by
 match us,h with
 | [u,v],h=>exact ⟨u,v,rfl,h.1,h.2.1⟩
theorem b4y {p q:Prop} (hA:p) (hG:q) {w:World} {z:Int} {e:Ending} {w':World} (h:b3i w z e w'):∃ v,e=.returned v/\Ext w w'/\relV bs w' (.k (.g [.I z])) v:=by
 obtain ⟨b,a,n,c,rfl,hs,hx⟩:=h;exact ⟨_,rfl,hx,(aOL hA hG).2 ⟨b,_,rfl,hs⟩⟩
theorem b4x {w:World} {x:Value} {e:Ending} {w':World} (h1:x.oneCell'=true) (h:e=.returned x/\Ext w w'):∃ v,e=.returned v/\Ext w w'/\relV bs w' (.k (.c (.v x))) v:=⟨x,h.1,h.2,rfl,h1⟩
end
def aLA:Ctr:=⟨134,fun | [.g [.I x]]=>.yes True (.k (.c (.v (.int .i64 x.sign)))) | _=>.no⟩
theorem aRo:CtrOK prog aLA:=.of (by kernel_rfl) (fun bs w xs vs pre r hr hA hG h hp=>by
 simp only [aLA] at h;split at h
 ·cases h;obtain ⟨u,rfl,h1⟩:=a9L hr;obtain ⟨b1,s1,rfl,k1⟩:=(aOL hA hG).1 h1;exact (aQr b1 s1 _ w k1).mono fun e w' h=>b4x rfl h
 ·cases h) (fun xs α pre φ r=>by simp only [aLA]; split <;> (intro h; cases h))
def CT0:List Ctr:=[aLA]
theorem aSC:∀ c ∈ CT0,CtrOK prog c:=by
 intro c hc;simp only [CT0,mem_cons,not_mem_nil,or_false] at hc;subst hc;exact aRo
section
variable {P:Program} {L:List Lay} {C:List Ctr} {bs:Bs} {w:World}
def a1q (L:List Lay) (C:List Ctr) (I:List LI) (fn:Func) (body:Code) (xs:List AK) {α:Type} (φ:α->Prop) (r:α->AV):Prop :=
 awp L C I body ⟨xs.map .k ++ List.replicate (fn.ntmps - xs.length) .u,[]⟩ fun e s =>
  match e with
  | .exit _=>False
  | _ =>
    match aZl L s fn.results.toList with
    | some x=>∃ a,φ a/\eqV (b1o x) (r a)
    | none=>False
theorem a18 (hm:P.follows .mixedOrders=true) (hL:∀ l ∈ L,a1I P l) (hC:∀ c ∈ C,CtrOK P c) {f:Nat} {fn:Func} {body:Code} (hf:P.funcs[f]?=some fn) (hb:fn.body=some body) {xs:List AK} {vs:List Value} {α:Type} {φ:α->Prop} {r:α->AV}
    (hx:relKs bs w xs vs) (hA:okB bs w=true) (hG:okF bs w=true) (hnx:a9e xs=true) (hnr:∀ a,aT5 (r a)=true) {I:List LI} (h:a1q L C I fn body xs φ r):Calls P f vs.toArray w fun e w'=>∃ v,e=.returned v/\Ext w w'/\∃ a,φ a/\relV bs w' (r a) v:=by
 refine calls_of_wp hf hb ?_;refine a2k (a5Y hG) hm hL hC body _ _ _ _ _ _ h (aCH hx hA hG hnx) fun e s' bs' a' w' hq hR'=>?_
 cases e with
 | exit id=>exact hq.elim
 | normal =>
   simp only at hq;split at hq
   ·rename_i x hx';obtain ⟨v,h1,h2⟩:=a5e hL hR' hx';obtain ⟨a,ha,he⟩:=hq;exact ⟨hR'.dfr,v,h1,v,rfl,hR'.ext,a,ha,a7X hG hR' h2 he (hnr a)⟩
   ·exact hq.elim
 | ret =>
   simp only at hq;split at hq
   ·rename_i x hx';obtain ⟨v,h1,h2⟩:=a5e hL hR' hx';obtain ⟨a,ha,he⟩:=hq;exact ⟨hR'.dfr,v,h1,v,rfl,hR'.ext,a,ha,a7X hG hR' h2 he (hnr a)⟩
   ·exact hq.elim
theorem CtrOK.ofEx {c:Ctr} (h1:a1G P c.f=true) (h2:∀ (bs:Bs) (w:World) (xs:List AK) (vs:List Value) (α:Type) (pre:Prop) (φ:α->Prop) (r:α->AV),relKs bs w xs vs->okB bs w=true->okF bs w=true->c.sp xs=.ex α pre φ r->pre->Calls P c.f vs.toArray w fun e w'=>∃ v,e=.returned v/\Ext w w'/\∃ x,φ x/\relV bs w' (r x) v) (h3:∀ (xs:List AK) (pre:Prop) (r:AV),c.sp xs ≠ .yes pre r) (h4:aXL c.f=none:=by rfl):CtrOK P c :=
 ⟨h1,fun _ _ _ _ _ _ _ _ _ h=>absurd h (h3 _ _ _),h2,fun _ h=>by rw [h4] at h; cases h⟩
def aO6 (L:List Lay) (C:List Ctr) (I:List LI) (fn:Func) (body:Code) (xs:List AK) (T:Nat) (φ:List Ux->Prop):Prop :=
 awp L C I body ⟨xs.map .k ++ List.replicate (fn.ntmps - xs.length) .u,[]⟩ fun e s =>
  match e with
  | .exit _=>False
  | _ =>
    match aZl L s fn.results.toList with
    | some (.k (.c (.ow _ U .U l)))=>bif Nat.beq U T then φ l else False
    | _=>False
theorem aDr (hm:P.follows .mixedOrders=true) (hL:∀ l ∈ L,a1I P l) (hC:∀ c ∈ C,CtrOK P c) {f:Nat} {fn:Func} {body:Code} (hf:P.funcs[f]?=some fn) (hb:fn.body=some body) {xs:List AK} {vs:List Value} {T:Nat} {φ:List Ux->Prop}
    (hx:relKs bs w xs vs) (hA:okB bs w=true) (hG:okF bs w=true) (hnx:a9e xs=true) {I:List LI} (h:aO6 L C I fn body xs T φ):Calls P f vs.toArray w fun e w'=>∃ v,e=.returned v/\Ext w w'/\∃ l ob,φ l/\OwR (rel0 w') w.heap.size w' v T .U l ob:=by
 have fin:∀ {s':St} {bs':Bs} {a':Act} {w':World},(match aZl L s' fn.results.toList with | some (.k (.c (.ow _ U .U l)))=>bif Nat.beq U T then φ l else False | _=>False)->Rl w (frm bs) bs' s' a' w'->∃ v,(results fn a'.tmps).run P w'=.ok v w'/\Ext w w'/\∃ l ob,φ l/\OwR (rel0 w') w.heap.size w' v T .U l ob:=fun {s' bs' a' w'} hq hR'=>by
  split at hq
  ·rename_i m U l hx'
   cases hU:Nat.beq U T with
   | false=>rw [hU] at hq; exact hq.elim
   | true =>
     rw [hU] at hq
     obtain rfl:U=T:=by simpa using hU
     obtain ⟨v,h1,h2⟩:=a5e hL hR' hx';obtain ⟨ob,_,h3⟩:=h2;rw [hR'.lo] at h3;exact ⟨v,h1,hR'.ext,l,ob,hq,aCR (fun x hx u hu=>(aOM (aIy x hx)).1 hu) h3⟩
  ·exact hq.elim
 refine calls_of_wp hf hb ?_;refine a2k (a5Y hG) hm hL hC body _ _ _ _ _ _ h (aCH hx hA hG hnx) fun e s' bs' a' w' hq hR'=>?_
 cases e with
 | exit id=>exact hq.elim
 | normal =>
   obtain ⟨v,h1,h2,h3⟩:=fin hq hR'
   exact ⟨hR'.dfr,v,h1,v,rfl,h2,h3⟩
 | ret =>
   obtain ⟨v,h1,h2,h3⟩:=fin hq hR';exact ⟨hR'.dfr,v,h1,v,rfl,h2,h3⟩
theorem b1m {w':World} {v:Value} {T:Nat} {l:List Ux} {ob:Option Nat} (hA:okB bs w=true) (hG:okF bs w=true) (h:OwR (rel0 w') w.heap.size w' v T .U l ob):relV bs w' (.k (.c (.rd .U false l))) v:=by
 simp only [okB,okF,and_eq_true,all_eq_true] at hA hG;have h':=aCR (R':=relE bs w') (fun x hx u hu=>(aOM (aIy x hx)).2 hu) h;refine OwR.rd h' fun b hb=>?_
 rcases h with ⟨h1,_⟩ | ⟨b',cap,h1,_,h2,_,_,cur,h3,_⟩
 ·rw [hb] at h1; cases h1
 ·rw [hb] at h1;cases h1;refine ⟨(Array.getElem?_eq_some_iff.1 h3).1,fun hm=>?_,fun hm=>?_,fun hm=>?_,fun hm=>?_⟩
  ·have:=hA.1 _ hm;simp only [blt_eq] at this;omega
  ·have:=hA.2 _ hm;simp only [blt_eq] at this;omega
  ·have:=hG _ hm;simp only [blt_eq] at this;omega
  ·have:=hG _ hm;simp at this
theorem CtrOK.ofOwn {c:Ctr} {T:Nat} (h1:a1G P c.f=true) (hT:aXL c.f=some T) (h2:∀ (bs:Bs) (w:World) (xs:List AK) (vs:List Value) (α:Type) (pre:Prop) (φ:α->Prop) (r:α->AV),relKs bs w xs vs->okB bs w=true->okF bs w=true->c.sp xs=.ex α pre φ r->pre->Calls P c.f vs.toArray w fun e w'=>∃ v,e=.returned v/\Ext w w'/\∃ x l ob,φ x/\r x=.k (.c (.rd .U false l))/\OwR (rel0 w') w.heap.size w' v T .U l ob) (h3:∀ (xs:List AK) (pre:Prop) (r:AV),c.sp xs ≠ .yes pre r):CtrOK P c :=
 ⟨h1,fun _ _ _ _ _ _ _ _ _ h=>absurd h (h3 _ _ _),fun bs w xs vs α pre φ r hr hA hG hs hp=>(h2 bs w xs vs α pre φ r hr hA hG hs hp).mono fun e w' ⟨v,e1,e2,x,l,ob,e3,e4,e5⟩=>⟨v,e1,e2,x,e3,by rw [e4]; exact b1m hA hG e5⟩,
  fun U hU bs w xs vs α pre φ r hr hA hG hs hp=>by
   rw [hT] at hU;cases hU
   exact h2 bs w xs vs α pre φ r hr hA hG hs hp⟩
end
def b35:List Prop->Prop->Prop
 | [],p=>p
 | q :: l,p=>q/\b35 l p
def aZn:List Prop->Prop
 | []=>True
 | q :: l=>q/\aZn l
theorem a7G:∀ {l:List Prop} {p:Prop},b35 l p->aZn l/\p
 | [],_,h=>⟨trivial,h⟩
 | _ :: _,_,h=>⟨⟨h.1,(a7G h.2).1⟩,(a7G h.2).2⟩
theorem aEc:∀ {a b:List Prop},aZn (a ++ b)->aZn a/\aZn b
 | [],_,h=>⟨trivial,h⟩
 | _ :: _,_,h=>⟨⟨h.1,(aEc h.2).1⟩,(aEc h.2).2⟩
structure Rd (T:Type) where
 rd:AK->Option (List Prop × T)
 en:T->AK
 ok:∀ {a:AK} {q:List Prop} {x:T},rd a=some (q,x)->aZn q->∀ {bs:Bs} {w:World} {u:Value},relK bs w a u->relK bs w (en x) u
structure Rds (T:Type) where
 rd:List AK->Option (List Prop × T)
 en:T->List AK
 ok:∀ {a:List AK} {q:List Prop} {x:T},rd a=some (q,x)->aZn q->∀ {bs:Bs} {w:World} {vs:List Value},relKs bs w a vs->relKs bs w (en x) vs
def b06:List AK->Option (List Prop × Unit)
 | []=>some ([],())
 | _=>none
def r0:Rds Unit:=⟨b06,fun _=>[],fun {a q x} h _ bs w vs k=>by
 unfold b06 at h;split at h
 ·exact k
 ·cases h⟩
def aU9 {S T:Type} (f:AK->Option (List Prop × S)) (g:List AK->Option (List Prop × T)):List AK->Option (List Prop × S × T)
 | x :: l =>
   match f x,g l with
   | some (q,s),some (r,t)=>some (q ++ r,s,t)
   | _,_=>none
 | []=>none
def Rd.c {S T:Type} (A:Rd S) (B:Rds T):Rds (S × T):=⟨aU9 A.rd B.rd,fun x=>A.en x.1 :: B.en x.2,fun {a q x} h hq bs w vs k=>by
 unfold aU9 at h;split at h
 ·split at h
  ·rename_i e1 e2;cases h;obtain ⟨h1,h2⟩:=aEc hq
   match vs,k with
   | v :: vs,k=>exact ⟨A.ok e1 h1 k.1,B.ok e2 h2 k.2⟩
  ·cases h
 ·cases h⟩
def rdG {T:Type} (f:List AC->Option (Prop × T)):AK->Option (List Prop × T)
 | .g l=>(match f l with | some (c,x)=>some ([c],x) | none=>none)
 | _=>none
def rG {T:Type} (f:List AC->Option (Prop × T)) (e:T->List AC) (h:∀ {l:List AC} {p:T} {c:Prop},f l=some (c,p)->c->a0d l=a0d (e p)):Rd T:=⟨rdG f,fun x=>.g (e x),fun {a q x} h1 hq bs w u k=>by
 unfold rdG at h1;split at h1
 ·split at h1
  ·rename_i e1;cases h1;exact a7V (h e1 hq.1) k
  ·cases h1
 ·cases h1⟩
def rq':List AC->Option (Prop × Rat)
 | [x]=>rq x
 | _=>none
def rQ:Rd Rat:=rG rq' (fun q=>[.R q]) fun {l p c} h hc=>by
 unfold rq' at h;split at h
 ·exact a2O h hc
 ·cases h
def rK {T:Type} (f:AK->Option T) (e:T->AK) (h:∀ {a:AK} {x:T},f a=some x->∀ {bs:Bs} {w:World} {u:Value},relK bs w a u->relK bs w (e x) u):Rd T:=⟨fun a=>(match f a with | some x=>some ([],x) | none=>none),e,fun {a q x} h1 _ bs w u k=>by
 split at h1
 ·rename_i e1;cases h1;exact h e1 k
 ·cases h1⟩
def fI:AK->Option Int
 | .c (.v (.int .i64 n))=>some n
 | _=>none
def rI:Rd Int:=rK fI (fun n=>.c (.v (.int .i64 n))) fun {a x} h bs w u k=>by
 unfold fI at h;split at h
 ·cases h; exact k
 ·cases h
def fB:AK->Option Bool
 | .c (.v (.bool n))=>some n
 | _=>none
def rB:Rd Bool:=rK fB (fun n=>.c (.v (.bool n))) fun {a x} h bs w u k=>by
 unfold fB at h;split at h
 ·cases h; exact k
 ·cases h
def fR:AK->Option Rat
 | .g [.R a]=>some a
 | _=>none
def gR:Rd Rat:=rK fR (fun a=>.g [.R a]) fun {a x} h bs w u k=>by
 unfold fR at h;split at h
 ·cases h; exact k
 ·cases h
def fRR:AK->Option (Rat × Rat)
 | .g [.R a,.R b]=>some (a,b)
 | _=>none
def gRR:Rd (Rat × Rat):=rK fRR (fun a=>.g [.R a.1,.R a.2]) fun {a x} h bs w u k=>by
 unfold fRR at h;split at h
 ·cases h; exact k
 ·cases h
def fZ:AK->Option Int
 | .g [.I a]=>some a
 | _=>none
def gI:Rd Int:=rK fZ (fun a=>.g [.I a]) fun {a x} h bs w u k=>by
 unfold fZ at h;split at h
 ·cases h; exact k
 ·cases h
def fP:AK->Option (List Px)
 | .c (.rd .P _ l)=>some l
 | _=>none
def fU:AK->Option (List Ux)
 | .c (.rd .U _ l)=>some l
 | _=>none
theorem rd_false {bs:Bs} {w:World} {s:Sc} {f:Bool} {l:List s.T} {u:Value} (k:relK bs w (.c (.rd s f l)) u):relK bs w (.c (.rd s false l)) u:=by
 obtain ⟨a,cap,b,off,h1,h2,h3⟩:=k;exact ⟨a,cap,b,off,h1,(by intro h; cases h),h3⟩
def lP:Rd (List Px):=rK fP (fun l=>.c (.rd .P false l)) fun {a x} h bs w u k=>by
 unfold fP at h;split at h
 ·cases h; exact rd_false k
 ·cases h
def lU:Rd (List Ux):=rK fU (fun l=>.c (.rd .U false l)) fun {a x} h bs w u k=>by
 unfold fU at h;split at h
 ·cases h; exact rd_false k
 ·cases h
def rV:Rd Vx:=rG rdV _ a8C
def rR:Rd Rx:=rG rdR _ b05
def rP:Rd Px:=rG rdP _ aBU
def rD:Rd Dx:=rG rdD _ b09
def rL:Rd Lx:=rG rdL _ b07
def rKx:Rd Kx:=rG rdK _ b08
def rU:Rd Ux:=rG rdU _ aOR
def spY {T:Type} (R:Rds T) (pre:T->Prop) (res:T->AV) (xs:List AK):Sp :=
 match R.rd xs with
 | some (q,x)=>.yes (b35 q (pre x)) (res x)
 | none=>.no
def spE {T:Type} (R:Rds T) (α:Type) (pre:T->Prop) (φ:T->α->Prop) (r:T->α->AV) (xs:List AK):Sp :=
 match R.rd xs with
 | some (q,x)=>.ex α (b35 q (pre x)) (φ x) (r x)
 | none=>.no
section
variable {P:Program} {L:List Lay} {C:List Ctr}
def owed (L:List Lay) (C:List Ctr) (I:List LI) (fn:Func) (xs:List AK) (r:AV):Prop:=owes L C I fn (fn.body.getD .skip) xs r
theorem b1x (hm:P.follows .mixedOrders=true) (hL:∀ l ∈ L,a1I P l) (hC:∀ c ∈ C,CtrOK P c) {f:Nat} {fn:Func} {body:Code} (hf:P.funcs[f]?=some fn) (hb:fn.body=some body) {T:Type} {R:Rds T} {pre:T->Prop} {res:T->AV} {I:T->List LI} (h1:a1G P f=true)
    (hx:∀ x,a9e (R.en x)=true) (hn:∀ x,aT5 (res x)=true) (h:∀ x,pre x->owes L C (I x) fn body (R.en x) (res x)):CtrOK P ⟨f,spY R pre res⟩ :=
 .of h1 (fun bs w xs vs p r hr hA hG hs hp=>by
  simp only [spY] at hs;split at hs
  ·rename_i q x e;cases hs;obtain ⟨k1,k2⟩:=a7G hp;exact a2j hm hL hC hf hb (R.ok e k1 hr) hA hG (hx x) (hn x) (h x k2)
  ·cases hs) (fun xs α p φ r=>by simp only [spY]; split <;> (intro h; cases h))
theorem b1z (hm:P.follows .mixedOrders=true) (hL:∀ l ∈ L,a1I P l) (hC:∀ c ∈ C,CtrOK P c) {f:Nat} {fn:Func} {body:Code} (hf:P.funcs[f]?=some fn) (hb:fn.body=some body) {T:Type} {R:Rds T} {α:Type} {pre:T->Prop} {φ:T->α->Prop} {r:T->α->AV} {I:T->List LI} (h1:a1G P f=true)
    (hx:∀ x,a9e (R.en x)=true) (hn:∀ x a,aT5 (r x a)=true) (h:∀ x,pre x->a1q L C (I x) fn body (R.en x) (φ x) (r x)) (h4:aXL f=none:=by rfl):CtrOK P ⟨f,spE R α pre φ r⟩ :=
 .ofEx h1 (fun bs w xs vs β p ψ s hr hA hG hs hp=>by
  simp only [spE] at hs;split at hs
  ·rename_i q x e;cases hs;obtain ⟨k1,k2⟩:=a7G hp;exact a18 hm hL hC hf hb (R.ok e k1 hr) hA hG (hx x) (hn x) (h x k2)
  ·cases hs) (fun xs p s=>by simp only [spE]; split <;> (intro h; cases h)) h4
end
theorem yOK {L:List Lay} {C:List Ctr} (hL:∀ l ∈ L,a1I prog l) (hC:∀ c ∈ C,CtrOK prog c) {f:Nat} {fn:Func} {body:Code} (hf:prog.funcs[f]?=some fn) {T:Type} {R:Rds T} {pre:T->Prop} {res:T->AV} {I:T->List LI} (h:∀ x,pre x->owes L C (I x) fn body (R.en x) (res x))
    (hb:fn.body=some body:=by kernel_rfl) (h1:a1G prog f=true:=by kernel_rfl) (hx:∀ x,a9e (R.en x)=true:=by intro x; rfl) (hn:∀ x,aT5 (res x)=true:=by intro x; rfl):CtrOK prog ⟨f,spY R pre res⟩:=b1x mixed hL hC hf hb h1 hx hn h
theorem eOK {L:List Lay} {C:List Ctr} (hL:∀ l ∈ L,a1I prog l) (hC:∀ c ∈ C,CtrOK prog c) {f:Nat} {fn:Func} {body:Code} (hf:prog.funcs[f]?=some fn) {T:Type} {R:Rds T} {α:Type} {pre:T->Prop} {φ:T->α->Prop} {r:T->α->AV} {I:T->List LI} (h:∀ x,pre x->a1q L C (I x) fn body (R.en x) (φ x) (r x))
    (hb:fn.body=some body:=by kernel_rfl) (h1:a1G prog f=true:=by kernel_rfl) (hx:∀ x,a9e (R.en x)=true:=by intro x; rfl) (hn:∀ x a,aT5 (r x a)=true:=by intro x a; rfl) (h4:aXL f=none:=by rfl):CtrOK prog ⟨f,spE R α pre φ r⟩:=b1z mixed hL hC hf hb h1 hx hn h h4
abbrev bd (f:Func):Code:=f.body.getD .skip
def eV (x:Vx):List AC:=[.R (x.vx),.R (x.vy)]
def eR (x:Rx):List AC:=[.R (x.ra),.R (x.rb),.R (x.rc)]
def eP (x:Px):List AC:=[.R (x.a),.R (x.b),.R (x.c),.R (x.d),.R (x.e)]
def eD (x:Dx):List AC:=[.R (x.da),.R (x.db),.R (x.dc),.R (x.dd),.R (x.dm),.R (x.dn)]
def eL (x:Lx):List AC:=[.R (x.la),.R (x.lb),.R (x.lc)]
def eK (x:Kx):List AC:=[.R (x.kx),.R (x.ky),.R (x.kq)]
def eU (x:Ux):List AC:=[.v (.bool (x.arc)),.Z (!x.arc) (x.l.la),.Z (!x.arc) (x.l.lb),.Z (!x.arc) (x.l.lc),.Z (x.arc) (x.k.kx),.Z (x.arc) (x.k.ky),.Z (x.arc) (x.k.kq),.v (.bool (x.cw)),.R (x.f.a),.R (x.f.b),.R (x.f.c),.R (x.f.d),.R (x.f.e),.R (x.t.a),.R (x.t.b),.R (x.t.c),.R (x.t.d),.R (x.t.e)]
theorem a3e:∀ c ∈ ([]:List Ctr),CtrOK prog c:=fun _ h=>by cases h
theorem a0Y {c:Ctr} {l:List Ctr} (h:CtrOK prog c) (k:∀ c ∈ l,CtrOK prog c):∀ d ∈ c :: l,CtrOK prog d:=fun d hd=>by
 rcases mem_cons.1 hd with rfl | hd
 ·exact h
 ·exact k d hd
theorem a0M {P:Program} {a b:List Ctr} (ha:∀ c ∈ a,CtrOK P c) (hb:∀ c ∈ b,CtrOK P c):∀ c ∈ a ++ b,CtrOK P c:=fun c hc=>(mem_append.1 hc).elim (ha c) (hb c)
theorem aXl (x y:Int) (hy:0 < y) (h:x % y=0):sgn (decide (x < 0) != decide (y < 0)) (x.natAbs / y.natAbs)=x / y:=by
 obtain ⟨k,rfl⟩:=Int.dvd_of_emod_eq_zero h
 have hn:y.natAbs ≠ 0:=by omega
 rw [Int.natAbs_mul,Nat.mul_div_cancel_left _ (by omega),Int.mul_ediv_cancel_left _ (by omega)]
 have e1:decide (y < 0)=false:=by simp; omega
 have e2:(y*k < 0) ↔ k < 0:=by
  constructor
  ·intro h';rcases Int.lt_or_le k 0 with h2 | h2
   ·exact h2
   ·have:=Int.mul_nonneg (Int.le_of_lt hy) h2;omega
  ·intro h';exact Int.mul_neg_of_pos_of_neg hy h'
 have e3:decide (y*k < 0)=decide (k < 0):=by simp only [decide_eq_decide]; exact e2
 rw [e1,e3];unfold sgn;rcases Int.lt_or_le k 0 with h2 | h2
 ·simp [h2]; omega
 ·have:¬ k < 0:=by omega
  simp [this]; omega
theorem a2W {a b:Int} (h:a.natAbs <= b.natAbs):szI a <= szI b:=Lb.a08 (Nat.lt_of_le_of_lt h (Lb.a07 _))
theorem a1P (x y:Int):szI (x*y) <= szI x+szI y:=aXf (le_refl _) (le_refl _)
theorem a4T (x:Int):szI (-x) <= szI x:=a2W (by omega)
theorem aJ8 (x y:Int):szI (x+y) <= szI x+szI y+1:=by
 rcases Nat.le_total x.natAbs y.natAbs with h | h
 ·have:=Lb.a07 y.natAbs;refine Nat.le_trans (a5i (k:=szI y+1) ?_) (by omega);have h2:y.natAbs < Lb.B ^ szI y:=this;have h3:0 < Lb.B ^ szI y:=Nat.pow_pos Lb.a3w;rw [Nat.pow_succ]
  have:2 <= Lb.B:=by decide
  have:=Nat.mul_le_mul_left (Lb.B ^ szI y) this;omega
 ·have:=Lb.a07 x.natAbs;refine Nat.le_trans (a5i (k:=szI x+1) ?_) (by omega);have h2:x.natAbs < Lb.B ^ szI x:=this;have h3:0 < Lb.B ^ szI x:=Nat.pow_pos Lb.a3w;rw [Nat.pow_succ]
  have:2 <= Lb.B:=by decide
  have:=Nat.mul_le_mul_left (Lb.B ^ szI x) this;omega
def szR (q:Rat):Nat:=max (szI q.num) (szI (q.den:Int))
theorem a2b (q:Rat):szI q.num <= szR q:=Nat.le_max_left ..
theorem a2o (q:Rat):szI (q.den:Int) <= szR q:=Nat.le_max_right ..
theorem a7t (q:Rat):(q.den:Int) ≠ 0:=by have:=q.den_pos; omega
theorem a1Y (q:Rat):szR (-q) <= szR q:=by
 unfold szR;have:=a4T q.num;simp only [Rat.neg_num,Rat.neg_den];omega
theorem aOs:szI 1 <= 1:=a5i (by decide)
theorem aOt {n:Int} (h0:-9223372036854775808 <= n) (h1:n <= 9223372036854775807):szI n <= 3:=by
 refine a5i ?_
 have:Lb.B ^ 3=1000000000000000000000000000:=by decide
 omega
def aVM:Ctr:=⟨64,spY (gR.c r0) (fun _=>True) (fun (p,_)=>.k (.c (.v (.int .i64 ((Rt.sg p))))))⟩
theorem aIC (p:Rat):owes LT CT0 [] Tryz.f64 (bd Tryz.f64) [.g [.R (p)]] (.k (.c (.v (.int .i64 ((Rt.sg p)))))):=by
 refine Eq.mp (show (True/\(Value.int .i64 p.num.sign=(.int .i64 (Rt.sg p))))=_ by kernel_rfl) ?_;simp [Rt.sg]
theorem aQZ:CtrOK prog aVM:=yOK a3c aSC Tryz.func64 fun _ _=>aIC _
end Vc
end Go.Proofs.YtbohkigffejhoaaGreat
namespace Go.Proofs.YtbohkigffejhoaaGreat
namespace Rt
structure V2 where
 x:Rat
 y:Rat
def V2.sub (a b:V2):V2:=⟨a.x - b.x,a.y - b.y⟩
