import Derived.Test.YtkdjilgddbjcaaaGreatR12
import Derived.Deep.LoopGhost
import Derived.Laws.MakeOwn
namespace Go.Proofs.YtkdjilgddbjcaaaGreat
open Go.RowKit
namespace Vc
section
variable {P:Program} {L:List Lay} {C:List Ctr} {W0 w0:World} {bs:Bs} {s:St} {a0:Act}
def firstStore:List Oper->Nat
 | []=>0
 | o :: r =>
   match o.op with
   | .store _ _ _=>0
   | _=>firstStore r+1
def firstSA:List Oper->Nat
 | []=>0
 | o :: r =>
   match o.op with
   | .store _ _ _=>0
   | .assign _=>0
   | _=>firstSA r+1
def flowN (ops:List Oper):Nat:=bif tail2B ops (firstSA ops) then firstSA ops else firstStore ops
def anyGuard:List Oper->Bool
 | []=>false
 | o :: r=>o.guard.isSome || anyGuard r
def checkD (ops:List Oper) (m:Nat):Bool:=apartB (ops.take (flowN ops)) && lowB (ops.take (flowN ops)) && tail2B ops (flowN ops) && insideB (ops.take (flowN ops)) m
def guardB (n:Nat):List Oper->Bool
 | []=>true
 | o :: r=>(match o.guard with | some g=>Nat.blt g.1 n | none=>true) && guardB n r
theorem guardB_spec {n:Nat}:∀ {l:List Oper} {i:Nat} {o:Oper} {g:Nat × Bool},guardB n l=true->l[i]?=some o->o.guard=some g->g.1 < n
 | [],_,_,_,_,h,_=>by simp at h
 | x :: r,0,o,g,h,hi,hg=>by
   simp only [guardB,Bool.and_eq_true] at h
   obtain rfl:x=o:=by simpa using hi
   rw [hg] at h
   simpa using h.1
 | x :: r,i+1,o,g,h,hi,hg=>by
   simp only [guardB,Bool.and_eq_true] at h
   exact guardB_spec h.2 (by simpa using hi) hg
theorem firstStore_le:∀ l:List Oper,firstStore l <= l.length
 | []=>Nat.le_refl _
 | o :: r=>by
   unfold firstStore
   split
   ·exact Nat.zero_le _
   ·have:=firstStore_le r
    simp only [List.length_cons]; omega
theorem noSt_take:∀ {l:List Oper} {i:Nat} {o:Oper},(l.take (firstStore l))[i]?=some o->isSt o=false
 | [],i,o,h=>by simp at h
 | x :: r,i,o,h=>by
   unfold firstStore at h
   split at h
   ·simp at h
   ·rename_i hx
    cases i with
    | zero =>
      obtain rfl:x=o:=by simpa using h
      unfold isSt
      split
      ·rename_i hs; exact absurd hs (hx _ _ _)
      ·rfl
    | succ i=>exact noSt_take (l:=r) (by simpa using h)
theorem firstSA_le:∀ l:List Oper,firstSA l <= firstStore l
 | []=>Nat.le_refl _
 | o :: r=>by
   unfold firstSA firstStore
   have:=firstSA_le r
   split <;> split <;> first | omega | simp_all
theorem noSt_flow {l:List Oper} {i:Nat} {o:Oper} (h:(l.take (flowN l))[i]?=some o):isSt o=false:=by
 refine noSt_take (l:=l) (i:=i) ?_
 have hle:flowN l <= firstStore l:=by
  unfold flowN
  cases tail2B l (firstSA l) with
  | true=>exact firstSA_le l
  | false=>exact Nat.le_refl _
 rw [List.getElem?_take] at h ⊢
 split at h
 ·rw [if_pos (by omega)]; exact h
 ·cases h
def checkS (ops:List Oper) (m:Nat):Bool:=apartB (ops.take (firstStore ops)) && lowB (ops.take (firstStore ops)) && insideB (ops.take (firstStore ops)) m && guardB (firstStore ops) (ops.take (firstStore ops))
theorem and_of_bif {b:Bool} {p:Prop} (h:bif b then p else False):b=true/\p:=by
 cases b with
 | true=>exact ⟨rfl,h⟩
 | false=>exact h.elim
def eachA (f:Nat->Prop):List Nat->Prop
 | []=>True
 | i :: r=>f i/\eachA f r
theorem eachA_mem {f:Nat->Prop}:∀ {l:List Nat},eachA f l->∀ i ∈ l,f i
 | _ :: _,h,i,hi=>by
   rcases List.mem_cons.1 hi with rfl | hi
   ·exact h.1
   ·exact eachA_mem h.2 i hi
def aany (L:List Lay) (C:List Ctr) (ops:List Oper) (K:St->Prop):Nat->Array Bool->St->Prop
 | 0,ls,s=>bif (Region.ready .any ops.toArray ls).isEmpty then K s else False
 | d+1,ls,s =>
   bif (Region.ready .any ops.toArray ls).isEmpty then False
   else eachA (fun i=>match ops[i]? with
    | some o=>aop L C o s fun s'=>aany L C ops K d (ls.setIfInBounds i true) s'
    | none=>False) (Region.ready .any ops.toArray ls)
theorem aany_sound (hL:∀ l ∈ L,LayOK P l) (hC:∀ c ∈ C,CtrOK P c) {Q:Exit->Act->World->Prop} {l:List Oper} {K:St->Prop} (hk:∀ s' bs' a' w',K s'->Rl W0 bs' s' a' w'->Q .normal a' w') :
    ∀ (d:Nat) (ls:Array Bool) (s:St) (bs:Bs) (a:Act) (w:World),aany L C l K d ls s->Rl W0 bs s a w->wpAny P .any l.toArray Q d ls a w:=by
 intro d
 induction d with
 | zero =>
   intro ls s bs a w h hR
   simp only [aany] at h
   obtain ⟨h1,h2⟩:=and_of_bif h
   exact ⟨List.isEmpty_iff.1 h1,hk _ _ _ _ h2 hR⟩
 | succ d ih =>
   intro ls s bs a w h hR
   simp only [aany] at h
   cases hr:(Region.ready .any l.toArray ls).isEmpty with
   | true=>rw [hr] at h; exact h.elim
   | false =>
     rw [hr] at h
     simp only [cond_false] at h
     refine ⟨fun he=>(by rw [he] at hr; cases hr),fun i hi=>?_⟩
     have hx:=eachA_mem h i hi
     split at hx
     ·rename_i o ho
      obtain ⟨hg,h2⟩:=aop_wp (Q:=Q) hL hC hx hR
      have hoa:l.toArray[i]?=some o:=by simpa using ho
      unfold wpOp
      simp only [hoa]
      have hw:Region.wanted o (yielded l.toArray a.tmps)=true:=by unfold Region.wanted; rw [hg]
      rw [if_pos hw]
      exact .inl (h2 _ fun s' bs' a' w' hK hR'=>ih _ s' bs' a' w' hK hR')
     ·exact hx.elim
def isMk (o:Oper):Bool :=
 match o.op with
 | .makeSlice ..=>true
 | _=>false
def fuseOp (L:List Lay) (s:St) (o1 o2 o3:Oper):Option ((Int × Int) × (Nat × Nat × Nat)) :=
 match o1.op,o2.op,o3.op,o1.guard,o2.guard,o3.guard,o1.dst,o2.dst,o3.dst with
 | .makeSlice T x y,.buildSlice T2 1 ps,.call c,none,none,none,some d1,some d2,some d3 =>
   match getLay L T,evS s x,evS s y,amake L (evS s) o2.op,c.callee,c.args.toList,c.argTypes.toList with
   | some l,.k (.c (.v (.int .i64 n))),.k (.c (.v (.int .i64 m))),some (_,.k (.c (.sl [_]))),.builtin .append,[.tmp e1,.tmp e2],[U,V] =>
     bif ps.toList.all (fun p=>match p.2 with | .const _=>true | _=>false) && Nat.beq l.kd 2 && Nat.beq T2 T && Nat.beq U T && Nat.beq V T && Nat.beq e1 d1 && Nat.beq e2 d2 && Nat.ble (d1+1) d2 && Nat.ble (d2+1) s.tm.length then some ((n,m),(d1,d2,d3)) else none
   | _,_,_,_,_,_,_=>none
 | _,_,_,_,_,_,_,_,_=>none
def afuse (L:List Lay) (o1 o2 o3:Oper) (s:St) (K:St->Prop):Prop :=
 match fuseOp L s o1 o2 o3,amake L (evS s) o2.op with
 | some ((n,m),(d1,d2,d3)),some (pre,.k (.c (.sl l)))=>(n=m/\0 <= n/\n <= 1000000)/\due pre/\K (putS (putS (putS s (some d1) .u) (some d2) .u) (some d3) (.k (.c (.sl (List.replicate n.toNat 0 ++ l)))))
 | _,_=>False
def aopsF (L:List Lay) (C:List Ctr):List Oper->St->(St->Prop)->Prop
 | o1 :: o2 :: o3 :: r,s,K=>bif isMk o1 then afuse L o1 o2 o3 s fun s'=>aops L C r s' K else aop L C o1 s fun s'=>aopsF L C (o2 :: o3 :: r) s' K
 | l,s,K=>aops L C l s K
theorem act_get {a:Act} {t:Nat} {v:Value} (h:t < a.tmps.size):(a.put (some t) v).eval (.tmp t)=v:=by
 simp [Act.put,Act.eval,Array.getD,h]
theorem act_get_ne {a:Act} {t t':Nat} {v:Value} (h:t ≠ t'):(a.put (some t) v).eval (.tmp t')=a.eval (.tmp t'):=by
 simp only [Act.put,Act.eval,Array.getD_eq_getD_getElem?]
 rw [Array.getElem?_setIfInBounds_ne (by simpa using h)]
theorem act_size {a:Act} {d:Option Nat} {v:Value}:(a.put d v).tmps.size=a.tmps.size:=by cases d <;> simp [Act.put]
theorem bif_someF {α:Type} {b:Bool} {x r:α} (h:(bif b then some x else none)=some r):b=true/\x=r:=by
 cases b with
 | false=>cases h
 | true=>exact ⟨rfl,by simpa using h⟩
theorem getD_const (ev ev':Operand->AV) (ps:List (Nat × Operand)) (h:∀ p ∈ ps,ev p.2=ev' p.2):∀ n,nats ev ps n=nats ev' ps n:=by
 induction ps with
 | nil=>intro n; rfl
 | cons p ps ih =>
   intro n
   obtain ⟨i,x⟩:=p
   unfold nats
   rw [h (i,x) (List.mem_cons_self ..),ih (fun q hq=>h q (List.mem_cons_of_mem _ hq))]
theorem afuse_sound (hL:∀ l ∈ L,LayOK P l) {ops:Array Oper} {Q:Exit->Act->World->Prop} {o1 o2 o3:Oper} {r:List Oper} {a:Act} {w:World} {K:St->Prop} (h:afuse L o1 o2 o3 s K) (hR:Rl W0 bs s a w)
    (hk:∀ s' bs' a' w',K s'->Rl W0 bs' s' a' w'->wpList P ops Q r a' w'):wpList P ops Q (o1 :: o2 :: o3 :: r) a w:=by
 unfold afuse at h
 split at h <;> try exact h.elim
 rename_i n m d1 d2 d3 pre l hf hmk
 obtain ⟨⟨rfl,hn0,hn1⟩,hdue,hK⟩:=h
 unfold fuseOp at hf
 split at hf <;> try (cases hf; done)
 rename_i T x y T2 ps c d1' d2' d3' ho1 ho2 ho3 hg1 hg2 hg3 hd1 hd2 hd3
 split at hf <;> try (cases hf; done)
 rename_i la n' m' pre' z e1 e2 U V hla hx hy hmk' hcal hargs htys
 obtain ⟨hc,hq⟩:=bif_someF (x:=((n',m'),(d1',d2',d3'))) (r:=((n,n),(d1,d2,d3))) hf
 clear hf
 simp only [Bool.and_eq_true,Nat.beq_eq,Nat.ble_eq] at hc
 obtain ⟨⟨⟨⟨⟨⟨⟨⟨hcs,hk2⟩,rfl⟩,rfl⟩,rfl⟩,rfl⟩,rfl⟩,hlt⟩,hlt2⟩:=hc
 cases hq
 rw [hmk] at hmk'
 simp only [Option.some.injEq,Prod.mk.injEq,AV.k.injEq,AK.c.injEq,AC.sl.injEq] at hmk'
 obtain ⟨_,rfl⟩:=hmk'
 obtain ⟨hm,rfl⟩:=getLay_spec hla
 obtain ⟨e,ie,z0,hu,hi,hsz,hz,hzc,hby⟩:=(hL la hm).slice hk2
 have hz0:=(hL la hm).zero2 hk2 e ie hu hi
 rw [hz] at hz0
 cases hz0
 have hxv:=hR.ev x
 rw [hx] at hxv
 have hyv:=hR.ev y
 rw [hy] at hyv
 obtain ⟨k,rfl⟩:=Int.eq_ofNat_of_zero_le hn0
 rw [Int.toNat_natCast] at hK
 have run1:(execOp a.eval o1).run P w=.ok (.value (.slice (some ⟨w.heap.size,0,none⟩) k k)) (w.alloc (.cells (Array.replicate k (.int .u32 0)) e)):=by
  have:=run_make (P:=P) w la.t e ie (.int .u32 0) hu hi hz .i64 .i64 (k:Int) (k:Int) (by omega) (Int.le_refl _) (by rw [hby]; omega) (by omega)
  rw [hsz,Int.toNat_natCast,show (Value.int IntKind.u32 0).cells=#[Value.int .u32 0] from rfl,made_zeros] at this
  simp only [execOp,ho1,hxv.1,hyv.1]
  exact run_v this
 refine wpList_plain hg1 fun K1 hK1=>?_
 unfold Oper.wp
 rw [run1]
 refine hK1 _ _ ?_
 obtain ⟨w1,hw1⟩:∃ w1,w.alloc (.cells (Array.replicate k (.int .u32 0)) e)=w1:=⟨_,rfl⟩
 have hE1:Ext w w1:=by rw [<- hw1]; exact (Ext.refl w).alloc _
 have hb1:w1.heap[w.heap.size]?=some (.cells (Array.replicate k (.int .u32 0)) e (0,0)):=by rw [<- hw1]; unfold World.alloc; simp
 have hs1:w1.heap.size=w.heap.size+1:=by rw [<- hw1]; unfold World.alloc; simp
 rw [hw1,hd1]
 have hown1:OwnG w.heap.size e 1 uC w1 (.slice (some ⟨w.heap.size,0,none⟩) (List.replicate k 0).length (List.replicate k 0).length) (List.replicate k 0):=by
  refine ⟨by simp [cat_length uC_len],.inr ⟨w.heap.size,_,_,rfl,Nat.le_refl _,hb1,Nat.le_refl _,by simp [maxLen]; omega,by simp,?_⟩⟩
  apply List.ext_getElem
  ·simp [cat_length uC_len]
  ·intro i h1 h2
   have hik:i < k:=by simpa using h1
   have:=cat_get (f:=uC) uC_len (List.replicate k 0) i 0 0 (by simp [hik]) (by decide)
   rw [Nat.mul_one,Nat.add_zero] at this
   rw [List.getElem?_eq_getElem h2] at this
   simp [uC] at this
   simp [this]
 rw [show (List.replicate k 0).length=k by simp] at hown1
 have hR1:Rl W0 bs (putS s (some d1) .u) (a.put (some d1) (.slice (some ⟨w.heap.size,0,none⟩) k k)) w1:=(hR.later hE1).put (r:=.u) trivial _
 have hmk1:amake L (evS (putS s (some d1) .u)) o2.op=some (pre,.k (.c (.sl [z]))):=by
  rw [<- hmk,ho2]
  simp only [amake]
  rw [getD_const (evS (putS s (some d1) .u)) (evS s) ps.toList (fun p hp=>by
   have:=List.all_eq_true.1 hcs p hp
   revert this
   cases p.2 with
   | const v=>intro _; cases v <;> rfl
   | _=>intro h; cases h)]
 obtain ⟨v2,w2,run2,hE2,hv2⟩:=amake_sound hL hR1.ev (fun _=>rfl) hR1.fresh hmk1 hdue
 refine wpList_plain hg2 fun K2 hK2=>?_
 unfold Oper.wp
 rw [run2]
 refine hK2 _ _ ?_
 rw [hd2]
 have hown2:=hown1.later hE2
 have hsl:SlU w2 v2 [z]:=hv2.1
 have htl:=hR.tl
 have eX:((a.put (some d1) (.slice (some ⟨w.heap.size,0,none⟩) k k)).put (some d2) v2).eval (.tmp d1)=.slice (some ⟨w.heap.size,0,none⟩) k k:=by
  rw [act_get_ne (by omega),act_get (by omega)]
 have eY:((a.put (some d1) (.slice (some ⟨w.heap.size,0,none⟩) k k)).put (some d2) v2).eval (.tmp d2)=v2:=act_get (by rw [act_size]; omega)
 have ho3':o3.op=.call { callee:=.builtin .append,args:=#[.tmp d1,.tmp d2],argTypes:=#[la.t,la.t] }:=by
  rw [ho3]
  obtain ⟨cal,args,tys⟩:=c
  simp only at hcal hargs htys
  subst hcal
  have h1:args=#[.tmp d1,.tmp d2]:=by rw [<- Array.toList_inj]; simpa using hargs
  have h2:tys=#[la.t,la.t]:=by rw [<- Array.toList_inj]; simpa using htys
  rw [h1,h2]
 refine appG_at (f:=uC) (k:=1) hg3 _ _ ho3' hu (z:=.int .u32 0) (bytes:=4) (by rw [hi]; simp [hz,hsz,hby]) rfl (by decide) uC_len uC_one w.heap.size _ _ (List.replicate k 0) [z] eX eY hown2 hsl (by simp [maxLen]; omega) (by simp; omega) (by have:=hE2.size; omega) fun v3 w3 ho hg hat=>?_
 have hE3:Ext w w3:=(hE1.trans hE2).grown hg (fun i hi=>by simp only [Value.ownBlock,Option.some.injEq] at hi; omega)
 rw [hd3]
 refine hk _ bs _ _ hK ((((hR.later hE3).put (r:=.u) trivial (some d1)).put (r:=.u) trivial (some d2)).put ?_ (some d3))
 exact ⟨OwnG.sl uC_len ho,Away.none hR.har hR.hgh _ _⟩
theorem aopsF_sound (hL:∀ l ∈ L,LayOK P l) (hC:∀ c ∈ C,CtrOK P c) {ops:Array Oper} {Q:Exit->Act->World->Prop}:∀ {l:List Oper} {s:St} {bs:Bs} {a:Act} {w:World} {K:St->Prop},aopsF L C l s K->Rl W0 bs s a w ->
    (∀ (s':St) (bs':Bs) (a':Act) (w':World),K s'->Rl W0 bs' s' a' w'->Q .normal a' w')->wpList P ops Q l a w
 | [],_,_,_,_,_,h,hR,hk=>aops_sound hL hC (l:=[]) h hR hk
 | [o],_,_,_,_,_,h,hR,hk=>aops_sound hL hC (l:=[o]) h hR hk
 | [o,o'],_,_,_,_,_,h,hR,hk=>aops_sound hL hC (l:=[o,o']) h hR hk
 | o1 :: o2 :: o3 :: r,s,bs,a,w,K,h,hR,hk=>by
   unfold aopsF at h
   cases hm:isMk o1 with
   | true =>
     rw [hm] at h
     simp only [cond_true] at h
     exact afuse_sound hL h hR fun _ _ _ _ h' hR'=>aops_sound hL hC h' hR' hk
   | false =>
     rw [hm] at h
     simp only [cond_false] at h
     exact aop_sound hL hC h hR fun _ _ _ _ h' hR'=>aopsF_sound hL hC h' hR' hk
def areg (L:List Lay) (C:List Ctr) (ops:List Oper) (draw:Bool) (s:St) (K:St->Prop):Prop :=
 match draw,anyGuard ops with
 | true,_=>bif checkD ops s.tm.length then aflow L C s (ops.take (flowN ops)) (ops.take (flowN ops)) [] s fun s1=>aops L C (ops.drop (flowN ops)) s1 K
   else bif Nat.ble ops.length 8 then aany L C ops K ops.length (Array.replicate ops.length false) s
   else bif apartB ops && lowB ops && insideB ops s.tm.length && tail2B ops ops.length then astore L C ops s K else False
 | false,true=>bif checkS ops s.tm.length then aflow L C s (ops.take (firstStore ops)) (ops.take (firstStore ops)) [] s fun s1=>aops L C (ops.drop (firstStore ops)) s1 K else False
 | false,false=>bif ops.any isMk then aopsF L C ops s K else aops L C ops s K
theorem areg_sound (hm:P.follows .mixedOrders=true) (hL:∀ l ∈ L,LayOK P l) (hC:∀ c ∈ C,CtrOK P c) {Q:Exit->Act->World->Prop} {l:List Oper} {draw:Bool} {id:Nat} {K:St->Prop} (h:areg L C l draw s K) (hR:Rl W0 bs s a0 w0)
    (hk:∀ s' bs' a' w',K s'->Rl W0 bs' s' a' w'->Q .normal a' w'):(Code.region id l.toArray draw).wp P Q a0 w0:=by
 unfold areg at h
 split at h
 ·cases hcd:checkD l s.tm.length with
  | false =>
    rw [hcd] at h
    simp only [cond_false] at h
    cases h8:Nat.ble l.length 8 with
    | false =>
      rw [h8] at h
      simp only [cond_false] at h
      obtain ⟨hc,hf⟩:=and_of_bif h
      simp only [Bool.and_eq_true] at hc
      obtain ⟨⟨⟨c1,c2⟩,c3⟩,c4⟩:=hc
      exact astore_sound hm hL hC hf c1 c2 c3 c4 hR hk
    | true =>
    rw [h8] at h
    have hf:aany L C l K l.length (Array.replicate l.length false) s:=h
    refine wp_region_any hm ?_
    have:=aany_sound hL hC (Q:=Q) hk l.length (Array.replicate l.length false) s bs a0 w0.drew hf (hR.later (Ext.refl w0).drew)
    simpa using this
  | true =>
  rw [hcd] at h
  simp only [cond_true] at h
  have hc:=hcd
  have hf:=h
  simp only [checkD,Bool.and_eq_true] at hc
  obtain ⟨⟨⟨c1,c2⟩,c3⟩,c4⟩:=hc
  rw [hR.tl] at c4
  obtain ⟨E,e1,e2,e3⟩:=aflow_out _ _ _ hf (by simp)
  have hE:FOut L C s (l.take (flowN l)) E:=fun i o ho=>by
   obtain ⟨pre,e,g1,g2,g3⟩:=e3 i o ho
   exact ⟨pre,e,by simpa using g1,g2,g3⟩
  refine wp_region_flow2 (flowN l) hm c1 c2 c3 (R:=fun i v w=>∀ e,E[i]?=some e->EntOK bs W0.heap.size w e v) (own:=ownE E) (fun i v w w' hx h e he=>(h e he).ext hx) (fun i o ho=>flow_step hL hC hE e1 c1 c4 hR i o ho (noSt_flow ho)) (fun vals w hx hv hap hnew=>?_)
  have hRw:=hR.later hx
  obtain ⟨bs2,hR2⟩:=accums_rl (W0:=W0) (bs:=bs) (vals:=vals) (w:=w) e1 (fun j f hf hg=>fout_on hE e1 j f hf (by rw [hg]; intro _ h; cases h)) (fout_nb hE e1) (fun i e he=>hv i (by rw [<- e1]; exact (List.getElem?_eq_some_iff.1 he).1) e he) hap (fun i b hi hb hm=>by
   have h1:=hnew i b hi hb
   have h2:=hR.bnd b hm
   omega) (l.take (flowN l)).length 0 s a0 [] (by omega) (fun b hb=>by cases hb) (by rw [show bs.more []=bs by simp [Bs.more]]; exact hRw)
  simp only [List.drop_zero] at hR2
  exact aops_sound hL hC e2 hR2 hk
 ·obtain ⟨hc,hf⟩:=and_of_bif h
  simp only [checkS,Bool.and_eq_true] at hc
  obtain ⟨⟨⟨c1,c2⟩,c4⟩,c5⟩:=hc
  rw [hR.tl] at c4
  have hle:=firstStore_le l
  have htl:(l.take (firstStore l)).length=firstStore l:=by simp; omega
  obtain ⟨E,e1,e2,e3⟩:=aflow_out _ _ _ hf (by simp)
  have hE:FOut L C s (l.take (firstStore l)) E:=fun i o ho=>by
   obtain ⟨pre,e,g1,g2,g3⟩:=e3 i o ho
   exact ⟨pre,e,by simpa using g1,g2,g3⟩
  refine wp_region_flow2_seq (firstStore l) hle (fun i o g ho hi hg=>guardB_spec c5 (i:=i) (by rw [List.getElem?_take_of_lt hi]; simpa using ho) hg) c1 c2 (R:=fun i v w=>∀ e,E[i]?=some e->EntOK bs W0.heap.size w e v) (own:=ownE E) (fun i v w w' hx h e he=>(h e he).ext hx) (fun i o ho=>flow_step hL hC hE e1 c1 c4 hR i o ho (noSt_take ho)) (fun vals w hx hv hap hnew=>?_)
  have hRw:=hR.later hx
  rw [<- htl] at hv hap hnew
  obtain ⟨bs2,hR2⟩:=accums_rl (W0:=W0) (bs:=bs) (vals:=vals) (w:=w) e1 (fun j f hf hg=>fout_on hE e1 j f hf (by rw [hg]; intro _ h; cases h)) (fout_nb hE e1) (fun i e he=>hv i (by rw [<- e1]; exact (List.getElem?_eq_some_iff.1 he).1) e he) hap (fun i b hi hb hm=>by
   have h1:=hnew i b hi hb
   have h2:=hR.bnd b hm
   omega) (l.take (firstStore l)).length 0 s a0 [] (by omega) (fun b hb=>by cases hb) (by rw [show bs.more []=bs by simp [Bs.more]]; exact hRw)
  simp only [List.drop_zero] at hR2
  exact aops_sound hL hC e2 hR2 hk
 ·cases hm:l.any isMk with
  | true=>rw [hm] at h; exact wp_region_lit (aopsF_sound hL hC h hR hk)
  | false=>rw [hm] at h; exact wp_region_lit (aops_sound hL hC h hR hk)
def eqL:List AC->List AC->Prop
 | .I a :: xs,.I b :: ys=>a=b/\eqL xs ys
 | .I a :: .I b :: xs,.R q :: ys=>a=q.num/\b=(q.den:Int)/\eqL xs ys
 | .R a :: xs,.R b :: ys=>a=b/\eqL xs ys
 | .v a :: xs,.v b :: ys=>a=b/\eqL xs ys
 | .sl a :: xs,.sl b :: ys=>a=b/\eqL xs ys
 | .v a :: .sl l :: xs,.I z :: ys=>a=.bool (decide (z < 0))/\l=Lb.limbs z.natAbs/\eqL xs ys
 | .pl k a :: xs,.pl j b :: ys=>k=j/\a=b/\eqL xs ys
 | [],[]=>True
 | _,_=>False
theorem eqL_flat:∀ (xs ys:List AC),eqL xs ys->flats xs=flats ys:=by
 intro xs ys
 fun_induction eqL xs ys with
 | case1 a xs b ys ih=>rintro ⟨rfl,h⟩; rw [flats,flats,ih h]
 | case2 a b xs q ys ih=>rintro ⟨rfl,rfl,h⟩; simp only [flats,AC.flat,ih h,List.cons_append,List.nil_append]
 | case3 a xs b ys ih=>rintro ⟨rfl,h⟩; rw [flats,flats,ih h]
 | case4 a xs b ys ih=>rintro ⟨rfl,h⟩; rw [flats,flats,ih h]
 | case5 a xs b ys ih=>rintro ⟨rfl,h⟩; rw [flats,flats,ih h]
 | case6 a l xs z ys ih=>rintro ⟨rfl,rfl,h⟩; simp only [flats,AC.flat,ih h,List.cons_append,List.nil_append]
 | case7 k a xs j b ys ih=>rintro ⟨rfl,rfl,h⟩; rw [flats,flats,ih h]
 | case8=>intro _; rfl
 | case9=>intro h; exact h.elim
def eqK:AK->AK->Prop
 | .c (.v x),.c (.v y)=>x=y
 | .c (.sl x),.c (.sl y)=>x=y
 | .c (.pt x),.c (.pt y)=>x=y
 | .c (.pp x),.c (.pp y)=>x=y
 | .c (.bx i o),.c (.bx j p)=>bif Nat.beq i j && Nat.beq o p then True else False
 | .c (.ba i n),.c (.ba j m)=>bif Nat.beq i j && Nat.beq n m then True else False
 | .c (.pl k x),.c (.pl j y)=>k=j/\x=y
 | .g xs,.g ys=>eqL xs ys
 | _,_=>False
def eqKs:List AK->List AK->Prop
 | [],[]=>True
 | x :: l,y :: r=>eqK x y/\eqKs l r
 | _,_=>False
def eqV:AV->AV->Prop
 | .k x,.k y=>eqK x y
 | .t xs,.t ys=>eqKs xs ys
 | _,_=>False
theorem eqK_rel {bs:Bs} {w:World}:∀ {x y:AK} {u:Value},eqK x y->relK bs w x u->relK bs w y u:=by
 intro x y
 fun_cases eqK x y with
 | case1 a b=>rintro u rfl k; exact k
 | case2 a b=>rintro u rfl k; exact k
 | case3 a b=>rintro u rfl k; exact k
 | case4 a b=>rintro u rfl k; exact k
 | case5 i o j p hb =>
   intro u _ k
   simp only [Bool.and_eq_true,Nat.beq_eq] at hb
   obtain ⟨rfl,rfl⟩:=hb
   exact k
 | case6 i o j p hb=>intro u h; exact h.elim
 | case7 i o j p hb =>
   intro u _ k
   simp only [Bool.and_eq_true,Nat.beq_eq] at hb
   obtain ⟨rfl,rfl⟩:=hb
   exact k
 | case8 i o j p hb=>intro u h; exact h.elim
 | case9 k a j b=>rintro u ⟨rfl,rfl⟩ h; exact h
 | case10 a b=>rintro u h ⟨us,e,k⟩; exact ⟨us,e,by rw [<- eqL_flat _ _ h]; exact k⟩
 | case11=>intro u h; exact h.elim
theorem eqKs_rel {bs:Bs} {w:World}:∀ {x y:List AK} {u:List Value},eqKs x y->relKs bs w x u->relKs bs w y u
 | [],[],_,_,k=>k
 | _ :: _,_ :: _,_ :: _,h,k=>⟨eqK_rel h.1 k.1,eqKs_rel h.2 k.2⟩
 | _ :: _,_ :: _,[],_,k=>k.elim
 | [],_ :: _,_,h,_=>h.elim
 | _ :: _,[],_,h,_=>h.elim
theorem eqV_rel {bs:Bs} {w:World} {x y:AV} {u:Value} (h:eqV x y) (k:relV bs w x u):relV bs w y u:=by
 unfold eqV at h
 split at h
 ·exact eqK_rel h k
 ·obtain ⟨us,e,k⟩:=k
  exact ⟨us,e,eqKs_rel h k⟩
 ·exact h.elim
def bxLt1 (n:Nat):AC->Bool
 | .bx i _=>Nat.blt i n
 | .ba i _=>Nat.blt i n
 | _=>true
def bxLtL (n:Nat):List AC->Bool
 | []=>true
 | x :: l=>bxLt1 n x && bxLtL n l
def bxLtV (n:Nat):AV->Bool
 | .u=>true
 | .k (.c x)=>bxLt1 n x
 | .k (.g xs)=>bxLtL n xs
 | .t _=>false
def okT (n:Nat):List AV->Bool
 | []=>true
 | x :: l=>bxLtV n x && okT n l
def okB (n:Nat):List Bx->Bool
 | []=>true
 | b :: l=>bxLtL n b.cs && okB n l
def okS (s:St):Bool:=okT s.bx.length s.tm && okB s.bx.length s.bx
def leT:List AV->List AV->Prop
 | [],[]=>True
 | _ :: l,.u :: r=>leT l r
 | x :: l,y :: r=>eqV x y/\leT l r
 | _,_=>False
def leB:List Bx->List Bx->Prop
 | _,[]=>True
 | b :: l,c :: r=>bif Nat.beq b.T c.T then eqL b.cs c.cs/\leB l r else False
 | [],_ :: _=>False
def leS (s s':St):Prop:=bif okS s' then leT s.tm s'.tm/\leB s.bx s'.bx else False
section
variable {bs:Bs} {w:World}
abbrev Bs.cut (b:Bs) (n:Nat):Bs:=⟨b.lo,b.l.take n,b.ar,b.gh⟩
theorem cut_get {n i b:Nat} (h:bs.l[i]?=some b) (hi:i < n):(bs.cut n).l[i]?=some b:=by
 show (bs.l.take n)[i]?=some b
 rw [List.getElem?_take,if_pos hi]
 exact h
theorem bxLt1_rel {n:Nat}:∀ {x:AC} {u:Value},bxLt1 n x=true->rel1 bs w x u->rel1 (bs.cut n) w x u
 | .v _,_,_,h=>h
 | .sl _,_,_,h=>h
 | .bx _ _,_,hn,⟨b,h,e⟩=>⟨b,cut_get h (by simpa [bxLt1] using hn),e⟩
 | .sp _,_,_,h=>h
 | .pt _,_,_,h=>h
 | .pp _,_,_,h=>h
 | .op _,_,_,h=>h
 | .oq _,_,_,h=>h
 | .ba _ _,_,hn,⟨b,h,e⟩=>⟨b,cut_get h (by simpa [bxLt1] using hn),e⟩
 | .ln _,_,_,h=>h
 | .pl _ _,_,_,h=>h
 | .I _,_,_,h=>h
 | .R _,_,_,h=>h
theorem bxLt_flat {n:Nat} {x:AC} (h:bxLt1 n x=true):∀ y ∈ x.flat,bxLt1 n y=true:=by
 intro y hy
 cases x <;> simp only [AC.flat,List.mem_cons,List.not_mem_nil,or_false] at hy
 case I=>rcases hy with rfl | rfl <;> rfl
 case R=>rcases hy with rfl | rfl | rfl | rfl <;> rfl
 all_goals (subst hy; exact h)
theorem bxLt_flats {n:Nat}:∀ {l:List AC},bxLtL n l=true->∀ y ∈ flats l,bxLt1 n y=true
 | [],_,y,hy=>by simp [flats] at hy
 | x :: l,h,y,hy=>by
   simp only [bxLtL,Bool.and_eq_true] at h
   simp only [flats,List.mem_append] at hy
   rcases hy with hy | hy
   ·exact bxLt_flat h.1 y hy
   ·exact bxLt_flats h.2 y hy
theorem bxLtL_rel {n:Nat}:∀ {l:List AC} {us:List Value},(∀ y ∈ l,bxLt1 n y=true)->relL bs w l us->relL (bs.cut n) w l us
 | [],[],_,_=>trivial
 | x :: _,_ :: _,h,k=>⟨bxLt1_rel (h x (List.mem_cons_self ..)) k.1,bxLtL_rel (fun y hy=>h y (List.mem_cons_of_mem _ hy)) k.2⟩
 | [],_ :: _,_,k=>k.elim
 | _ :: _,[],_,k=>k.elim
theorem bxLtV_rel {n:Nat}:∀ {x:AV} {u:Value},bxLtV n x=true->relV bs w x u->relV (bs.cut n) w x u
 | .u,_,_,_=>trivial
 | .k (.c _),_,h,k=>bxLt1_rel h k
 | .k (.g _),_,h,⟨us,e,k⟩=>⟨us,e,bxLtL_rel (bxLt_flats h) k⟩
 | .t _,_,h,_=>by simp [bxLtV] at h
theorem okT_get {n:Nat}:∀ {l:List AV} {t:Nat} {x:AV},okT n l=true->l[t]?=some x->bxLtV n x=true
 | [],_,_,_,h=>by simp at h
 | y :: l,0,x,h,hx=>by
   simp only [okT,Bool.and_eq_true] at h
   obtain rfl:y=x:=by simpa using hx
   exact h.1
 | y :: l,t+1,x,h,hx=>by
   simp only [okT,Bool.and_eq_true] at h
   exact okT_get h.2 (by simpa using hx)
theorem okB_get {n:Nat}:∀ {l:List Bx} {t:Nat} {x:Bx},okB n l=true->l[t]?=some x->bxLtL n x.cs=true
 | [],_,_,_,h=>by simp at h
 | y :: l,0,x,h,hx=>by
   simp only [okB,Bool.and_eq_true] at h
   obtain rfl:y=x:=by simpa using hx
   exact h.1
 | y :: l,t+1,x,h,hx=>by
   simp only [okB,Bool.and_eq_true] at h
   exact okB_get h.2 (by simpa using hx)
theorem leT_get:∀ {l r:List AV} {t:Nat} {y:AV},leT l r->r[t]?=some y->y=.u \/ ∃ x,l[t]?=some x/\eqV x y:=by
 intro l r
 fun_induction leT l r with
 | case1=>intro t y _ h; simp at h
 | case2 x l r ih =>
   intro t y h hy
   cases t with
   | zero=>exact .inl (by simpa using hy.symm)
   | succ t =>
     rcases ih h (t:=t) (by simpa using hy) with e | ⟨z,h1,h2⟩
     ·exact .inl e
     ·exact .inr ⟨z,by simpa using h1,h2⟩
 | case3 x l z r _ ih =>
   intro t y h hy
   cases t with
   | zero =>
     obtain rfl:z=y:=by simpa using hy
     exact .inr ⟨x,rfl,h.1⟩
   | succ t =>
     rcases ih h.2 (t:=t) (by simpa using hy) with e | ⟨z,h1,h2⟩
     ·exact .inl e
     ·exact .inr ⟨z,by simpa using h1,h2⟩
 | case4=>intro t y h; exact h.elim
theorem leT_len:∀ {l r:List AV},leT l r->l.length=r.length:=by
 intro l r
 fun_induction leT l r with
 | case1=>intro _; rfl
 | case2 x l r ih=>intro h; simp [ih h]
 | case3 x l z r _ ih=>intro h; simp [ih h.2]
 | case4=>intro h; exact h.elim
theorem leB_get:∀ {l r:List Bx} {t:Nat} {y:Bx},leB l r->r[t]?=some y->∃ x,l[t]?=some x/\x.T=y.T/\eqL x.cs y.cs
 | _,[],_,_,_,h=>by simp at h
 | b :: l,c :: r,t,y,h,hy=>by
   simp only [leB] at h
   cases hb:Nat.beq b.T c.T with
   | false=>rw [hb] at h; exact h.elim
   | true =>
     rw [hb] at h
     simp only [cond_true] at h
     have hT:b.T=c.T:=by simpa using hb
     cases t with
     | zero =>
       obtain rfl:c=y:=by simpa using hy
       exact ⟨b,rfl,hT,h.1⟩
     | succ t =>
       obtain ⟨x,h1,h2⟩:=leB_get h.2 (t:=t) (by simpa using hy)
       exact ⟨x,by simpa using h1,h2⟩
 | [],_ :: _,_,_,h,_=>h.elim
theorem leB_len:∀ {l r:List Bx},leB l r->r.length <= l.length
 | _,[],_=>Nat.zero_le _
 | b :: l,c :: r,h=>by
   simp only [leB] at h
   cases hb:Nat.beq b.T c.T with
   | false=>rw [hb] at h; exact h.elim
   | true =>
     rw [hb] at h
     have:=leB_len (l:=l) (r:=r) h.2
     simp only [List.length_cons]; omega
 | [],_ :: _,h=>h.elim
theorem Rl.weak {W0:World} {s s':St} {a:Act} (h:Rl W0 bs s a w) (hle:leS s s'):Rl W0 (bs.cut s'.bx.length) s' a w:=by
 unfold leS at hle
 cases hok:okS s' with
 | false=>rw [hok] at hle; exact hle.elim
 | true =>
   rw [hok] at hle
   simp only [cond_true] at hle
   simp only [okS,Bool.and_eq_true] at hok
   obtain ⟨o1,o2⟩:=hok
   obtain ⟨l1,l2⟩:=hle
   have hlen:=leB_len l2
   refine ⟨h.ext,h.lo,h.har,h.hgh,h.nd.sublist (List.take_sublist _ _),?_,fun i b x hb hx=>?_,fun b hb=>h.bnd b (List.mem_of_mem_take hb),fun t y hy=>?_,?_,h.dfr⟩
   ·show (bs.l.take s'.bx.length).length=s'.bx.length
    rw [List.length_take,h.len]; omega
   ·have hb':bs.l[i]?=some b:=take_get hb
    obtain ⟨z,h1,h2,h3⟩:=leB_get l2 hx
    obtain ⟨g1,vs,g2,g3,g4⟩:=h.box i b z hb' h1
    rw [eqL_flat _ _ h3] at g3
    exact ⟨g1,vs,by rw [<- h2]; exact g2,bxLtL_rel (bxLt_flats (okB_get o2 hx)) g3,g4⟩
   ·rcases leT_get l1 hy with rfl | ⟨x,h1,h2⟩
    ·trivial
    ·exact bxLtV_rel (okT_get o1 hy) (eqV_rel h2 (h.tmp t x h1))
   ·rw [<- leT_len l1]; exact h.tl
end
inductive LI:Type 1
 | inv (id:Nat) (α:Type) (st:α->St) (inv:St->α->Prop) (μ:α->Nat)
 | unroll (id n:Nat)
def LI.id:LI->Nat
 | .inv id _ _ _ _=>id
 | .unroll id _=>id
def getLI:List LI->Nat->Option LI
 | [],_=>none
 | l :: r,t=>bif Nat.beq l.id t then some l else getLI r t
def firstId:Code->Nat
 | .region id _ _=>id
 | .seq a _=>firstId a
 | .block _ c=>firstId c
 | _=>0
inductive AEx
 | normal
 | ret
 | exit (id:Nat)
def AEx.ex:AEx->Exit
 | .normal=>.normal
 | .ret=>.ret
 | .exit id=>.exit id
def thenA (K:St->Prop) (Q:AEx->St->Prop):AEx->St->Prop
 | .normal,s=>K s
 | e,s=>Q e s
def rounds (f:St->(AEx->St->Prop)->Prop) (Q:AEx->St->Prop):Nat->St->Prop
 | 0,_=>False
 | n+1,s=>f s (thenA (rounds f Q n) Q)
def awp (L:List Lay) (C:List Ctr) (I:List LI):Code->St->(AEx->St->Prop)->Prop
 | .skip,s,Q=>Q .normal s
 | .region _ ops draw,s,Q=>areg L C ops.toList draw s (Q .normal)
 | .seq a b,s,Q=>awp L C I a s fun e s'=>match e with
   | .normal=>awp L C I b s' Q
   | e=>Q e s'
 | .cond c a b,s,Q =>
   match evS s c with
   | .k (.c (.v (.bool t)))=>(t=true->awp L C I a s Q)/\(t=false->awp L C I b s Q)
   | _=>False
 | .block id c,s,Q=>awp L C I c s fun e s'=>match e with
   | .exit i=>bif Nat.beq i id then Q .normal s' else Q (.exit i) s'
   | e=>Q e s'
 | .exit id,s,Q=>Q (.exit id) s
 | .ret,s,Q=>Q .ret s
 | .loop c,s,Q =>
   match getLI I (firstId c) with
   | some (.inv _ _ st inv μ)=>(∃ x,inv s x/\leS s (st x))/\∀ x,inv s x->awp L C I c (st x) (thenA (fun s'=>∃ y,inv s y/\μ y < μ x/\leS s' (st y)) Q)
   | some (.unroll _ n)=>rounds (fun s Q=>awp L C I c s Q) Q n s
   | none=>False
 | _,_,_=>False
theorem awp_sound {I:List LI} (hm:P.follows .mixedOrders=true) (hL:∀ l ∈ L,LayOK P l) (hC:∀ c ∈ C,CtrOK P c):∀ (c:Code) (s:St) (bs:Bs) (a:Act) (w:World) (Qa:AEx->St->Prop) (Q:Exit->Act->World->Prop),awp L C I c s Qa->Rl W0 bs s a w ->
    (∀ e s' bs' a' w',Qa e s'->Rl W0 bs' s' a' w'->Q e.ex a' w')->c.wp P Q a w
 | .skip,s,bs,a,w,Qa,Q,h,hR,hk=>wp_skip (hk .normal s bs a w h hR)
 | .region id ops draw,s,bs,a,w,Qa,Q,h,hR,hk=>by
   have:=areg_sound (id:=id) (Q:=Q) hm hL hC h hR (fun s' bs' a' w' hK hR'=>hk .normal s' bs' a' w' hK hR')
   simpa using this
 | .seq x y,s,bs,a,w,Qa,Q,h,hR,hk=>by
   refine wp_seq (awp_sound hm hL hC x s bs a w _ _ h hR fun e s' bs' a' w' hq hR'=>?_)
   cases e with
   | normal=>exact awp_sound hm hL hC y s' bs' a' w' Qa Q hq hR' hk
   | ret=>exact hk .ret s' bs' a' w' hq hR'
   | exit id=>exact hk (.exit id) s' bs' a' w' hq hR'
 | .cond c x y,s,bs,a,w,Qa,Q,h,hR,hk=>by
   simp only [awp] at h
   split at h
   ·rename_i t ht
    have hv:=hR.ev c
    rw [ht] at hv
    obtain ⟨hv,_⟩:=hv
    refine wp_cond hv ?_
    cases t with
    | true=>exact awp_sound hm hL hC x s bs a w Qa Q (h.1 rfl) hR hk
    | false=>exact awp_sound hm hL hC y s bs a w Qa Q (h.2 rfl) hR hk
   ·exact h.elim
 | .block id c,s,bs,a,w,Qa,Q,h,hR,hk=>by
   refine wp_block (awp_sound hm hL hC c s bs a w _ _ h hR fun e s' bs' a' w' hq hR'=>?_)
   cases e with
   | normal=>exact hk .normal s' bs' a' w' hq hR'
   | ret=>exact hk .ret s' bs' a' w' hq hR'
   | exit i =>
     simp only at hq
     simp only [AEx.ex,Exit.inBlock]
     cases hb:Nat.beq i id with
     | true =>
       rw [hb] at hq
       have:i=id:=by simpa using hb
       subst this
       simp only [if_true]
       exact hk .normal s' bs' a' w' hq hR'
     | false =>
       rw [hb] at hq
       have:¬ i=id:=by intro e; subst e; simp at hb
       simp only [this,if_false]
       exact hk (.exit i) s' bs' a' w' hq hR'
 | .exit id,s,bs,a,w,Qa,Q,h,hR,hk=>wp_exit (hk (.exit id) s bs a w h hR)
 | .ret,s,bs,a,w,Qa,Q,h,hR,hk=>wp_ret (hk .ret s bs a w h hR)
 | .loop c,s,bs,a,w,Qa,Q,h,hR,hk=>by
   have out:∀ (K:St->Prop) (K':Act->World->Prop),(∀ s' bs' a' w',K s'->Rl W0 bs' s' a' w'->K' a' w')->∀ e s' bs' a' w',thenA K Qa e s'->Rl W0 bs' s' a' w'->Exit.then K' Q e.ex a' w':=fun K K' hK e s' bs' a' w' hq hR'=>by
    cases e with
    | normal=>exact hK s' bs' a' w' hq hR'
    | ret=>exact hk .ret s' bs' a' w' hq hR'
    | exit i=>exact hk (.exit i) s' bs' a' w' hq hR'
   simp only [awp] at h
   split at h
   ·rename_i _ α st inv μ _
    obtain ⟨⟨x0,hx0,hle0⟩,hround⟩:=h
    refine wp_loop_ghost (fun n a w=>∃ x bs,μ x=n/\inv s x/\Rl W0 bs (st x) a w) (μ x0) ⟨x0,_,rfl,hx0,hR.weak hle0⟩ fun n a' w'=>?_
    rintro ⟨x,bs',rfl,hx,hR'⟩
    refine awp_sound hm hL hC c (st x) bs' a' w' _ _ (hround x hx) hR' (out _ _ fun s2 bs2 a2 w2 hK hR2=>?_)
    obtain ⟨y,h1,h2,h3⟩:=hK
    exact ⟨μ y,h2,y,_,rfl,h1,hR2.weak h3⟩
   ·rename_i n _
    refine wp_loop_ghost (fun n a w=>∃ s bs,rounds (fun s Q=>awp L C I c s Q) Qa n s/\Rl W0 bs s a w) n ⟨s,bs,h,hR⟩ fun n a' w'=>?_
    rintro ⟨s1,bs1,hr,hR1⟩
    cases n with
    | zero=>exact hr.elim
    | succ n =>
      simp only [rounds] at hr
      refine awp_sound hm hL hC c s1 bs1 a' w' _ _ hr hR1 (out _ _ fun s2 bs2 a2 w2 hK hR2=>?_)
      exact ⟨n,Nat.lt_succ_self n,s2,bs2,hK,hR2⟩
   ·exact h.elim
 | .rangeFunc _ _ _ _,_,_,_,_,_,_,h,_,_=>h.elim
 | .scope _,_,_,_,_,_,_,h,_,_=>h.elim
 | .label _,_,_,_,_,_,_,h,_,_=>h.elim
 | .goto _,_,_,_,_,_,_,h,_,_=>h.elim
 | .refuse _,_,_,_,_,_,_,h,_,_=>h.elim
end
end Vc
end Go.Proofs.YtkdjilgddbjcaaaGreat
namespace Go.Proofs.YtkdjilgddbjcaaaGreat
open Go.RowKit
namespace Vc
def nobxC:AC->Bool
 | .v _=>true
 | .sl _=>true
 | .sp _=>true
 | .ln _=>true
 | .I _=>true
 | .R _=>true
 | _=>false
def nobxL:List AC->Bool
 | []=>true
 | x :: l=>nobxC x && nobxL l
def nobxK:AK->Bool
 | .c x=>nobxC x
 | .g xs=>nobxL xs
def nobxKs:List AK->Bool
 | []=>true
 | x :: l=>nobxK x && nobxKs l
def nobxV:AV->Bool
 | .u=>true
 | .k x=>nobxK x
 | .t xs=>nobxKs xs
section
variable {bs bs':Bs} {w:World} (hA:bs'.ar=[]) (hG:bs'.gh=[])
include hA hG
theorem nobx1:∀ {x:AC} {u:Value},nobxC x=true->rel1 bs w x u->rel1 bs' w x u
 | .v _,_,_,h=>h
 | .sl _,_,_,h=>⟨h.1,Away.none hA hG _ _⟩
 | .sp _,_,_,⟨b,o,h1,h2,_⟩=>⟨b,o,h1,h2,by rw [hA]; simp,by rw [hG]; simp⟩
 | .ln _,_,_,h=>h
 | .I _,_,_,h=>h
 | .R _,_,_,h=>h
 | .bx _ _,_,h,_ | .pt _,_,h,_ | .pp _,_,h,_ | .op _,_,h,_ | .oq _,_,h,_ | .ba _ _,_,h,_ | .pl _ _,_,h,_=>by simp [nobxC] at h
omit hA hG in
theorem nobx_flat {x:AC} (h:nobxC x=true):∀ y ∈ x.flat,nobxC y=true:=by
 intro y hy
 cases x <;> simp only [AC.flat,List.mem_cons,List.not_mem_nil,or_false] at hy
 case I=>rcases hy with rfl | rfl <;> rfl
 case R=>rcases hy with rfl | rfl | rfl | rfl <;> rfl
 all_goals (subst hy; exact h)
omit hA hG in
theorem nobxL_flat:∀ {l:List AC},nobxL l=true->∀ x ∈ flats l,nobxC x=true
 | [],_,x,hx=>by simp [flats] at hx
 | y :: l,h,x,hx=>by
   simp only [nobxL,Bool.and_eq_true] at h
   simp only [flats,List.mem_append] at hx
   rcases hx with hx | hx
   ·exact nobx_flat h.1 x hx
   ·exact nobxL_flat h.2 x hx
theorem nobxL_rel:∀ {l:List AC} {us:List Value},(∀ x ∈ l,nobxC x=true)->relL bs w l us->relL bs' w l us
 | [],[],_,_=>trivial
 | x :: _,_ :: _,h,k=>⟨nobx1 hA hG (h x (List.mem_cons_self ..)) k.1,nobxL_rel (fun y hy=>h y (List.mem_cons_of_mem _ hy)) k.2⟩
 | [],_ :: _,_,k=>k.elim
 | _ :: _,[],_,k=>k.elim
theorem nobxK_rel:∀ {x:AK} {u:Value},nobxK x=true->relK bs w x u->relK bs' w x u
 | .c _,_,h,k=>nobx1 hA hG h k
 | .g _,_,h,⟨us,e,k⟩=>⟨us,e,nobxL_rel hA hG (nobxL_flat h) k⟩
theorem nobxKs_rel:∀ {x:List AK} {u:List Value},nobxKs x=true->relKs bs w x u->relKs bs' w x u
 | [],[],_,_=>trivial
 | _ :: _,_ :: _,h,k=>by
   simp only [nobxKs,Bool.and_eq_true] at h
   exact ⟨nobxK_rel hA hG h.1 k.1,nobxKs_rel h.2 k.2⟩
 | [],_ :: _,_,k=>k.elim
 | _ :: _,[],_,k=>k.elim
theorem nobxV_rel:∀ {x:AV} {u:Value},nobxV x=true->relV bs w x u->relV bs' w x u
 | .u,_,_,_=>trivial
 | .k _,_,h,k=>nobxK_rel hA hG h k
 | .t _,_,h,⟨us,e,k⟩=>⟨us,e,nobxKs_rel hA hG h k⟩
end
def argC:AC->Bool
 | .pl _ _=>true
 | x=>nobxC x
def argL:List AC->Bool
 | []=>true
 | x :: l=>argC x && argL l
def argK:AK->Bool
 | .c (.pt _)=>true
 | .c (.pp _)=>true
 | .c (.pl _ _)=>true
 | .g xs=>argL xs
 | x=>nobxK x
def argKs:List AK->Bool
 | []=>true
 | x :: l=>argK x && argKs l
theorem argC_rel {bs:Bs} {w:World} {x:AC} {u:Value} (h:argC x=true) (k:rel1 bs w x u):rel1 ⟨w.heap.size,[],[],[]⟩ w x u:=by
 unfold argC at h
 split at h
 ·exact SlV.keep k fun b _ h2=>⟨h2,h2,fun _=>rfl⟩
 ·exact nobx1 rfl rfl h k
theorem arg_flat {x:AC} (h:argC x=true):∀ y ∈ x.flat,argC y=true:=by
 intro y hy
 cases x <;> simp only [AC.flat,List.mem_cons,List.not_mem_nil,or_false] at hy
 case I=>rcases hy with rfl | rfl <;> rfl
 case R=>rcases hy with rfl | rfl | rfl | rfl <;> rfl
 all_goals (subst hy; exact h)
theorem argL_flat:∀ {l:List AC},argL l=true->∀ x ∈ flats l,argC x=true
 | [],_,x,hx=>by simp [flats] at hx
 | y :: l,h,x,hx=>by
   simp only [argL,Bool.and_eq_true] at h
   simp only [flats,List.mem_append] at hx
   rcases hx with hx | hx
   ·exact arg_flat h.1 x hx
   ·exact argL_flat h.2 x hx
theorem argL_rel {bs:Bs} {w:World}:∀ {l:List AC} {us:List Value},(∀ x ∈ l,argC x=true)->relL bs w l us->relL ⟨w.heap.size,[],[],[]⟩ w l us
 | [],[],_,_=>trivial
 | x :: _,_ :: _,h,k=>⟨argC_rel (h x (List.mem_cons_self ..)) k.1,argL_rel (fun y hy=>h y (List.mem_cons_of_mem _ hy)) k.2⟩
 | [],_ :: _,_,k=>k.elim
 | _ :: _,[],_,k=>k.elim
theorem argK_rel {bs:Bs} {w:World} {x:AK} {u:Value} (h:argK x=true) (k:relK bs w x u):relK ⟨w.heap.size,[],[],[]⟩ w x u:=by
 have ho:Old bs.lo w.heap.size w w:=fun b _ h2=>⟨h2,h2,fun _=>rfl⟩
 unfold argK at h
 split at h
 ·exact SlP.keep k ho
 ·exact SlQ.keep k ho
 ·exact SlV.keep k ho
 ·obtain ⟨us,e,k⟩:=k; exact ⟨us,e,argL_rel (argL_flat h) k⟩
 ·exact nobxK_rel rfl rfl h k
theorem argKs_rel {bs:Bs} {w:World}:∀ {x:List AK} {u:List Value},argKs x=true->relKs bs w x u->relKs ⟨w.heap.size,[],[],[]⟩ w x u
 | [],[],_,_=>trivial
 | _ :: _,_ :: _,h,k=>by
   simp only [argKs,Bool.and_eq_true] at h
   exact ⟨argK_rel h.1 k.1,argKs_rel h.2 k.2⟩
 | [],_ :: _,_,k=>k.elim
 | _ :: _,[],_,k=>k.elim
def ares1 (L:List Lay) (s:St):ResultVar->Option AK
 | .tmp t =>
   match s.tm[t]? with
   | some (.k x)=>some x
   | _=>none
 | .cell t T =>
   match s.tm[t]?,getLay L T with
   | some (.k (.c (.bx i off))),some l =>
     match s.bx[i]? with
     | some b =>
       match (cut 99 b.cs off l.size).bind (mkK l.agg) with
       | some (.k x)=>some x
       | _=>none
     | none=>none
   | _,_=>none
def aresL (L:List Lay) (s:St):List ResultVar->Option (List AK)
 | []=>some []
 | r :: l =>
   match ares1 L s r,aresL L s l with
   | some x,some xs=>some (x :: xs)
   | _,_=>none
def ares (L:List Lay) (s:St) (l:List ResultVar):Option AV :=
 match aresL L s l with
 | some [x]=>some (.k x)
 | some xs=>some (.t xs)
 | none=>none
section
variable {P:Program} {L:List Lay} {C:List Ctr} {W0 w:World} {bs:Bs} {s:St} {a:Act}
def resOne (tmps:Array Value):ResultVar->Sem Value
 | .tmp t=>pure (tmps.getD t undef)
 | .cell a t=>do loadVar t (<- asAddr (tmps.getD a undef))
theorem ares1_run (hL:∀ l ∈ L,LayOK P l) (hR:Rl W0 bs s a w) {r:ResultVar} {x:AK} (h:ares1 L s r=some x):∃ v,(resOne a.tmps r).run P w=.ok v w/\relK bs w x v:=by
 cases r with
 | tmp t =>
   simp only [ares1] at h
   split at h
   ·rename_i x' ht
    simp only [Option.some.injEq] at h
    subst h
    exact ⟨_,rfl,hR.tmp t _ ht⟩
   ·cases h
 | cell t T =>
   simp only [ares1] at h
   split at h
   ·rename_i i off l ht hl
    split at h
    ·rename_i b hb
     split at h
     ·rename_i x' hx
      simp only [Option.some.injEq] at h
      subst h
      simp only [Option.bind_eq_some_iff] at hx
      obtain ⟨cs,hc,hk⟩:=hx
      obtain ⟨hm,rfl⟩:=getLay_spec hl
      obtain ⟨g,hg,hv⟩:=hR.tmp t _ ht
      obtain ⟨_,vs,h2,h3,_⟩:=hR.box i g b hg hb
      obtain ⟨e1,e2⟩:=cut_spec _ _ _ _ _ hc
      have hrel:relL bs w (flats cs) ((vs.drop off).take l.size):=by rw [e1]; exact (h3.drop off).take _
      refine ⟨_,?_,mkK_rel hk hrel⟩
      have:=run_loadBox (P:=P) (hL l hm) g off w _ (by rw [<- hrel.len,e2]) (rangeAt_of_heap h2 off l.size)
      simp only [Instr.loadAt,Instr.sureAddr,Sem.run_bind,Sem.run_pure,Result.andThen_ok] at this
      simp only [resOne,hv,asAddr,Sem.run_bind,Sem.run_pure,Result.andThen_ok]
      exact this
     ·cases h
    ·cases h
   ·cases h
theorem aresL_run (hL:∀ l ∈ L,LayOK P l) (hR:Rl W0 bs s a w):∀ {l:List ResultVar} {xs:List AK},aresL L s l=some xs->∃ vs:List Value,(l.mapM (resOne a.tmps)).run P w=.ok vs w/\relKs bs w xs vs
 | [],xs,h=>by
   simp only [aresL,Option.some.injEq] at h
   subst h
   exact ⟨[],by simp,trivial⟩
 | r :: l,xs,h=>by
   simp only [aresL] at h
   split at h
   ·rename_i x xs' hx hl
    simp only [Option.some.injEq] at h
    subst h
    obtain ⟨v,h1,h2⟩:=ares1_run hL hR hx
    obtain ⟨vs,h3,h4⟩:=aresL_run hL hR hl
    exact ⟨v :: vs,by simp [List.mapM_cons,h1,h3],h2,h4⟩
   ·cases h
theorem results_eq (fn:Func) (tmps:Array Value):results fn tmps=(do
    let vs <- fn.results.mapM (resOne tmps)
    pure (if h:vs.size=1 then vs[0] else .tuple vs)):=by
 unfold results
 congr 1
theorem ares_run (hL:∀ l ∈ L,LayOK P l) (hR:Rl W0 bs s a w) {fn:Func} {x:AV} (h:ares L s fn.results.toList=some x):∃ v,(results fn a.tmps).run P w=.ok v w/\relV bs w x v:=by
 unfold ares at h
 have key:∀ xs,aresL L s fn.results.toList=some xs->∃ vs:List Value,(fn.results.mapM (resOne a.tmps)).run P w=.ok vs.toArray w/\relKs bs w xs vs:=fun xs hx=>by
  obtain ⟨vs,h1,h2⟩:=aresL_run hL hR hx
  refine ⟨vs,?_,h2⟩
  rw [Array.mapM_eq_mapM_toList]
  simp [h1]
 rw [results_eq]
 split at h
 ·rename_i y hy
  simp only [Option.some.injEq] at h
  subst h
  obtain ⟨vs,h1,h2⟩:=key _ hy
  match vs,h2 with
  | [v],h2=>exact ⟨v,by simp [h1],h2.1⟩
 ·rename_i xs hne hy
  simp only [Option.some.injEq] at h
  subst h
  obtain ⟨vs,h1,h2⟩:=key _ hy
  refine ⟨.tuple vs.toArray,?_,vs,rfl,h2⟩
  have hl:=h2.len
  have:¬ vs.length=1:=by
   intro e
   rw [e] at hl
   match xs,hl with
   | [y],_=>exact hne y rfl
  simp [h1,this]
 ·cases h
def owes (L:List Lay) (C:List Ctr) (I:List LI) (fn:Func) (body:Code) (xs:List AK) (r:AV):Prop :=
 awp L C I body ⟨xs.map .k ++ List.replicate (fn.ntmps - xs.length) .u,[]⟩ fun e s =>
  match e with
  | .exit _=>False
  | _ =>
    match ares L s fn.results.toList with
    | some x=>eqV x r
    | none=>False
theorem ctr_calls (hm:P.follows .mixedOrders=true) (hL:∀ l ∈ L,LayOK P l) (hC:∀ c ∈ C,CtrOK P c) {f:Nat} {fn:Func} {body:Code} (hf:P.funcs[f]?=some fn) (hb:fn.body=some body) {xs:List AK} {vs:List Value} {r:AV}
    (hx:relKs bs w xs vs) (hA:bs.ar=[]) (hG:bs.gh=[]) (hnx:argKs xs=true) (hnr:nobxV r=true) {I:List LI} (h:owes L C I fn body xs r):Calls P f vs.toArray w fun e w'=>∃ v,e=.returned v/\Ext w w'/\relV bs w' r v:=by
 refine calls_of_wp hf hb ?_
 have hxl:=hx.len
 have hR:Rl w ⟨w.heap.size,[],[],[]⟩ ⟨xs.map .k ++ List.replicate (fn.ntmps - xs.length) .u,[]⟩ { tmps:=vs.toArray ++ Array.replicate (fn.ntmps - vs.toArray.size) undef,defers:=[] } w:=by
  refine ⟨Ext.refl w,rfl,rfl,rfl,List.nodup_nil,rfl,fun i b x h _=>(by simp at h),fun b hb=>(by cases hb),fun t x ht=>?_,by simp [hxl],rfl⟩
  simp only at ht
  rcases Nat.lt_or_ge t xs.length with hlt | hge
  ·rw [List.getElem?_append_left (by simpa using hlt)] at ht
   simp only [List.getElem?_map,Option.map_eq_some_iff] at ht
   obtain ⟨y,hy,rfl⟩:=ht
   obtain ⟨u,h1,h2⟩:=(argKs_rel hnx hx).get hy
   have hlt':t < vs.length:=by omega
   have e:(vs.toArray ++ Array.replicate (fn.ntmps - vs.toArray.size) undef).getD t undef=u:=by
    have hu:vs[t]=u:=by simpa [hlt'] using h1
    simp [Array.getD_eq_getD_getElem?,Array.getElem?_append,hlt',hu]
   rw [e]
   exact h2
  ·rw [List.getElem?_append_right (by simpa using hge)] at ht
   rw [List.getElem?_replicate] at ht
   split at ht
   ·simp only [Option.some.injEq] at ht
    subst ht
    trivial
   ·cases ht
 refine awp_sound hm hL hC body _ _ _ _ _ _ h hR fun e s' bs' a' w' hq hR'=>?_
 cases e with
 | exit id=>exact hq.elim
 | normal =>
   simp only at hq
   split at hq
   ·rename_i x hx'
    obtain ⟨v,h1,h2⟩:=ares_run hL hR' hx'
    exact ⟨hR'.dfr,v,h1,v,rfl,hR'.ext,nobxV_rel hA hG hnr (eqV_rel hq h2)⟩
   ·exact hq.elim
 | ret =>
   simp only at hq
   split at hq
   ·rename_i x hx'
    obtain ⟨v,h1,h2⟩:=ares_run hL hR' hx'
    exact ⟨hR'.dfr,v,h1,v,rfl,hR'.ext,nobxV_rel hA hG hnr (eqV_rel hq h2)⟩
   ·exact hq.elim
end
end Vc
end Go.Proofs.YtkdjilgddbjcaaaGreat
namespace Go.Proofs.YtkdjilgddbjcaaaGreat
open Go.RowKit
namespace Vc
def LT:List Lay:=[
 ⟨30,2,true,0,0,[.v (.bool false),.sl []],[(0,1),(1,1)]⟩,
 ⟨32,4,true,0,0,[.v (.bool false),.sl [],.v (.bool false),.sl []],[(0,2),(2,2)]⟩,
 ⟨34,8,true,0,0,[.v (.bool false),.sl [],.v (.bool false),.sl [],.v (.bool false),.sl [],.v (.bool false),.sl []],[(0,4),(4,4)]⟩,
 ⟨3,1,false,3,0,[.v (.int .i64 0)],[]⟩,
 ⟨2,1,false,3,0,[.v (.int .i64 0)],[]⟩,
 ⟨103,1,false,4,0,[.v (.int .u64 0)],[]⟩,
 ⟨98,1,false,5,0,[.v (.int .u32 0)],[]⟩,
 ⟨4,1,false,1,0,[.v (.bool false)],[]⟩,
 ⟨28,1,false,2,0,[.sl []],[]⟩,
 ⟨255,1,false,10,32,[.v (.slice none 0 0)],[]⟩,
 ⟨38,1,false,0,0,[.v (.int .i64 0)],[]⟩]
theorem LT_ok:∀ l ∈ LT,LayOK Tryz.prog l:=by
 have h:LT.all (layB Tryz.prog)=true:=by kernel_rfl
 intro l hl
 exact layB_ok (List.all_eq_true.1 h l hl)
theorem mixed:Tryz.prog.follows .mixedOrders=true:=by kernel_rfl
section
variable {bs:Bs} {w:World}
theorem relK_I (hA:bs.ar=[]) (hG:bs.gh=[]) {x:Int} {u:Value}:relK bs w (.g [.I x]) u ↔ ∃ b s,u=.agg #[.bool b,s]/\IsI w b s x:=by
 constructor
 ·rintro ⟨us,rfl,h⟩
  match us,h with
  | [u1,u2],h =>
    obtain ⟨⟨rfl,_⟩,h2,_⟩:=h
    exact ⟨_,u2,rfl,rfl,h2.1⟩
 ·rintro ⟨b,s,rfl,hb,hs⟩
  exact ⟨[.bool b,s],rfl,⟨by rw [hb],rfl⟩,⟨hs,Away.none hA hG _ _⟩,trivial⟩
theorem relKs_one {x:AK} {us:List Value} (h:relKs bs w [x] us):∃ u,us=[u]/\relK bs w x u:=by
 match us,h with
 | [u],h=>exact ⟨u,rfl,h.1⟩
theorem relKs_two {x y:AK} {us:List Value} (h:relKs bs w [x,y] us):∃ u v,us=[u,v]/\relK bs w x u/\relK bs w y v:=by
 match us,h with
 | [u,v],h=>exact ⟨u,v,rfl,h.1,h.2.1⟩
theorem ret_I (hA:bs.ar=[]) (hG:bs.gh=[]) {w:World} {z:Int} {e:Ending} {w':World} (h:RetI w z e w'):∃ v,e=.returned v/\Ext w w'/\relV bs w' (.k (.g [.I z])) v:=by
 obtain ⟨b,a,n,c,rfl,hs,hx⟩:=h
 exact ⟨_,rfl,hx,(relK_I hA hG).2 ⟨b,_,rfl,hs⟩⟩
theorem ret_v {w:World} {x:Value} {e:Ending} {w':World} (h1:x.oneCell'=true) (h:e=.returned x/\Ext w w'):∃ v,e=.returned v/\Ext w w'/\relV bs w' (.k (.c (.v x))) v:=⟨x,h.1,h.2,rfl,h1⟩
end
def cIadd:Ctr:=⟨69,fun | [.g [.I x],.g [.I y]]=>.yes (szI x <= 10000000/\szI y <= 10000000) (.k (.g [.I (x+y)])) | _=>.no⟩
def cIsub:Ctr:=⟨217,fun | [.g [.I x],.g [.I y]]=>.yes (szI x <= 10000000/\szI y <= 10000000) (.k (.g [.I (x - y)])) | _=>.no⟩
def cImul:Ctr:=⟨64,fun | [.g [.I x],.g [.I y]]=>.yes (szI x <= 10000000/\szI y <= 10000000) (.k (.g [.I (x*y)])) | _=>.no⟩
def cIneg:Ctr:=⟨72,fun | [.g [.I x]]=>.yes (szI x <= 10000000) (.k (.g [.I (-x)])) | _=>.no⟩
def cIsign:Ctr:=⟨61,fun | [.g [.I x]]=>.yes True (.k (.c (.v (.int .i64 x.sign)))) | _=>.no⟩
def cIcmp:Ctr:=⟨63,fun | [.g [.I x],.g [.I y]]=>.yes (szI x <= 10000000/\szI y <= 10000000) (.k (.c (.v (.int .i64 (x - y).sign)))) | _=>.no⟩
def cIfrom:Ctr:=⟨60,fun | [.c (.v (.int .i64 n))]=>.yes (-9223372036854775808 <= n/\n <= 9223372036854775807) (.k (.g [.I n])) | _=>.no⟩
theorem cIadd_ok:CtrOK Tryz.prog cIadd:=.of (by kernel_rfl) (fun bs w xs vs pre r hr hA hG h hp=>by
 simp only [cIadd] at h
 split at h
 ·cases h
  obtain ⟨u,v,rfl,h1,h2⟩:=relKs_two hr
  obtain ⟨b1,s1,rfl,k1⟩:=(relK_I hA hG).1 h1
  obtain ⟨b2,s2,rfl,k2⟩:=(relK_I hA hG).1 h2
  exact (iadd_any b1 b2 s1 s2 _ _ w k1 k2 hp.1 hp.2).mono fun e w' h=>ret_I hA hG h
 ·cases h) (fun xs α pre φ r=>by simp only [cIadd]; split <;> (intro h; cases h))
theorem cIsub_ok:CtrOK Tryz.prog cIsub:=.of (by kernel_rfl) (fun bs w xs vs pre r hr hA hG h hp=>by
 simp only [cIsub] at h
 split at h
 ·cases h
  obtain ⟨u,v,rfl,h1,h2⟩:=relKs_two hr
  obtain ⟨b1,s1,rfl,k1⟩:=(relK_I hA hG).1 h1
  obtain ⟨b2,s2,rfl,k2⟩:=(relK_I hA hG).1 h2
  exact (isub_any b1 b2 s1 s2 _ _ w k1 k2 hp.1 hp.2).mono fun e w' h=>ret_I hA hG h
 ·cases h) (fun xs α pre φ r=>by simp only [cIsub]; split <;> (intro h; cases h))
theorem cImul_ok:CtrOK Tryz.prog cImul:=.of (by kernel_rfl) (fun bs w xs vs pre r hr hA hG h hp=>by
 simp only [cImul] at h
 split at h
 ·cases h
  obtain ⟨u,v,rfl,h1,h2⟩:=relKs_two hr
  obtain ⟨b1,s1,rfl,k1⟩:=(relK_I hA hG).1 h1
  obtain ⟨b2,s2,rfl,k2⟩:=(relK_I hA hG).1 h2
  exact (imul_any b1 b2 s1 s2 _ _ w k1 k2 hp.1 hp.2).mono fun e w' h=>ret_I hA hG h
 ·cases h) (fun xs α pre φ r=>by simp only [cImul]; split <;> (intro h; cases h))
theorem cIneg_ok:CtrOK Tryz.prog cIneg:=.of (by kernel_rfl) (fun bs w xs vs pre r hr hA hG h hp=>by
 simp only [cIneg] at h
 split at h
 ·cases h
  obtain ⟨u,rfl,h1⟩:=relKs_one hr
  obtain ⟨b1,s1,rfl,k1⟩:=(relK_I hA hG).1 h1
  exact (ineg_any b1 s1 _ w k1 (by omega)).mono fun e w' h=>ret_I hA hG h
 ·cases h) (fun xs α pre φ r=>by simp only [cIneg]; split <;> (intro h; cases h))
theorem cIsign_ok:CtrOK Tryz.prog cIsign:=.of (by kernel_rfl) (fun bs w xs vs pre r hr hA hG h hp=>by
 simp only [cIsign] at h
 split at h
 ·cases h
  obtain ⟨u,rfl,h1⟩:=relKs_one hr
  obtain ⟨b1,s1,rfl,k1⟩:=(relK_I hA hG).1 h1
  exact (isign_any b1 s1 _ w k1).mono fun e w' h=>ret_v rfl h
 ·cases h) (fun xs α pre φ r=>by simp only [cIsign]; split <;> (intro h; cases h))
theorem cIcmp_ok:CtrOK Tryz.prog cIcmp:=.of (by kernel_rfl) (fun bs w xs vs pre r hr hA hG h hp=>by
 simp only [cIcmp] at h
 split at h
 ·cases h
  obtain ⟨u,v,rfl,h1,h2⟩:=relKs_two hr
  obtain ⟨b1,s1,rfl,k1⟩:=(relK_I hA hG).1 h1
  obtain ⟨b2,s2,rfl,k2⟩:=(relK_I hA hG).1 h2
  exact (icmp_any b1 b2 s1 s2 _ _ w k1 k2 (by omega) (by omega)).mono fun e w' h=>ret_v rfl h
 ·cases h) (fun xs α pre φ r=>by simp only [cIcmp]; split <;> (intro h; cases h))
theorem cIfrom_ok:CtrOK Tryz.prog cIfrom:=.of (by kernel_rfl) (fun bs w xs vs pre r hr hA hG h hp=>by
 simp only [cIfrom] at h
 split at h
 ·cases h
  obtain ⟨u,rfl,h1,_⟩:=relKs_one hr
  subst h1
  exact (fromInt_any _ w hp.1 hp.2).mono fun e w' h=>ret_I hA hG h
 ·cases h) (fun xs α pre φ r=>by simp only [cIfrom]; split <;> (intro h; cases h))
def CT0:List Ctr:=[cIadd,cIsub,cImul,cIneg,cIsign,cIcmp,cIfrom]
theorem CT0_ok:∀ c ∈ CT0,CtrOK Tryz.prog c:=by
 intro c hc
 simp only [CT0,List.mem_cons,List.not_mem_nil,or_false] at hc
 rcases hc with rfl | rfl | rfl | rfl | rfl | rfl | rfl
 ·exact cIadd_ok
 ·exact cIsub_ok
 ·exact cImul_ok
 ·exact cIneg_ok
 ·exact cIsign_ok
 ·exact cIcmp_ok
 ·exact cIfrom_ok
end Vc
end Go.Proofs.YtkdjilgddbjcaaaGreat
