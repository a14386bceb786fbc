import Derived.Test.YtkdjilgddbjcaaaGreatR23
import Derived.Laws.MakeOwn
namespace Go.Proofs.YtkdjilgddbjcaaaGreat
open Go.RowKit
namespace Zc
theorem act_get {a:Act} {t:Nat} {v:Value} (h:t < a.tmps.size):(a.put (some t) v).eval (.tmp t)=v:=by
 simp [Act.put,Act.eval,Array.getD,h]
theorem act_get_ne {a:Act} {t t':Nat} {v:Value} (h:t ≠ t'):(a.put (some t) v).eval (.tmp t')=a.eval (.tmp t'):=by
 simp only [Act.put,Act.eval,Array.getD_eq_getD_getElem?]
 rw [Array.getElem?_setIfInBounds_ne (by simpa using h)]
theorem act_size {a:Act} {d:Option Nat} {v:Value}:(a.put d v).tmps.size=a.tmps.size:=by cases d <;> simp [Act.put]
theorem bif_someF {α:Type} {b:Bool} {x r:α} (h:(bif b then some x else none)=some r):b=true/\x=r:=by
 cases b with
 | false=>cases h
 | true=>exact ⟨rfl,by simpa using h⟩
theorem fuse_run {P:Program} {T e:TypeId} {i:TypeInfo} (hu:P.underlying T=some (.slice e)) (hi:P.info? e=some i) (hsz:i.size=1) (hby:i.bytes=4) (hz:i.zero=some (.int .u32 0)) {k z:Nat} (hk:k <= 1000000)
    {a:Act} {w:World} {o1 o2 o3:Oper} {x y:Operand} {d1 d2 d3:Nat} {ops:Array Oper} {r:List Oper} {Q:Exit->Act->World->Prop}
    (ho1:o1.op=.makeSlice T x y) (ho2:o2.op=.buildSlice T 1 #[(0,.const (.int .u32 (z:Int)))]) (ho3:o3.op=.call { callee:=.builtin .append,args:=#[.tmp d1,.tmp d2],argTypes:=#[T,T] })
    (hg1:o1.guard=none) (hg2:o2.guard=none) (hg3:o3.guard=none) (hd1:o1.dst=some d1) (hd2:o2.dst=some d2) (hd3:o3.dst=some d3) (hx:a.eval x=.int .i64 (k:Int)) (hy:a.eval y=.int .i64 (k:Int)) (hlt:d1 < d2) (hlt2:d2 < a.tmps.size)
    (hK:∀ v1 v2 v3 w3,Ext w w3->SlU w3 v3 (List.replicate k 0 ++ [z])->wpList P ops Q r (((a.put (some d1) v1).put (some d2) v2).put (some d3) v3) w3):wpList P ops Q (o1 :: o2 :: o3 :: r) a w:=by
 have run1:(execOp a.eval o1).run P w=.ok (.value (.slice (some ⟨w.heap.size,0,none⟩) k k)) (w.alloc (.cells (Array.replicate k (.int .u32 0)) e)):=by
  have:=run_make (P:=P) w T e i (.int .u32 0) hu hi hz .i64 .i64 (k:Int) (k:Int) (by omega) (Int.le_refl _) (by rw [hby]; omega) (by omega)
  rw [hsz,Int.toNat_natCast,show (Value.int IntKind.u32 0).cells=#[Value.int .u32 0] from rfl,made_zeros] at this
  simp only [execOp,ho1,hx,hy]
  exact Vc.run_v this
 refine wpList_plain hg1 fun K1 hK1=>?_
 unfold Oper.wp
 rw [run1]
 refine hK1 _ _ ?_
 obtain ⟨w1,hw1⟩:∃ w1,w.alloc (.cells (Array.replicate k (.int .u32 0)) e)=w1:=⟨_,rfl⟩
 have hE1:Ext w w1:=by rw [<- hw1]; exact (Ext.refl w).alloc _
 have hb1:w1.heap[w.heap.size]?=some (.cells (Array.replicate k (.int .u32 0)) e (0,0)):=by rw [<- hw1]; unfold World.alloc; simp
 have hs1:w1.heap.size=w.heap.size+1:=by rw [<- hw1]; unfold World.alloc; simp
 rw [hw1,hd1]
 have hown1:OwnG w.heap.size e 1 uC w1 (.slice (some ⟨w.heap.size,0,none⟩) (List.replicate k 0).length (List.replicate k 0).length) (List.replicate k 0):=by
  refine ⟨by simp [cat_length uC_len],.inr ⟨w.heap.size,_,_,rfl,Nat.le_refl _,hb1,Nat.le_refl _,by simp [maxLen]; omega,by simp,?_⟩⟩
  apply List.ext_getElem
  ·simp [cat_length uC_len]
  ·intro i h1 h2
   have hik:i < k:=by simpa using h1
   have:=cat_get (f:=uC) uC_len (List.replicate k 0) i 0 0 (by simp [hik]) (by decide)
   rw [Nat.mul_one,Nat.add_zero] at this
   rw [List.getElem?_eq_getElem h2] at this
   simp [uC] at this
   simp [this]
 rw [show (List.replicate k 0).length=k by simp] at hown1
 have run2:(execOp (a.put (some d1) (.slice (some ⟨w.heap.size,0,none⟩) k k)).eval o2).run P w1=.ok (.value (.slice (some ⟨w1.heap.size,0,none⟩) 1 1)) (w1.alloc (.cells #[.int .u32 (z:Int)] e)):=by
  have:=run_buildSlice (P:=P) w1 T e 1 #[(0,.int .u32 (z:Int))] #[.int .u32 (z:Int)] i (.int .u32 0) hu hi hz (by rw [hsz]; omega) (by rw [hsz]; omega) (by
   rw [hsz]
   exact Great.fill_flat [.int .u32 (z:Int)] _ (fun v hv=>by simp only [List.mem_singleton] at hv; subst hv; rfl) (by simp))
  simp only [execOp,ho2]
  exact Vc.run_v (by simpa [Act.eval] using this)
 refine wpList_plain hg2 fun K2 hK2=>?_
 unfold Oper.wp
 rw [run2]
 refine hK2 _ _ ?_
 rw [hd2]
 obtain ⟨w2,hw2⟩:∃ w2,w1.alloc (.cells #[.int .u32 (z:Int)] e)=w2:=⟨_,rfl⟩
 have hE2:Ext w1 w2:=by rw [<- hw2]; exact (Ext.refl w1).alloc _
 have hsl:SlU w2 (.slice (some ⟨w1.heap.size,0,none⟩) 1 1) [z]:=by
  rw [<- hw2]
  refine Vc.slU_new rfl (Nat.le_refl _) fun i hi=>?_
  have:i=0:=by simpa using hi
  subst this
  rfl
 have hs2:w2.heap.size=w1.heap.size+1:=by rw [<- hw2]; unfold World.alloc; simp
 rw [hw2]
 have hown2:=hown1.later hE2
 have eX:((a.put (some d1) (.slice (some ⟨w.heap.size,0,none⟩) k k)).put (some d2) (.slice (some ⟨w1.heap.size,0,none⟩) 1 1)).eval (.tmp d1)=.slice (some ⟨w.heap.size,0,none⟩) k k:=by
  rw [act_get_ne (by omega),act_get (by omega)]
 have eY:((a.put (some d1) (.slice (some ⟨w.heap.size,0,none⟩) k k)).put (some d2) (.slice (some ⟨w1.heap.size,0,none⟩) 1 1)).eval (.tmp d2)=.slice (some ⟨w1.heap.size,0,none⟩) 1 1:=act_get (by rw [act_size]; omega)
 refine appG_at (f:=uC) (k:=1) hg3 _ _ ho3 hu (z:=.int .u32 0) (bytes:=4) (by rw [hi]; simp [hz,hsz,hby]) rfl (by decide) uC_len uC_one w.heap.size _ _ (List.replicate k 0) [z] eX eY hown2 hsl (by simp [maxLen]; omega) (by simp; omega) (by omega) fun v3 w3 ho hg hat=>?_
 rw [hd3]
 exact hK _ _ _ _ ((hE1.trans hE2).grown hg (fun i hi=>by simp only [Value.ownBlock,Option.some.injEq] at hi; omega)) (OwnG.sl uC_len ho)
section
variable {α:Type} {P:Program} {L:Tr ZL} {m N:Nat}
noncomputable def isMk (L:Tr ZL) (o:Oper):Bool :=
 match o.op with
 | .makeSlice T _ _=>Option.rec (motive:=fun _=>Bool) false (fun t=>Nat.beq t.kd 2) (L.get T)
 | _=>false
noncomputable def mkI (L:Tr ZL) (l:List Oper):Option Nat:=List.rec (motive:=fun _=>Option Nat) none (fun o _ ih=>Bool.rec (motive:=fun _=>Option Nat) (Option.rec (motive:=fun _=>Option Nat) none (fun i=>some (Nat.succ i)) ih) (some 0) (isMk L o)) l
noncomputable def fzv (L:Tr ZL) (N:Nat) (tm:Fr KV) (o1 o2 o3:Oper):Option ((Nat × Nat × Nat) × (Nat × Nat)) :=
 match o1.op,o2.op,o3.op,o1.guard,o2.guard,o3.guard,o1.dst,o2.dst,o3.dst with
 | .makeSlice T x y,.buildSlice T2 1 ps,.call c,none,none,none,some d1,some d2,some d3 =>
   match L.get T,evO tm x,evO tm y,ps.toList,c.callee,c.args.toList,c.argTypes.toList with
   | some l,.k (.c (.v (.int .i64 (.ofNat n)))),.k (.c (.v (.int .i64 (.ofNat n')))),[(0,.const (.int .u32 (.ofNat z)))],.builtin .append,[.tmp e1,.tmp e2],[U,V] =>
     bif Nat.beq l.kd 2 && Nat.beq T2 T && Nat.beq U T && Nat.beq V T && Nat.beq e1 d1 && Nat.beq e2 d2 && Nat.ble (d1+1) d2 && Nat.ble (d2+1) N && Nat.ble (d3+1) N && Nat.beq n n' && Nat.ble n 1000000 then some ((d1,d2,d3),(n,z)) else none
   | _,_,_,_,_,_,_=>none
 | _,_,_,_,_,_,_,_,_=>none
noncomputable def zfz (C:Ct α) (L:Tr ZL) (N m:Nat) (l:List Oper) (i:Nat) (tm:Fr KV) (H:Hp Bx) (n:Nat) (K:Fr KV->Hp Bx->Nat->Ans α):Ans α :=
 zseq C L m l (l.take i) tm H n fun tm H n =>
  match l.drop i with
  | o1 :: o2 :: o3 :: r =>
    match fzv L N tm o1 o2 o3 with
    | some ((d1,d2,d3),(k,z))=>putK tm (some d1) .u fun tm=>putK tm (some d2) .u fun tm=>putK tm (some d3) (.k (.c (.sl (List.replicate k 0 ++ [z])))) fun tm=>zseq C L m l r tm H n K
    | none=>.bad 9 (.ready 1)
  | _=>.bad 9 (.ready 0)
theorem zseq_okR (hL:TyOK P L) {C:Ct α} (hC:CSound P C) {l:List Oper}:∀ (os:List Oper) {tm:Fr KV} {H:Hp Bx} {n:Nat} {K:Fr KV->Hp Bx->Nat->Ans α} {y:α},zseq C L m l os tm H n K=.ok y->∃ tm' H' n',K tm' H' n'=.ok y/\(m <= n->Low H n->Stat m H n H' n'/\∀ (rest:List Oper) (bm:BM) (a:Act) (w:World) (Q:Exit->Act->World->Prop),Rz N tm H bm a w->Room bm n n'->insideB os N=true ->
    (∀ bm' a' w',Rz N tm' H' bm' a' w'->Grow m n n' w bm bm'->Frame m n bm w w'->wpList P l.toArray Q rest a' w')->wpList P l.toArray Q (os ++ rest) a w)
 | [],tm,H,n,K,y,h=>⟨tm,H,n,h,fun _ hl=>⟨Stat.refl hl,fun rest bm a w Q hR _ _ hQ=>hQ bm a w hR (Grow.refl ..) (Frame.refl ..)⟩⟩
 | o :: os,tm,H,n,K,y,h=>by
   have h':(match zwant l tm o with
    | some b=>bif b then zop C L m tm H n o.op (fun r H n=>putK tm o.dst r fun tm=>zseq C L m l os tm H n K) else putK tm o.dst (.t []) fun tm=>zseq C L m l os tm H n K
    | none=>.bad 8 (.ready 0))=.ok y:=h
   split at h' <;> try (cases h'; done)
   rename_i b hw
   have hins:insideB (o :: os) N=true->(∀ t,o.dst=some t->t < N)/\insideB os N=true:=fun hi=>by
    simp only [insideB,List.all_cons,Bool.and_eq_true] at hi
    refine ⟨fun t ht=>?_,hi.2⟩
    have:=hi.1
    rw [ht] at this
    simpa using this
   cases b with
   | true =>
     simp only [cond_true] at h'
     obtain ⟨q,hq,hop⟩:=zop_ok (m:=m) hL hC h'
     obtain ⟨tm1,h1,hp⟩:=putK_ok hq
     obtain ⟨tm',H',n',hk,hs⟩:=zseq_okR hL hC os h1
     refine ⟨tm',H',n',hk,fun hm hl=>?_⟩
     obtain ⟨s1,r1⟩:=hop hm hl
     obtain ⟨s2,r2⟩:=hs (Nat.le_trans hm s1.le) s1.low
     refine ⟨s1.trans s2,fun rest bm a w Q hR hroom hi hQ=>?_⟩
     obtain ⟨hd,hi'⟩:=hins hi
     have hrun:=r1 bm w a.eval hR.ok (hroom.left s2.le) (fun _=>rfl) (fun _=>rfl) (fun x _=>hR.ev x)
     rw [List.cons_append]
     unfold wpList
     rw [if_pos (zwant_run hw fun g og t x _ _ _ hx=>hR.tmp t x hx)]
     refine .inl (hrun.wp fun v w1 ⟨bm1,g1,f1,ok1,hv⟩=>?_)
     have hR1:=(hR.step (hroom.left s2.le) g1 f1 ok1).put hv hd hp
     exact r2 rest bm1 _ w1 Q hR1 (hroom.right s1.le g1) hi' fun bm' a' w' hR' g' f'=>hQ bm' a' w' hR' (g1.trans f1.le g') (Frame.trans g1 f1 f')
   | false =>
     simp only [cond_false] at h'
     obtain ⟨tm1,h1,hp⟩:=putK_ok h'
     obtain ⟨tm',H',n',hk,hs⟩:=zseq_okR hL hC os h1
     refine ⟨tm',H',n',hk,fun hm hl=>?_⟩
     obtain ⟨s2,r2⟩:=hs hm hl
     refine ⟨s2,fun rest bm a w Q hR hroom hi hQ=>?_⟩
     obtain ⟨hd,hi'⟩:=hins hi
     rw [List.cons_append]
     unfold wpList
     rw [if_neg (by rw [zwant_run hw fun g og t x _ _ _ hx=>hR.tmp t x hx]; decide)]
     exact r2 rest bm _ w Q (hR.put (undef_rel bm w) hd hp) hroom hi' hQ
theorem zfz_ok (hL:TyOK P L) {C:Ct α} (hC:CSound P C) {l:List Oper} {i:Nat} {tm:Fr KV} {H:Hp Bx} {n:Nat} {K:Fr KV->Hp Bx->Nat->Ans α} {y:α} (h:zfz C L N m l i tm H n K=.ok y):∃ tm' H' n',K tm' H' n'=.ok y/\SeqOK P N m l l tm H n tm' H' n':=by
 unfold zfz at h
 obtain ⟨tm1,H1,n1,k1,c1⟩:=zseq_okR (N:=N) (m:=m) hL hC _ h
 split at k1 <;> try (cases k1; done)
 rename_i o1 o2 o3 r hdrop
 split at k1 <;> try (cases k1; done)
 rename_i d1 d2 d3 k z hf
 obtain ⟨tm2,k2,p2⟩:=putK_ok k1
 obtain ⟨tm3,k3,p3⟩:=putK_ok k2
 obtain ⟨tm4,k4,p4⟩:=putK_ok k3
 obtain ⟨tm5,H5,n5,k5,c5⟩:=zseq_ok (N:=N) (m:=m) hL hC r k4
 refine ⟨tm5,H5,n5,k5,fun hm hl=>?_⟩
 obtain ⟨s1,r1⟩:=c1 hm hl
 obtain ⟨s2,r2⟩:=c5 (Nat.le_trans hm s1.le) s1.low
 refine ⟨s1.trans s2,fun bm a w Q hR hroom hi hQ=>?_⟩
 have hsplit:l=l.take i ++ o1 :: o2 :: o3 :: r:=by rw [<- hdrop,List.take_append_drop]
 have hi1:insideB (l.take i) N=true/\insideB r N=true:=by
  rw [hsplit] at hi
  simp only [insideB,List.all_append,List.all_cons,Bool.and_eq_true] at hi ⊢
  exact ⟨hi.1,hi.2.2.2.2⟩
 have goal:=r1 (o1 :: o2 :: o3 :: r) bm a w Q hR (hroom.left s2.le) hi1.1 fun bm1 a1 w1 hR1 g1 f1=>?_
 ·rw [<- hsplit] at goal
  exact goal
 unfold fzv at hf
 split at hf <;> try (cases hf; done)
 rename_i T x y' T2 ps c d1' d2' d3' ho1 ho2 ho3 hg1 hg2 hg3 hd1 hd2 hd3
 split at hf <;> try (cases hf; done)
 rename_i la nn nn' z' e1 e2 U V hla hx hy hps hcal hargs htys
 obtain ⟨hc,hq⟩:=bif_someF (x:=((d1',d2',d3'),(nn,z'))) (r:=((d1,d2,d3),(k,z))) hf
 clear hf
 simp only [Bool.and_eq_true,Nat.beq_eq,Nat.ble_eq] at hc
 obtain ⟨⟨⟨⟨⟨⟨⟨⟨⟨⟨hk2,rfl⟩,rfl⟩,rfl⟩,rfl⟩,rfl⟩,hlt⟩,hlt2⟩,hlt3⟩,rfl⟩,hle⟩:=hc
 cases hq
 obtain ⟨e,ie,hu,hie,hsz,hby,hz⟩:=(hL _ la hla).zero2 hk2
 have hxv:=hR1.ev x
 rw [hx] at hxv
 have hyv:=hR1.ev y'
 rw [hy] at hyv
 have hps':ps=#[(0,.const (.int .u32 (z:Int)))]:=by rw [<- Array.toList_inj]; simpa using hps
 have ho3':∀ T',c.argTypes.toList=[T',T']->o3.op=.call { callee:=.builtin .append,args:=#[.tmp d1,.tmp d2],argTypes:=#[T',T'] }:=fun T' ht'=>by
  rw [ho3]
  obtain ⟨cal,args,tys⟩:=c
  simp only at hcal hargs ht'
  subst hcal
  have h1:args=#[.tmp d1,.tmp d2]:=by rw [<- Array.toList_inj]; simpa using hargs
  have h2:tys=#[T',T']:=by rw [<- Array.toList_inj]; simpa using ht'
  rw [h1,h2]
 refine fuse_run hu hie hsz hby hz (k:=k) (z:=z) hle ho1 (by rw [ho2,hps']) (ho3' _ htys) hg1 hg2 hg3 hd1 hd2 hd3 hxv.1 hyv.1 (by omega) (by rw [hR1.size]; omega) fun v1 v2 v3 w3 hE hs=>?_
 have f3:Frame m n1 bm1 w1 w3:=Frame.of_ext hE
 have hR2:Rz N tm1 H1 bm1 a1 w3:=hR1.step (fun _ _ _=>by omega) (Grow.refl m n1 w1 bm1) f3 (hR1.ok.frame (n:=0) (Frame.of_ext hE))
 have hR3:=((hR2.put (r:=.u) (v:=v1) trivial (fun t ht=>by cases ht; omega) p2).put (r:=.u) (v:=v2) trivial (fun t ht=>by cases ht; omega) p3).put (v:=v3) (r:=.k (.c (.sl (List.replicate k 0 ++ [z])))) hs (fun t ht=>by cases ht; omega) p4
 refine r2 bm1 _ w3 Q hR3 ?_ hi1.2 fun bm' a' w' hR' g' f'=>hQ bm' a' w' hR' (g1.trans f1.le ?_) (Frame.trans g1 f1 ?_)
 ·exact hroom.right s1.le g1
 ·exact (Grow.refl m n1 w1 bm1).trans f3.le g'
 ·exact Frame.trans (Grow.refl m n1 w1 bm1) f3 f'
end
def regD (W:Nat->Bool) (N:Nat) (l:List Oper):Option (List Inf) :=
 bif apartB l && lowB l && insideB l N && flowOps l && ordOK W l && tail2B l l.length then some (infs W l) else none
def CodeOK (P:Program) (N m:Nat) (c:Code) (tm:Fr KV) (H:Hp Bx) (n:Nat) (e:Exit) (tm':Fr KV) (H':Hp Bx) (n':Nat):Prop :=
 m <= n->Low H n->Stat m H n H' n'/\∀ (bm:BM) (a:Act) (w:World) (Q:Exit->Act->World->Prop),Rz N tm H bm a w->Room bm n n' ->
   (∀ bm' a' w',Rz N tm' H' bm' a' w'->Grow m n n' w bm bm'->Frame m n bm w w'->Q e a' w')->c.wp P Q a w
section
variable {α:Type} {P:Program} {L:Tr ZL} {W:Nat->Bool} {m N:Nat}
noncomputable def zregion (C:Ct α) (L:Tr ZL) (W:Nat->Bool) (N m:Nat) (l:List Oper) (draw:Bool) (tm:Fr KV) (H:Hp Bx) (n:Nat) (K:Exit->Fr KV->Hp Bx->Nat->Ans α):Ans α :=
 Bool.rec (Bool.rec (.bad 10 (.ready 0)) (Option.rec (zseq C L m l l tm H n fun tm H n=>K .normal tm H n) (fun i=>zfz C L N m l i tm H n fun tm H n=>K .normal tm H n) (mkI L l)) (insideB l N))
  (Option.rec (.bad 10 (.ready 1)) (fun es=>zpre C L m l es tm H n [] fun tm H n=>K .normal tm H n) (regD W N l)) draw
theorem zregion_ok (hm:P.follows .mixedOrders=true) (hL:TyOK P L) {C:Ct α} (hC:CSound P C) {id:Nat} {ops:Array Oper} {draw:Bool} {tm:Fr KV} {H:Hp Bx} {n:Nat} {K:Exit->Fr KV->Hp Bx->Nat->Ans α} {y:α} (h:zregion C L W N m ops.toList draw tm H n K=.ok y) :
    ∃ e tm' H' n',K e tm' H' n'=.ok y/\CodeOK P N m (.region id ops draw) tm H n e tm' H' n':=by
 have hops:ops=ops.toList.toArray:=by simp
 cases draw with
 | false =>
   have h1:(Bool.rec (.bad 10 (.ready 0)) (Option.rec (zseq C L m ops.toList ops.toList tm H n fun tm H n=>K .normal tm H n) (fun i=>zfz C L N m ops.toList i tm H n fun tm H n=>K .normal tm H n) (mkI L ops.toList)) (insideB ops.toList N):Ans α)=.ok y:=h
   cases hi:insideB ops.toList N with
   | false=>rw [hi] at h1; cases h1
   | true =>
     rw [hi] at h1
     have hsq:∃ tm' H' n',K .normal tm' H' n'=.ok y/\SeqOK P N m ops.toList ops.toList tm H n tm' H' n':=by
      cases hmk:mkI L ops.toList with
      | none=>rw [hmk] at h1; exact zseq_ok (N:=N) (m:=m) hL hC ops.toList h1
      | some i=>rw [hmk] at h1; exact zfz_ok hL hC h1
     obtain ⟨tm',H',n',hk,hs⟩:=hsq
     refine ⟨_,tm',H',n',hk,fun hmn hl=>?_⟩
     obtain ⟨s,r⟩:=hs hmn hl
     refine ⟨s,fun bm a w Q hR hroom hQ=>?_⟩
     rw [hops]
     exact wp_region_lit (r bm a w Q hR hroom hi hQ)
 | true =>
   have h1:(Option.rec (.bad 10 (.ready 1)) (fun es=>zpre C L m ops.toList es tm H n [] fun tm H n=>K .normal tm H n) (regD W N ops.toList):Ans α)=.ok y:=h
   generalize hlo:ops.toList=l at *
   cases hr:regD W N l with
   | none=>rw [hr] at h1; cases h1
   | some es =>
     rw [hr] at h1
     unfold regD at hr
     cases hc:(apartB l && lowB l && insideB l N && flowOps l && ordOK W l && tail2B l l.length) with
     | false=>rw [hc] at hr; simp at hr
     | true =>
       rw [hc] at hr
       simp only [cond_true,Option.some.injEq] at hr
       subst hr
       simp only [Bool.and_eq_true] at hc
       obtain ⟨⟨⟨⟨⟨hA,hlow⟩,hI⟩,hfl⟩,hord⟩,hT2⟩:=hc
       obtain ⟨T,R,B,Kk,t0,hk,tr,se,_⟩:=zpre_ok (m:=m) hL hC (infs W l) h1
       rw [infs_len] at hk
       refine ⟨_,_,_,_,hk,fun hmn hl=>?_⟩
       have e1:tm=(T 0).tm:=by rw [t0]
       have e2:H=(T 0).H:=by rw [t0]
       have e3:n=(T 0).n:=by rw [t0]
       have hh:FH P L W m N l T R B Kk:=FH.of tr se hA hlow hI hfl hord (by rw [<- e3]; exact hmn) (by rw [<- e2,<- e3]; exact hl)
       have hmo:=hh.mono l.length (Nat.le_refl _)
       refine ⟨⟨by rw [e3]; exact hmo.2 0 (Nat.zero_le _),hmo.1,fun k hk=>?_⟩,fun bm a w Q hR hroom hQ=>?_⟩
       ·have key:∀ j,j <= l.length->(T j).H.get k=(T 0).H.get k:=by
         intro j
         induction j with
         | zero=>exact fun _=>rfl
         | succ j ih =>
           intro hj
           rw [<- ih (by omega)]
           have hmj:=hh.mono j (by omega)
           have hmj0:=hmj.2 0 (Nat.zero_le _)
           have hjl:j < l.length:=by omega
           have ho:l[j]?=some l[j]:=by simp
           obtain ⟨_,_,s1,s2⟩:=hh.tr j l[j] ho
           by_cases hsy:kd W l j=2/\B j=true
           ·exact ((s1 hsy.2).sy hsy.1 (Nat.le_trans hh.mn hmj0) hmj.1).1.same k hk
           ·exact (hh.step1 hjl hmj.1 (Nat.le_trans hh.mn hmj0)).2.2 (fun h2=>by
             cases hb:B j with
             | false=>rfl
             | true=>exact absurd ⟨h2,hb⟩ hsy) k (by have:=hh.mn; omega)
        rw [key l.length (Nat.le_refl _),e2]
       ·have hR0:Rz N (T 0).tm (T 0).H bm a w:=by rw [<- e1,<- e2]; exact hR
        have hroom1:Room bm (T 0).n (T l.length).n:=by rw [<- e3]; exact hroom
        rw [hops]
        have key:=wp_region_flow3 (P:=P) (Q:=Q) (l:=l) (w0:=w) (a0:=a) (I:=fun ls vals w'=>∃ bm' s e,FI L W m l T R B bm w ls vals w' bm' s e) (id:=id) l.length hm
        rw [List.take_length,List.drop_length] at key
        refine key hA hlow hT2 (fun vals _=>⟨bm,FI.start hh hR0 hroom1 vals⟩) (fun i o ho=>?_) (fun ls vals w' _ hall ⟨bm1,s,e,hF⟩=>?_)
        ·exact flow_step hL hh hR0 hroom1 ho
        ·obtain ⟨q1,q2,q3⟩:=hF.stop hh hR0 hroom1 hall
         rw [<- e3] at q2 q3
         exact hQ bm1 _ w' q1 q2 q3
noncomputable def lowP (n:Nat) (ks:List (Nat × Nat)):Bool:=List.rec true (fun p _ ih=>Bool.rec false ih (Nat.ble (Nat.succ p.1) n)) ks
noncomputable def lowL (n:Nat) (x:LF):Bool:=LF.rec (fun _=>true) (fun _=>true) (fun _=>true) (fun k _=>Nat.ble (Nat.succ k) n) (fun k _ _ _ _=>Nat.ble (Nat.succ k) n) true (fun _ ks=>lowP n ks) x
noncomputable def lowLs (n:Nat) (l:List LF):Bool:=List.rec true (fun x _ ih=>Bool.rec false ih (lowL n x)) l
noncomputable def lowK (n:Nat) (x:KK):Bool:=KK.rec (fun x=>lowL n x) (fun xs=>lowLs n xs) x
noncomputable def lowKs (n:Nat) (l:List KK):Bool:=List.rec true (fun x _ ih=>Bool.rec false ih (lowK n x)) l
noncomputable def lowV (n:Nat) (x:KV):Bool:=KV.rec true (fun x=>lowK n x) (fun xs=>lowKs n xs) x
theorem rec_and {a b:Bool} (h:(Bool.rec false b a:Bool)=true):a=true/\b=true:=by
 cases a with
 | false=>cases h
 | true=>exact ⟨rfl,h⟩
section
variable {n:Nat} {bm bm':BM} {w:World} (hb:∀ k,k < n->bm' k=bm k)
include hb
theorem lowP_rel:∀ {ks:List (Nat × Nat)} {us:List Value},lowP n ks=true->relP bm ks us->relP bm' ks us
 | [],[],_,_=>trivial
 | p :: ks,_ :: _,h,⟨⟨b,k1,k2⟩,k3⟩=>by
   obtain ⟨h1,h2⟩:=rec_and h
   exact ⟨⟨b,by rw [hb _ (nble_yes h1)]; exact k1,k2⟩,lowP_rel h2 k3⟩
 | [],_ :: _,_,k=>k.elim
 | _ :: _,[],_,k=>k.elim
theorem low1_rel {x:LF} {u:Value} (h:lowL n x=true) (k:rel1 bm w x u):rel1 bm' w x u:=by
 cases x with
 | v x=>exact k
 | sl l=>exact k
 | I z=>exact k
 | p q off =>
   obtain ⟨b,k1,k2⟩:=k
   exact ⟨b,by rw [hb _ (nble_yes h)]; exact k1,k2⟩
 | s q off n c sz =>
   obtain ⟨b,c',a,k1,k2⟩:=k
   exact ⟨b,c',a,by rw [hb _ (nble_yes h)]; exact k1,k2⟩
 | e0=>exact k
 | fn f ks =>
   obtain ⟨us,k1,k2⟩:=k
   exact ⟨us,lowP_rel hb h k1,k2⟩
omit hb in
theorem lowLs_flat:∀ {l:List LF},lowLs n l=true->∀ x ∈ flats l,lowL n x=true
 | [],_,x,hx=>by simp [flats_nil] at hx
 | y :: l,h,x,hx=>by
   obtain ⟨h1,h2⟩:=rec_and h
   simp only [flats_cons,List.mem_append] at hx
   rcases hx with hx | hx
   ·cases y <;> simp only [LF.flat,List.mem_cons,List.not_mem_nil,or_false] at hx
    case I=>rcases hx with rfl | rfl <;> rfl
    all_goals (subst hx; exact h1)
   ·exact lowLs_flat h2 x hx
theorem lowLs_rel:∀ {l:List LF} {us:List Value},(∀ x ∈ l,lowL n x=true)->relL bm w l us->relL bm' w l us
 | [],[],_,_=>trivial
 | x :: _,_ :: _,h,k=>⟨low1_rel hb (h x (List.mem_cons_self ..)) k.1,lowLs_rel (fun y hy=>h y (List.mem_cons_of_mem _ hy)) k.2⟩
 | [],_ :: _,_,k=>k.elim
 | _ :: _,[],_,k=>k.elim
theorem lowK_rel:∀ {x:KK} {u:Value},lowK n x=true->relK bm w x u->relK bm' w x u
 | .c _,_,h,k=>low1_rel hb h k
 | .g _,_,h,⟨us,e,k⟩=>⟨us,e,lowLs_rel hb (lowLs_flat h) k⟩
theorem lowKs_rel:∀ {x:List KK} {us:List Value},lowKs n x=true->relKs bm w x us->relKs bm' w x us
 | [],[],_,_=>trivial
 | _ :: _,_ :: _,h,k=>by
   obtain ⟨h1,h2⟩:=rec_and h
   exact ⟨lowK_rel hb h1 k.1,lowKs_rel h2 k.2⟩
 | [],_ :: _,_,k=>k.elim
 | _ :: _,[],_,k=>k.elim
theorem lowV_rel:∀ {x:KV} {u:Value},lowV n x=true->relV bm w x u->relV bm' w x u
 | .u,_,_,_=>trivial
 | .k _,_,h,k=>lowK_rel hb h k
 | .t _,_,h,⟨us,e,k⟩=>⟨us,e,lowKs_rel hb h k⟩
end
def noBox:Hp Bx:=Hp.mk0
theorem CallOK.pure {f n:Nat} {xs:List KK} {H:Hp Bx} {q:Res} (h:CallOK P 0 f xs noBox 0 q) (hx:lowKs 0 xs=true) (hr:lowV 0 q.r=true):CallOK P m f xs H n ⟨q.r,H,n⟩:=by
 obtain ⟨he,h⟩:=h
 refine ⟨he,fun _ hl=>⟨Stat.refl hl,fun bm w vs ok _ hrel=>?_⟩⟩
 obtain ⟨_,hrun⟩:=h (Nat.le_refl _) (fun k _=>Hp.mk_none k)
 have hb:∀ (b1 b2:BM) (k:Nat),k < 0->b1 k=b2 k:=fun _ _ k hk=>absurd hk (Nat.not_lt_zero k)
 have ok0:Ok noBox (fun _=>none) w:=⟨fun k b x h1=>(by cases h1),fun k b h1=>(by cases h1),fun k j b x y h1=>(by cases h1)⟩
 refine (hrun (fun _=>none) w vs ok0 (fun _ _ _=>rfl) (lowKs_rel (hb _ _) hx hrel)).mono ?_
 rintro e w' ⟨v,rfl,bm1,_,f,_,hv⟩
 have f':∀ m,Frame m n bm w w':=fun m=>⟨f.le,fun b hb _=>f.same b hb (fun k _ hk=>absurd hk (Nat.not_lt_zero k)),f.sz,f.soft,f.env⟩
 exact ⟨v,rfl,bm,Grow.refl ..,f' m,ok.frame (n:=n) (f' n),lowV_rel (hb _ _) hr hv⟩
end
end Zc
end Go.Proofs.YtkdjilgddbjcaaaGreat
namespace Go.Proofs.YtkdjilgddbjcaaaGreat
open Go.RowKit
namespace Zc
section
variable {β:Type}
noncomputable def natF (a:Nat) (K:Nat->β):β:=Nat.rec (K 0) (fun p _=>K (Nat.succ p)) a
theorem natF_eq (a:Nat) (K:Nat->β):natF a K=K a:=by cases a <;> rfl
noncomputable def intF (z:Int) (K:Int->β):β:=Int.rec (fun a=>natF a fun a=>K (.ofNat a)) (fun a=>natF a fun a=>K (.negSucc a)) z
theorem intF_eq (z:Int) (K:Int->β):intF z K=K z:=by
 cases z with
 | ofNat a=>exact natF_eq a (fun a=>K (.ofNat a))
 | negSucc a=>exact natF_eq a (fun a=>K (.negSucc a))
noncomputable def boolF (b:Bool) (K:Bool->β):β:=Bool.rec (K false) (K true) b
theorem boolF_eq (b:Bool) (K:Bool->β):boolF b K=K b:=by cases b <;> rfl
noncomputable def valF (v:Value) (K:Value->β):β :=
 match v with
 | .int k n=>intF n fun n=>K (.int k n)
 | .bool b=>boolF b fun b=>K (.bool b)
 | v=>K v
theorem valF_eq (v:Value) (K:Value->β):valF v K=K v:=by
 unfold valF
 split
 ·rename_i k n
  exact intF_eq n (fun n=>K (.int k n))
 ·rename_i b
  exact boolF_eq b (fun b=>K (.bool b))
 ·rfl
noncomputable def lfF (x:LF) (K:LF->β):β :=
 LF.rec (fun v=>valF v fun v=>K (.v v)) (fun l=>K (.sl l)) (fun z=>intF z fun z=>K (.I z)) (fun k off=>K (.p k off)) (fun k off n c sz=>K (.s k off n c sz)) (K .e0) (fun f ks=>K (.fn f ks)) x
theorem lfF_eq (x:LF) (K:LF->β):lfF x K=K x:=by
 cases x with
 | v v=>exact valF_eq v (fun v=>K (.v v))
 | I z=>exact intF_eq z (fun z=>K (.I z))
 | _=>rfl
noncomputable def lfsF (l:List LF):(List LF->β)->β:=List.rec (fun K=>K []) (fun x _ ih K=>lfF x fun x=>ih fun l=>K (x :: l)) l
theorem lfsF_eq:∀ (l:List LF) (K:List LF->β),lfsF l K=K l
 | [],_=>rfl
 | x :: l,K=>by
   show (lfF x fun x=>lfsF l fun l=>K (x :: l))=_
   rw [lfF_eq,lfsF_eq l]
noncomputable def kkF (x:KK) (K:KK->β):β:=KK.rec (fun x=>lfF x fun x=>K (.c x)) (fun l=>lfsF l fun l=>K (.g l)) x
theorem kkF_eq (x:KK) (K:KK->β):kkF x K=K x:=by
 cases x with
 | c x=>exact lfF_eq x (fun x=>K (.c x))
 | g l=>exact lfsF_eq l (fun l=>K (.g l))
noncomputable def kksF (l:List KK):(List KK->β)->β:=List.rec (fun K=>K []) (fun x _ ih K=>kkF x fun x=>ih fun l=>K (x :: l)) l
theorem kksF_eq:∀ (l:List KK) (K:List KK->β),kksF l K=K l
 | [],_=>rfl
 | x :: l,K=>by
   show (kkF x fun x=>kksF l fun l=>K (x :: l))=_
   rw [kkF_eq,kksF_eq l]
end
end Zc
end Go.Proofs.YtkdjilgddbjcaaaGreat
