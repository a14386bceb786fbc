import Derived.Test.YtkdjilgddbjcaaaGreatR24
import Derived.Test.YtkdjilgddbjcaaaGreatR13
import Derived.LoopN
namespace Go.Proofs.YtkdjilgddbjcaaaGreat
open Go.RowKit
namespace Zc
open Vc (entersB resOne results_eq rangeAt_of_heap)
section
variable {α:Type} {P:Program} {L:Tr ZL} {W:Nat->Bool} {m N:Nat}
abbrev Kc (α:Type):=Exit->Fr KV->Hp Bx->Nat->Ans α
noncomputable def zcode (C:Ct α) (L:Tr ZL) (W:Nat->Bool) (N m fuel:Nat) (c:Code):Fr KV->Hp Bx->Nat->Kc α->Ans α :=
 Code.rec (motive:=fun _=>Fr KV->Hp Bx->Nat->Kc α->Ans α)
  (fun tm H n K=>K .normal tm H n)
  (fun _ ops draw tm H n K=>zregion C L W N m ops.toList draw tm H n K)
  (fun _ _ ia ib tm H n K=>ia tm H n fun e tm H n=>match e with | .normal=>ib tm H n K | e=>K e tm H n)
  (fun c _ _ ia ib tm H n K=>match evO tm c with | .k (.c (.v (.bool b)))=>bif b then ia tm H n K else ib tm H n K | _=>.bad 11 (.ready 0))
  (fun id _ ia tm H n K=>ia tm H n fun e tm H n=>match e with | .exit j=>bif Nat.beq j id then K .normal tm H n else K (.exit j) tm H n | e=>K e tm H n)
  (fun _ ia tm H n K=>Nat.rec (fun _ _ _=>.bad 12 (.ready 0)) (fun _ ih tm H n=>ia tm H n fun e tm H n=>match e with | .normal=>ih tm H n | e=>K e tm H n) fuel tm H n)
  (fun _ _ _ _ _ _ _ _ _ _=>.bad 13 (.ready 0))
  (fun id tm H n K=>K (.exit id) tm H n)
  (fun _ _ _ _ _ _=>.bad 14 (.ready 0))
  (fun _ _ _ _ _=>.bad 15 (.ready 0))
  (fun _ _ _ _ _=>.bad 16 (.ready 0))
  (fun tm H n K=>K .ret tm H n)
  (fun _ _ _ _ _=>.bad 17 (.ready 0)) c
noncomputable def zloop (C:Ct α) (L:Tr ZL) (W:Nat->Bool) (N m fuel:Nat) (c:Code) (K:Kc α) (f:Nat):Fr KV->Hp Bx->Nat->Ans α :=
 Nat.rec (fun _ _ _=>.bad 12 (.ready 0)) (fun _ ih tm H n=>zcode C L W N m fuel c tm H n fun e tm H n=>match e with | .normal=>ih tm H n | e=>K e tm H n) f
def LoopOK (P:Program) (N m f:Nat) (c:Code) (tm:Fr KV) (H:Hp Bx) (n:Nat) (e:Exit) (tm':Fr KV) (H':Hp Bx) (n':Nat):Prop :=
 m <= n->Low H n->Stat m H n H' n'/\∀ (bm:BM) (a:Act) (w:World) (Q:Exit->Act->World->Prop),Rz N tm H bm a w->Room bm n n' ->
   (∀ bm' a' w',Rz N tm' H' bm' a' w'->Grow m n n' w bm bm'->Frame m n bm w w'->Q e a' w')->Code.rounds P c Q f a w
theorem zcode_ok (hm:P.follows .mixedOrders=true) (hL:TyOK P L) {C:Ct α} (hC:CSound P C) {fuel:Nat}:∀ (c:Code) {tm:Fr KV} {H:Hp Bx} {n:Nat} {K:Kc α} {y:α},zcode C L W N m fuel c tm H n K=.ok y ->
    ∃ e tm' H' n',K e tm' H' n'=.ok y/\CodeOK P N m c tm H n e tm' H' n'
 | .skip,tm,H,n,K,y,h=>⟨.normal,tm,H,n,h,fun _ hl=>⟨Stat.refl hl,fun bm a w Q hR _ hQ=>wp_skip (hQ bm a w hR (Grow.refl ..) (Frame.refl ..))⟩⟩
 | .region id ops draw,tm,H,n,K,y,h=>zregion_ok hm hL hC h
 | .seq a b,tm,H,n,K,y,h=>by
   have h':zcode C L W N m fuel a tm H n (fun e tm H n=>match e with | .normal=>zcode C L W N m fuel b tm H n K | e=>K e tm H n)=.ok y:=h
   obtain ⟨e,tm1,H1,n1,k1,c1⟩:=zcode_ok hm hL hC a h'
   cases e with
   | normal =>
     obtain ⟨e,tm2,H2,n2,k2,c2⟩:=zcode_ok hm hL hC b k1
     refine ⟨e,tm2,H2,n2,k2,fun hmn hl=>?_⟩
     obtain ⟨s1,r1⟩:=c1 hmn hl
     obtain ⟨s2,r2⟩:=c2 (Nat.le_trans hmn s1.le) s1.low
     refine ⟨s1.trans s2,fun bm a w Q hR hroom hQ=>wp_seq (r1 bm a w _ hR (hroom.left s2.le) fun bm1 a1 w1 hR1 g1 f1=>?_)⟩
     exact r2 bm1 a1 w1 Q hR1 (hroom.right s1.le g1) fun bm' a' w' hR' g' f'=>hQ bm' a' w' hR' (g1.trans f1.le g') (Frame.trans g1 f1 f')
   | _ =>
     refine ⟨_,tm1,H1,n1,k1,fun hmn hl=>?_⟩
     obtain ⟨s1,r1⟩:=c1 hmn hl
     exact ⟨s1,fun bm a w Q hR hroom hQ=>wp_seq (r1 bm a w _ hR hroom fun bm1 a1 w1 hR1 g1 f1=>hQ bm1 a1 w1 hR1 g1 f1)⟩
 | .cond c a b,tm,H,n,K,y,h=>by
   have h':(match evO tm c with | .k (.c (.v (.bool b')))=>bif b' then zcode C L W N m fuel a tm H n K else zcode C L W N m fuel b tm H n K | _=>.bad 11 (.ready 0))=.ok y:=h
   split at h' <;> try (cases h'; done)
   rename_i t ht
   cases t with
   | true =>
     obtain ⟨e,tm1,H1,n1,k1,c1⟩:=zcode_ok hm hL hC a h'
     refine ⟨e,tm1,H1,n1,k1,fun hmn hl=>?_⟩
     obtain ⟨s1,r1⟩:=c1 hmn hl
     refine ⟨s1,fun bm a w Q hR hroom hQ=>?_⟩
     have hv:=hR.ev c
     rw [ht] at hv
     exact wp_cond (t:=true) hv.1 (r1 bm a w Q hR hroom hQ)
   | false =>
     obtain ⟨e,tm1,H1,n1,k1,c1⟩:=zcode_ok hm hL hC b h'
     refine ⟨e,tm1,H1,n1,k1,fun hmn hl=>?_⟩
     obtain ⟨s1,r1⟩:=c1 hmn hl
     refine ⟨s1,fun bm a w Q hR hroom hQ=>?_⟩
     have hv:=hR.ev c
     rw [ht] at hv
     exact wp_cond (t:=false) hv.1 (r1 bm a w Q hR hroom hQ)
 | .block id c,tm,H,n,K,y,h=>by
   have h':zcode C L W N m fuel c tm H n (fun e tm H n=>match e with | .exit j=>bif Nat.beq j id then K .normal tm H n else K (.exit j) tm H n | e=>K e tm H n)=.ok y:=h
   obtain ⟨e,tm1,H1,n1,k1,c1⟩:=zcode_ok hm hL hC c h'
   cases e with
   | exit j =>
     simp only at k1
     cases hj:Nat.beq j id with
     | true =>
       rw [hj] at k1
       refine ⟨_,tm1,H1,n1,k1,fun hmn hl=>?_⟩
       obtain ⟨s1,r1⟩:=c1 hmn hl
       refine ⟨s1,fun bm a w Q hR hroom hQ=>wp_block (r1 bm a w _ hR hroom fun bm1 a1 w1 hR1 g1 f1=>?_)⟩
       simp only [Exit.inBlock,nbeq_yes hj,if_true]
       exact hQ bm1 a1 w1 hR1 g1 f1
     | false =>
       rw [hj] at k1
       refine ⟨_,tm1,H1,n1,k1,fun hmn hl=>?_⟩
       obtain ⟨s1,r1⟩:=c1 hmn hl
       refine ⟨s1,fun bm a w Q hR hroom hQ=>wp_block (r1 bm a w _ hR hroom fun bm1 a1 w1 hR1 g1 f1=>?_)⟩
       simp only [Exit.inBlock,nbeq_no hj,if_false]
       exact hQ bm1 a1 w1 hR1 g1 f1
   | _ =>
     refine ⟨_,tm1,H1,n1,k1,fun hmn hl=>?_⟩
     obtain ⟨s1,r1⟩:=c1 hmn hl
     exact ⟨s1,fun bm a w Q hR hroom hQ=>wp_block (r1 bm a w _ hR hroom fun bm1 a1 w1 hR1 g1 f1=>hQ bm1 a1 w1 hR1 g1 f1)⟩
 | .loop c,tm,H,n,K,y,h=>by
   have key:∀ (f:Nat) (tm:Fr KV) (H:Hp Bx) (n:Nat),zloop C L W N m fuel c K f tm H n=.ok y->∃ e tm' H' n',K e tm' H' n'=.ok y/\LoopOK P N m f c tm H n e tm' H' n':=by
    intro f
    induction f with
    | zero=>intro tm H n h; cases h
    | succ f ih =>
      intro tm H n h
      have h':zcode C L W N m fuel c tm H n (fun e tm H n=>match e with | .normal=>zloop C L W N m fuel c K f tm H n | e=>K e tm H n)=.ok y:=h
      obtain ⟨e,tm1,H1,n1,k1,c1⟩:=zcode_ok hm hL hC c h'
      cases e with
      | normal =>
        obtain ⟨e,tm2,H2,n2,k2,c2⟩:=ih _ _ _ k1
        refine ⟨e,tm2,H2,n2,k2,fun hmn hl=>?_⟩
        obtain ⟨s1,r1⟩:=c1 hmn hl
        obtain ⟨s2,r2⟩:=c2 (Nat.le_trans hmn s1.le) s1.low
        refine ⟨s1.trans s2,fun bm a w Q hR hroom hQ=>r1 bm a w _ hR (hroom.left s2.le) fun bm1 a1 w1 hR1 g1 f1=>?_⟩
        exact r2 bm1 a1 w1 Q hR1 (hroom.right s1.le g1) fun bm' a' w' hR' g' f'=>hQ bm' a' w' hR' (g1.trans f1.le g') (Frame.trans g1 f1 f')
      | _ =>
        refine ⟨_,tm1,H1,n1,k1,fun hmn hl=>?_⟩
        obtain ⟨s1,r1⟩:=c1 hmn hl
        exact ⟨s1,fun bm a w Q hR hroom hQ=>r1 bm a w _ hR hroom fun bm1 a1 w1 hR1 g1 f1=>hQ bm1 a1 w1 hR1 g1 f1⟩
   obtain ⟨e,tm1,H1,n1,k1,c1⟩:=key fuel tm H n h
   refine ⟨e,tm1,H1,n1,k1,fun hmn hl=>?_⟩
   obtain ⟨s1,r1⟩:=c1 hmn hl
   exact ⟨s1,fun bm a w Q hR hroom hQ=>wp_loop_rounds fuel (r1 bm a w Q hR hroom hQ)⟩
 | .exit id,tm,H,n,K,y,h=>⟨.exit id,tm,H,n,h,fun _ hl=>⟨Stat.refl hl,fun bm a w Q hR _ hQ=>wp_exit (hQ bm a w hR (Grow.refl ..) (Frame.refl ..))⟩⟩
 | .ret,tm,H,n,K,y,h=>⟨.ret,tm,H,n,h,fun _ hl=>⟨Stat.refl hl,fun bm a w Q hR _ hQ=>wp_ret (hQ bm a w hR (Grow.refl ..) (Frame.refl ..))⟩⟩
 | .rangeFunc _ _ _ _,_,_,_,_,_,h=>by cases h
 | .scope _,_,_,_,_,_,h=>by cases h
 | .label _,_,_,_,_,_,h=>by cases h
 | .goto _,_,_,_,_,_,h=>by cases h
 | .refuse _,_,_,_,_,_,h=>by cases h
noncomputable def zres1 (L:Tr ZL) (tm:Fr KV) (H:Hp Bx) (r:ResultVar):Option KK :=
 match r with
 | .tmp t =>
   match tm.get t with
   | some (.k x)=>some x
   | _=>none
 | .cell t T =>
   match tm.get t with
   | some x =>
     match zload L H T x with
     | some (.k x)=>some x
     | _=>none
   | none=>none
noncomputable def zresL (L:Tr ZL) (tm:Fr KV) (H:Hp Bx) (l:List ResultVar):Option (List KK) :=
 List.rec (some []) (fun r _ ih=>match zres1 L tm H r with | some x=>Option.rec none (fun l=>some (x :: l)) ih | none=>none) l
noncomputable def zres (L:Tr ZL) (tm:Fr KV) (H:Hp Bx) (l:List ResultVar):Option KV :=
 match zresL L tm H l with
 | some [x]=>some (.k x)
 | some xs=>some (.t xs)
 | none=>none
theorem zres1_run (hL:TyOK P L) {tm:Fr KV} {H:Hp Bx} {bm:BM} {a:Act} {w:World} (hR:Rz N tm H bm a w) {r:ResultVar} {x:KK} (h:zres1 L tm H r=some x):∃ v,(resOne a.tmps r).run P w=.ok v w/\relK bm w x v:=by
 cases r with
 | tmp t =>
   simp only [zres1] at h
   split at h <;> try (cases h; done)
   rename_i x' ht
   simp only [Option.some.injEq] at h
   subst h
   exact ⟨_,rfl,hR.tmp t _ ht⟩
 | cell t T =>
   simp only [zres1] at h
   split at h <;> try (cases h; done)
   rename_i z hz
   split at h <;> try (cases h; done)
   rename_i x' hx
   simp only [Option.some.injEq] at h
   subst h
   have hv:=hR.tmp t _ hz
   unfold zload at hx
   split at hx <;> try (cases hx; done)
   rename_i k off
   split at hx <;> try (cases hx; done)
   rename_i l hl
   split at hx <;> try (cases hx; done)
   rename_i b hb
   split at hx <;> try (cases hx; done)
   rename_i cs hc
   obtain ⟨g,hg,hv⟩:=hv
   obtain ⟨vs,rs,h1,h2,_⟩:=hR.ok.box k g b hg hb
   obtain ⟨e1,e2,e3⟩:=cutW_spec hc
   have hvl:=h2.len
   have hrel:relL bm w (flats cs) ((vs.drop off).take l.size):=by rw [e1]; exact (h2.drop off).take _
   have hrange:w.rangeAt g off ((vs.drop off).take l.size):=by
    have:=rangeAt_of_heap (w:=w) (b:=g) (vs:=vs ++ rs) (T:=b.T) (fz:=(0,0)) h1 off l.size
    rw [List.drop_append_of_le_length (by omega),List.take_append_of_le_length (by rw [List.length_drop]; omega)] at this
    exact this
   refine ⟨_,?_,mkK_rel hx hrel⟩
   have:=zrun_load (P:=P) (hL T l hl) g off w _ (by rw [<- hrel.len,e3]) hrange
   simp only [Instr.loadAt,Instr.sureAddr,Sem.run_bind,Sem.run_pure,Result.andThen_ok] at this
   simp only [resOne,hv,asAddr,Sem.run_bind,Sem.run_pure,Result.andThen_ok]
   exact this
theorem zresL_run (hL:TyOK P L) {tm:Fr KV} {H:Hp Bx} {bm:BM} {a:Act} {w:World} (hR:Rz N tm H bm a w):∀ {l:List ResultVar} {xs:List KK},zresL L tm H l=some xs->∃ vs:List Value,(l.mapM (resOne a.tmps)).run P w=.ok vs w/\relKs bm w xs vs
 | [],xs,h=>by
   have e:[]=xs:=by simpa [zresL] using h
   subst e
   exact ⟨[],by simp,trivial⟩
 | r :: l,xs,h=>by
   have h':(match zres1 L tm H r with | some x=>Option.rec none (fun l=>some (x :: l)) (zresL L tm H l) | none=>none)=some xs:=h
   split at h' <;> try (cases h'; done)
   rename_i x hx
   cases hl:zresL L tm H l with
   | none=>rw [hl] at h'; cases h'
   | some ys =>
     rw [hl] at h'
     have e:x :: ys=xs:=by simpa using h'
     subst e
     obtain ⟨v,h1,h2⟩:=zres1_run hL hR hx
     obtain ⟨vs,h3,h4⟩:=zresL_run hL hR hl
     exact ⟨v :: vs,by simp [List.mapM_cons,h1,h3],h2,h4⟩
theorem zres_run (hL:TyOK P L) {tm:Fr KV} {H:Hp Bx} {bm:BM} {a:Act} {w:World} (hR:Rz N tm H bm a w) {fn:Func} {x:KV} (h:zres L tm H fn.results.toList=some x):∃ v,(results fn a.tmps).run P w=.ok v w/\relV bm w x v:=by
 unfold zres at h
 have key:∀ xs,zresL L tm H fn.results.toList=some xs->∃ vs:List Value,(fn.results.mapM (resOne a.tmps)).run P w=.ok vs.toArray w/\relKs bm w xs vs:=fun xs hx=>by
  obtain ⟨vs,h1,h2⟩:=zresL_run hL hR hx
  refine ⟨vs,?_,h2⟩
  rw [Array.mapM_eq_mapM_toList]
  simp [h1]
 rw [results_eq]
 split at h
 ·rename_i y hy
  simp only [Option.some.injEq] at h
  subst h
  obtain ⟨vs,h1,h2⟩:=key _ hy
  match vs,h2 with
  | [v],h2=>exact ⟨v,by simp [h1],h2.1⟩
 ·rename_i xs hne hy
  simp only [Option.some.injEq] at h
  subst h
  obtain ⟨vs,h1,h2⟩:=key _ hy
  refine ⟨.tuple vs.toArray,?_,vs,rfl,h2⟩
  have hl:=h2.len
  have:¬ vs.length=1:=by
   intro e
   rw [e] at hl
   match xs,hl with
   | [y],_=>exact hne y rfl
  simp [h1,this]
 ·cases h
structure ZF where
 body:Code
 N:Nat
 res:List ResultVar
structure FunOK (P:Program) (F:Nat->Option ZF):Prop where
 ok:∀ f z,F f=some z->∃ fn,P.funcs[f]?=some fn/\fn.body=some z.body/\fn.ntmps=z.N/\fn.results.toList=z.res/\entersB P f=true
noncomputable def zf (fn:Func):ZF:=⟨fn.body.getD .skip,fn.ntmps,fn.results.toList⟩
noncomputable def zfuns (P:Program) (f:Nat):Option ZF:=bif entersB P f then Option.rec none (fun fn=>some (zf fn)) P.funcs[f]? else none
theorem zfuns_ok (P:Program):FunOK P (zfuns P):=⟨fun f z h=>by
 unfold zfuns at h
 cases he:entersB P f with
 | false=>rw [he] at h; cases h
 | true =>
   rw [he] at h
   simp only [cond_true] at h
   cases hf:P.funcs[f]? with
   | none=>rw [hf] at h; cases h
   | some fn =>
     rw [hf] at h
     have e:zf fn=z:=by simpa using h
     subst e
     refine ⟨fn,rfl,?_,rfl,rfl,rfl⟩
     unfold entersB at he
     rw [hf] at he
     simp only [Bool.and_eq_true,Bool.not_eq_true'] at he
     cases hb:fn.body with
     | none=>rw [hb] at he; simp at he
     | some c=>simp [zf,hb]⟩
abbrev Leaf:=List KK->Option KV
def LeafOK (P:Program) (D:Tr Leaf):Prop:=∀ f g xs r,D.get f=some g->g xs=some r->entersB P f=true/\∀ (bm:BM) (w:World) (vs:List Value),relKs bm w xs vs->Calls P f vs.toArray w fun e w'=>∃ v,e=.returned v/\Frame 0 0 (fun _=>none) w w'/\relV bm w' r v
noncomputable def zargs (xs:List KK):Nat->Fr KV->Fr KV:=List.rec (fun _ tm=>tm) (fun x _ ih i tm=>ih (Nat.succ i) (tm.put i (some (.k x)))) xs
theorem zargs_get:∀ (xs:List KK) (i:Nat) (tm:Fr KV) (t:Nat) (x:KV),(zargs xs i tm).get t=some x->tm.get t=some x \/ ∃ y,i <= t/\xs[t - i]?=some y/\x=.k y
 | [],i,tm,t,x,h=>.inl h
 | z :: xs,i,tm,t,x,h=>by
   rcases zargs_get xs (i+1) (tm.put i (some (.k z))) t x h with h | ⟨y,h1,h2,h3⟩
   ·by_cases hti:t=i
    ·subst hti
     have:=Fr.put_eq _ _ _ _ h
     exact .inr ⟨z,Nat.le_refl _,by simp,by simpa using this.symm⟩
    ·rw [Fr.put_ne _ _ _ _ hti] at h
     exact .inl h
   ·refine .inr ⟨y,by omega,?_,h3⟩
    have e:t - i=(t - (i+1))+1:=by omega
    rw [e]
    simpa using h2
noncomputable def zbody (C:Ct α) (L:Tr ZL) (W:Nat->Bool) (m fuel f:Nat) (z:ZF) (xs:List KK) (H:Hp Bx) (n:Nat) (K:Kt α):Ans α :=
 zcode C L W z.N m fuel z.body (zargs xs 0 Fr.mk0) H n fun e tm H n =>
  match e with
  | .normal=>Option.rec (.bad 22 (.ready f)) (fun r=>K r H n) (zres L tm H z.res)
  | .ret=>Option.rec (.bad 22 (.ready f)) (fun r=>K r H n) (zres L tm H z.res)
  | _=>.bad 23 (.ready f)
noncomputable def zC (L:Tr ZL) (W U:Nat->Bool) (F:Nat->Option ZF) (D:Tr Leaf) (fuel d:Nat):Ct α :=
 Nat.rec (fun _ f _ _ _ _=>.bad 20 (.ready f)) (fun _ C m f xs H n K =>
  match D.get f with
  | some g=>kksF xs fun xs=>Option.rec (.bad 21 (.ready f)) (fun r=>K r H n) (g xs)
  | none =>
    match F f with
    | some z=>bif Nat.ble (len xs) z.N then
        (bif U f then (bif lowKs 0 xs then zbody C L W 0 fuel f z xs noBox 0 (fun r _ _=>bif lowV 0 r then K r H n else .bad 26 (.ready f)) else .bad 27 (.ready f)) else zbody C L W m fuel f z xs H n K)
      else .bad 24 (.ready f)
    | none=>.bad 25 (.ready f)) d
theorem zbody_ok (hm:P.follows .mixedOrders=true) (hL:TyOK P L) {C:Ct α} (hC:CSound P C) {F:Nat->Option ZF} (hF:FunOK P F) {fuel f:Nat} {z:ZF} (hz:F f=some z) {xs:List KK} (hle:xs.length <= z.N) {H:Hp Bx} {n:Nat} {K:Kt α} {y:α} (h:zbody C L W m fuel f z xs H n K=.ok y):∃ q:Res,K q.r q.H q.n=.ok y/\CallOK P m f xs H n q:=by
 obtain ⟨fn,hf1,hf2,hf3,hf4,hf5⟩:=hF.ok f z hz
 unfold zbody at h
 obtain ⟨e,tm',H',n',k1,c1⟩:=zcode_ok (N:=z.N) (m:=m) hm hL hC z.body h
 have fin:∀ (r:KV),zres L tm' H' z.res=some r->K r H' n'=.ok y->(e=.normal \/ e=.ret)->∃ q:Res,K q.r q.H q.n=.ok y/\CallOK P m f xs H n q:=fun r hr hk he=>by
  refine ⟨⟨r,H',n'⟩,hk,hf5,fun hmn hl=>?_⟩
  obtain ⟨s1,r1⟩:=c1 hmn hl
  refine ⟨s1,fun bm w vs ok hroom hx=>calls_of_wp hf1 hf2 ?_⟩
  have hxl:=hx.len
  have hR:Rz z.N (zargs xs 0 Fr.mk0) H bm { tmps:=vs.toArray ++ Array.replicate (fn.ntmps - vs.toArray.size) undef,defers:=[] } w:=by
   refine ⟨ok,fun t x ht=>?_,by simp [hf3]; omega,rfl⟩
   rcases zargs_get xs 0 _ t x ht with h | ⟨y',_,h2,rfl⟩
   ·rw [Fr.mk_none] at h; cases h
   ·rw [Nat.sub_zero] at h2
    obtain ⟨u,u1,u2⟩:=hx.get h2
    have hlt':t < vs.length:=(List.getElem?_eq_some_iff.1 u1).1
    have e:(vs.toArray ++ Array.replicate (fn.ntmps - vs.toArray.size) undef).getD t undef=u:=by
     have hu:vs[t]=u:=by simpa [hlt'] using u1
     simp [Array.getD_eq_getD_getElem?,Array.getElem?_append,hlt',hu]
    show relV bm w (.k y') ((vs.toArray ++ Array.replicate (fn.ntmps - vs.toArray.size) undef).getD t undef)
    rw [e]
    exact u2
  refine r1 bm _ w _ hR hroom fun bm' a' w' hR' g' f'=>?_
  rw [<- hf4] at hr
  obtain ⟨v,v1,v2⟩:=zres_run hL hR' hr
  rcases he with rfl | rfl
  ·exact ⟨hR'.dfr,v,v1,v,rfl,bm',g',f',hR'.ok,v2⟩
  ·exact ⟨hR'.dfr,v,v1,v,rfl,bm',g',f',hR'.ok,v2⟩
 cases e with
 | normal =>
   simp only at k1
   cases hr:zres L tm' H' z.res with
   | none=>rw [hr] at k1; cases k1
   | some r=>rw [hr] at k1; exact fin r hr k1 (.inl rfl)
 | ret =>
   simp only at k1
   cases hr:zres L tm' H' z.res with
   | none=>rw [hr] at k1; cases k1
   | some r=>rw [hr] at k1; exact fin r hr k1 (.inr rfl)
 | _=>cases k1
theorem zC_ok (hm:P.follows .mixedOrders=true) (hL:TyOK P L) {U:Nat->Bool} {F:Nat->Option ZF} (hF:FunOK P F) {D:Tr Leaf} (hD:LeafOK P D) {fuel:Nat}:∀ d,CSound (α:=α) P (zC L W U F D fuel d)
 | 0=>fun _ _ _ _ _ _ _ h=>by cases h
 | d+1=>fun m f xs H n K y h=>by
   have hC:=zC_ok hm hL hF hD (fuel:=fuel) (U:=U) d
   have h':((match D.get f with
    | some g=>kksF xs fun xs=>Option.rec (.bad 21 (.ready f)) (fun r=>K r H n) (g xs)
    | none =>
      match F f with
      | some z=>bif Nat.ble (len xs) z.N then
          (bif U f then (bif lowKs 0 xs then zbody (zC L W U F D fuel d) L W 0 fuel f z xs noBox 0 (fun r _ _=>bif lowV 0 r then K r H n else .bad 26 (.ready f)) else .bad 27 (.ready f)) else zbody (zC L W U F D fuel d) L W m fuel f z xs H n K)
        else .bad 24 (.ready f)
      | none=>.bad 25 (.ready f)):Ans α)=.ok y:=h
   split at h'
   ·rename_i g hg
    rw [kksF_eq] at h'
    cases hr:g xs with
    | none=>rw [hr] at h'; cases h'
    | some r =>
      rw [hr] at h'
      obtain ⟨he,hrun⟩:=hD f g xs r hg hr
      refine ⟨⟨r,H,n⟩,h',he,fun _ hl=>⟨Stat.refl hl,fun bm w vs ok _ hx=>(hrun bm w vs hx).mono ?_⟩⟩
      rintro e w' ⟨v,rfl,hex,hv⟩
      have hex':∀ m,Frame m n bm w w':=fun m=>⟨hex.le,fun b hb _=>hex.same b hb (fun k _ hk=>absurd hk (Nat.not_lt_zero k)),hex.sz,hex.soft,hex.env⟩
      exact ⟨v,rfl,bm,Grow.refl ..,hex' m,ok.frame (n:=n) (hex' n),hv⟩
   ·split at h' <;> try (cases h'; done)
    rename_i z hz
    cases hle:Nat.ble (len xs) z.N with
    | false=>rw [hle] at h'; cases h'
    | true =>
      rw [hle] at h'
      simp only [cond_true] at h'
      have hle':=nble_yes hle
      rw [len_eq] at hle'
      cases hU:U f with
      | false =>
        rw [hU] at h'
        exact zbody_ok hm hL hC hF hz hle' h'
      | true =>
        rw [hU] at h'
        simp only [cond_true] at h'
        cases hlx:lowKs 0 xs with
        | false=>rw [hlx] at h'; cases h'
        | true =>
          rw [hlx] at h'
          simp only [cond_true] at h'
          obtain ⟨q,hk,hc⟩:=zbody_ok hm hL hC hF hz hle' h'
          cases hlr:lowV 0 q.r with
          | false=>rw [hlr] at hk; cases hk
          | true =>
            rw [hlr] at hk
            exact ⟨⟨q.r,H,n⟩,hk,hc.pure hlx hlr⟩
end
end Zc
end Go.Proofs.YtkdjilgddbjcaaaGreat
namespace Go.Proofs.YtkdjilgddbjcaaaGreat
open Go.RowKit
namespace Zc
abbrev AN:=Ans KV
noncomputable def sel1 (d:D8) (t:N8 (Option KV)):Option KV:=D8.rec (motive:=fun _=>N8 (Option KV)->Option KV) (fun t=>t.a0) (fun t=>t.a1) (fun t=>t.a2) (fun t=>t.a3) (fun t=>t.a4) (fun t=>t.a5) (fun t=>t.a6) (fun t=>t.a7) d t
noncomputable def sel2 (d:D8) (t:N8 (N8 (Option KV))):N8 (Option KV):=D8.rec (motive:=fun _=>N8 (N8 (Option KV))->N8 (Option KV)) (fun t=>t.a0) (fun t=>t.a1) (fun t=>t.a2) (fun t=>t.a3) (fun t=>t.a4) (fun t=>t.a5) (fun t=>t.a6) (fun t=>t.a7) d t
noncomputable def sel3 (d:D8) (t:Fr KV):N8 (N8 (Option KV)):=D8.rec (motive:=fun _=>Fr KV->N8 (N8 (Option KV))) (fun t=>t.a0) (fun t=>t.a1) (fun t=>t.a2) (fun t=>t.a3) (fun t=>t.a4) (fun t=>t.a5) (fun t=>t.a6) (fun t=>t.a7) d t
noncomputable def seh1 (d:D8) (t:N8 (Option Bx)):Option Bx:=D8.rec (motive:=fun _=>N8 (Option Bx)->Option Bx) (fun t=>t.a0) (fun t=>t.a1) (fun t=>t.a2) (fun t=>t.a3) (fun t=>t.a4) (fun t=>t.a5) (fun t=>t.a6) (fun t=>t.a7) d t
noncomputable def seh2 (d:D8) (t:N8 (N8 (Option Bx))):N8 (Option Bx):=D8.rec (motive:=fun _=>N8 (N8 (Option Bx))->N8 (Option Bx)) (fun t=>t.a0) (fun t=>t.a1) (fun t=>t.a2) (fun t=>t.a3) (fun t=>t.a4) (fun t=>t.a5) (fun t=>t.a6) (fun t=>t.a7) d t
noncomputable def seh3 (d:D8) (t:Fr Bx):N8 (N8 (Option Bx)):=D8.rec (motive:=fun _=>Fr Bx->N8 (N8 (Option Bx))) (fun t=>t.a0) (fun t=>t.a1) (fun t=>t.a2) (fun t=>t.a3) (fun t=>t.a4) (fun t=>t.a5) (fun t=>t.a6) (fun t=>t.a7) d t
noncomputable def seh4 (d:D8) (t:N8 (Fr Bx)):Fr Bx:=D8.rec (motive:=fun _=>N8 (Fr Bx)->Fr Bx) (fun t=>t.a0) (fun t=>t.a1) (fun t=>t.a2) (fun t=>t.a3) (fun t=>t.a4) (fun t=>t.a5) (fun t=>t.a6) (fun t=>t.a7) d t
noncomputable def seh5 (d:D8) (t:Hp Bx):N8 (Fr Bx):=D8.rec (motive:=fun _=>Hp Bx->N8 (Fr Bx)) (fun t=>t.a0) (fun t=>t.a1) (fun t=>t.a2) (fun t=>t.a3) (fun t=>t.a4) (fun t=>t.a5) (fun t=>t.a6) (fun t=>t.a7) d t
noncomputable def getF (t:Fr KV) (i:Nat):Option KV:=P3.rec (motive:=fun _=>Fr KV->Option KV) (fun _=>none) (fun a b c t=>sel1 c (sel2 b (sel3 a t))) (pt3 i) t
noncomputable def getH3 (t:Fr Bx) (i:Nat):Option Bx:=P3.rec (motive:=fun _=>Fr Bx->Option Bx) (fun _=>none) (fun a b c t=>seh1 c (seh2 b (seh3 a t))) (pt3 i) t
noncomputable def getH (t:Hp Bx) (i:Nat):Option Bx:=P2.rec (motive:=fun _=>Nat->Hp Bx->Option Bx) (fun _ _=>none) (fun a b j t=>getH3 (seh4 b (seh5 a t)) j) (pt2 i) (Nat.mod i 512) t
theorem getH_eq (t:Hp Bx) (i:Nat):getH t i=Hp.get t i:=rfl
noncomputable def evF (x:Operand) (tm:Fr KV):KV:=Operand.rec (motive:=fun _=>Fr KV->KV) (fun t tm=>Option.rec (motive:=fun _=>KV) .u (fun x=>x) (getF tm t)) (fun v _=>evC v) (fun _ _=>.u) (fun f _=>.k (.c (.fn f []))) x tm
theorem evF_eq (x:Operand) (tm:Fr KV):evF x tm=evO tm x:=by cases x <;> rfl
noncomputable def up1 (c:D8) (t:N8 (Option KV)) (x:Option KV) (K:N8 (Option KV)->AN):AN:=D8.rec (motive:=fun _=>N8 (Option KV)->Option KV->(N8 (Option KV)->AN)->AN)
 (fun t x K=>N8.rec (motive:=fun _=>Option KV->(N8 (Option KV)->AN)->AN) (fun _ a1 a2 a3 a4 a5 a6 a7 x K=>K ⟨x,a1,a2,a3,a4,a5,a6,a7⟩) t x K)
 (fun t x K=>N8.rec (motive:=fun _=>Option KV->(N8 (Option KV)->AN)->AN) (fun a0 _ a2 a3 a4 a5 a6 a7 x K=>K ⟨a0,x,a2,a3,a4,a5,a6,a7⟩) t x K)
 (fun t x K=>N8.rec (motive:=fun _=>Option KV->(N8 (Option KV)->AN)->AN) (fun a0 a1 _ a3 a4 a5 a6 a7 x K=>K ⟨a0,a1,x,a3,a4,a5,a6,a7⟩) t x K)
 (fun t x K=>N8.rec (motive:=fun _=>Option KV->(N8 (Option KV)->AN)->AN) (fun a0 a1 a2 _ a4 a5 a6 a7 x K=>K ⟨a0,a1,a2,x,a4,a5,a6,a7⟩) t x K)
 (fun t x K=>N8.rec (motive:=fun _=>Option KV->(N8 (Option KV)->AN)->AN) (fun a0 a1 a2 a3 _ a5 a6 a7 x K=>K ⟨a0,a1,a2,a3,x,a5,a6,a7⟩) t x K)
 (fun t x K=>N8.rec (motive:=fun _=>Option KV->(N8 (Option KV)->AN)->AN) (fun a0 a1 a2 a3 a4 _ a6 a7 x K=>K ⟨a0,a1,a2,a3,a4,x,a6,a7⟩) t x K)
 (fun t x K=>N8.rec (motive:=fun _=>Option KV->(N8 (Option KV)->AN)->AN) (fun a0 a1 a2 a3 a4 a5 _ a7 x K=>K ⟨a0,a1,a2,a3,a4,a5,x,a7⟩) t x K)
 (fun t x K=>N8.rec (motive:=fun _=>Option KV->(N8 (Option KV)->AN)->AN) (fun a0 a1 a2 a3 a4 a5 a6 _ x K=>K ⟨a0,a1,a2,a3,a4,a5,a6,x⟩) t x K) c t x K
noncomputable def up2 (b:D8) (t:N8 (N8 (Option KV))) (c:D8) (x:Option KV) (K:N8 (N8 (Option KV))->AN):AN:=D8.rec (motive:=fun _=>N8 (N8 (Option KV))->D8->Option KV->(N8 (N8 (Option KV))->AN)->AN)
 (fun t c x K=>N8.rec (motive:=fun _=>D8->Option KV->(N8 (N8 (Option KV))->AN)->AN) (fun a0 a1 a2 a3 a4 a5 a6 a7 c x K=>up1 c a0 x (fun y=>K ⟨y,a1,a2,a3,a4,a5,a6,a7⟩)) t c x K)
 (fun t c x K=>N8.rec (motive:=fun _=>D8->Option KV->(N8 (N8 (Option KV))->AN)->AN) (fun a0 a1 a2 a3 a4 a5 a6 a7 c x K=>up1 c a1 x (fun y=>K ⟨a0,y,a2,a3,a4,a5,a6,a7⟩)) t c x K)
 (fun t c x K=>N8.rec (motive:=fun _=>D8->Option KV->(N8 (N8 (Option KV))->AN)->AN) (fun a0 a1 a2 a3 a4 a5 a6 a7 c x K=>up1 c a2 x (fun y=>K ⟨a0,a1,y,a3,a4,a5,a6,a7⟩)) t c x K)
 (fun t c x K=>N8.rec (motive:=fun _=>D8->Option KV->(N8 (N8 (Option KV))->AN)->AN) (fun a0 a1 a2 a3 a4 a5 a6 a7 c x K=>up1 c a3 x (fun y=>K ⟨a0,a1,a2,y,a4,a5,a6,a7⟩)) t c x K)
 (fun t c x K=>N8.rec (motive:=fun _=>D8->Option KV->(N8 (N8 (Option KV))->AN)->AN) (fun a0 a1 a2 a3 a4 a5 a6 a7 c x K=>up1 c a4 x (fun y=>K ⟨a0,a1,a2,a3,y,a5,a6,a7⟩)) t c x K)
 (fun t c x K=>N8.rec (motive:=fun _=>D8->Option KV->(N8 (N8 (Option KV))->AN)->AN) (fun a0 a1 a2 a3 a4 a5 a6 a7 c x K=>up1 c a5 x (fun y=>K ⟨a0,a1,a2,a3,a4,y,a6,a7⟩)) t c x K)
 (fun t c x K=>N8.rec (motive:=fun _=>D8->Option KV->(N8 (N8 (Option KV))->AN)->AN) (fun a0 a1 a2 a3 a4 a5 a6 a7 c x K=>up1 c a6 x (fun y=>K ⟨a0,a1,a2,a3,a4,a5,y,a7⟩)) t c x K)
 (fun t c x K=>N8.rec (motive:=fun _=>D8->Option KV->(N8 (N8 (Option KV))->AN)->AN) (fun a0 a1 a2 a3 a4 a5 a6 a7 c x K=>up1 c a7 x (fun y=>K ⟨a0,a1,a2,a3,a4,a5,a6,y⟩)) t c x K) b t c x K
noncomputable def up3 (a:D8) (t:Fr KV) (b c:D8) (x:Option KV) (K:Fr KV->AN):AN:=D8.rec (motive:=fun _=>Fr KV->D8->D8->Option KV->(Fr KV->AN)->AN)
 (fun t b c x K=>N8.rec (motive:=fun _=>D8->D8->Option KV->(Fr KV->AN)->AN) (fun a0 a1 a2 a3 a4 a5 a6 a7 b c x K=>up2 b a0 c x (fun y=>K ⟨y,a1,a2,a3,a4,a5,a6,a7⟩)) t b c x K)
 (fun t b c x K=>N8.rec (motive:=fun _=>D8->D8->Option KV->(Fr KV->AN)->AN) (fun a0 a1 a2 a3 a4 a5 a6 a7 b c x K=>up2 b a1 c x (fun y=>K ⟨a0,y,a2,a3,a4,a5,a6,a7⟩)) t b c x K)
 (fun t b c x K=>N8.rec (motive:=fun _=>D8->D8->Option KV->(Fr KV->AN)->AN) (fun a0 a1 a2 a3 a4 a5 a6 a7 b c x K=>up2 b a2 c x (fun y=>K ⟨a0,a1,y,a3,a4,a5,a6,a7⟩)) t b c x K)
 (fun t b c x K=>N8.rec (motive:=fun _=>D8->D8->Option KV->(Fr KV->AN)->AN) (fun a0 a1 a2 a3 a4 a5 a6 a7 b c x K=>up2 b a3 c x (fun y=>K ⟨a0,a1,a2,y,a4,a5,a6,a7⟩)) t b c x K)
 (fun t b c x K=>N8.rec (motive:=fun _=>D8->D8->Option KV->(Fr KV->AN)->AN) (fun a0 a1 a2 a3 a4 a5 a6 a7 b c x K=>up2 b a4 c x (fun y=>K ⟨a0,a1,a2,a3,y,a5,a6,a7⟩)) t b c x K)
 (fun t b c x K=>N8.rec (motive:=fun _=>D8->D8->Option KV->(Fr KV->AN)->AN) (fun a0 a1 a2 a3 a4 a5 a6 a7 b c x K=>up2 b a5 c x (fun y=>K ⟨a0,a1,a2,a3,a4,y,a6,a7⟩)) t b c x K)
 (fun t b c x K=>N8.rec (motive:=fun _=>D8->D8->Option KV->(Fr KV->AN)->AN) (fun a0 a1 a2 a3 a4 a5 a6 a7 b c x K=>up2 b a6 c x (fun y=>K ⟨a0,a1,a2,a3,a4,a5,y,a7⟩)) t b c x K)
 (fun t b c x K=>N8.rec (motive:=fun _=>D8->D8->Option KV->(Fr KV->AN)->AN) (fun a0 a1 a2 a3 a4 a5 a6 a7 b c x K=>up2 b a7 c x (fun y=>K ⟨a0,a1,a2,a3,a4,a5,a6,y⟩)) t b c x K) a t b c x K
theorem up1_eq (c:D8) (t:N8 (Option KV)) (x:Option KV) (K:N8 (Option KV)->AN):up1 c t x K=K (N8.upd c x t):=by cases t; cases c <;> rfl
theorem up2_eq (b:D8) (t:N8 (N8 (Option KV))) (c:D8) (x:Option KV) (K:N8 (N8 (Option KV))->AN):up2 b t c x K=K (N8.upd b (N8.upd c x (N8.sel b t)) t):=by
 obtain ⟨a0,a1,a2,a3,a4,a5,a6,a7⟩:=t
 cases b <;> exact up1_eq c _ x _
theorem up3_eq (a:D8) (t:Fr KV) (b c:D8) (x:Option KV) (K:Fr KV->AN):up3 a t b c x K=K (N8.upd a (N8.upd b (N8.upd c x (N8.sel b (N8.sel a t))) (N8.sel a t)) t):=by
 obtain ⟨a0,a1,a2,a3,a4,a5,a6,a7⟩:=t
 cases a <;> exact up2_eq b _ c x _
noncomputable def putF (t:Nat) (tm:Fr KV) (r:KV) (K:Fr KV->AN):AN :=
 P3.rec (motive:=fun _=>Nat->Fr KV->KV->(Fr KV->AN)->AN) (fun t _ _ _=>.bad 3 (.ready t)) (fun a b c _ tm r K=>up3 a tm b c (some r) K) (pt3 t) t tm r K
theorem putF_eq (t:Nat) (tm:Fr KV) (r:KV) (K:Fr KV->AN):putF t tm r K=putK tm (some t) r K:=by
 show _=Option.rec (motive:=fun _=>AN) (.bad 3 (.ready t)) (fun _=>K (Fr.put tm t (some r))) (Fr.get (Fr.put tm t (some r)) t)
 unfold putF Fr.get Fr.put
 cases h:pt3 t with
 | out=>rfl
 | go a b c =>
   show up3 a tm b c (some r) K=Option.rec (motive:=fun _=>AN) _ _ (N8.sel c (N8.sel b (N8.sel a (N8.upd a (N8.upd b (N8.upd c (some r) (N8.sel b (N8.sel a tm))) (N8.sel a tm)) tm))))
   rw [N8.sel_upd,N8.sel_upd,N8.sel_upd,up3_eq]
noncomputable def putD (d:Option Nat) (tm:Fr KV) (r:KV) (K:Fr KV->AN):AN:=Option.rec (motive:=fun _=>Fr KV->KV->(Fr KV->AN)->AN) (fun tm _ K=>K tm) (fun t tm r K=>putF t tm r K) d tm r K
theorem putD_eq (d:Option Nat) (tm:Fr KV) (r:KV) (K:Fr KV->AN):putD d tm r K=putK tm d r K:=by
 cases d with
 | none=>rfl
 | some t=>exact putF_eq t tm r K
inductive Vw
 | int (k:IntKind) (n:Int)
 | bool (b:Bool)
 | no
noncomputable def vwV (v:Value):Vw:=Value.rec (motive_1:=fun _=>Vw) (motive_2:=fun _=>Unit) (motive_3:=fun _=>Unit) (fun b=>.bool b) (fun k n=>.int k n) (fun _ _=>.no) (fun _ _ _=>.no) (fun _=>.no) (fun _=>.no) (fun _ _ _=>.no) (fun _=>.no) (fun _=>.no) (fun _ _ _ _ _=>.no) .no (fun _ _ _=>.no) .no (fun _ _=>.no) (fun _ _=>.no) (fun _ _=>()) () (fun _ _ _ _=>()) v
noncomputable def vw (x:KV):Vw:=KV.rec (motive:=fun _=>Vw) .no (fun y=>KK.rec (motive:=fun _=>Vw) (fun z=>LF.rec (motive:=fun _=>Vw) (fun v=>vwV v) (fun _=>.no) (fun _=>.no) (fun _ _=>.no) (fun _ _ _ _ _=>.no) .no (fun _ _=>.no) z) (fun _=>.no) y) (fun _=>.no) x
theorem vwV_int {v:Value} {k:IntKind} {n:Int} (h:vwV v=.int k n):v=.int k n:=by
 cases v <;> first | (cases h; done) | (cases h; rfl)
theorem vw_int {x:KV} {k:IntKind} {n:Int} (h:vw x=.int k n):x=.k (.c (.v (.int k n))):=by
 cases x with
 | u=>cases h
 | t xs=>cases h
 | k y =>
   cases y with
   | g xs=>cases h
   | c z =>
     cases z with
     | v v=>rw [vwV_int (v:=v) h]
     | _=>cases h
theorem vwV_bool {v:Value} {b:Bool} (h:vwV v=.bool b):v=.bool b:=by
 cases v <;> first | (cases h; done) | (cases h; rfl)
theorem vw_bool {x:KV} {b:Bool} (h:vw x=.bool b):x=.k (.c (.v (.bool b))):=by
 cases x with
 | u=>cases h
 | t xs=>cases h
 | k y =>
   cases y with
   | g xs=>cases h
   | c z =>
     cases z with
     | v v=>rw [vwV_bool (v:=v) h]
     | _=>cases h
noncomputable def kNo (k:IntKind):Nat:=IntKind.rec (motive:=fun _=>Nat) 0 1 2 3 4 5 6 7 k
theorem kNo_eq (a b:IntKind):Nat.beq (kNo a) (kNo b)=decide (a=b):=by cases a <;> cases b <;> rfl
noncomputable def ltI (a b:Int):Bool:=Int.rec (motive:=fun _=>Int->Bool) (fun m b=>Int.rec (motive:=fun _=>Nat->Bool) (fun n m=>Nat.ble (Nat.succ m) n) (fun _ _=>false) b m) (fun m b=>Int.rec (motive:=fun _=>Nat->Bool) (fun _ _=>true) (fun n m=>Nat.ble (Nat.succ n) m) b m) a b
noncomputable def eqI (a b:Int):Bool:=Int.rec (motive:=fun _=>Int->Bool) (fun m b=>Int.rec (motive:=fun _=>Nat->Bool) (fun n m=>Nat.beq m n) (fun _ _=>false) b m) (fun m b=>Int.rec (motive:=fun _=>Nat->Bool) (fun _ _=>false) (fun n m=>Nat.beq m n) b m) a b
theorem nble_dec (a b:Nat):Nat.ble a b=decide (a <= b):=by
 cases h:Nat.ble a b with
 | true=>exact (decide_eq_true (Nat.le_of_ble_eq_true h)).symm
 | false=>exact (decide_eq_false fun c=>by rw [Nat.ble_eq_true_of_le c] at h; cases h).symm
theorem nbeq_dec (a b:Nat):Nat.beq a b=decide (a=b):=by
 by_cases h:a=b
 ·subst h; rw [nbeq_t]; simp
 ·rw [nbeq_f h]; simp [h]
theorem ltI_eq (a b:Int):ltI a b=decide (a < b):=by
 cases a with
 | ofNat m =>
   cases b with
   | ofNat n =>
     show Nat.ble (Nat.succ m) n=decide ((m:Int) < (n:Int))
     rw [nble_dec,decide_eq_decide]
     omega
   | negSucc n=>exact (decide_eq_false (by show ¬ ((m:Int) < Int.negSucc n); omega)).symm
 | negSucc m =>
   cases b with
   | ofNat n=>exact (decide_eq_true (by show Int.negSucc m < (n:Int); omega)).symm
   | negSucc n =>
     show Nat.ble (Nat.succ n) m=_
     rw [nble_dec,decide_eq_decide]
     omega
theorem eqI_eq (a b:Int):eqI a b=decide (a=b):=by
 cases a with
 | ofNat m =>
   cases b with
   | ofNat n =>
     show Nat.beq m n=decide ((m:Int)=(n:Int))
     rw [nbeq_dec,decide_eq_decide]
     omega
   | negSucc n=>exact (decide_eq_false (by show ¬ ((m:Int)=Int.negSucc n); omega)).symm
 | negSucc m =>
   cases b with
   | ofNat n=>exact (decide_eq_false (by show ¬ (Int.negSucc m=(n:Int)); omega)).symm
   | negSucc n =>
     show Nat.beq m n=_
     rw [nbeq_dec,decide_eq_decide]
     omega
noncomputable def in64 (d:Int):Bool:=Int.rec (motive:=fun _=>Bool) (fun n=>Nat.ble n 9223372036854775807) (fun n=>Nat.ble n 9223372036854775807) d
theorem in64_spec {d:Int} (h:in64 d=true):-9223372036854775808 <= d/\d < 9223372036854775808:=by
 cases d with
 | ofNat n =>
   have:=Nat.le_of_ble_eq_true (show Nat.ble n 9223372036854775807=true from h)
   show -9223372036854775808 <= ((n:Nat):Int)/\((n:Nat):Int) < 9223372036854775808
   constructor <;> omega
 | negSucc n=>have:=Nat.le_of_ble_eq_true (show Nat.ble n 9223372036854775807=true from h); constructor <;> omega
noncomputable def wrF (k:IntKind) (z:Int):Int:=IntKind.rec (motive:=fun _=>Int->Int) (fun z=>IntKind.wrap .i8 z) (fun z=>IntKind.wrap .i16 z) (fun z=>IntKind.wrap .i32 z) (fun z=>Bool.rec (motive:=fun _=>Int) (IntKind.wrap .i64 z) z (in64 z)) (fun z=>IntKind.wrap .u8 z) (fun z=>IntKind.wrap .u16 z) (fun z=>IntKind.wrap .u32 z) (fun z=>IntKind.wrap .u64 z) k z
theorem wrF_eq (k:IntKind) (z:Int):wrF k z=k.wrap z:=by
 cases k <;> try rfl
 show Bool.rec (motive:=fun _=>Int) (IntKind.wrap .i64 z) z (in64 z)=_
 cases h:in64 z with
 | false=>rfl
 | true=>exact (Vc.inR_wrap (k:=.i64) (in64_spec h)).symm
noncomputable def bII (op:BinOp) (k:IntKind) (a:Int) (k2:IntKind) (b:Int) (L:Tr ZL) (T:Nat) (x y:KV):Option KV:=BinOp.rec (motive:=fun _=>IntKind->Int->IntKind->Int->Tr ZL->Nat->KV->KV->Option KV)
 (fun k a k2 b _ _ _ _=>Bool.rec (motive:=fun _=>Option KV) none (some (.k (.c (.v (.int k (wrF k (Int.add a b))))))) (Nat.beq (kNo k) (kNo k2)))
 (fun k a k2 b _ _ _ _=>Bool.rec (motive:=fun _=>Option KV) none (some (.k (.c (.v (.int k (wrF k (Int.sub a b))))))) (Nat.beq (kNo k) (kNo k2)))
 (fun k a k2 b _ _ _ _=>Bool.rec (motive:=fun _=>Option KV) none (some (.k (.c (.v (.int k (wrF k (Int.mul a b))))))) (Nat.beq (kNo k) (kNo k2)))
 (fun _ _ _ _ L T x y=>zbinop L .quo T x y)
 (fun _ _ _ _ L T x y=>zbinop L .rem T x y)
 (fun _ _ _ _ L T x y=>zbinop L .and T x y)
 (fun _ _ _ _ L T x y=>zbinop L .or T x y)
 (fun _ _ _ _ L T x y=>zbinop L .xor T x y)
 (fun _ _ _ _ L T x y=>zbinop L .shl T x y)
 (fun _ _ _ _ L T x y=>zbinop L .shr T x y)
 (fun _ _ _ _ L T x y=>zbinop L .andNot T x y)
 (fun k a k2 b _ _ _ _=>Bool.rec (motive:=fun _=>Option KV) none (some (.k (.c (.v (.bool (eqI a b)))))) (Nat.beq (kNo k) (kNo k2)))
 (fun k a k2 b _ _ _ _=>Bool.rec (motive:=fun _=>Option KV) none (some (.k (.c (.v (.bool (not (eqI a b))))))) (Nat.beq (kNo k) (kNo k2)))
 (fun k a k2 b _ _ _ _=>Bool.rec (motive:=fun _=>Option KV) none (some (.k (.c (.v (.bool (ltI a b)))))) (Nat.beq (kNo k) (kNo k2)))
 (fun k a k2 b _ _ _ _=>Bool.rec (motive:=fun _=>Option KV) none (some (.k (.c (.v (.bool (not (ltI b a))))))) (Nat.beq (kNo k) (kNo k2)))
 (fun k a k2 b _ _ _ _=>Bool.rec (motive:=fun _=>Option KV) none (some (.k (.c (.v (.bool (ltI b a)))))) (Nat.beq (kNo k) (kNo k2)))
 (fun k a k2 b _ _ _ _=>Bool.rec (motive:=fun _=>Option KV) none (some (.k (.c (.v (.bool (not (ltI a b))))))) (Nat.beq (kNo k) (kNo k2))) op k a k2 b L T x y
theorem bII_eq (op:BinOp) (k:IntKind) (a:Int) (k2:IntKind) (b:Int) (L:Tr ZL) (T:Nat):bII op k a k2 b L T (.k (.c (.v (.int k a)))) (.k (.c (.v (.int k2 b))))=zbinop L op T (.k (.c (.v (.int k a)))) (.k (.c (.v (.int k2 b)))):=by
 have e1:=ltI_eq a b; have e2:=ltI_eq b a; have e3:=eqI_eq a b
 have q1:(not (decide (a > b)))=decide (a <= b):=by rw [<- decide_not,decide_eq_decide]; omega
 have q2:(not (decide (a < b)))=decide (a >= b):=by rw [<- decide_not,decide_eq_decide]; omega
 have q3:ltI b a=decide (a > b):=by rw [e2]
 have q4:eqI a b=(a == b):=by rw [e3]; rfl
 cases op <;> try rfl
 all_goals
  simp only [bII,zbinop,zbin,kNo_eq]
  by_cases hk:k=k2
  ·subst hk
   simp only [zint,wrF_eq,q1,q2,q3,e1,q4,decide_true]
   rfl
  ·simp [hk]
noncomputable def biF (L:Tr ZL) (op:BinOp) (T:Nat) (x y:KV):Option KV :=
 Vw.rec (motive:=fun _=>Tr ZL->BinOp->Nat->KV->KV->Option KV)
  (fun k a L op T x y=>Vw.rec (motive:=fun _=>IntKind->Int->Tr ZL->BinOp->Nat->KV->KV->Option KV) (fun k2 b k a L op T x y=>bII op k a k2 b L T x y) (fun _ _ _ L op T x y=>zbinop L op T x y) (fun _ _ L op T x y=>zbinop L op T x y) (vw y) k a L op T x y)
  (fun _ L op T x y=>zbinop L op T x y) (fun L op T x y=>zbinop L op T x y) (vw x) L op T x y
theorem biF_eq (L:Tr ZL) (op:BinOp) (T:Nat) (x y:KV):biF L op T x y=zbinop L op T x y:=by
 unfold biF
 cases hx:vw x with
 | bool b=>rfl
 | no=>rfl
 | int k a =>
   dsimp only
   cases hy:vw y with
   | bool b=>rfl
   | no=>rfl
   | int k2 b =>
     rw [vw_int hx,vw_int hy]
     exact bII_eq op k a k2 b L T
inductive Vp
 | p (k off:Nat)
 | s (k off n c sz:Nat)
 | no
noncomputable def vp (x:KV):Vp:=KV.rec (motive:=fun _=>Vp) .no (fun y=>KK.rec (motive:=fun _=>Vp) (fun z=>LF.rec (motive:=fun _=>Vp) (fun _=>.no) (fun _=>.no) (fun _=>.no) (fun k off=>.p k off) (fun k off n c sz=>.s k off n c sz) .no (fun _ _=>.no) z) (fun _=>.no) y) (fun _=>.no) x
theorem vp_p {x:KV} {k off:Nat} (h:vp x=.p k off):x=.k (.c (.p k off)):=by
 cases x with
 | u=>cases h
 | t xs=>cases h
 | k y =>
   cases y with
   | g xs=>cases h
   | c z=>cases z <;> first | (cases h; done) | (cases h; rfl)
theorem vp_s {x:KV} {k off n c sz:Nat} (h:vp x=.s k off n c sz):x=.k (.c (.s k off n c sz)):=by
 cases x with
 | u=>cases h
 | t xs=>cases h
 | k y =>
   cases y with
   | g xs=>cases h
   | c z=>cases z <;> first | (cases h; done) | (cases h; rfl)
theorem vp_no {x:KV} (h:vp x=.no):(∀ k off,x ≠ .k (.c (.p k off)))/\∀ k off n c sz,x ≠ .k (.c (.s k off n c sz)):=by
 constructor
 ·rintro k off rfl; cases h
 ·rintro k off n c sz rfl; cases h
inductive Dk
 | mv (x:Operand)
 | pk (c a b:Operand)
 | ld (sz:Nat) (agg:Bool) (x:Operand)
 | fa (off:Nat) (x:Operand)
 | ia (esz:Nat) (x y:Operand)
 | ex (i:Nat) (x:Operand)
 | bi (b:BinOp) (T:Nat) (x y:Operand)
 | no
noncomputable def dec (L:Tr ZL) (op:Op):Dk :=
 match op with
 | .move x=>.mv x
 | .assign x=>.mv x
 | .pick c a b=>.pk c a b
 | .load T x=>match L.get T with | some l=>.ld l.size l.agg x | none=>.no
 | .fieldAddr S x f=>match L.get S with | some l=>(match nth l.flds f with | some d=>.fa d.1 x | none=>.no) | none=>.no
 | .indexAddr T x y=>match L.get T with | some d=>bif Nat.beq d.kd 10 then .ia d.esz x y else .no | none=>.no
 | .extract x i=>.ex i x
 | .binOp b T x y _=>.bi b T x y
 | _=>.no
noncomputable def mkF (agg:Bool) (cs:List LF):Option KV:=Bool.rec (motive:=fun _=>List LF->Option KV) (fun cs=>mkK false cs) (fun cs=>some (.k (.g cs))) agg cs
theorem mkF_eq (agg:Bool) (cs:List LF):mkF agg cs=mkK agg cs:=by cases agg <;> rfl
noncomputable def pkF (c a b:KV):Option KV:=Vw.rec (motive:=fun _=>KV->KV->Option KV) (fun _ _ _ _=>none) (fun p a b=>Bool.rec (motive:=fun _=>KV->KV->Option KV) (fun _ b=>some b) (fun a _=>some a) p a b) (fun _ _=>none) (vw c) a b
theorem vw_noint {x:KV} (h:vw x=.no):(∀ k n,x ≠ .k (.c (.v (.int k n))))/\∀ b,x ≠ .k (.c (.v (.bool b))):=by
 constructor
 ·rintro k n rfl; cases h
 ·rintro b rfl; cases h
theorem pkF_eq (c a b:KV):pkF c a b=zpick c a b:=by
 unfold pkF
 cases h:vw c with
 | bool p=>rw [vw_bool h]; cases p <;> rfl
 | int k n=>rw [vw_int h]; rfl
 | no =>
   have:=(vw_noint h).2
   unfold zpick
   split
   ·exact absurd rfl (this _)
   ·rfl
noncomputable def ldB (b:Bx) (off sz:Nat) (agg:Bool):Option KV:=Option.rec (motive:=fun _=>Bool->Option KV) (fun _=>none) (fun cs agg=>mkF agg cs) (cutW b.cs off sz) agg
noncomputable def ldF (x:KV) (sz:Nat) (agg:Bool) (H:Hp Bx):Option KV :=
 Vp.rec (motive:=fun _=>Nat->Bool->Hp Bx->Option KV) (fun k off sz agg H=>Option.rec (motive:=fun _=>Nat->Nat->Bool->Option KV) (fun _ _ _=>none) (fun b off sz agg=>ldB b off sz agg) (getH H k) off sz agg) (fun _ _ _ _ _ _ _ _=>none) (fun _ _ _=>none) (vp x) sz agg H
noncomputable def faF (x:KV) (off:Nat):Option KV:=Vp.rec (motive:=fun _=>Nat->Option KV) (fun k o off=>some (.k (.c (.p k (Nat.add o off))))) (fun _ _ _ _ _ _=>none) (fun _=>none) (vp x) off
noncomputable def iaF (x y:KV) (esz:Nat):Option KV :=
 Vp.rec (motive:=fun _=>KV->Nat->Option KV) (fun _ _ _ _=>none)
  (fun k off n _ sz y esz=>Vw.rec (motive:=fun _=>Nat->Nat->Nat->Nat->Nat->Option KV)
   (fun _ z k off n sz esz=>Int.rec (motive:=fun _=>Nat->Nat->Nat->Nat->Nat->Option KV) (fun i k off n sz esz=>Bool.rec (motive:=fun _=>Option KV) none (Bool.rec (motive:=fun _=>Option KV) none (some (.k (.c (.p k (Nat.add off (Nat.mul i sz)))))) (Nat.beq esz sz)) (Nat.ble (Nat.succ i) n)) (fun _ _ _ _ _ _=>none) z k off n sz esz)
   (fun _ _ _ _ _ _=>none) (fun _ _ _ _ _=>none) (vw y) k off n sz esz)
  (fun _ _=>none) (vp x) y esz
noncomputable def rF (d:Dk) (L:Tr ZL) (tm:Fr KV) (H:Hp Bx):Option KV:=Dk.rec (motive:=fun _=>Tr ZL->Fr KV->Hp Bx->Option KV)
 (fun x _ tm _=>some (evF x tm))
 (fun c a b _ tm _=>pkF (evF c tm) (evF a tm) (evF b tm))
 (fun sz agg x _ tm H=>ldF (evF x tm) sz agg H)
 (fun off x _ tm _=>faF (evF x tm) off)
 (fun esz x y _ tm _=>iaF (evF x tm) (evF y tm) esz)
 (fun i x _ tm _=>zext i (evF x tm))
 (fun b T x y L tm _=>biF L b T (evF x tm) (evF y tm))
 (fun _ _ _=>none) d L tm H
theorem rF_eq {L:Tr ZL} {op:Op} (h:dec L op ≠ .no) (tm:Fr KV) (H:Hp Bx):zpure L H (evO tm) op=rF (dec L op) L tm H:=by
 cases op <;> try exact absurd rfl h
 case move x=>show some (evO tm x)=some (evF x tm); rw [evF_eq]
 case assign x=>show some (evO tm x)=some (evF x tm); rw [evF_eq]
 case pick c a b=>show zpick (evO tm c) (evO tm a) (evO tm b)=pkF (evF c tm) (evF a tm) (evF b tm); rw [pkF_eq,evF_eq,evF_eq,evF_eq]
 case extract x i=>show zext i (evO tm x)=zext i (evF x tm); rw [evF_eq]
 case binOp b T x y U=>show zbinop L b T (evO tm x) (evO tm y)=biF L b T (evF x tm) (evF y tm); rw [biF_eq,evF_eq,evF_eq]
 case load T x =>
  cases hl:L.get T with
  | none=>exact absurd (by simp [dec,hl]) h
  | some l =>
    have e:dec L (.load T x)=.ld l.size l.agg x:=by simp [dec,hl]
    rw [e]
    show zload L H T (evO tm x)=ldF (evF x tm) l.size l.agg H
    rw [evF_eq]
    unfold zload ldF
    cases hp:vp (evO tm x) with
    | p k off =>
      rw [vp_p hp]
      simp only [hl]
      rw [getH_eq]
      cases hk:H.get k with
      | none=>rfl
      | some b =>
        show (match cutW b.cs off l.size with | some cs=>mkK l.agg cs | none=>none)=ldB b off l.size l.agg
        unfold ldB
        cases cutW b.cs off l.size with
        | none=>rfl
        | some cs=>exact (mkF_eq _ _).symm
    | s k off n c sz=>rw [vp_s hp]
    | no =>
      have:=(vp_no hp).1
      split
      ·rename_i k off e; exact absurd e (this _ _)
      ·rfl
 case fieldAddr S x f =>
  cases hl:L.get S with
  | none=>exact absurd (by simp [dec,hl]) h
  | some l =>
    cases hd:nth l.flds f with
    | none=>exact absurd (by simp [dec,hl,hd]) h
    | some d =>
      have e:dec L (.fieldAddr S x f)=.fa d.1 x:=by simp [dec,hl,hd]
      rw [e]
      show zfaddr L S f (evO tm x)=faF (evF x tm) d.1
      rw [evF_eq]
      unfold zfaddr faF
      cases hp:vp (evO tm x) with
      | p k off=>rw [vp_p hp]; simp only [hl,hd]
      | s k off n c sz=>rw [vp_s hp]
      | no =>
        have:=(vp_no hp).1
        split
        ·rename_i k off e; exact absurd e (this _ _)
        ·rfl
 case indexAddr T x y =>
  cases hl:L.get T with
  | none=>exact absurd (by simp [dec,hl]) h
  | some l =>
    cases hd:Nat.beq l.kd 10 with
    | false=>exact absurd (by simp [dec,hl,hd]) h
    | true =>
      have e:dec L (.indexAddr T x y)=.ia l.esz x y:=by simp [dec,hl,hd]
      rw [e]
      show zidx L T (evO tm x) (evO tm y)=iaF (evF x tm) (evF y tm) l.esz
      rw [evF_eq,evF_eq]
      unfold zidx iaF
      cases hp:vp (evO tm x) with
      | p k off=>rw [vp_p hp]
      | no =>
        have:=(vp_no hp).2
        split
        ·rename_i e; exact absurd e (this _ _ _ _ _)
        ·rfl
      | s k off n c sz =>
        rw [vp_s hp]
        simp only [hl]
        cases hy:vw (evO tm y) with
        | bool b=>rw [vw_bool hy]; rfl
        | no =>
          have:=(vw_noint hy).1
          unfold zNat
          split
          ·rename_i i e
           split at e
           ·rename_i h2; exact absurd h2 (this _ _)
           ·cases e
          ·rfl
        | int k' z =>
          rw [vw_int hy]
          cases z with
          | negSucc i=>rfl
          | ofNat i =>
            show (bif Nat.ble (Nat.succ i) n && Nat.beq l.kd 10 && Nat.beq l.esz sz then some (KV.k (.c (.p k (Nat.add off (Nat.mul i sz))))) else none)=Bool.rec none (Bool.rec none (some (.k (.c (.p k (Nat.add off (Nat.mul i sz)))))) (Nat.beq l.esz sz)) (Nat.ble (Nat.succ i) n)
            rw [hd]
            cases Nat.ble (Nat.succ i) n <;> cases Nat.beq l.esz sz <;> rfl
end Zc
end Go.Proofs.YtkdjilgddbjcaaaGreat
namespace Go.Proofs.YtkdjilgddbjcaaaGreat
open Go.RowKit
namespace Zc
abbrev KtA:=Kt KV
abbrev CtA:=Ct KV
noncomputable def retRF (op:Op) (q:Option Res) (K:KtA):AN:=Option.rec (motive:=fun _=>Op->KtA->AN) (fun o _=>.bad 1 o) (fun q _ K=>Res.rec (motive:=fun _=>KtA->AN) (fun r H n K=>Nat.rec (motive:=fun _=>KV->Hp Bx->KtA->AN) (fun r H K=>K r H 0) (fun p _ r H K=>K r H (Nat.succ p)) n r H K) q K) q op K
theorem retRF_eq (op:Op) (q:Option Res) (K:KtA):retRF op q K=retR op q K:=by
 cases q with
 | none=>rfl
 | some q =>
   obtain ⟨r,H,n⟩:=q
   cases n <;> rfl
noncomputable def retPF (op:Op) (q:Option KV) (H:Hp Bx) (n:Nat) (K:KtA):AN:=Option.rec (motive:=fun _=>Op->Hp Bx->Nat->KtA->AN) (fun o _ _ _=>.bad 2 o) (fun r _ H n K=>K r H n) q op H n K
theorem retPF_eq (op:Op) (q:Option KV) (H:Hp Bx) (n:Nat) (K:KtA):retPF op q H n K=retP op q H n K:=by cases q <;> rfl
noncomputable def kargsF (l:List Operand) (tm:Fr KV) (tl:List KK):Option (List KK) :=
 List.rec (motive:=fun _=>Fr KV->List KK->Option (List KK)) (fun _ tl=>some tl)
  (fun x _ ih tm tl=>KV.rec (motive:=fun _=>(Fr KV->List KK->Option (List KK))->Fr KV->List KK->Option (List KK)) (fun _ _ _=>none) (fun y ih tm tl=>Option.rec (motive:=fun _=>KK->Option (List KK)) (fun _=>none) (fun l y=>some (y :: l)) (ih tm tl) y) (fun _ _ _ _=>none) (evF x tm) ih tm tl) l tm tl
theorem kargsF_eq:∀ (l:List Operand) (tm:Fr KV) (tl:List KK),kargsF l tm tl=kargs (evO tm) tl l
 | [],_,_=>rfl
 | x :: l,tm,tl=>by
   show KV.rec (motive:=fun _=>(Fr KV->List KK->Option (List KK))->Fr KV->List KK->Option (List KK)) (fun _ _ _=>none) (fun y ih tm tl=>Option.rec (motive:=fun _=>KK->Option (List KK)) (fun _=>none) (fun l y=>some (y :: l)) (ih tm tl) y) (fun _ _ _ _=>none) (evF x tm) (kargsF l) tm tl=(match evO tm x with | .k y=>Option.rec none (fun l=>some (y :: l)) (kargs (evO tm) tl l) | _=>none)
   rw [evF_eq]
   cases evO tm x with
   | u=>rfl
   | t xs=>rfl
   | k y =>
     show Option.rec (motive:=fun _=>KK->Option (List KK)) (fun _=>none) (fun l y=>some (y :: l)) (kargsF l tm tl) y=_
     rw [kargsF_eq l tm tl]
     cases kargs (evO tm) tl l <;> rfl
inductive Vf
 | fn (f:Nat) (ks:List (Nat × Nat))
 | no
noncomputable def vf (x:KV):Vf:=KV.rec (motive:=fun _=>Vf) .no (fun y=>KK.rec (motive:=fun _=>Vf) (fun z=>LF.rec (motive:=fun _=>Vf) (fun _=>.no) (fun _=>.no) (fun _=>.no) (fun _ _=>.no) (fun _ _ _ _ _=>.no) .no (fun f ks=>.fn f ks) z) (fun _=>.no) y) (fun _=>.no) x
noncomputable def callF (f:Nat) (ks:List (Nat × Nat)) (C:CtA) (m:Nat) (tm:Fr KV) (H:Hp Bx) (n:Nat) (c:Call) (K:KtA):AN :=
 Option.rec (motive:=fun _=>Nat->CtA->Nat->Hp Bx->Nat->KtA->AN) (fun f _ _ _ _ _=>.bad 5 (.ready f)) (fun xs f C m H n K=>C m f xs H n K) (kargsF c.args.toList tm (ptrs ks)) f C m H n K
noncomputable def valF' (x:Operand) (C:CtA) (m:Nat) (tm:Fr KV) (H:Hp Bx) (n:Nat) (c:Call) (K:KtA):AN :=
 Vf.rec (motive:=fun _=>CtA->Nat->Fr KV->Hp Bx->Nat->Call->KtA->AN) (fun f ks C m tm H n c K=>callF f ks C m tm H n c K) (fun _ _ _ _ _ _ _=>.bad 5 (.ready 0)) (vf (evF x tm)) C m tm H n c K
theorem valF'_eq (x:Operand) (C:CtA) (m:Nat) (tm:Fr KV) (H:Hp Bx) (n:Nat) (c:Call) (K:KtA):valF' x C m tm H n c K=(match evO tm x with
    | .k (.c (.fn f ks)) =>
      match kargs (evO tm) (ptrs ks) c.args.toList with
      | some xs=>C m f xs H n K
      | none=>.bad 5 (.ready f)
    | _=>.bad 5 (.ready 0)):=by
 unfold valF'
 rw [evF_eq]
 cases evO tm x with
 | u=>rfl
 | t xs=>rfl
 | k y =>
   cases y with
   | g xs=>rfl
   | c z =>
     cases z with
     | fn f ks =>
       show callF f ks C m tm H n c K=(match kargs (evO tm) (ptrs ks) c.args.toList with
        | some xs=>C m f xs H n K
        | none=>.bad 5 (.ready f))
       unfold callF
       rw [kargsF_eq]
       cases kargs (evO tm) (ptrs ks) c.args.toList <;> rfl
     | _=>rfl
noncomputable def slowC (C:CtA) (L:Tr ZL) (m:Nat) (tm:Fr KV) (H:Hp Bx) (n:Nat) (c:Call) (K:KtA):AN:=zcall C L m tm H n c K
noncomputable def zcallF (C:CtA) (L:Tr ZL) (m:Nat) (tm:Fr KV) (H:Hp Bx) (n:Nat) (c:Call) (K:KtA):AN :=
 Callee.rec (motive:=fun _=>CtA->Tr ZL->Nat->Fr KV->Hp Bx->Nat->Call->KtA->AN) (fun x C _ m tm H n c K=>valF' x C m tm H n c K) (fun _ _ C L m tm H n c K=>slowC C L m tm H n c K) (fun _ C L m tm H n c K=>slowC C L m tm H n c K) c.callee C L m tm H n c K
theorem zcallF_eq (C:CtA) (L:Tr ZL) (m:Nat) (tm:Fr KV) (H:Hp Bx) (n:Nat) (c:Call) (K:KtA):zcallF C L m tm H n c K=zcall C L m tm H n c K:=by
 obtain ⟨cal,ags,ts⟩:=c
 cases cal with
 | value x=>exact valF'_eq x C m tm H n ⟨.value x,ags,ts⟩ K
 | invoke a b=>rfl
 | builtin b=>rfl
noncomputable def boF (x:KV) (H:Hp Bx) (n T:Nat):Option Res :=
 KV.rec (motive:=fun _=>Hp Bx->Nat->Nat->Option Res) (fun _ _ _=>none) (fun y H n T=>Bool.rec (motive:=fun _=>KK->Hp Bx->Nat->Nat->Option Res) (fun _ _ _ _=>none) (fun y H n T=>(fun H'=>seen H' n ⟨.k (.c (.p n 0)),H',Nat.succ n⟩) (H.put n (some ⟨T,y.cells⟩))) (softs y.cells) y H n T) (fun _ _ _ _=>none) x H n T
theorem boF_eq (x:KV) (H:Hp Bx) (n T:Nat):boF x H n T=zbox H n T x:=by
 cases x with
 | u=>rfl
 | t xs=>rfl
 | k y =>
   unfold boF zbox
   dsimp only
   cases softs y.cells <;> rfl
noncomputable def zopF (C:CtA) (L:Tr ZL) (m:Nat) (tm:Fr KV) (H:Hp Bx) (n:Nat) (op:Op) (K:KtA):AN:=Op.rec (motive:=fun _=>CtA->Tr ZL->Nat->Fr KV->Hp Bx->Nat->Op->KtA->AN)
 (fun x _ _ _ tm H n _ K=>K (evF x tm) H n)
 (fun x _ _ _ tm H n _ K=>K (evF x tm) H n)
 (fun c a b _ _ _ tm H n op K=>retPF op (pkF (evF c tm) (evF a tm) (evF b tm)) H n K)
 (fun T _ L _ _ H n op K=>retRF op (zalloc L H n T) K)
 (fun T x _ _ _ tm H n op K=>retRF op (boF (evF x tm) H n T) K)
 (fun T parts _ L _ tm H n op K=>retPF op (zbuild L (evO tm) T parts) H n K)
 (fun T c parts _ L _ tm H n op K=>retRF op (zlit L H n (evO tm) T c parts.toList) K)
 (fun _ _ _ _ _ _ _ _ _ _ op _=>.bad 7 op)
 (fun T x _ L _ tm H n op K=>retPF op (zload L H T (evF x tm)) H n K)
 (fun T x y _ L m tm H n op K=>retRF op (zstore m L H n T (evF x tm) (evF y tm)) K)
 (fun _ _ _ _ _ _ _ op _=>.bad 7 op)
 (fun _ _ _ _ _ _ _ op _=>.bad 7 op)
 (fun x _ _ _ tm H n op K=>retPF op (znil (evF x tm)) H n K)
 (fun b T x y _ _ L _ tm H n op K=>retPF op (biF L b T (evF x tm) (evF y tm)) H n K)
 (fun b _ x _ _ _ tm H n op K=>retPF op (zun b (evF x tm)) H n K)
 (fun S D x _ L _ tm H n op K=>retPF op (zconv L S D (evF x tm)) H n K)
 (fun _ _ _ _ _ _ _ _ op _=>.bad 7 op)
 (fun _ _ _ _ _ _ _ _ op _=>.bad 7 op)
 (fun fn first captured _ _ _ tm H n op K=>retPF op (zmkf (evO tm) fn first captured) H n K)
 (fun _ _ _ _ _ _ _ _ op _=>.bad 7 op)
 (fun _ _ _ _ _ _ _ _ op _=>.bad 7 op)
 (fun T x y _ L _ tm H n op K=>retRF op (zmake L H n T (evF x tm) (evF y tm)) K)
 (fun T x lo hi mx _ L _ tm H n op K=>retPF op (zsl L T (evF x tm) (zBnd (evO tm) lo) (zBnd (evO tm) hi) (zBnd (evO tm) mx)) H n K)
 (fun S x f _ L _ tm H n op K=>retPF op (zfaddr L S f (evF x tm)) H n K)
 (fun T x f _ L _ tm H n op K=>retPF op (zfield L T f (evF x tm)) H n K)
 (fun T x y _ L _ tm H n op K=>retPF op (zidx L T (evF x tm) (evF y tm)) H n K)
 (fun T x y _ L _ tm H n op K=>retPF op (zindex L T (evF x tm) (evF y tm)) H n K)
 (fun _ _ _ _ _ _ _ _ _ _ op _=>.bad 7 op)
 (fun _ _ _ _ _ _ _ _ _ _ op _=>.bad 7 op)
 (fun _ _ _ _ _ _ _ _ _ op _=>.bad 7 op)
 (fun _ _ _ _ _ _ _ _ _ _ op _=>.bad 7 op)
 (fun _ _ _ _ _ _ _ _ op _=>.bad 7 op)
 (fun _ _ _ _ _ _ _ _ op _=>.bad 7 op)
 (fun _ _ _ _ _ _ _ op _=>.bad 7 op)
 (fun _ _ _ _ _ _ _ _ _ _ op _=>.bad 7 op)
 (fun x i _ _ _ tm H n op K=>retPF op (zext i (evF x tm)) H n K)
 (fun c C L m tm H n _ K=>zcallF C L m tm H n c K)
 (fun _ _ _ _ _ _ _ op _=>.bad 7 op)
 (fun _ _ _ _ _ _ _ op _=>.bad 7 op)
 (fun _ _ _ _ _ _ _ op _=>.bad 7 op)
 (fun _ _ _ _ _ _ _ _ op _=>.bad 7 op)
 (fun _ _ _ _ _ _ _ _ _ op _=>.bad 7 op)
 (fun _ _ _ _ _ _ _ _ op _=>.bad 7 op) op C L m tm H n op K
theorem zopF_eq (C:CtA) (L:Tr ZL) (m:Nat) (tm:Fr KV) (H:Hp Bx) (n:Nat) (op:Op) (K:KtA):zopF C L m tm H n op K=zop C L m tm H n op K:=by
 cases op <;> (first | rfl | (simp only [zopF,zop,retRF_eq,retPF_eq,evF_eq,pkF_eq,biF_eq,boF_eq,zcallF_eq]))
abbrev Ih:=Fr KV->Hp Bx->Nat->List Rc->(Fr KV->Hp Bx->Nat->AN)->AN
abbrev Kf:=Fr KV->Hp Bx->Nat->AN
inductive Sd
 | f0 (d:Dk) (t:Option Nat)
 | f1 (sz:Nat) (agg:Bool) (x:Operand) (t:Option Nat) (i:Nat)
 | f2
 | f4
 | sl
noncomputable def sdec (L:Tr ZL) (e:Inf):Sd :=
 match e.o.guard with
 | some _=>.sl
 | none =>
   match e.k with
   | 0=>(match dec L e.o.op with | .no=>.sl | d=>.f0 d e.o.dst)
   | 1=>(match e.ps with | []=>(match dec L e.o.op with | .ld sz agg x=>.f1 sz agg x e.o.dst e.i | _=>.sl) | _=>.sl)
   | 2=>.f2
   | 3=>.sl
   | _=>.f4
noncomputable def slowSt (C:CtA) (L:Tr ZL) (m:Nat) (l:List Oper) (e:Inf) (tm:Fr KV) (H:Hp Bx) (n:Nat) (rc:List Rc) (ih:Ih) (K:Kf):AN :=
 match zwant l tm e.o with
 | some b=>bif b then zpre1 C L m e tm H n rc (fun tm H n rc=>ih tm H n rc K) else putK tm e.o.dst (.t []) fun tm=>ih tm H n rc K
 | none=>.bad 9 e.o.op
noncomputable def r0 (q:Option KV) (t:Option Nat) (e:Inf) (tm:Fr KV) (H:Hp Bx) (n:Nat) (rc:List Rc) (ih:Ih) (K:Kf):AN :=
 Option.rec (motive:=fun _=>Option Nat->Inf->Fr KV->Hp Bx->Nat->List Rc->Ih->Kf->AN) (fun _ e _ _ _ _ _ _=>.bad 2 e.o.op) (fun r t _ tm H n rc ih K=>putD t tm r (fun tm=>ih tm H n rc K)) q t e tm H n rc ih K
noncomputable def c2 (b:Bool) (e:Inf) (r:KV) (tm:Fr KV) (H H':Hp Bx) (n':Nat) (rc:List Rc) (ih:Ih) (K:Kf):AN :=
 Bool.rec (motive:=fun _=>Inf->KV->Fr KV->Hp Bx->Hp Bx->Nat->List Rc->Ih->Kf->AN) (fun e _ _ _ _ _ _ _ _=>.bad 32 e.o.op) (fun e r tm H H' n' rc ih K=>putD e.o.dst tm r (fun tm=>ih tm H' n' (⟨e.i,0,H,H'⟩ :: rc) K)) b e r tm H H' n' rc ih K
noncomputable def stF (s:Sd) (C:CtA) (L:Tr ZL) (m:Nat) (l:List Oper) (e:Inf) (tm:Fr KV) (H:Hp Bx) (n:Nat) (rc:List Rc) (ih:Ih) (K:Kf):AN :=
 Sd.rec (motive:=fun _=>CtA->Tr ZL->Nat->List Oper->Inf->Fr KV->Hp Bx->Nat->List Rc->Ih->Kf->AN)
  (fun d t _ L _ _ e tm H n rc ih K=>r0 (rF d L tm Hp.mk0) t e tm H n rc ih K)
  (fun sz agg x t i _ _ _ _ e tm H n rc ih K=>Vp.rec (motive:=fun _=>Nat->Bool->Operand->Option Nat->Nat->Inf->Fr KV->Hp Bx->Nat->List Rc->Ih->Kf->AN)
   (fun k _ sz agg x t i e tm H n rc ih K=>r0 (ldF (evF x tm) sz agg H) t e tm H n (⟨i,k,Hp.mk0,Hp.mk0⟩ :: rc) ih K)
   (fun _ _ _ _ _ _ _ _ _ _ e _ _ _ _ _ _=>.bad 31 e.o.op) (fun _ _ _ _ _ e _ _ _ _ _ _=>.bad 31 e.o.op) (vp (evF x tm)) sz agg x t i e tm H n rc ih K)
  (fun C L m _ e tm H n rc ih K=>zopF C L m tm H n e.o.op (fun r H' n'=>c2 (chkS rc e.ps H H') e r tm H H' n' rc ih K))
  (fun C L _ _ e tm H n rc ih K=>zopF C L n tm H n e.o.op (fun r H' n'=>putD e.o.dst tm r (fun tm=>ih tm H' n' rc K)))
  (fun C L m l e tm H n rc ih K=>slowSt C L m l e tm H n rc ih K) s C L m l e tm H n rc ih K
theorem r0_eq (q:Option KV) (t:Option Nat) (e:Inf) (tm:Fr KV) (H:Hp Bx) (n:Nat) (rc:List Rc) (ih:Ih) (K:Kf):r0 q t e tm H n rc ih K=retP e.o.op q H n (fun r H n=>putK tm t r fun tm=>ih tm H n rc K):=by
 cases q with
 | none=>rfl
 | some r=>exact putD_eq t tm r _
theorem zwant_none {l:List Oper} {tm:Fr KV} {o:Oper} (h:o.guard=none):zwant l tm o=some true:=by
 unfold zwant
 rw [h]
theorem stF_eq (C:CtA) (L:Tr ZL) (m:Nat) (l:List Oper) (e:Inf) (tm:Fr KV) (H:Hp Bx) (n:Nat) (rc:List Rc) (ih:Ih) (K:Kf):stF (sdec L e) C L m l e tm H n rc ih K=slowSt C L m l e tm H n rc ih K:=by
 cases hg:e.o.guard with
 | some g =>
   have hs:sdec L e=.sl:=by unfold sdec; rw [hg]
   rw [hs]
   rfl
 | none =>
   unfold slowSt
   rw [zwant_none hg]
   simp only [cond_true]
   match hk:e.k with
   | 0 =>
     unfold zpre1
     rw [hk]
     simp only
     by_cases hd:dec L e.o.op=.no
     ·have hs:sdec L e=.sl:=by unfold sdec; rw [hg,hk]; simp only; rw [hd]
      rw [hs]
      show slowSt C L m l e tm H n rc ih K=_
      unfold slowSt
      rw [zwant_none hg]
      simp only [cond_true]
      unfold zpre1
      rw [hk]
      rfl
     ·have hs:sdec L e=.f0 (dec L e.o.op) e.o.dst:=by
       unfold sdec
       rw [hg,hk]
       generalize dec L e.o.op=d at hd
       cases d <;> first | rfl | exact absurd rfl hd
      rw [hs]
      show r0 (rF (dec L e.o.op) L tm Hp.mk0) e.o.dst e tm H n rc ih K=_
      rw [r0_eq,rF_eq hd]
   | 1 =>
     have slow:sdec L e=.sl->stF (sdec L e) C L m l e tm H n rc ih K=zpre1 C L m e tm H n rc (fun tm H n rc=>ih tm H n rc K):=fun hs=>by
      rw [hs]
      show slowSt C L m l e tm H n rc ih K=_
      unfold slowSt
      rw [zwant_none hg]
      rfl
     cases hp:e.ps with
     | cons a b=>exact slow (by unfold sdec; rw [hg,hk,hp]; rfl)
     | nil =>
       cases hd:dec L e.o.op with
       | ld sz agg x =>
         have hs:sdec L e=.f1 sz agg x e.o.dst e.i:=by unfold sdec; rw [hg,hk,hp]; simp only; rw [hd]
         have hne:dec L e.o.op ≠ .no:=by rw [hd]; intro c; cases c
         have hz:=rF_eq hne tm H
         rw [hd] at hz
         have hz':zpure L H (evO tm) e.o.op=ldF (evF x tm) sz agg H:=hz
         have ho:∃ T,e.o.op=.load T x:=by
          generalize e.o.op=op at hd
          unfold dec at hd
          split at hd <;> try (cases hd; done)
          ·split at hd
           ·cases hd; exact ⟨_,rfl⟩
           ·cases hd
          ·split at hd
           ·split at hd <;> cases hd
           ·cases hd
          ·split at hd
           ·rename_i d _
            cases hq:Nat.beq d.kd 10 <;> rw [hq] at hd <;> cases hd
           ·cases hd
         obtain ⟨T,ho⟩:=ho
         rw [hs]
         unfold zpre1
         rw [hk,hp]
         simp only
         have hkey:zkey e.o.op (evO tm)=match evO tm x with | .k (.c (.p k _))=>some k | _=>none:=by rw [ho]; rfl
         rw [hkey]
         show Vp.rec (motive:=fun _=>Nat->Bool->Operand->Option Nat->Nat->Inf->Fr KV->Hp Bx->Nat->List Rc->Ih->Kf->AN) _ _ _ (vp (evF x tm)) sz agg x e.o.dst e.i e tm H n rc ih K=_
         rw [evF_eq]
         cases hv:vp (evO tm x) with
         | p k off =>
           rw [vp_p hv]
           show r0 (ldF (evF x tm) sz agg H) e.o.dst e tm H n (⟨e.i,k,Hp.mk0,Hp.mk0⟩ :: rc) ih K=bif chkL rc [] k then _ else _
           rw [r0_eq,<- hz']
           rfl
         | s k off n' c sz'=>rw [vp_s hv]
         | no =>
           have:=(vp_no hv).1
           split
           ·rename_i k h
            split at h
            ·rename_i k' off' e'
             exact absurd e' (this _ _)
            ·cases h
           ·rfl
       | _=>exact slow (by unfold sdec; rw [hg,hk,hp]; simp only; rw [hd])
   | 2 =>
     have hs:sdec L e=.f2:=by unfold sdec; rw [hg,hk]; rfl
     rw [hs]
     unfold zpre1
     rw [hk]
     show zopF C L m tm H n e.o.op _=zop C L m tm H n e.o.op _
     rw [zopF_eq]
     congr 1
     funext r H' n'
     unfold c2
     cases chkS rc e.ps H H' with
     | false=>rfl
     | true=>exact putD_eq _ _ _ _
   | 3 =>
     have hs:sdec L e=.sl:=by unfold sdec; rw [hg,hk]; rfl
     rw [hs]
     show slowSt C L m l e tm H n rc ih K=_
     unfold slowSt
     rw [zwant_none hg]
     rfl
   | k+4 =>
     have hs:sdec L e=.f4:=by unfold sdec; rw [hg,hk]; rfl
     rw [hs]
     unfold zpre1
     rw [hk]
     show zopF C L n tm H n e.o.op _=zop C L n tm H n e.o.op _
     rw [zopF_eq]
     congr 1
     funext r H' n'
     exact putD_eq _ _ _ _
noncomputable def zpreF (C:CtA) (L:Tr ZL) (m:Nat) (l:List Oper) (es:List Inf):Ih :=
 List.rec (motive:=fun _=>Ih) (fun tm H n _ K=>K tm H n) (fun e _ ih tm H n rc K=>stF (sdec L e) C L m l e tm H n rc ih K) es
theorem zpreF_eq (C:CtA) (L:Tr ZL) (m:Nat) (l:List Oper):∀ es,zpreF C L m l es=zpre C L m l es
 | []=>rfl
 | e :: es=>by
   funext tm H n rc K
   show stF (sdec L e) C L m l e tm H n rc (zpreF C L m l es) K=_
   rw [stF_eq,zpreF_eq C L m l es]
   rfl
inductive Qd
 | f (d:Dk) (t:Option Nat)
 | o
 | sl
noncomputable def qdec (L:Tr ZL) (o:Oper):Qd :=
 match o.guard with
 | some _=>.sl
 | none=>(match dec L o.op with | .no=>.o | d=>.f d o.dst)
abbrev Iq:=Fr KV->Hp Bx->Nat->Kf->AN
noncomputable def slowQ (C:CtA) (L:Tr ZL) (m:Nat) (l:List Oper) (o:Oper) (tm:Fr KV) (H:Hp Bx) (n:Nat) (ih:Iq) (K:Kf):AN :=
 match zwant l tm o with
 | some b=>bif b then zop C L m tm H n o.op (fun r H n=>putK tm o.dst r fun tm=>ih tm H n K) else putK tm o.dst (.t []) fun tm=>ih tm H n K
 | none=>.bad 8 (.ready 0)
noncomputable def q0 (q:Option KV) (t:Option Nat) (o:Oper) (tm:Fr KV) (H:Hp Bx) (n:Nat) (ih:Iq) (K:Kf):AN :=
 Option.rec (motive:=fun _=>Option Nat->Oper->Fr KV->Hp Bx->Nat->Iq->Kf->AN) (fun _ o _ _ _ _ _=>.bad 2 o.op) (fun r t _ tm H n ih K=>putD t tm r (fun tm=>ih tm H n K)) q t o tm H n ih K
noncomputable def sqF (s:Qd) (C:CtA) (L:Tr ZL) (m:Nat) (l:List Oper) (o:Oper) (tm:Fr KV) (H:Hp Bx) (n:Nat) (ih:Iq) (K:Kf):AN :=
 Qd.rec (motive:=fun _=>CtA->Tr ZL->Nat->List Oper->Oper->Fr KV->Hp Bx->Nat->Iq->Kf->AN)
  (fun d t _ L _ _ o tm H n ih K=>q0 (rF d L tm H) t o tm H n ih K)
  (fun C L m _ o tm H n ih K=>zopF C L m tm H n o.op (fun r H n=>putD o.dst tm r (fun tm=>ih tm H n K)))
  (fun C L m l o tm H n ih K=>slowQ C L m l o tm H n ih K) s C L m l o tm H n ih K
theorem q0_eq (q:Option KV) (t:Option Nat) (o:Oper) (tm:Fr KV) (H:Hp Bx) (n:Nat) (ih:Iq) (K:Kf):q0 q t o tm H n ih K=retP o.op q H n (fun r H n=>putK tm t r fun tm=>ih tm H n K):=by
 cases q with
 | none=>rfl
 | some r=>exact putD_eq t tm r _
theorem zop_dec {C:CtA} {L:Tr ZL} {m:Nat} {tm:Fr KV} {H:Hp Bx} {n:Nat} {op:Op} {K:KtA} (h:dec L op ≠ .no):zop C L m tm H n op K=retP op (zpure L H (evO tm) op) H n K:=by
 cases op <;> first | rfl | exact absurd rfl h
theorem sqF_eq (C:CtA) (L:Tr ZL) (m:Nat) (l:List Oper) (o:Oper) (tm:Fr KV) (H:Hp Bx) (n:Nat) (ih:Iq) (K:Kf):sqF (qdec L o) C L m l o tm H n ih K=slowQ C L m l o tm H n ih K:=by
 cases hg:o.guard with
 | some g =>
   have hs:qdec L o=.sl:=by unfold qdec; rw [hg]
   rw [hs]
   rfl
 | none =>
   unfold slowQ
   rw [zwant_none hg]
   simp only [cond_true]
   by_cases hd:dec L o.op=.no
   ·have hs:qdec L o=.o:=by unfold qdec; rw [hg]; simp only; rw [hd]
    rw [hs]
    show zopF C L m tm H n o.op _=_
    rw [zopF_eq]
    congr 1
    funext r H n
    exact putD_eq _ _ _ _
   ·have hs:qdec L o=.f (dec L o.op) o.dst:=by
     unfold qdec
     rw [hg]
     generalize dec L o.op=d at hd
     cases d <;> first | rfl | exact absurd rfl hd
    rw [hs]
    show q0 (rF (dec L o.op) L tm H) o.dst o tm H n ih K=_
    rw [q0_eq,zop_dec hd,rF_eq hd]
noncomputable def zseqF (C:CtA) (L:Tr ZL) (m:Nat) (l os:List Oper):Iq :=
 List.rec (motive:=fun _=>Iq) (fun tm H n K=>K tm H n) (fun o _ ih tm H n K=>sqF (qdec L o) C L m l o tm H n ih K) os
theorem zseqF_eq (C:CtA) (L:Tr ZL) (m:Nat) (l:List Oper):∀ os,zseqF C L m l os=zseq C L m l os
 | []=>rfl
 | o :: os=>by
   funext tm H n K
   show sqF (qdec L o) C L m l o tm H n (zseqF C L m l os) K=_
   rw [sqF_eq,zseqF_eq C L m l os]
   rfl
abbrev KcA:=Kc KV
noncomputable def zregF (C:CtA) (L:Tr ZL) (W:Nat->Bool) (N m:Nat) (l:List Oper) (draw:Bool) (tm:Fr KV) (H:Hp Bx) (n:Nat) (K:KcA):AN :=
 Bool.rec (motive:=fun _=>AN) (Bool.rec (motive:=fun _=>AN) (.bad 10 (.ready 0)) (Option.rec (motive:=fun _=>AN) (zseqF C L m l l tm H n fun tm H n=>K .normal tm H n) (fun i=>zfz C L N m l i tm H n fun tm H n=>K .normal tm H n) (mkI L l)) (insideB l N))
  (Option.rec (motive:=fun _=>AN) (.bad 10 (.ready 1)) (fun es=>zpreF C L m l es tm H n [] fun tm H n=>K .normal tm H n) (regD W N l)) draw
theorem zregF_eq (C:CtA) (L:Tr ZL) (W:Nat->Bool) (N m:Nat) (l:List Oper) (draw:Bool) (tm:Fr KV) (H:Hp Bx) (n:Nat) (K:KcA):zregF C L W N m l draw tm H n K=zregion C L W N m l draw tm H n K:=by
 unfold zregF zregion
 rw [zseqF_eq]
 simp only [zpreF_eq]
abbrev Kd:=Fr KV->Hp Bx->Nat->KcA->AN
noncomputable def exS (e:Exit) (tm:Fr KV) (H:Hp Bx) (n:Nat) (ib:Kd) (K:KcA):AN :=
 Exit.rec (motive:=fun _=>Fr KV->Hp Bx->Nat->Kd->KcA->AN) (fun tm H n ib K=>ib tm H n K) (fun j tm H n _ K=>K (.exit j) tm H n) (fun j tm H n _ K=>K (.goto j) tm H n) (fun tm H n _ K=>K .ret tm H n) (fun v tm H n _ K=>K (.panic v) tm H n) (fun tm H n _ K=>K .outgrown tm H n) e tm H n ib K
noncomputable def exB (e:Exit) (id:Nat) (tm:Fr KV) (H:Hp Bx) (n:Nat) (K:KcA):AN :=
 Exit.rec (motive:=fun _=>Nat->Fr KV->Hp Bx->Nat->KcA->AN) (fun _ tm H n K=>K .normal tm H n) (fun j id tm H n K=>Bool.rec (motive:=fun _=>Nat->Fr KV->Hp Bx->Nat->KcA->AN) (fun j tm H n K=>K (.exit j) tm H n) (fun _ tm H n K=>K .normal tm H n) (Nat.beq j id) j tm H n K) (fun j _ tm H n K=>K (.goto j) tm H n) (fun _ tm H n K=>K .ret tm H n) (fun v _ tm H n K=>K (.panic v) tm H n) (fun _ tm H n K=>K .outgrown tm H n) e id tm H n K
noncomputable def cdF (x:KV) (ia ib:Kd) (tm:Fr KV) (H:Hp Bx) (n:Nat) (K:KcA):AN :=
 Vw.rec (motive:=fun _=>Kd->Kd->Fr KV->Hp Bx->Nat->KcA->AN) (fun _ _ _ _ _ _ _ _=>.bad 11 (.ready 0)) (fun b ia ib tm H n K=>Bool.rec (motive:=fun _=>Kd->Kd->Fr KV->Hp Bx->Nat->KcA->AN) (fun _ ib tm H n K=>ib tm H n K) (fun ia _ tm H n K=>ia tm H n K) b ia ib tm H n K) (fun _ _ _ _ _ _=>.bad 11 (.ready 0)) (vw x) ia ib tm H n K
noncomputable def zcodeF (C:CtA) (L:Tr ZL) (W:Nat->Bool) (N m fuel:Nat) (c:Code):Kd :=
 Code.rec (motive:=fun _=>Kd)
  (fun tm H n K=>K .normal tm H n)
  (fun _ ops draw tm H n K=>zregF C L W N m ops.toList draw tm H n K)
  (fun _ _ ia ib tm H n K=>ia tm H n fun e tm H n=>exS e tm H n ib K)
  (fun c _ _ ia ib tm H n K=>cdF (evF c tm) ia ib tm H n K)
  (fun id _ ia tm H n K=>ia tm H n fun e tm H n=>exB e id tm H n K)
  (fun _ ia tm H n K=>Nat.rec (motive:=fun _=>Kd) (fun _ _ _ _=>.bad 12 (.ready 0)) (fun _ ih tm H n K=>ia tm H n fun e tm H n=>exS e tm H n ih K) fuel tm H n K)
  (fun _ _ _ _ _ _ _ _ _ _=>.bad 13 (.ready 0))
  (fun id tm H n K=>K (.exit id) tm H n)
  (fun _ _ _ _ _ _=>.bad 14 (.ready 0))
  (fun _ _ _ _ _=>.bad 15 (.ready 0))
  (fun _ _ _ _ _=>.bad 16 (.ready 0))
  (fun tm H n K=>K .ret tm H n)
  (fun _ _ _ _ _=>.bad 17 (.ready 0)) c
end Zc
end Go.Proofs.YtkdjilgddbjcaaaGreat
namespace Go.Proofs.YtkdjilgddbjcaaaGreat
open Go.RowKit
namespace Zc
theorem cdF_eq (x:KV) (ia ib:Kd) (tm:Fr KV) (H:Hp Bx) (n:Nat) (K:KcA):cdF x ia ib tm H n K=(match x with | .k (.c (.v (.bool b)))=>bif b then ia tm H n K else ib tm H n K | _=>.bad 11 (.ready 0)):=by
 unfold cdF
 cases h:vw x with
 | bool b=>rw [vw_bool h]; cases b <;> rfl
 | int k n=>rw [vw_int h]
 | no =>
   have:=(vw_noint h).2
   split
   ·exact absurd rfl (this _)
   ·rfl
theorem zcodeF_eq (C:CtA) (L:Tr ZL) (W:Nat->Bool) (N m fuel:Nat):∀ c,zcodeF C L W N m fuel c=zcode C L W N m fuel c
 | .skip=>rfl
 | .region id ops draw=>by
   funext tm H n K
   exact zregF_eq C L W N m ops.toList draw tm H n K
 | .seq a b=>by
   funext tm H n K
   show zcodeF C L W N m fuel a tm H n (fun e tm H n=>exS e tm H n (zcodeF C L W N m fuel b) K)=zcode C L W N m fuel a tm H n (fun e tm H n=>match e with | .normal=>zcode C L W N m fuel b tm H n K | e=>K e tm H n)
   rw [zcodeF_eq C L W N m fuel a,zcodeF_eq C L W N m fuel b]
   congr 1
   funext e tm H n
   cases e <;> rfl
 | .cond c a b=>by
   funext tm H n K
   show cdF (evF c tm) (zcodeF C L W N m fuel a) (zcodeF C L W N m fuel b) tm H n K=_
   rw [zcodeF_eq C L W N m fuel a,zcodeF_eq C L W N m fuel b,cdF_eq,evF_eq]
   rfl
 | .block id a=>by
   funext tm H n K
   show zcodeF C L W N m fuel a tm H n (fun e tm H n=>exB e id tm H n K)=zcode C L W N m fuel a tm H n (fun e tm H n=>match e with | .exit j=>bif Nat.beq j id then K .normal tm H n else K (.exit j) tm H n | e=>K e tm H n)
   rw [zcodeF_eq C L W N m fuel a]
   congr 1
   funext e tm H n
   cases e with
   | exit j =>
     show Bool.rec (motive:=fun _=>Nat->Fr KV->Hp Bx->Nat->KcA->AN) _ _ (Nat.beq j id) j tm H n K=bif Nat.beq j id then _ else _
     cases Nat.beq j id <;> rfl
   | _=>rfl
 | .loop a=>by
   funext tm H n K
   show Nat.rec (motive:=fun _=>Kd) (fun _ _ _ _=>.bad 12 (.ready 0)) (fun _ ih tm H n K=>zcodeF C L W N m fuel a tm H n fun e tm H n=>exS e tm H n ih K) fuel tm H n K=Nat.rec (motive:=fun _=>Fr KV->Hp Bx->Nat->AN) (fun _ _ _=>.bad 12 (.ready 0)) (fun _ ih tm H n=>zcode C L W N m fuel a tm H n fun e tm H n=>match e with | .normal=>ih tm H n | e=>K e tm H n) fuel tm H n
   rw [zcodeF_eq C L W N m fuel a]
   have key:∀ (f:Nat) (tm:Fr KV) (H:Hp Bx) (n:Nat),Nat.rec (motive:=fun _=>Kd) (fun _ _ _ _=>.bad 12 (.ready 0)) (fun _ ih tm H n K=>zcode C L W N m fuel a tm H n fun e tm H n=>exS e tm H n ih K) f tm H n K=Nat.rec (motive:=fun _=>Fr KV->Hp Bx->Nat->AN) (fun _ _ _=>.bad 12 (.ready 0)) (fun _ ih tm H n=>zcode C L W N m fuel a tm H n fun e tm H n=>match e with | .normal=>ih tm H n | e=>K e tm H n) f tm H n:=by
    intro f
    induction f with
    | zero=>intros; rfl
    | succ f ih =>
      intro tm H n
      show zcode C L W N m fuel a tm H n (fun e tm H n=>exS e tm H n _ K)=zcode C L W N m fuel a tm H n (fun e tm H n=>_)
      congr 1
      funext e tm H n
      cases e <;> first | rfl | exact ih tm H n
   exact key fuel tm H n
 | .rangeFunc _ _ _ _=>rfl
 | .exit _=>rfl
 | .scope _=>rfl
 | .label _=>rfl
 | .goto _=>rfl
 | .ret=>rfl
 | .refuse _=>rfl
noncomputable def putA (i:Nat) (tm:Fr KV) (r:KV) (K:Fr KV->AN):AN:=P3.rec (motive:=fun _=>Fr KV->KV->(Fr KV->AN)->AN) (fun tm _ K=>K tm) (fun a b c tm r K=>up3 a tm b c (some r) K) (pt3 i) tm r K
theorem putA_eq (i:Nat) (tm:Fr KV) (r:KV) (K:Fr KV->AN):putA i tm r K=K (Fr.put tm i (some r)):=by
 unfold putA Fr.put
 cases pt3 i with
 | out=>rfl
 | go a b c=>exact up3_eq a tm b c (some r) K
noncomputable def zargA (xs:List KK):Nat->Fr KV->(Fr KV->AN)->AN:=List.rec (motive:=fun _=>Nat->Fr KV->(Fr KV->AN)->AN) (fun _ tm K=>K tm) (fun x _ ih i tm K=>putA i tm (.k x) (fun tm=>ih (Nat.succ i) tm K)) xs
theorem zargA_eq:∀ (xs:List KK) (i:Nat) (tm:Fr KV) (K:Fr KV->AN),zargA xs i tm K=K (zargs xs i tm)
 | [],_,_,_=>rfl
 | x :: xs,i,tm,K=>by
   show putA i tm (.k x) (fun tm=>zargA xs (Nat.succ i) tm K)=_
   rw [putA_eq,zargA_eq xs]
   rfl
noncomputable def finF (q:Option KV) (H:Hp Bx) (n f:Nat) (K:KtA):AN:=Option.rec (motive:=fun _=>Hp Bx->Nat->Nat->KtA->AN) (fun _ _ f _=>.bad 22 (.ready f)) (fun r H n _ K=>K r H n) q H n f K
noncomputable def endF (e:Exit) (L:Tr ZL) (tm:Fr KV) (H:Hp Bx) (n f:Nat) (rs:List ResultVar) (K:KtA):AN :=
 Exit.rec (motive:=fun _=>Tr ZL->Fr KV->Hp Bx->Nat->Nat->List ResultVar->KtA->AN) (fun L tm H n f rs K=>finF (zres L tm H rs) H n f K) (fun _ _ _ _ _ f _ _=>.bad 23 (.ready f)) (fun _ _ _ _ _ f _ _=>.bad 23 (.ready f)) (fun L tm H n f rs K=>finF (zres L tm H rs) H n f K) (fun _ _ _ _ _ f _ _=>.bad 23 (.ready f)) (fun _ _ _ _ f _ _=>.bad 23 (.ready f)) e L tm H n f rs K
noncomputable def zbodyF (C:CtA) (L:Tr ZL) (W:Nat->Bool) (m fuel f:Nat) (z:ZF) (xs:List KK) (H:Hp Bx) (n:Nat) (K:KtA):AN :=
 zargA xs 0 Fr.mk0 fun tm=>zcodeF C L W z.N m fuel z.body tm H n fun e tm H n=>endF e L tm H n f z.res K
theorem zbodyF_eq (C:CtA) (L:Tr ZL) (W:Nat->Bool) (m fuel f:Nat) (z:ZF) (xs:List KK) (H:Hp Bx) (n:Nat) (K:KtA):zbodyF C L W m fuel f z xs H n K=zbody C L W m fuel f z xs H n K:=by
 unfold zbodyF zbody
 rw [zargA_eq,zcodeF_eq]
 congr 1
 funext e tm H n
 cases e <;> first | rfl | (show finF (zres L tm H z.res) H n f K=Option.rec (motive:=fun _=>AN) _ _ _; cases zres L tm H z.res <;> rfl)
noncomputable def natA (a:Nat) (K:Nat->AN):AN:=Nat.rec (motive:=fun _=>(Nat->AN)->AN) (fun K=>K 0) (fun p _ K=>K (Nat.succ p)) a K
theorem natA_eq (a:Nat) (K:Nat->AN):natA a K=K a:=by cases a <;> rfl
noncomputable def intA (z:Int) (K:Int->AN):AN:=Int.rec (motive:=fun _=>(Int->AN)->AN) (fun a K=>natA a fun a=>K (.ofNat a)) (fun a K=>natA a fun a=>K (.negSucc a)) z K
theorem intA_eq (z:Int) (K:Int->AN):intA z K=K z:=by
 cases z with
 | ofNat a=>exact natA_eq a (fun a=>K (.ofNat a))
 | negSucc a=>exact natA_eq a (fun a=>K (.negSucc a))
noncomputable def boolA (b:Bool) (K:Bool->AN):AN:=Bool.rec (motive:=fun _=>(Bool->AN)->AN) (fun K=>K false) (fun K=>K true) b K
theorem boolA_eq (b:Bool) (K:Bool->AN):boolA b K=K b:=by cases b <;> rfl
noncomputable def valA (v:Value) (K:Value->AN):AN:=Value.rec (motive_1:=fun _=>(Value->AN)->AN) (motive_2:=fun _=>Unit) (motive_3:=fun _=>Unit) (fun b K=>boolA b fun b=>K (.bool b)) (fun k n K=>intA n fun n=>K (.int k n)) (fun a b K=>K (.float a b)) (fun a b c K=>K (.complex a b c)) (fun a K=>K (.string a)) (fun a K=>K (.pointer a)) (fun a b c K=>K (.slice a b c)) (fun a K=>K (.map a)) (fun a K=>K (.chan a)) (fun a b c _ _ K=>K (.func a b c)) (fun K=>K .nilFunc) (fun a b _ K=>K (.iface a b)) (fun K=>K .nilIface) (fun a _ K=>K (.agg a)) (fun a _ K=>K (.tuple a)) (fun _ _=>()) () (fun _ _ _ _=>()) v K
theorem valA_eq (v:Value) (K:Value->AN):valA v K=K v:=by
 cases v with
 | bool b=>exact boolA_eq b (fun b=>K (.bool b))
 | int k n=>exact intA_eq n (fun n=>K (.int k n))
 | _=>rfl
noncomputable def lfA (x:LF) (K:LF->AN):AN:=LF.rec (motive:=fun _=>(LF->AN)->AN) (fun v K=>valA v fun v=>K (.v v)) (fun l K=>K (.sl l)) (fun z K=>intA z fun z=>K (.I z)) (fun k off K=>K (.p k off)) (fun k off n c sz K=>K (.s k off n c sz)) (fun K=>K .e0) (fun f ks K=>K (.fn f ks)) x K
theorem lfA_eq (x:LF) (K:LF->AN):lfA x K=K x:=by
 cases x with
 | v v=>exact valA_eq v (fun v=>K (.v v))
 | I z=>exact intA_eq z (fun z=>K (.I z))
 | _=>rfl
noncomputable def lfsA (l:List LF):(List LF->AN)->AN:=List.rec (motive:=fun _=>(List LF->AN)->AN) (fun K=>K []) (fun x _ ih K=>lfA x fun x=>ih fun l=>K (x :: l)) l
theorem lfsA_eq:∀ (l:List LF) (K:List LF->AN),lfsA l K=K l
 | [],_=>rfl
 | x :: l,K=>by
   show (lfA x fun x=>lfsA l fun l=>K (x :: l))=_
   rw [lfA_eq,lfsA_eq l]
noncomputable def kkA (x:KK) (K:KK->AN):AN:=KK.rec (motive:=fun _=>(KK->AN)->AN) (fun x K=>lfA x fun x=>K (.c x)) (fun l K=>lfsA l fun l=>K (.g l)) x K
theorem kkA_eq (x:KK) (K:KK->AN):kkA x K=K x:=by
 cases x with
 | c x=>exact lfA_eq x (fun x=>K (.c x))
 | g l=>exact lfsA_eq l (fun l=>K (.g l))
noncomputable def kksA (l:List KK):(List KK->AN)->AN:=List.rec (motive:=fun _=>(List KK->AN)->AN) (fun K=>K []) (fun x _ ih K=>kkA x fun x=>ih fun l=>K (x :: l)) l
theorem kksA_eq:∀ (l:List KK) (K:List KK->AN),kksA l K=K l
 | [],_=>rfl
 | x :: l,K=>by
   show (kkA x fun x=>kksA l fun l=>K (x :: l))=_
   rw [kkA_eq,kksA_eq l]
noncomputable def kvA (x:KV) (K:KV->AN):AN:=KV.rec (motive:=fun _=>(KV->AN)->AN) (fun K=>K .u) (fun x K=>kkA x fun x=>K (.k x)) (fun l K=>kksA l fun l=>K (.t l)) x K
theorem kvA_eq (x:KV) (K:KV->AN):kvA x K=K x:=by
 cases x with
 | u=>rfl
 | k x=>exact kkA_eq x (fun x=>K (.k x))
 | t l=>exact kksA_eq l (fun l=>K (.t l))
noncomputable def lfF' (q:Option KV) (f:Nat) (H:Hp Bx) (n:Nat) (K:KtA):AN:=Option.rec (motive:=fun _=>Nat->Hp Bx->Nat->KtA->AN) (fun f _ _ _=>.bad 21 (.ready f)) (fun r _ H n K=>K r H n) q f H n K
noncomputable def zCF (L:Tr ZL) (W U:Nat->Bool) (F:Nat->Option ZF) (D:Tr Leaf) (fuel d:Nat):CtA :=
 Nat.rec (motive:=fun _=>CtA) (fun _ f _ _ _ _=>.bad 20 (.ready f)) (fun _ C m f xs H n K =>
  Option.rec (motive:=fun _=>AN)
   (Option.rec (motive:=fun _=>AN) (.bad 25 (.ready f)) (fun z =>
    Bool.rec (motive:=fun _=>AN) (.bad 24 (.ready f))
     (Bool.rec (motive:=fun _=>AN) (zbodyF C L W m fuel f z xs H n K)
      (Bool.rec (motive:=fun _=>AN) (.bad 27 (.ready f)) (zbodyF C L W 0 fuel f z xs noBox 0 (fun r _ _=>Bool.rec (motive:=fun _=>AN) (.bad 26 (.ready f)) (K r H n) (lowV 0 r))) (lowKs 0 xs)) (U f))
     (Nat.ble (len xs) z.N)) (F f))
   (fun g=>kksA xs fun xs=>lfF' (g xs) f H n K) (D.get f)) d
theorem zCF_eq (L:Tr ZL) (W U:Nat->Bool) (F:Nat->Option ZF) (D:Tr Leaf) (fuel:Nat):∀ d,zCF L W U F D fuel d=zC L W U F D fuel d
 | 0=>rfl
 | d+1=>by
   funext m f xs H n K
   show Option.rec (motive:=fun _=>AN)
    (Option.rec (motive:=fun _=>AN) (.bad 25 (.ready f)) (fun z =>
     Bool.rec (motive:=fun _=>AN) (.bad 24 (.ready f))
      (Bool.rec (motive:=fun _=>AN) (zbodyF (zCF L W U F D fuel d) L W m fuel f z xs H n K)
       (Bool.rec (motive:=fun _=>AN) (.bad 27 (.ready f)) (zbodyF (zCF L W U F D fuel d) L W 0 fuel f z xs noBox 0 (fun r _ _=>Bool.rec (motive:=fun _=>AN) (.bad 26 (.ready f)) (K r H n) (lowV 0 r))) (lowKs 0 xs)) (U f))
      (Nat.ble (len xs) z.N)) (F f))
    (fun g=>kksA xs fun xs=>lfF' (g xs) f H n K) (D.get f)=(match D.get f with
    | some g=>kksF xs fun xs=>Option.rec (.bad 21 (.ready f)) (fun r=>K r H n) (g xs)
    | none =>
      match F f with
      | some z=>bif Nat.ble (len xs) z.N then
          (bif U f then (bif lowKs 0 xs then zbody (zC L W U F D fuel d) L W 0 fuel f z xs noBox 0 (fun r _ _=>bif lowV 0 r then K r H n else .bad 26 (.ready f)) else .bad 27 (.ready f)) else zbody (zC L W U F D fuel d) L W m fuel f z xs H n K)
        else .bad 24 (.ready f)
      | none=>.bad 25 (.ready f))
   rw [zCF_eq L W U F D fuel d]
   cases D.get f with
   | some g =>
     show kksA xs (fun xs=>lfF' (g xs) f H n K)=kksF xs fun xs=>Option.rec (.bad 21 (.ready f)) (fun r=>K r H n) (g xs)
     rw [kksA_eq,kksF_eq]
     unfold lfF'
     cases g xs <;> rfl
   | none =>
     dsimp only
     cases F f with
     | none=>rfl
     | some z =>
       dsimp only
       cases Nat.ble (len xs) z.N with
       | false=>rfl
       | true =>
         dsimp only [cond_true]
         cases U f with
         | false=>exact zbodyF_eq ..
         | true =>
           dsimp only [cond_true]
           cases lowKs 0 xs with
           | false=>rfl
           | true =>
             show zbodyF (zC L W U F D fuel d) L W 0 fuel f z xs noBox 0 _=zbody (zC L W U F D fuel d) L W 0 fuel f z xs noBox 0 _
             rw [zbodyF_eq]
             congr 1
             funext r H' n'
             cases lowV 0 r <;> rfl
end Zc
end Go.Proofs.YtkdjilgddbjcaaaGreat
namespace Go.Proofs.YtkdjilgddbjcaaaGreat
open Go.RowKit
namespace Zc
open Vc (entersB)
noncomputable def leafK (f:Nat):Kt KV:=fun r _ _=>kvA r fun r=>Bool.rec (motive:=fun _=>AN) (.bad 26 (.ready f)) (.ok r) (lowV 0 r)
noncomputable def leafU (L:Tr ZL) (W U:Nat->Bool) (F:Nat->Option ZF) (D:Tr Leaf) (fuel d f:Nat):Leaf:=fun xs =>
 bif lowKs 0 xs then Ans.rec (fun r=>some r) (fun _ _=>none) (zCF L W U F D fuel d 0 f xs noBox 0 (leafK f)) else none
noncomputable def upD (L:Tr ZL) (W U:Nat->Bool) (F:Nat->Option ZF) (fuel d:Nat) (D:Tr Leaf) (l:List Nat):Tr Leaf :=
 List.rec D (fun f _ ih=>ih.put f (some (leafU L W U F D fuel d f))) l
section
variable {P:Program} {L:Tr ZL} {W U:Nat->Bool} {F:Nat->Option ZF} {D:Tr Leaf} {fuel d:Nat}
theorem leafU_ok (hm:P.follows .mixedOrders=true) (hL:TyOK P L) (hF:FunOK P F) (hD:LeafOK P D) {f:Nat} {xs:List KK} {r:KV} (h:leafU L W U F D fuel d f xs=some r) :
    entersB P f=true/\∀ (bm:BM) (w:World) (vs:List Value),relKs bm w xs vs->Calls P f vs.toArray w fun e w'=>∃ v,e=.returned v/\Frame 0 0 (fun _=>none) w w'/\relV bm w' r v:=by
 unfold leafU at h
 cases hx:lowKs 0 xs with
 | false=>rw [hx] at h; cases h
 | true =>
   rw [hx] at h
   rw [zCF_eq] at h
   cases hz:zC L W U F D fuel d 0 f xs noBox 0 (leafK f) with
   | bad a b=>rw [hz] at h; cases h
   | ok y =>
     rw [hz] at h
     have e:y=r:=by simpa using h
     subst e
     obtain ⟨q,hk,hc⟩:=zC_ok hm hL hF hD d _ _ _ _ _ _ _ hz
     unfold leafK at hk
     rw [kvA_eq] at hk
     cases hr:lowV 0 q.r with
     | false=>rw [hr] at hk; cases hk
     | true =>
       rw [hr] at hk
       have e:q.r=y:=by simpa using hk
       subst e
       refine ⟨hc.1,fun bm w vs hrel=>?_⟩
       have hb:∀ (b1 b2:BM) (k:Nat),k < 0->b1 k=b2 k:=fun _ _ k hk=>absurd hk (Nat.not_lt_zero k)
       have ok0:Ok noBox (fun _=>none) w:=⟨fun k b x h1=>(by cases h1),fun k b h1=>(by cases h1),fun k j b x y h1=>(by cases h1)⟩
       obtain ⟨_,hrun⟩:=hc.2 (Nat.le_refl _) (fun k _=>Hp.mk_none k)
       refine (hrun (fun _=>none) w vs ok0 (fun _ _ _=>rfl) (lowKs_rel (hb _ _) hx hrel)).mono ?_
       rintro e w' ⟨v,rfl,bm1,_,f,_,hv⟩
       exact ⟨v,rfl,f,lowV_rel (hb _ _) hr hv⟩
theorem upD_ok (hm:P.follows .mixedOrders=true) (hL:TyOK P L) (hF:FunOK P F) (hD:LeafOK P D):∀ l,LeafOK P (upD L W U F fuel d D l)
 | []=>hD
 | f :: l=>fun f' g xs r hg hr=>by
   have hg':((upD L W U F fuel d D l).put f (some (leafU L W U F D fuel d f))).get f'=some g:=hg
   by_cases e:f'=f
   ·subst e
    have:=Tr.put_eq _ _ _ _ hg'
    have e:leafU L W U F D fuel d f'=g:=by simpa using this
    subst e
    exact leafU_ok hm hL hF hD hr
   ·rw [Tr.put_ne _ _ _ _ e] at hg'
    exact upD_ok hm hL hF hD l f' g xs r hg' hr
end
end Zc
end Go.Proofs.YtkdjilgddbjcaaaGreat
namespace Go.Proofs.YtkdjilgddbjcaaaGreat
open Go.RowKit
namespace Zc
open Vc (entersB AC AK AV Ctr CtrOK Bs Away)
def toAC:LF->Option AC
 | .v x=>some (.v x)
 | .sl l=>some (.sl l)
 | _=>none
def toACs:List LF->Option (List AC)
 | []=>some []
 | x :: l=>(toAC x).bind fun y=>(toACs l).map fun r=>y :: r
def eqK:KK->AK->Prop
 | .c x,.c y=>toAC x=some y
 | .g xs,.g ys=>toACs (flats xs)=some (Vc.flats ys)
 | _,_=>False
def eqKs:List KK->List AK->Prop
 | [],[]=>True
 | x :: l,y :: r=>eqK x y/\eqKs l r
 | _,_=>False
def eqV:KV->AV->Prop
 | .k x,.k y=>eqK x y
 | .t xs,.t ys=>eqKs xs ys
 | _,_=>False
def bs0:Bs:=⟨0,[],[],[]⟩
section
variable {bm:BM} {w:World}
theorem eq1_to {x:LF} {y:AC} {u:Value} (h:toAC x=some y) (k:rel1 bm w x u):Vc.rel1 bs0 w y u:=by
 cases x with
 | v a=>cases h; exact k
 | sl l=>cases h; exact ⟨k,Away.none rfl rfl _ _⟩
 | _=>cases h
theorem eq1_from {x:LF} {y:AC} {u:Value} (h:toAC x=some y) (k:Vc.rel1 bs0 w y u):rel1 bm w x u:=by
 cases x with
 | v a=>cases h; exact k
 | sl l=>cases h; exact k.1
 | _=>cases h
theorem toACs_cons {x:LF} {l:List LF} {ys:List AC} (h:toACs (x :: l)=some ys):∃ y r,ys=y :: r/\toAC x=some y/\toACs l=some r:=by
 unfold toACs at h
 cases hx:toAC x with
 | none=>rw [hx] at h; cases h
 | some y =>
   rw [hx] at h
   cases hl:toACs l with
   | none=>rw [hl] at h; cases h
   | some r =>
     rw [hl] at h
     have e:y :: r=ys:=by simpa using h
     exact ⟨y,r,e.symm,rfl,rfl⟩
theorem eqL_to:∀ {xs:List LF} {ys:List AC} {us:List Value},toACs xs=some ys->relL bm w xs us->Vc.relL bs0 w ys us
 | [],ys,[],h,_=>by cases h; trivial
 | x :: l,ys,u :: us,h,k=>by
   obtain ⟨y,r,rfl,h1,h2⟩:=toACs_cons h
   exact ⟨eq1_to h1 k.1,eqL_to h2 k.2⟩
 | [],_,_ :: _,_,k=>k.elim
 | _ :: _,_,[],_,k=>k.elim
theorem eqL_from:∀ {xs:List LF} {ys:List AC} {us:List Value},toACs xs=some ys->Vc.relL bs0 w ys us->relL bm w xs us
 | [],ys,us,h,k=>by
   cases h
   match us,k with
   | [],_=>trivial
 | x :: l,ys,us,h,k=>by
   obtain ⟨y,r,rfl,h1,h2⟩:=toACs_cons h
   match us,k with
   | u :: us,k=>exact ⟨eq1_from h1 k.1,eqL_from h2 k.2⟩
theorem eqK_to {x:KK} {y:AK} {u:Value} (h:eqK x y) (k:relK bm w x u):Vc.relK bs0 w y u:=by
 cases x with
 | c x =>
   cases y with
   | c y=>exact eq1_to h k
   | g ys=>exact h.elim
 | g xs =>
   cases y with
   | c y=>exact h.elim
   | g ys =>
     obtain ⟨us,rfl,k⟩:=k
     exact ⟨us,rfl,eqL_to h k⟩
theorem eqK_from {x:KK} {y:AK} {u:Value} (h:eqK x y) (k:Vc.relK bs0 w y u):relK bm w x u:=by
 cases x with
 | c x =>
   cases y with
   | c y=>exact eq1_from h k
   | g ys=>exact h.elim
 | g xs =>
   cases y with
   | c y=>exact h.elim
   | g ys =>
     obtain ⟨us,rfl,k⟩:=k
     exact ⟨us,rfl,eqL_from h k⟩
theorem eqKs_to:∀ {xs:List KK} {ys:List AK} {us:List Value},eqKs xs ys->relKs bm w xs us->Vc.relKs bs0 w ys us
 | [],[],[],_,_=>trivial
 | _ :: _,_ :: _,_ :: _,h,k=>⟨eqK_to h.1 k.1,eqKs_to h.2 k.2⟩
 | [],_ :: _,_,h,_=>h.elim
 | _ :: _,[],_,h,_=>h.elim
 | [],[],_ :: _,_,k=>k.elim
 | _ :: _,_ :: _,[],_,k=>k.elim
theorem eqKs_from:∀ {xs:List KK} {ys:List AK} {us:List Value},eqKs xs ys->Vc.relKs bs0 w ys us->relKs bm w xs us
 | [],[],[],_,_=>trivial
 | _ :: _,_ :: _,_ :: _,h,k=>⟨eqK_from h.1 k.1,eqKs_from h.2 k.2⟩
 | [],_ :: _,_,h,_=>h.elim
 | _ :: _,[],_,h,_=>h.elim
 | [],[],_ :: _,_,k=>k.elim
 | _ :: _,_ :: _,[],_,k=>k.elim
theorem eqV_from {x:KV} {y:AV} {u:Value} (h:eqV x y) (k:Vc.relV bs0 w y u):relV bm w x u:=by
 cases x with
 | u=>trivial
 | k x =>
   cases y with
   | k y=>exact eqK_from h k
   | u=>exact h.elim
   | t ys=>exact h.elim
 | t xs =>
   cases y with
   | t ys =>
     obtain ⟨us,rfl,k⟩:=k
     exact ⟨us,rfl,eqKs_from h k⟩
   | u=>exact h.elim
   | k y=>exact h.elim
end
def Leaf1 (P:Program) (f:Nat) (g:Leaf):Prop:=∀ xs r,g xs=some r->entersB P f=true/\∀ (bm:BM) (w:World) (vs:List Value),relKs bm w xs vs->Calls P f vs.toArray w fun e w'=>∃ v,e=.returned v/\Frame 0 0 (fun _=>none) w w'/\relV bm w' r v
theorem leaf_of {P:Program} {c:Ctr} (hc:CtrOK P c) {f:Nat} (hf:c.f=f) {xs:List KK} {ys:List AK} {pre:Prop} {r:KV} {r':AV} (hx:eqKs xs ys) (hs:c.sp ys=.yes pre r') (hp:pre) (hr:eqV r r') :
    entersB P f=true/\∀ (bm:BM) (w:World) (vs:List Value),relKs bm w xs vs->Calls P f vs.toArray w fun e w'=>∃ v,e=.returned v/\Frame 0 0 (fun _=>none) w w'/\relV bm w' r v:=by
 subst hf
 refine ⟨hc.ent,fun bm w vs hrel=>(hc.yes bs0 w ys vs pre r' (eqKs_to hx hrel) rfl rfl hs hp).mono ?_⟩
 rintro e w' ⟨v,rfl,hex,hv⟩
 exact ⟨v,rfl,Frame.of_ext hex,eqV_from hr hv⟩
noncomputable def mkD (l:List (Nat × Leaf)):Tr Leaf:=List.rec (Tr.mk none 10) (fun p _ ih=>ih.put p.1 (some p.2)) l
theorem mkD_ok {P:Program}:∀ {l:List (Nat × Leaf)},(∀ p ∈ l,Leaf1 P p.1 p.2)->LeafOK P (mkD l)
 | [],_=>fun f g xs r hg _=>by
   have hg':(Tr.mk none 10:Tr Leaf).get f=some g:=hg
   rw [Tr.mk_none] at hg'
   cases hg'
 | p :: l,h=>fun f g xs r hg hr=>by
   have hg':((mkD l).put p.1 (some p.2)).get f=some g:=hg
   by_cases e:f=p.1
   ·subst e
    have:=Tr.put_eq _ _ _ _ hg'
    have e:p.2=g:=by simpa using this
    subst e
    exact h p (List.mem_cons_self ..) xs r hr
   ·rw [Tr.put_ne _ _ _ _ e] at hg'
    exact mkD_ok (fun q hq=>h q (List.mem_cons_of_mem _ hq)) f g xs r hg' hr
end Zc
end Go.Proofs.YtkdjilgddbjcaaaGreat
