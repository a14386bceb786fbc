import Derived.Test.YtbohkigffejhoaaGreatR27
import Derived.Test.YtbohkigffejhoaaGreatR16
import Derived.LoopN
open Option.some (injEq)
noncomputable section
namespace Go.Proofs.YtbohkigffejhoaaGreat
open Go.RowKit
namespace Zc
open Vc (a1G a6i a7T a0B)
section
variable {α:Type} {P:Program} {L:Tr ZL} {W:Nat->Bool} {m N:Nat}
abbrev Kc (α:Type):=Exit->Fr KV->Hp Bx->Nat->Ans α
def a5o (C:Ct α) (L:Tr ZL) (W:Nat->Bool) (N m fuel:Nat) (c:Code):Fr KV->Hp Bx->Nat->Kc α->Ans α :=
 Code.rec (motive:=fun _=>Fr KV->Hp Bx->Nat->Kc α->Ans α)
  (fun tm H n K=>K .normal tm H n)
  (fun _ ops draw tm H n K=>aCv C L W N m ops.toList draw tm H n K)
  (fun _ _ ia ib tm H n K=>ia tm H n fun e tm H n=>match e with | .normal=>ib tm H n K | e=>K e tm H n)
  (fun c _ _ ia ib tm H n K=>match evO tm c with | .k (.c (.v (.bool b)))=>bif b then ia tm H n K else ib tm H n K | _=>.bad 11 (.ready 0))
  (fun id _ ia tm H n K=>ia tm H n fun e tm H n=>match e with | .exit j=>bif Nat.beq j id then K .normal tm H n else K (.exit j) tm H n | e=>K e tm H n)
  (fun _ ia tm H n K=>Nat.rec (fun _ _ _=>.bad 12 (.ready 0)) (fun _ ih tm H n=>ia tm H n fun e tm H n=>match e with | .normal=>ih tm H n | e=>K e tm H n) fuel tm H n)
  (fun _ _ _ _ _ _ _ _ _ _=>.bad 13 (.ready 0))
  (fun id tm H n K=>K (.exit id) tm H n)
  (fun _ _ _ _ _ _=>.bad 14 (.ready 0))
  (fun _ _ _ _ _=>.bad 15 (.ready 0))
  (fun _ _ _ _ _=>.bad 16 (.ready 0))
  (fun tm H n K=>K .ret tm H n)
  (fun _ _ _ _ _=>.bad 17 (.ready 0)) c
def b0y (C:Ct α) (L:Tr ZL) (W:Nat->Bool) (N m fuel:Nat) (c:Code) (K:Kc α) (f:Nat):Fr KV->Hp Bx->Nat->Ans α :=
 Nat.rec (fun _ _ _=>.bad 12 (.ready 0)) (fun _ ih tm H n=>a5o C L W N m fuel c tm H n fun e tm H n=>match e with | .normal=>ih tm H n | e=>K e tm H n) f
def b3m (P:Program) (N m f:Nat) (c:Code) (tm:Fr KV) (H:Hp Bx) (n:Nat) (e:Exit) (tm':Fr KV) (H':Hp Bx) (n':Nat):Prop :=
 m <= n->Low H n->Stat m H n H' n'/\∀ (bm:BM) (a:Act) (w:World) (Q:Exit->Act->World->Prop),Rz N tm H bm a w->Room bm n n' ->
   (∀ bm' a' w',Rz N tm' H' bm' a' w'->Grow m n n' w bm bm'->Frame m n bm w w'->Q e a' w')->Code.rounds P c Q f a w
theorem a4O (hm:P.follows .mixedOrders=true) (hL:a5q P L) {C:Ct α} (hC:a5n P C) {fuel:Nat}:∀ (c:Code) {tm:Fr KV} {H:Hp Bx} {n:Nat} {K:Kc α} {y:α},a5o C L W N m fuel c tm H n K=.ok y ->
    ∃ e tm' H' n',K e tm' H' n'=.ok y/\aWG P N m c tm H n e tm' H' n'
 | .skip,tm,H,n,K,y,h=>⟨.normal,tm,H,n,h,fun _ hl=>⟨Stat.refl hl,fun bm a w Q hR _ hQ=>wp_skip (hQ bm a w hR (Grow.refl ..) (Frame.refl ..))⟩⟩
 | .region id ops draw,tm,H,n,K,y,h=>aL7 hm hL hC h
 | .seq a b,tm,H,n,K,y,h=>by
   have h':a5o C L W N m fuel a tm H n (fun e tm H n=>match e with | .normal=>a5o C L W N m fuel b tm H n K | e=>K e tm H n)=.ok y:=h;obtain ⟨e,tm1,H1,n1,k1,c1⟩:=a4O hm hL hC a h'
   cases e with
   | normal =>
     obtain ⟨e,tm2,H2,n2,k2,c2⟩:=a4O hm hL hC b k1;refine ⟨e,tm2,H2,n2,k2,fun hmn hl=>?_⟩;obtain ⟨s1,r1⟩:=c1 hmn hl;obtain ⟨s2,r2⟩:=c2 (Nat.le_trans hmn s1.le) s1.low;refine ⟨s1.trans s2,fun bm a w Q hR hroom hQ=>wp_seq (r1 bm a w _ hR (hroom.left s2.le) fun bm1 a1 w1 hR1 g1 f1=>?_)⟩
     exact r2 bm1 a1 w1 Q hR1 (hroom.right s1.le g1) fun bm' a' w' hR' g' f'=>hQ bm' a' w' hR' (g1.trans f1.le g') (Frame.trans g1 f1 f')
   | _ =>
     refine ⟨_,tm1,H1,n1,k1,fun hmn hl=>?_⟩;obtain ⟨s1,r1⟩:=c1 hmn hl
     exact ⟨s1,fun bm a w Q hR hroom hQ=>wp_seq (r1 bm a w _ hR hroom fun bm1 a1 w1 hR1 g1 f1=>hQ bm1 a1 w1 hR1 g1 f1)⟩
 | .cond c a b,tm,H,n,K,y,h=>by
   have h':(match evO tm c with | .k (.c (.v (.bool b')))=>bif b' then a5o C L W N m fuel a tm H n K else a5o C L W N m fuel b tm H n K | _=>.bad 11 (.ready 0))=.ok y:=h
   split at h' <;> try (cases h'; done)
   rename_i t ht
   cases t with
   | true =>
     obtain ⟨e,tm1,H1,n1,k1,c1⟩:=a4O hm hL hC a h';refine ⟨e,tm1,H1,n1,k1,fun hmn hl=>?_⟩;obtain ⟨s1,r1⟩:=c1 hmn hl;refine ⟨s1,fun bm a w Q hR hroom hQ=>?_⟩;have hv:=hR.ev c;rw [ht] at hv
     exact wp_cond (t:=true) hv.1 (r1 bm a w Q hR hroom hQ)
   | false =>
     obtain ⟨e,tm1,H1,n1,k1,c1⟩:=a4O hm hL hC b h';refine ⟨e,tm1,H1,n1,k1,fun hmn hl=>?_⟩;obtain ⟨s1,r1⟩:=c1 hmn hl;refine ⟨s1,fun bm a w Q hR hroom hQ=>?_⟩;have hv:=hR.ev c;rw [ht] at hv
     exact wp_cond (t:=false) hv.1 (r1 bm a w Q hR hroom hQ)
 | .block id c,tm,H,n,K,y,h=>by
   have h':a5o C L W N m fuel c tm H n (fun e tm H n=>match e with | .exit j=>bif Nat.beq j id then K .normal tm H n else K (.exit j) tm H n | e=>K e tm H n)=.ok y:=h;obtain ⟨e,tm1,H1,n1,k1,c1⟩:=a4O hm hL hC c h'
   cases e with
   | exit j =>
     simp only at k1
     cases hj:Nat.beq j id with
     | true =>
       rw [hj] at k1;refine ⟨_,tm1,H1,n1,k1,fun hmn hl=>?_⟩;obtain ⟨s1,r1⟩:=c1 hmn hl;refine ⟨s1,fun bm a w Q hR hroom hQ=>wp_block (r1 bm a w _ hR hroom fun bm1 a1 w1 hR1 g1 f1=>?_)⟩;simp only [Exit.inBlock,a0l hj,if_true]
       exact hQ bm1 a1 w1 hR1 g1 f1
     | false =>
       rw [hj] at k1;refine ⟨_,tm1,H1,n1,k1,fun hmn hl=>?_⟩;obtain ⟨s1,r1⟩:=c1 hmn hl;refine ⟨s1,fun bm a w Q hR hroom hQ=>wp_block (r1 bm a w _ hR hroom fun bm1 a1 w1 hR1 g1 f1=>?_)⟩;simp only [Exit.inBlock,a7Z hj,if_false]
       exact hQ bm1 a1 w1 hR1 g1 f1
   | _ =>
     refine ⟨_,tm1,H1,n1,k1,fun hmn hl=>?_⟩;obtain ⟨s1,r1⟩:=c1 hmn hl
     exact ⟨s1,fun bm a w Q hR hroom hQ=>wp_block (r1 bm a w _ hR hroom fun bm1 a1 w1 hR1 g1 f1=>hQ bm1 a1 w1 hR1 g1 f1)⟩
 | .loop c,tm,H,n,K,y,h=>by
   have key:∀ (f:Nat) (tm:Fr KV) (H:Hp Bx) (n:Nat),b0y C L W N m fuel c K f tm H n=.ok y->∃ e tm' H' n',K e tm' H' n'=.ok y/\b3m P N m f c tm H n e tm' H' n':=by
    intro f
    induction f with
    | zero=>intro tm H n h; cases h
    | succ f ih =>
      intro tm H n h;have h':a5o C L W N m fuel c tm H n (fun e tm H n=>match e with | .normal=>b0y C L W N m fuel c K f tm H n | e=>K e tm H n)=.ok y:=h;obtain ⟨e,tm1,H1,n1,k1,c1⟩:=a4O hm hL hC c h'
      cases e with
      | normal =>
        obtain ⟨e,tm2,H2,n2,k2,c2⟩:=ih _ _ _ k1;refine ⟨e,tm2,H2,n2,k2,fun hmn hl=>?_⟩;obtain ⟨s1,r1⟩:=c1 hmn hl;obtain ⟨s2,r2⟩:=c2 (Nat.le_trans hmn s1.le) s1.low;refine ⟨s1.trans s2,fun bm a w Q hR hroom hQ=>r1 bm a w _ hR (hroom.left s2.le) fun bm1 a1 w1 hR1 g1 f1=>?_⟩
        exact r2 bm1 a1 w1 Q hR1 (hroom.right s1.le g1) fun bm' a' w' hR' g' f'=>hQ bm' a' w' hR' (g1.trans f1.le g') (Frame.trans g1 f1 f')
      | _ =>
        refine ⟨_,tm1,H1,n1,k1,fun hmn hl=>?_⟩;obtain ⟨s1,r1⟩:=c1 hmn hl;exact ⟨s1,fun bm a w Q hR hroom hQ=>r1 bm a w _ hR hroom fun bm1 a1 w1 hR1 g1 f1=>hQ bm1 a1 w1 hR1 g1 f1⟩
   obtain ⟨e,tm1,H1,n1,k1,c1⟩:=key fuel tm H n h;refine ⟨e,tm1,H1,n1,k1,fun hmn hl=>?_⟩;obtain ⟨s1,r1⟩:=c1 hmn hl
   exact ⟨s1,fun bm a w Q hR hroom hQ=>wp_loop_rounds fuel (r1 bm a w Q hR hroom hQ)⟩
 | .exit id,tm,H,n,K,y,h=>⟨.exit id,tm,H,n,h,fun _ hl=>⟨Stat.refl hl,fun bm a w Q hR _ hQ=>wp_exit (hQ bm a w hR (Grow.refl ..) (Frame.refl ..))⟩⟩
 | .ret,tm,H,n,K,y,h=>⟨.ret,tm,H,n,h,fun _ hl=>⟨Stat.refl hl,fun bm a w Q hR _ hQ=>wp_ret (hQ bm a w hR (Grow.refl ..) (Frame.refl ..))⟩⟩
 | .rangeFunc _ _ _ _,_,_,_,_,_,h=>by cases h
 | .scope _,_,_,_,_,_,h=>by cases h
 | .label _,_,_,_,_,_,h=>by cases h
 | .goto _,_,_,_,_,_,h=>by cases h
 | .refuse _,_,_,_,_,_,h=>by cases h
def aNV (L:Tr ZL) (tm:Fr KV) (H:Hp Bx) (r:ResultVar):Option KK :=
 match r with
 | .tmp t =>
   match tm.get t with
   | some (.k x)=>some x
   | _=>none
 | .cell t T =>
   match tm.get t with
   | some (.k (.c (.p k off))) =>
     match a9A L H T (.k (.c (.p k off))) with
     | some (.k x)=>some x
     | _=>none
   | _=>none
def aL6 (L:Tr ZL) (tm:Fr KV) (H:Hp Bx) (l:List ResultVar):Option (List KK) :=
 List.rec (some []) (fun r _ ih=>match aNV L tm H r with | some x=>Option.rec none (fun l=>some (x :: l)) ih | none=>none) l
def aNW (L:Tr ZL) (tm:Fr KV) (H:Hp Bx) (l:List ResultVar):Option KV :=
 match aL6 L tm H l with
 | some [x]=>some (.k x)
 | some xs=>some (.t xs)
 | none=>none
theorem aNU (hL:a5q P L) {tm:Fr KV} {H:Hp Bx} {bm:BM} {a:Act} {w:World} (hR:Rz N tm H bm a w) {r:ResultVar} {x:KK} (h:aNV L tm H r=some x):∃ v,(a6i a.tmps r).run P w=.ok v w/\relK bm w x v:=by
 cases r with
 | tmp t =>
   simp only [aNV] at h
   split at h <;> try (cases h; done)
   rename_i x' ht;simp only [injEq] at h;subst h
   exact ⟨_,rfl,hR.tmp t _ ht⟩
 | cell t T =>
   simp only [aNV] at h
   split at h <;> try (cases h; done)
   rename_i k off hz
   split at h <;> try (cases h; done)
   rename_i x' hx;simp only [injEq] at h;subst h;have hv:=hR.tmp t _ hz;simp only [a9A] at hx
   split at hx <;> try (cases hx; done)
   rename_i l hl
   split at hx <;> try (cases hx; done)
   rename_i b hb
   split at hx <;> try (cases hx; done)
   rename_i cs hc;obtain ⟨g,hg,hv⟩:=hv;obtain ⟨vs,rs,h1,h2⟩:=hR.ok.box k g b hg hb;obtain ⟨e1,e2,e3⟩:=a4I hc;have hvl:=h2.len
   have hrel:relL bm w (a0d cs) ((vs.drop off).take l.size):=by rw [e1]; exact (h2.drop off).take _
   have hrange:w.rangeAt g off ((vs.drop off).take l.size):=by
    have:=a0B (w:=w) (b:=g) (vs:=vs ++ rs) (T:=b.T) (fz:=(0,0)) h1 off l.size;rw [List.drop_append_of_le_length (by omega),List.take_append_of_le_length (by rw [List.length_drop]; omega)] at this;exact this
   refine ⟨_,?_,a3A hx hrel⟩;have:=a6L (P:=P) (hL T l hl) g off w _ (by rw [<- hrel.len,e3]) hrange;simp only [Instr.loadAt,Instr.sureAddr,Sem.run_bind,Sem.run_pure,Result.andThen_ok] at this;simp only [a6i,hv,asAddr,Sem.run_bind,Sem.run_pure,Result.andThen_ok];exact this
theorem aEt (hL:a5q P L) {tm:Fr KV} {H:Hp Bx} {bm:BM} {a:Act} {w:World} (hR:Rz N tm H bm a w):∀ {l:List ResultVar} {xs:List KK},aL6 L tm H l=some xs->∃ vs:List Value,(l.mapM (a6i a.tmps)).run P w=.ok vs w/\relKs bm w xs vs
 | [],xs,h=>by
   have e:[]=xs:=by simpa [aL6] using h
   subst e
   exact ⟨[],by simp,trivial⟩
 | r :: l,xs,h=>by
   have h':(match aNV L tm H r with | some x=>Option.rec none (fun l=>some (x :: l)) (aL6 L tm H l) | none=>none)=some xs:=h
   split at h' <;> try (cases h'; done)
   rename_i x hx
   cases hl:aL6 L tm H l with
   | none=>rw [hl] at h'; cases h'
   | some ys =>
     rw [hl] at h'
     have e:x :: ys=xs:=by simpa using h'
     subst e;obtain ⟨v,h1,h2⟩:=aNU hL hR hx;obtain ⟨vs,h3,h4⟩:=aEt hL hR hl;exact ⟨v :: vs,by simp [List.mapM_cons,h1,h3],h2,h4⟩
theorem aSO (hL:a5q P L) {tm:Fr KV} {H:Hp Bx} {bm:BM} {a:Act} {w:World} (hR:Rz N tm H bm a w) {fn:Func} {x:KV} (h:aNW L tm H fn.results.toList=some x):∃ v,(results fn a.tmps).run P w=.ok v w/\relV bm w x v:=by
 unfold aNW at h
 have key:∀ xs,aL6 L tm H fn.results.toList=some xs->∃ vs:List Value,(fn.results.mapM (a6i a.tmps)).run P w=.ok vs.toArray w/\relKs bm w xs vs:=fun xs hx=>by
  obtain ⟨vs,h1,h2⟩:=aEt hL hR hx;refine ⟨vs,?_,h2⟩;rw [Array.mapM_eq_mapM_toList];simp [h1]
 rw [a7T];split at h
 ·rename_i y hy;simp only [injEq] at h;subst h;obtain ⟨vs,h1,h2⟩:=key _ hy
  match vs,h2 with
  | [v],h2=>exact ⟨v,by simp [h1],h2.1⟩
 ·rename_i xs hne hy;simp only [injEq] at h;subst h;obtain ⟨vs,h1,h2⟩:=key _ hy;refine ⟨.tuple vs.toArray,?_,vs,rfl,h2⟩;have hl:=h2.len
  have:¬ vs.length=1:=by
   intro e;rw [e] at hl
   match xs,hl with
   | [y],_=>exact hne y rfl
  simp [h1,this]
 ·cases h
structure ZF where
 body:Code
 N:Nat
 res:List ResultVar
structure aEh (P:Program) (F:Nat->Option ZF):Prop where
 ok:∀ f z,F f=some z->∃ fn,P.funcs[f]?=some fn/\fn.body=some z.body/\fn.ntmps=z.N/\fn.results.toList=z.res/\a1G P f=true
def zf (fn:Func):ZF:=⟨fn.body.getD .skip,fn.ntmps,fn.results.toList⟩
def aWO (P:Program) (f:Nat):Option ZF:=bif a1G P f then Option.rec none (fun fn=>some (zf fn)) P.funcs[f]? else none
theorem aST (P:Program):aEh P (aWO P):=⟨fun f z h=>by
 unfold aWO at h
 cases he:a1G P f with
 | false=>rw [he] at h; cases h
 | true =>
   rw [he] at h;simp only [cond_true] at h
   cases hf:P.funcs[f]? with
   | none=>rw [hf] at h; cases h
   | some fn =>
     rw [hf] at h
     have e:zf fn=z:=by simpa using h
     subst e;refine ⟨fn,rfl,?_,rfl,rfl,rfl⟩;unfold a1G at he;rw [hf] at he;simp only [Bool.and_eq_true,Bool.not_eq_true'] at he
     cases hb:fn.body with
     | none=>rw [hb] at he; simp at he
     | some c=>simp [zf,hb]⟩
abbrev a4p:=List KK->Option KV
def LeafOK (P:Program) (D:Tr a4p):Prop:=∀ f g xs r,D.get f=some g->g xs=some r->QuietOK P f xs r
def aS0 (xs:List KK):Nat->Fr KV->Fr KV:=List.rec (fun _ tm=>tm) (fun x _ ih i tm=>ih (Nat.succ i) (tm.put i (some (.k x)))) xs
theorem aEz:∀ (xs:List KK) (i:Nat) (tm:Fr KV) (t:Nat) (x:KV),(aS0 xs i tm).get t=some x->tm.get t=some x \/ ∃ y,i <= t/\xs[t - i]?=some y/\x=.k y
 | [],i,tm,t,x,h=>.inl h
 | z :: xs,i,tm,t,x,h=>by
   rcases aEz xs (i+1) (tm.put i (some (.k z))) t x h with h | ⟨y,h1,h2,h3⟩
   ·by_cases hti:t=i
    ·subst hti;have:=Fr.put_eq _ _ _ _ h;exact .inr ⟨z,Nat.le_refl _,by simp,by simpa using this.symm⟩
    ·rw [Fr.put_ne _ _ _ _ hti] at h;exact .inl h
   ·refine .inr ⟨y,by omega,?_,h3⟩
    have e:t - i=(t - (i+1))+1:=by omega
    rw [e];simpa using h2
def aSY (C:Ct α) (L:Tr ZL) (W:Nat->Bool) (m fuel f:Nat) (z:ZF) (xs:List KK) (H:Hp Bx) (n:Nat) (K:Kt α):Ans α :=
 a5o C L W z.N m fuel z.body (aS0 xs 0 Fr.mk0) H n fun e tm H n =>
  match e with
  | .normal=>Option.rec (.bad 22 (.ready f)) (fun r=>K r H n) (aNW L tm H z.res)
  | .ret=>Option.rec (.bad 22 (.ready f)) (fun r=>K r H n) (aNW L tm H z.res)
  | _=>.bad 23 (.ready f)
theorem aSX (hm:P.follows .mixedOrders=true) (hL:a5q P L) {C:Ct α} (hC:a5n P C) {F:Nat->Option ZF} (hF:aEh P F) {fuel f:Nat} {z:ZF} (hz:F f=some z) {xs:List KK} (hle:xs.length <= z.N) {H:Hp Bx} {n:Nat} {K:Kt α} {y:α} (h:aSY C L W m fuel f z xs H n K=.ok y):∃ q:Res,K q.r q.H q.n=.ok y/\CallOK P m f xs H n q:=by
 obtain ⟨fn,hf1,hf2,hf3,hf4,hf5⟩:=hF.ok f z hz;unfold aSY at h;obtain ⟨e,tm',H',n',k1,c1⟩:=a4O (N:=z.N) (m:=m) hm hL hC z.body h
 have fin:∀ (r:KV),aNW L tm' H' z.res=some r->K r H' n'=.ok y->(e=.normal \/ e=.ret)->∃ q:Res,K q.r q.H q.n=.ok y/\CallOK P m f xs H n q:=fun r hr hk he=>by
  refine ⟨⟨r,H',n'⟩,hk,hf5,fun hmn hl=>?_⟩;obtain ⟨s1,r1⟩:=c1 hmn hl;refine ⟨s1,fun bm w vs ok hroom hx=>calls_of_wp hf1 hf2 ?_⟩;have hxl:=hx.len
  have hR:Rz z.N (aS0 xs 0 Fr.mk0) H bm { tmps:=vs.toArray ++ Array.replicate (fn.ntmps - vs.toArray.size) undef,defers:=[] } w:=by
   refine ⟨ok,fun t x ht=>?_,by simp [hf3]; omega,rfl⟩
   rcases aEz xs 0 _ t x ht with h | ⟨y',_,h2,rfl⟩
   ·rw [Fr.mk_none] at h; cases h
   ·rw [Nat.sub_zero] at h2;obtain ⟨u,u1,u2⟩:=hx.get h2;have hlt':t < vs.length:=(List.getElem?_eq_some_iff.1 u1).1
    have e:(vs.toArray ++ Array.replicate (fn.ntmps - vs.toArray.size) undef).getD t undef=u:=by
     have hu:vs[t]=u:=by simpa [hlt'] using u1
     simp [Array.getD_eq_getD_getElem?,Array.getElem?_append,hlt',hu]
    show relV bm w (.k y') ((vs.toArray ++ Array.replicate (fn.ntmps - vs.toArray.size) undef).getD t undef);rw [e];exact u2
  refine r1 bm _ w _ hR hroom fun bm' a' w' hR' g' f'=>?_;rw [<- hf4] at hr;obtain ⟨v,v1,v2⟩:=aSO hL hR' hr;rcases he with rfl | rfl
  ·exact ⟨hR'.dfr,v,v1,v,rfl,bm',g',f',hR'.ok,v2⟩
  ·exact ⟨hR'.dfr,v,v1,v,rfl,bm',g',f',hR'.ok,v2⟩
 cases e with
 | normal =>
   simp only at k1
   cases hr:aNW L tm' H' z.res with
   | none=>rw [hr] at k1; cases k1
   | some r=>rw [hr] at k1; exact fin r hr k1 (.inl rfl)
 | ret =>
   simp only at k1
   cases hr:aNW L tm' H' z.res with
   | none=>rw [hr] at k1; cases k1
   | some r=>rw [hr] at k1; exact fin r hr k1 (.inr rfl)
 | _=>cases k1
end
abbrev AN:=Ans KV
abbrev HB0:=Option Bx
abbrev HB1:=N8 HB0
abbrev HB2:=N8 HB1
abbrev HB3:=N8 HB2
abbrev HB4:=N8 HB3
abbrev HB5:=N8 HB4
abbrev HK0:=Option KV
abbrev HK1:=N8 HK0
abbrev HK2:=N8 HK1
abbrev HK3:=N8 HK2
def sel1 (d:D8) (t:HK1):HK0:=@D8.rec (fun _=>HK1->HK0) (·.a0) (·.a1) (·.a2) (·.a3) (·.a4) (·.a5) (·.a6) (·.a7) d t
def sel2 (d:D8) (t:HK2):HK1:=@D8.rec (fun _=>HK2->HK1) (·.a0) (·.a1) (·.a2) (·.a3) (·.a4) (·.a5) (·.a6) (·.a7) d t
def sel3 (d:D8) (t:HK3):HK2:=@D8.rec (fun _=>HK3->HK2) (·.a0) (·.a1) (·.a2) (·.a3) (·.a4) (·.a5) (·.a6) (·.a7) d t
def seh1 (d:D8) (t:HB1):HB0:=@D8.rec (fun _=>HB1->HB0) (·.a0) (·.a1) (·.a2) (·.a3) (·.a4) (·.a5) (·.a6) (·.a7) d t
def seh2 (d:D8) (t:HB2):HB1:=@D8.rec (fun _=>HB2->HB1) (·.a0) (·.a1) (·.a2) (·.a3) (·.a4) (·.a5) (·.a6) (·.a7) d t
def seh3 (d:D8) (t:HB3):HB2:=@D8.rec (fun _=>HB3->HB2) (·.a0) (·.a1) (·.a2) (·.a3) (·.a4) (·.a5) (·.a6) (·.a7) d t
def seh4 (d:D8) (t:HB4):HB3:=@D8.rec (fun _=>HB4->HB3) (·.a0) (·.a1) (·.a2) (·.a3) (·.a4) (·.a5) (·.a6) (·.a7) d t
def seh5 (d:D8) (t:HB5):HB4:=@D8.rec (fun _=>HB5->HB4) (·.a0) (·.a1) (·.a2) (·.a3) (·.a4) (·.a5) (·.a6) (·.a7) d t
def b69 (t:Fr KV) (i:Nat):HK0:=P3.rec (motive:=fun _=>Fr KV->HK0) (fun _=>none) (fun a b c t=>sel1 c (sel2 b (sel3 a t))) (pt3 i) t
def b4P (t:Fr Bx) (i:Nat):HB0:=P3.rec (motive:=fun _=>Fr Bx->HB0) (fun _=>none) (fun a b c t=>seh1 c (seh2 b (seh3 a t))) (pt3 i) t
def b2b (t:Hp Bx) (i:Nat):HB0:=P2.rec (motive:=fun _=>Nat->Hp Bx->HB0) (fun _ _=>none) (fun a b j t=>b4P (seh4 b (seh5 a t)) j) (pt2 i) (Nat.mod i 512) t
theorem aQw (t:Hp Bx) (i:Nat):b2b t i=Hp.get t i:=rfl
def evF (x:Operand) (tm:Fr KV):KV:=Operand.rec (motive:=fun _=>Fr KV->KV) (fun t tm=>Option.rec (motive:=fun _=>KV) .u (fun x=>x) (b69 tm t)) (fun v _=>evC v) (fun _ _=>.u) (fun f _=>.k (.c (.fn f []))) x tm
theorem a3v (x:Operand) (tm:Fr KV):evF x tm=evO tm x:=by cases x <;> rfl
abbrev M1:=HK0->(HK1->AN)->AN
abbrev M2:=D8->HK0->(HK2->AN)->AN
abbrev M3:=D8->D8->HK0->(Fr KV->AN)->AN
def up1 (c:D8) (t:HK1):M1:=@D8.rec (fun _=>HK1->M1) (@N8.rec _ (fun _=>M1) fun _ b c d e f g h x K=>K ⟨x,b,c,d,e,f,g,h⟩) (@N8.rec _ (fun _=>M1) fun a _ c d e f g h x K=>K ⟨a,x,c,d,e,f,g,h⟩) (@N8.rec _ (fun _=>M1) fun a b _ d e f g h x K=>K ⟨a,b,x,d,e,f,g,h⟩) (@N8.rec _ (fun _=>M1) fun a b c _ e f g h x K=>K ⟨a,b,c,x,e,f,g,h⟩) (@N8.rec _ (fun _=>M1) fun a b c d _ f g h x K=>K ⟨a,b,c,d,x,f,g,h⟩) (@N8.rec _ (fun _=>M1) fun a b c d e _ g h x K=>K ⟨a,b,c,d,e,x,g,h⟩) (@N8.rec _ (fun _=>M1) fun a b c d e f _ h x K=>K ⟨a,b,c,d,e,f,x,h⟩) (@N8.rec _ (fun _=>M1) fun a b c d e f g _ x K=>K ⟨a,b,c,d,e,f,g,x⟩) c t
def up2 (b:D8) (t:HK2):M2:=@D8.rec (fun _=>HK2->M2) (@N8.rec _ (fun _=>M2) fun a b c d e f g h v x K=>up1 v a x fun y=>K ⟨y,b,c,d,e,f,g,h⟩) (@N8.rec _ (fun _=>M2) fun a b c d e f g h v x K=>up1 v b x fun y=>K ⟨a,y,c,d,e,f,g,h⟩) (@N8.rec _ (fun _=>M2) fun a b c d e f g h v x K=>up1 v c x fun y=>K ⟨a,b,y,d,e,f,g,h⟩) (@N8.rec _ (fun _=>M2) fun a b c d e f g h v x K=>up1 v d x fun y=>K ⟨a,b,c,y,e,f,g,h⟩) (@N8.rec _ (fun _=>M2) fun a b c d e f g h v x K=>up1 v e x fun y=>K ⟨a,b,c,d,y,f,g,h⟩) (@N8.rec _ (fun _=>M2) fun a b c d e f g h v x K=>up1 v f x fun y=>K ⟨a,b,c,d,e,y,g,h⟩) (@N8.rec _ (fun _=>M2) fun a b c d e f g h v x K=>up1 v g x fun y=>K ⟨a,b,c,d,e,f,y,h⟩) (@N8.rec _ (fun _=>M2) fun a b c d e f g h v x K=>up1 v h x fun y=>K ⟨a,b,c,d,e,f,g,y⟩) b t
def up3 (a:D8) (t:Fr KV):M3:=@D8.rec (fun _=>Fr KV->M3) (@N8.rec _ (fun _=>M3) fun a b c d e f g h u v x K=>up2 u a v x fun y=>K ⟨y,b,c,d,e,f,g,h⟩) (@N8.rec _ (fun _=>M3) fun a b c d e f g h u v x K=>up2 u b v x fun y=>K ⟨a,y,c,d,e,f,g,h⟩) (@N8.rec _ (fun _=>M3) fun a b c d e f g h u v x K=>up2 u c v x fun y=>K ⟨a,b,y,d,e,f,g,h⟩) (@N8.rec _ (fun _=>M3) fun a b c d e f g h u v x K=>up2 u d v x fun y=>K ⟨a,b,c,y,e,f,g,h⟩) (@N8.rec _ (fun _=>M3) fun a b c d e f g h u v x K=>up2 u e v x fun y=>K ⟨a,b,c,d,y,f,g,h⟩) (@N8.rec _ (fun _=>M3) fun a b c d e f g h u v x K=>up2 u f v x fun y=>K ⟨a,b,c,d,e,y,g,h⟩) (@N8.rec _ (fun _=>M3) fun a b c d e f g h u v x K=>up2 u g v x fun y=>K ⟨a,b,c,d,e,f,y,h⟩) (@N8.rec _ (fun _=>M3) fun a b c d e f g h u v x K=>up2 u h v x fun y=>K ⟨a,b,c,d,e,f,g,y⟩) a t
theorem up1_eq (c:D8) (t:HK1) (x:HK0) (K:HK1->AN):up1 c t x K=K (N8.upd c x t):=by cases t; cases c <;> rfl
theorem up2_eq (b:D8) (t:HK2) (c:D8) (x:HK0) (K:HK2->AN):up2 b t c x K=K (N8.upd b (N8.upd c x (N8.sel b t)) t):=by
  cases t
  cases b <;> exact up1_eq c _ x _
theorem aU2 (a:D8) (t:Fr KV) (b c:D8) (x:HK0) (K:Fr KV->AN):up3 a t b c x K=K (N8.upd a (N8.upd b (N8.upd c x (N8.sel b (N8.sel a t))) (N8.sel a t)) t):=by
  cases t
  cases a <;> exact up2_eq b _ c x _
def b4A (t:Nat) (tm:Fr KV) (r:KV) (K:Fr KV->AN):AN :=
 P3.rec (motive:=fun _=>Nat->Fr KV->KV->(Fr KV->AN)->AN) (fun t _ _ _=>.bad 3 (.ready t)) (fun a b c _ tm r K=>up3 a tm b c (some r) K) (pt3 t) t tm r K
theorem aXE (t:Nat) (tm:Fr KV) (r:KV) (K:Fr KV->AN):b4A t tm r K=aBf tm (some t) r K:=by
 show _=Option.rec (motive:=fun _=>AN) (.bad 3 (.ready t)) (fun _=>K (Fr.put tm t (some r))) (Fr.get (Fr.put tm t (some r)) t);unfold b4A Fr.get Fr.put
 cases h:pt3 t with
 | out=>rfl
 | go a b c =>
   show up3 a tm b c (some r) K=Option.rec (motive:=fun _=>AN) _ _ (N8.sel c (N8.sel b (N8.sel a (N8.upd a (N8.upd b (N8.upd c (some r) (N8.sel b (N8.sel a tm))) (N8.sel a tm)) tm))));rw [N8.sel_upd,N8.sel_upd,N8.sel_upd,aU2]
def b0e (d:Option Nat) (tm:Fr KV) (r:KV) (K:Fr KV->AN):AN:=Option.rec (motive:=fun _=>Fr KV->KV->(Fr KV->AN)->AN) (fun tm _ K=>K tm) (fun t tm r K=>b4A t tm r K) d tm r K
theorem a9M (d:Option Nat) (tm:Fr KV) (r:KV) (K:Fr KV->AN):b0e d tm r K=aBf tm d r K:=by
 cases d with
 | none=>rfl
 | some t=>exact aXE t tm r K
inductive Vw
 | int (k:IntKind) (n:Int)
 | bool (b:Bool)
 | no
def vwV (v:Value):Vw:=Value.rec (motive_1:=fun _=>Vw) (motive_2:=fun _=>Unit) (motive_3:=fun _=>Unit) (fun b=>.bool b) (fun k n=>.int k n) (fun _ _=>.no) (fun _ _ _=>.no) (fun _=>.no) (fun _=>.no) (fun _ _ _=>.no) (fun _=>.no) (fun _=>.no) (fun _ _ _ _ _=>.no) .no (fun _ _ _=>.no) .no (fun _ _=>.no) (fun _ _=>.no) (fun _ _=>()) () (fun _ _ _ _=>()) v
def vw (x:KV):Vw:=KV.rec (motive:=fun _=>Vw) .no (fun y=>KK.rec (motive:=fun _=>Vw) (fun z=>LF.rec (motive:=fun _=>Vw) (fun v=>vwV v) (fun _=>.no) (fun _=>.no) (fun _ _=>.no) (fun _ _ _ _ _=>.no) .no (fun _ _=>.no) (fun _=>.no) z) (fun _=>.no) y) (fun _=>.no) x
theorem aWY {v:Value} {k:IntKind} {n:Int} (h:vwV v=.int k n):v=.int k n:=by
 cases v <;> first | (cases h; done) | (cases h; rfl)
theorem aEG {x:KV} {k:IntKind} {n:Int} (h:vw x=.int k n):x=.k (.c (.v (.int k n))):=by
 cases x with
 | u=>cases h
 | t xs=>cases h
 | k y =>
   cases y with
   | g xs=>cases h
   | c z =>
     cases z with
     | v v=>rw [aWY (v:=v) h]
     | _=>cases h
theorem aS7 {v:Value} {b:Bool} (h:vwV v=.bool b):v=.bool b:=by
 cases v <;> first | (cases h; done) | (cases h; rfl)
theorem aHE {x:KV} {b:Bool} (h:vw x=.bool b):x=.k (.c (.v (.bool b))):=by
 cases x with
 | u=>cases h
 | t xs=>cases h
 | k y =>
   cases y with
   | g xs=>cases h
   | c z =>
     cases z with
     | v v=>rw [aS7 (v:=v) h]
     | _=>cases h
def kNo (k:IntKind):Nat:=IntKind.rec (motive:=fun _=>Nat) 0 1 2 3 4 5 6 7 k
theorem aVo (a b:IntKind):Nat.beq (kNo a) (kNo b)=decide (a=b):=by cases a <;> cases b <;> rfl
def ltI (a b:Int):Bool:=Int.rec (motive:=fun _=>Int->Bool) (fun m b=>Int.rec (motive:=fun _=>Nat->Bool) (fun n m=>Nat.ble (Nat.succ m) n) (fun _ _=>false) b m) (fun m b=>Int.rec (motive:=fun _=>Nat->Bool) (fun _ _=>true) (fun n m=>Nat.ble (Nat.succ n) m) b m) a b
def eqI (a b:Int):Bool:=Int.rec (motive:=fun _=>Int->Bool) (fun m b=>Int.rec (motive:=fun _=>Nat->Bool) (fun n m=>Nat.beq m n) (fun _ _=>false) b m) (fun m b=>Int.rec (motive:=fun _=>Nat->Bool) (fun _ _=>false) (fun n m=>Nat.beq m n) b m) a b
theorem aKA (a b:Nat):Nat.ble a b=decide (a <= b):=by
 cases h:Nat.ble a b with
 | true=>exact (decide_eq_true (Nat.le_of_ble_eq_true h)).symm
 | false=>exact (decide_eq_false fun c=>by rw [Nat.ble_eq_true_of_le c] at h; cases h).symm
theorem aKB (a b:Nat):Nat.beq a b=decide (a=b):=by
 by_cases h:a=b
 ·subst h; rw [aE9]; simp
 ·rw [a5x h]; simp [h]
theorem aVi (a b:Int):ltI a b=decide (a < b):=by
 cases a with
 | ofNat m =>
   cases b with
   | ofNat n =>
     show Nat.ble (Nat.succ m) n=decide ((m:Int) < (n:Int));rw [aKA,decide_eq_decide]
     omega
   | negSucc n=>exact (decide_eq_false (by show ¬ ((m:Int) < Int.negSucc n); omega)).symm
 | negSucc m =>
   cases b with
   | ofNat n=>exact (decide_eq_true (by show Int.negSucc m < (n:Int); omega)).symm
   | negSucc n =>
     show Nat.ble (Nat.succ n) m=_;rw [aKA,decide_eq_decide];omega
theorem aLk (a b:Int):eqI a b=decide (a=b):=by
 cases a with
 | ofNat m =>
   cases b with
   | ofNat n =>
     show Nat.beq m n=decide ((m:Int)=(n:Int));rw [aKB,decide_eq_decide]
     omega
   | negSucc n=>exact (decide_eq_false (by show ¬ ((m:Int)=Int.negSucc n); omega)).symm
 | negSucc m =>
   cases b with
   | ofNat n=>exact (decide_eq_false (by show ¬ (Int.negSucc m=(n:Int)); omega)).symm
   | negSucc n =>
     show Nat.beq m n=_;rw [aKB,decide_eq_decide];omega
def bII (op:BinOp) (k:IntKind) (a:Int) (k2:IntKind) (b:Int) (L:Tr ZL) (T:Nat) (x y:KV):Option KV:=BinOp.rec (motive:=fun _=>IntKind->Int->IntKind->Int->Tr ZL->Nat->KV->KV->Option KV)
 (fun k a k2 b _ _ _ _=>Bool.rec (motive:=fun _=>Option KV) none (some (.k (.c (.v (.int k (wrF k (Int.add a b))))))) (Nat.beq (kNo k) (kNo k2)))
 (fun k a k2 b _ _ _ _=>Bool.rec (motive:=fun _=>Option KV) none (some (.k (.c (.v (.int k (wrF k (Int.sub a b))))))) (Nat.beq (kNo k) (kNo k2)))
 (fun k a k2 b _ _ _ _=>Bool.rec (motive:=fun _=>Option KV) none (some (.k (.c (.v (.int k (wrF k (Int.mul a b))))))) (Nat.beq (kNo k) (kNo k2)))
 (fun _ _ _ _ L T x y=>a2R L .quo T x y)
 (fun _ _ _ _ L T x y=>a2R L .rem T x y)
 (fun _ _ _ _ L T x y=>a2R L .and T x y)
 (fun _ _ _ _ L T x y=>a2R L .or T x y)
 (fun _ _ _ _ L T x y=>a2R L .xor T x y)
 (fun _ _ _ _ L T x y=>a2R L .shl T x y)
 (fun _ _ _ _ L T x y=>a2R L .shr T x y)
 (fun _ _ _ _ L T x y=>a2R L .andNot T x y)
 (fun k a k2 b _ _ _ _=>Bool.rec (motive:=fun _=>Option KV) none (some (.k (.c (.v (.bool (eqI a b)))))) (Nat.beq (kNo k) (kNo k2)))
 (fun k a k2 b _ _ _ _=>Bool.rec (motive:=fun _=>Option KV) none (some (.k (.c (.v (.bool (not (eqI a b))))))) (Nat.beq (kNo k) (kNo k2)))
 (fun k a k2 b _ _ _ _=>Bool.rec (motive:=fun _=>Option KV) none (some (.k (.c (.v (.bool (ltI a b)))))) (Nat.beq (kNo k) (kNo k2)))
 (fun k a k2 b _ _ _ _=>Bool.rec (motive:=fun _=>Option KV) none (some (.k (.c (.v (.bool (not (ltI b a))))))) (Nat.beq (kNo k) (kNo k2)))
 (fun k a k2 b _ _ _ _=>Bool.rec (motive:=fun _=>Option KV) none (some (.k (.c (.v (.bool (ltI b a)))))) (Nat.beq (kNo k) (kNo k2)))
 (fun k a k2 b _ _ _ _=>Bool.rec (motive:=fun _=>Option KV) none (some (.k (.c (.v (.bool (not (ltI a b))))))) (Nat.beq (kNo k) (kNo k2))) op k a k2 b L T x y
theorem b2J (op:BinOp) (k:IntKind) (a:Int) (k2:IntKind) (b:Int) (L:Tr ZL) (T:Nat):bII op k a k2 b L T (.k (.c (.v (.int k a)))) (.k (.c (.v (.int k2 b))))=a2R L op T (.k (.c (.v (.int k a)))) (.k (.c (.v (.int k2 b)))):=by
 have e1:=aVi a b; have e2:=aVi b a; have e3:=aLk a b
 have q1:(not (decide (a > b)))=decide (a <= b):=by rw [<- decide_not,decide_eq_decide]; omega
 have q2:(not (decide (a < b)))=decide (a >= b):=by rw [<- decide_not,decide_eq_decide]; omega
 have q3:ltI b a=decide (a > b):=by rw [e2]
 have q4:eqI a b=(a == b):=by rw [e3]; rfl
 cases op <;> try rfl
 all_goals
  simp only [bII,a2R,b3H,aVo];by_cases hk:k=k2
  ·subst hk;simp only [b4p,aBJ,q1,q2,q3,e1,q4,decide_true];rfl
  ·simp [hk]
def biF (L:Tr ZL) (op:BinOp) (T:Nat) (x y:KV):Option KV :=
 Vw.rec (motive:=fun _=>Tr ZL->BinOp->Nat->KV->KV->Option KV)
  (fun k a L op T x y=>Vw.rec (motive:=fun _=>IntKind->Int->Tr ZL->BinOp->Nat->KV->KV->Option KV) (fun k2 b k a L op T x y=>bII op k a k2 b L T x y) (fun _ _ _ L op T x y=>a2R L op T x y) (fun _ _ L op T x y=>a2R L op T x y) (vw y) k a L op T x y)
  (fun _ L op T x y=>a2R L op T x y) (fun L op T x y=>a2R L op T x y) (vw x) L op T x y
theorem aWa (L:Tr ZL) (op:BinOp) (T:Nat) (x y:KV):biF L op T x y=a2R L op T x y:=by
 unfold biF
 cases hx:vw x with
 | bool b=>rfl
 | no=>rfl
 | int k a =>
   dsimp only
   cases hy:vw y with
   | bool b=>rfl
   | no=>rfl
   | int k2 b =>
     rw [aEG hx,aEG hy];exact b2J op k a k2 b L T
inductive Vp
 | p (k off:Nat)
 | s (k off n c sz:Nat)
 | no
def vp (x:KV):Vp:=KV.rec (motive:=fun _=>Vp) .no (fun y=>KK.rec (motive:=fun _=>Vp) (fun z=>LF.rec (motive:=fun _=>Vp) (fun _=>.no) (fun _=>.no) (fun _=>.no) (fun k off=>.p k off) (fun k off n c sz=>.s k off n c sz) .no (fun _ _=>.no) (fun _=>.no) z) (fun _=>.no) y) (fun _=>.no) x
theorem b3K {x:KV} {k off:Nat} (h:vp x=.p k off):x=.k (.c (.p k off)):=by
 cases x with
 | u=>cases h
 | t xs=>cases h
 | k y =>
   cases y with
   | g xs=>cases h
   | c z=>cases z <;> first | (cases h; done) | (cases h; rfl)
theorem b3J {x:KV} {k off n c sz:Nat} (h:vp x=.s k off n c sz):x=.k (.c (.s k off n c sz)):=by
 cases x with
 | u=>cases h
 | t xs=>cases h
 | k y =>
   cases y with
   | g xs=>cases h
   | c z=>cases z <;> first | (cases h; done) | (cases h; rfl)
theorem aWZ {x:KV} (h:vp x=.no):(∀ k off,x ≠ .k (.c (.p k off)))/\∀ k off n c sz,x ≠ .k (.c (.s k off n c sz)):=by
 constructor
 ·rintro k off rfl; cases h
 ·rintro k off n c sz rfl; cases h
inductive Dk
 | mv (x:Operand)
 | pk (c a b:Operand)
 | ld (sz:Nat) (agg:Bool) (x:Operand)
 | fa (off:Nat) (x:Operand)
 | ia (esz:Nat) (x y:Operand)
 | ex (i:Nat) (x:Operand)
 | bi (b:BinOp) (T:Nat) (x y:Operand)
 | no
def dec (L:Tr ZL) (op:Op):Dk :=
 match op with
 | .move x=>.mv x
 | .assign x=>.mv x
 | .pick c a b=>.pk c a b
 | .load T x=>match L.get T with | some l=>.ld l.size l.agg x | none=>.no
 | .fieldAddr S x f=>match L.get S with | some l=>(match nth l.flds f with | some d=>.fa d.1 x | none=>.no) | none=>.no
 | .indexAddr T x y=>match L.get T with | some d=>bif Nat.beq d.kd 10 then .ia d.esz x y else .no | none=>.no
 | .extract x i=>.ex i x
 | .binOp b T x y _=>.bi b T x y
 | _=>.no
def mkF (agg:Bool) (cs:List LF):Option KV:=Bool.rec (motive:=fun _=>List LF->Option KV) (fun cs=>mkK false cs) (fun cs=>some (.k (.g cs))) agg cs
theorem b1y (agg:Bool) (cs:List LF):mkF agg cs=mkK agg cs:=by cases agg <;> rfl
def pkF (c a b:KV):Option KV:=Vw.rec (motive:=fun _=>KV->KV->Option KV) (fun _ _ _ _=>none) (fun p a b=>Bool.rec (motive:=fun _=>KV->KV->Option KV) (fun _ b=>some b) (fun a _=>some a) p a b) (fun _ _=>none) (vw c) a b
theorem aCz {x:KV} (h:vw x=.no):(∀ k n,x ≠ .k (.c (.v (.int k n))))/\∀ b,x ≠ .k (.c (.v (.bool b))):=by
 constructor
 ·rintro k n rfl; cases h
 ·rintro b rfl; cases h
theorem aVa (c a b:KV):pkF c a b=aL8 c a b:=by
 unfold pkF
 cases h:vw c with
 | bool p=>rw [aHE h]; cases p <;> rfl
 | int k n=>rw [aEG h]; rfl
 | no =>
   have:=(aCz h).2;unfold aL8;split
   ·exact absurd rfl (this _)
   ·rfl
def ldB (b:Bx) (off sz:Nat) (agg:Bool):Option KV:=Option.rec (motive:=fun _=>Bool->Option KV) (fun _=>none) (fun cs agg=>mkF agg cs) (aUe b.cs off sz) agg
def ldN (x:KV) (sz:Nat) (agg:Bool):Option KV :=
 match x with
 | .k (.c (.q v))=>bif Nat.beq sz 1 then mkK agg [.v (.int .u32 (.ofNat v))] else none
 | _=>none
def ldF (x:KV) (sz:Nat) (agg:Bool) (H:Hp Bx):Option KV :=
 Vp.rec (motive:=fun _=>KV->Nat->Bool->Hp Bx->Option KV) (fun k off _ sz agg H=>Option.rec (motive:=fun _=>Nat->Nat->Bool->Option KV) (fun _ _ _=>none) (fun b off sz agg=>ldB b off sz agg) (b2b H k) off sz agg) (fun _ _ _ _ _ _ _ _ _=>none) (fun x sz agg _=>ldN x sz agg) (vp x) x sz agg H
def faF (x:KV) (off:Nat):Option KV:=Vp.rec (motive:=fun _=>Nat->Option KV) (fun k o off=>some (.k (.c (.p k (Nat.add o off))))) (fun _ _ _ _ _ _=>none) (fun _=>none) (vp x) off
def iaN (x y:KV) (esz:Nat):Option KV :=
 match x with
 | .k (.c (.sl l)) =>
   match aNL y with
   | some i =>
     match nth l i with
     | some v=>bif Nat.beq esz 1 then some (.k (.c (.q v))) else none
     | none=>none
   | none=>none
 | _=>none
def iaF (x y:KV) (esz:Nat):Option KV :=
 Vp.rec (motive:=fun _=>KV->KV->Nat->Option KV) (fun _ _ _ _ _=>none)
  (fun k off n _ sz _ y esz=>Vw.rec (motive:=fun _=>Nat->Nat->Nat->Nat->Nat->Option KV)
   (fun _ z k off n sz esz=>Int.rec (motive:=fun _=>Nat->Nat->Nat->Nat->Nat->Option KV) (fun i k off n sz esz=>Bool.rec (motive:=fun _=>Option KV) none (Bool.rec (motive:=fun _=>Option KV) none (some (.k (.c (.p k (Nat.add off (Nat.mul i sz)))))) (Nat.beq esz sz)) (Nat.ble (Nat.succ i) n)) (fun _ _ _ _ _ _=>none) z k off n sz esz)
   (fun _ _ _ _ _ _=>none) (fun _ _ _ _ _=>none) (vw y) k off n sz esz)
  (fun x y esz=>iaN x y esz) (vp x) x y esz
def rF (d:Dk) (L:Tr ZL) (tm:Fr KV) (H:Hp Bx):Option KV:=Dk.rec (motive:=fun _=>Tr ZL->Fr KV->Hp Bx->Option KV)
 (fun x _ tm _=>some (evF x tm))
 (fun c a b _ tm _=>pkF (evF c tm) (evF a tm) (evF b tm))
 (fun sz agg x _ tm H=>ldF (evF x tm) sz agg H)
 (fun off x _ tm _=>faF (evF x tm) off)
 (fun esz x y _ tm _=>iaF (evF x tm) (evF y tm) esz)
 (fun i x _ tm _=>aWP i (evF x tm))
 (fun b T x y L tm _=>biF L b T (evF x tm) (evF y tm))
 (fun _ _ _=>none) d L tm H
theorem aXx {L:Tr ZL} {op:Op} (h:dec L op ≠ .no) (tm:Fr KV) (H:Hp Bx):a2w L H (evO tm) op=rF (dec L op) L tm H:=by
 cases op <;> try exact absurd rfl h
 case move x=>show some (evO tm x)=some (evF x tm); rw [a3v]
 case assign x=>show some (evO tm x)=some (evF x tm); rw [a3v]
 case pick c a b=>show aL8 (evO tm c) (evO tm a) (evO tm b)=pkF (evF c tm) (evF a tm) (evF b tm); rw [aVa,a3v,a3v,a3v]
 case extract x i=>show aWP i (evO tm x)=aWP i (evF x tm); rw [a3v]
 case binOp b T x y U=>show a2R L b T (evO tm x) (evO tm y)=biF L b T (evF x tm) (evF y tm); rw [aWa,a3v,a3v]
 case load T x =>
  cases hl:L.get T with
  | none=>exact absurd (by simp [dec,hl]) h
  | some l =>
    have e:dec L (.load T x)=.ld l.size l.agg x:=by simp [dec,hl]
    rw [e];show a9A L H T (evO tm x)=ldF (evF x tm) l.size l.agg H;rw [a3v];unfold a9A ldF
    cases hp:vp (evO tm x) with
    | p k off =>
      rw [b3K hp];simp only [hl];rw [aQw]
      cases hk:H.get k with
      | none=>rfl
      | some b =>
        show (match aUe b.cs off l.size with | some cs=>mkK l.agg cs | none=>none)=ldB b off l.size l.agg;unfold ldB
        cases aUe b.cs off l.size with
        | none=>rfl
        | some cs=>exact (b1y _ _).symm
    | s k off n c sz=>rw [b3J hp]
    | no =>
      have:=(aWZ hp).1;show _=ldN (evO tm x) l.size l.agg
      generalize evO tm x=v at *
      cases v with
      | k y =>
        cases y with
        | c z =>
          cases z with
          | p k off=>exact absurd rfl (this _ _)
          | q v=>simp only [hl]; rfl
          | _=>rfl
        | g _=>rfl
      | _=>rfl
 case fieldAddr S x f =>
  cases hl:L.get S with
  | none=>exact absurd (by simp [dec,hl]) h
  | some l =>
    cases hd:nth l.flds f with
    | none=>exact absurd (by simp [dec,hl,hd]) h
    | some d =>
      have e:dec L (.fieldAddr S x f)=.fa d.1 x:=by simp [dec,hl,hd]
      rw [e];show aBI L S f (evO tm x)=faF (evF x tm) d.1;rw [a3v];unfold aBI faF
      cases hp:vp (evO tm x) with
      | p k off=>rw [b3K hp]; simp only [hl,hd]
      | s k off n c sz=>rw [b3J hp]
      | no =>
        have:=(aWZ hp).1;split
        ·rename_i k off e; exact absurd e (this _ _)
        ·rfl
 case indexAddr T x y =>
  cases hl:L.get T with
  | none=>exact absurd (by simp [dec,hl]) h
  | some l =>
    cases hd:Nat.beq l.kd 10 with
    | false=>exact absurd (by simp [dec,hl,hd]) h
    | true =>
      have e:dec L (.indexAddr T x y)=.ia l.esz x y:=by simp [dec,hl,hd]
      rw [e];show b0b L T (evO tm x) (evO tm y)=iaF (evF x tm) (evF y tm) l.esz;rw [a3v,a3v];unfold b0b iaF
      cases hp:vp (evO tm x) with
      | p k off=>rw [b3K hp]
      | no =>
        have:=(aWZ hp).2;show _=iaN (evO tm x) (evO tm y) l.esz
        generalize evO tm x=v at *
        cases v with
        | k y' =>
          cases y' with
          | c z =>
            cases z with
            | s a b c d e=>exact absurd rfl (this _ _ _ _ _)
            | sl s =>
              simp only [hl];unfold iaN
              cases aNL (evO tm y) with
              | none=>rfl
              | some i =>
                dsimp only
                cases nth s i with
                | none=>rfl
                | some v =>
                  dsimp only;rw [hd]
                  rfl
            | _=>rfl
          | g _=>rfl
        | _=>rfl
      | s k off n c sz =>
        rw [b3J hp];simp only [hl]
        cases hy:vw (evO tm y) with
        | bool b=>rw [aHE hy]; rfl
        | no =>
          have:=(aCz hy).1;unfold aNL;split
          ·rename_i i e;split at e
           ·rename_i h2; exact absurd h2 (this _ _)
           ·cases e
          ·rfl
        | int k' z =>
          rw [aEG hy]
          cases z with
          | negSucc i=>rfl
          | ofNat i =>
            show (bif Nat.ble (Nat.succ i) n && Nat.beq l.kd 10 && Nat.beq l.esz sz then some (KV.k (.c (.p k (Nat.add off (Nat.mul i sz))))) else none)=Bool.rec none (Bool.rec none (some (.k (.c (.p k (Nat.add off (Nat.mul i sz)))))) (Nat.beq l.esz sz)) (Nat.ble (Nat.succ i) n);rw [hd];cases Nat.ble (Nat.succ i) n <;> cases Nat.beq l.esz sz <;> rfl
abbrev KtA:=Kt KV
abbrev CtA:=Ct KV
def aMn (op:Op) (q:Option Res) (K:KtA):AN:=Option.rec (motive:=fun _=>Op->KtA->AN) (fun o _=>.bad 1 o) (fun q _ K=>Res.rec (motive:=fun _=>KtA->AN) (fun r H n K=>Nat.rec (motive:=fun _=>KV->Hp Bx->KtA->AN) (fun r H K=>K r H 0) (fun p _ r H K=>K r H (Nat.succ p)) n r H K) q K) q op K
theorem aTr (op:Op) (q:Option Res) (K:KtA):aMn op q K=aTs op q K:=by
 cases q with
 | none=>rfl
 | some q =>
   obtain ⟨r,H,n⟩:=q;cases n <;> rfl
def a6B (op:Op) (q:Option KV) (H:Hp Bx) (n:Nat) (K:KtA):AN:=Option.rec (motive:=fun _=>Op->Hp Bx->Nat->KtA->AN) (fun o _ _ _=>.bad 2 o) (fun r _ H n K=>K r H n) q op H n K
theorem aTt (op:Op) (q:Option KV) (H:Hp Bx) (n:Nat) (K:KtA):a6B op q H n K=a9i op q H n K:=by cases q <;> rfl
def aKN (l:List Operand) (tm:Fr KV) (tl:List KK):Option (List KK) :=
 List.rec (motive:=fun _=>Fr KV->List KK->Option (List KK)) (fun _ tl=>some tl)
  (fun x _ ih tm tl=>KV.rec (motive:=fun _=>(Fr KV->List KK->Option (List KK))->Fr KV->List KK->Option (List KK)) (fun _ _ _=>none) (fun y ih tm tl=>Option.rec (motive:=fun _=>KK->Option (List KK)) (fun _=>none) (fun l y=>some (y :: l)) (ih tm tl) y) (fun _ _ _ _=>none) (evF x tm) ih tm tl) l tm tl
theorem aFj:∀ (l:List Operand) (tm:Fr KV) (tl:List KK),aKN l tm tl=a5B (evO tm) tl l
 | [],_,_=>rfl
 | x :: l,tm,tl=>by
   show KV.rec (motive:=fun _=>(Fr KV->List KK->Option (List KK))->Fr KV->List KK->Option (List KK)) (fun _ _ _=>none) (fun y ih tm tl=>Option.rec (motive:=fun _=>KK->Option (List KK)) (fun _=>none) (fun l y=>some (y :: l)) (ih tm tl) y) (fun _ _ _ _=>none) (evF x tm) (aKN l) tm tl=(match evO tm x with | .k y=>Option.rec none (fun l=>some (y :: l)) (a5B (evO tm) tl l) | _=>none)
   rw [a3v]
   cases evO tm x with
   | u=>rfl
   | t xs=>rfl
   | k y =>
     show Option.rec (motive:=fun _=>KK->Option (List KK)) (fun _=>none) (fun l y=>some (y :: l)) (aKN l tm tl) y=_;rw [aFj l tm tl];cases a5B (evO tm) tl l <;> rfl
inductive Vf
 | fn (f:Nat) (ks:List (Nat × Nat))
 | no
def vf (x:KV):Vf:=KV.rec (motive:=fun _=>Vf) .no (fun y=>KK.rec (motive:=fun _=>Vf) (fun z=>LF.rec (motive:=fun _=>Vf) (fun _=>.no) (fun _=>.no) (fun _=>.no) (fun _ _=>.no) (fun _ _ _ _ _=>.no) .no (fun f ks=>.fn f ks) (fun _=>.no) z) (fun _=>.no) y) (fun _=>.no) x
def aY7 (f:Nat) (ks:List (Nat × Nat)) (C:CtA) (m:Nat) (tm:Fr KV) (H:Hp Bx) (n:Nat) (c:Call) (K:KtA):AN :=
 Option.rec (motive:=fun _=>Nat->CtA->Nat->Hp Bx->Nat->KtA->AN) (fun f _ _ _ _ _=>.bad 5 (.ready f)) (fun xs f C m H n K=>C m f xs H n K) (aKN c.args.toList tm (ptrs ks)) f C m H n K
def aW2 (x:Operand) (C:CtA) (m:Nat) (tm:Fr KV) (H:Hp Bx) (n:Nat) (c:Call) (K:KtA):AN :=
 Vf.rec (motive:=fun _=>CtA->Nat->Fr KV->Hp Bx->Nat->Call->KtA->AN) (fun f ks C m tm H n c K=>aY7 f ks C m tm H n c K) (fun _ _ _ _ _ _ _=>.bad 5 (.ready 0)) (vf (evF x tm)) C m tm H n c K
theorem aS8 (x:Operand) (C:CtA) (m:Nat) (tm:Fr KV) (H:Hp Bx) (n:Nat) (c:Call) (K:KtA):aW2 x C m tm H n c K=(match evO tm x with
    | .k (.c (.fn f ks)) =>
      match a5B (evO tm) (ptrs ks) c.args.toList with
      | some xs=>C m f xs H n K
      | none=>.bad 5 (.ready f)
    | _=>.bad 5 (.ready 0)):=by
 unfold aW2;rw [a3v]
 cases evO tm x with
 | u=>rfl
 | t xs=>rfl
 | k y =>
   cases y with
   | g xs=>rfl
   | c z =>
     cases z with
     | fn f ks =>
       show aY7 f ks C m tm H n c K=(match a5B (evO tm) (ptrs ks) c.args.toList with
        | some xs=>C m f xs H n K
        | none=>.bad 5 (.ready f))
       unfold aY7;rw [aFj]
       cases a5B (evO tm) (ptrs ks) c.args.toList <;> rfl
     | _=>rfl
def b0S (C:CtA) (L:Tr ZL) (m:Nat) (tm:Fr KV) (H:Hp Bx) (n:Nat) (c:Call) (K:KtA):AN:=aN5 C L m tm H n c K
def aUX (C:CtA) (L:Tr ZL) (m:Nat) (tm:Fr KV) (H:Hp Bx) (n:Nat) (c:Call) (K:KtA):AN :=
 Callee.rec (motive:=fun _=>CtA->Tr ZL->Nat->Fr KV->Hp Bx->Nat->Call->KtA->AN) (fun x C _ m tm H n c K=>aW2 x C m tm H n c K) (fun _ _ C L m tm H n c K=>b0S C L m tm H n c K) (fun _ C L m tm H n c K=>b0S C L m tm H n c K) c.callee C L m tm H n c K
theorem aN4 (C:CtA) (L:Tr ZL) (m:Nat) (tm:Fr KV) (H:Hp Bx) (n:Nat) (c:Call) (K:KtA):aUX C L m tm H n c K=aN5 C L m tm H n c K:=by
 obtain ⟨cal,ags,ts⟩:=c
 cases cal with
 | value x=>exact aS8 x C m tm H n ⟨.value x,ags,ts⟩ K
 | invoke a b=>rfl
 | builtin b=>rfl
def boF (x:KV) (H:Hp Bx) (n T:Nat):Option Res :=
 KV.rec (motive:=fun _=>Hp Bx->Nat->Nat->Option Res) (fun _ _ _=>none) (fun y H n T=>(fun H'=>seen H' n ⟨.k (.c (.p n 0)),H',Nat.succ n⟩) (H.put n (some ⟨T,y.cells⟩))) (fun _ _ _ _=>none) x H n T
theorem b2G (x:KV) (H:Hp Bx) (n T:Nat):boF x H n T=b3G H n T x:=by cases x <;> rfl
def aUW (C:CtA) (L:Tr ZL) (m:Nat) (tm:Fr KV) (H:Hp Bx) (n:Nat) (op:Op) (K:KtA):AN:=Op.rec (motive:=fun _=>CtA->Tr ZL->Nat->Fr KV->Hp Bx->Nat->Op->KtA->AN)
 (fun x _ _ _ tm H n _ K=>K (evF x tm) H n)
 (fun x _ _ _ tm H n _ K=>K (evF x tm) H n)
 (fun c a b _ _ _ tm H n op K=>a6B op (pkF (evF c tm) (evF a tm) (evF b tm)) H n K)
 (fun T _ L _ _ H n op K=>aMn op (aJ0 L H n T) K)
 (fun T x _ _ _ tm H n op K=>aMn op (boF (evF x tm) H n T) K)
 (fun T parts _ L _ tm H n op K=>a6B op (aJY L (evO tm) T parts) H n K)
 (fun T c parts _ L _ tm H n op K=>aMn op (b3F L H n (evO tm) T c parts.toList) K)
 (fun _ _ _ _ _ _ _ _ _ _ op _=>.bad 7 op)
 (fun T x _ L _ tm H n op K=>a6B op (a9A L H T (evF x tm)) H n K)
 (fun T x y _ L m tm H n op K=>aMn op (aJR m L H n T (evF x tm) (evF y tm)) K)
 (fun _ _ _ _ _ _ _ op _=>.bad 7 op)
 (fun _ _ _ _ _ _ _ op _=>.bad 7 op)
 (fun x _ _ _ tm H n op K=>a6B op (b3D (evF x tm)) H n K)
 (fun b T x y _ _ L _ tm H n op K=>a6B op (biF L b T (evF x tm) (evF y tm)) H n K)
 (fun b _ x _ _ _ tm H n op K=>a6B op (zun b (evF x tm)) H n K)
 (fun S D x _ L _ tm H n op K=>a6B op (aSV L S D (evF x tm)) H n K)
 (fun _ _ _ _ _ _ _ _ op _=>.bad 7 op)
 (fun _ _ _ _ _ _ _ _ op _=>.bad 7 op)
 (fun fn first captured _ _ _ tm H n op K=>a6B op (b3E (evO tm) fn first captured) H n K)
 (fun _ _ _ _ _ _ _ _ op _=>.bad 7 op)
 (fun _ _ _ _ _ _ _ _ op _=>.bad 7 op)
 (fun T x y _ L _ tm H n op K=>aMn op (aSS L H n T (evF x tm) (evF y tm)) K)
 (fun T x lo hi mx _ L _ tm H n op K=>a6B op (zsl L T (evF x tm) (aNM (evO tm) lo) (aNM (evO tm) hi) (aNM (evO tm) mx)) H n K)
 (fun S x f _ L _ tm H n op K=>a6B op (aBI L S f (evF x tm)) H n K)
 (fun T x f _ L _ tm H n op K=>a6B op (aJX L T f (evF x tm)) H n K)
 (fun T x y _ L _ tm H n op K=>a6B op (b0b L T (evF x tm) (evF y tm)) H n K)
 (fun T x y _ L _ tm H n op K=>a6B op (aJW L T (evF x tm) (evF y tm)) H n K)
 (fun _ _ _ _ _ _ _ _ _ _ op _=>.bad 7 op)
 (fun _ _ _ _ _ _ _ _ _ _ op _=>.bad 7 op)
 (fun _ _ _ _ _ _ _ _ _ op _=>.bad 7 op)
 (fun _ _ _ _ _ _ _ _ _ _ op _=>.bad 7 op)
 (fun _ _ _ _ _ _ _ _ op _=>.bad 7 op)
 (fun _ _ _ _ _ _ _ _ op _=>.bad 7 op)
 (fun _ _ _ _ _ _ _ op _=>.bad 7 op)
 (fun _ _ _ _ _ _ _ _ _ _ op _=>.bad 7 op)
 (fun x i _ _ _ tm H n op K=>a6B op (aWP i (evF x tm)) H n K)
 (fun c C L m tm H n _ K=>aUX C L m tm H n c K)
 (fun _ _ _ _ _ _ _ op _=>.bad 7 op)
 (fun _ _ _ _ _ _ _ op _=>.bad 7 op)
 (fun _ _ _ _ _ _ _ op _=>.bad 7 op)
 (fun _ _ _ _ _ _ _ _ op _=>.bad 7 op)
 (fun _ _ _ _ _ _ _ _ _ op _=>.bad 7 op)
 (fun _ _ _ _ _ _ _ _ op _=>.bad 7 op) op C L m tm H n op K
theorem aHx (C:CtA) (L:Tr ZL) (m:Nat) (tm:Fr KV) (H:Hp Bx) (n:Nat) (op:Op) (K:KtA):aUW C L m tm H n op K=zop C L m tm H n op K:=by
 cases op <;> (first | rfl | (simp only [aUW,zop,aTr,aTt,a3v,aVa,aWa,b2G,aN4]))
abbrev Ih:=Fr KV->Hp Bx->Nat->List Rc->(Fr KV->Hp Bx->Nat->AN)->AN
abbrev Kf:=Fr KV->Hp Bx->Nat->AN
inductive Sd
 | f0 (d:Dk) (t:Option Nat)
 | f1 (sz:Nat) (agg:Bool) (x:Operand) (t:Option Nat) (i:Nat)
 | f2
 | f4
 | sl
def aBd (L:Tr ZL) (e:Inf):Sd :=
 match e.o.guard with
 | some _=>.sl
 | none =>
   match e.k with
   | 0=>(match dec L e.o.op with | .no=>.sl | d=>.f0 d e.o.dst)
   | 1=>(match e.ps with | []=>(match dec L e.o.op with | .ld sz agg x=>.f1 sz agg x e.o.dst e.i | _=>.sl) | _=>.sl)
   | 2=>.f2
   | 3=>.sl
   | _=>.f4
def a5j (C:CtA) (L:Tr ZL) (m:Nat) (l:List Oper) (e:Inf) (tm:Fr KV) (H:Hp Bx) (n:Nat) (rc:List Rc) (ih:Ih) (K:Kf):AN :=
 match a8R l tm e.o with
 | some b=>bif b then a9z C L m e tm H n rc (fun tm H n rc=>ih tm H n rc K) else aBf tm e.o.dst (.t []) fun tm=>ih tm H n rc K
 | none=>.bad 9 e.o.op
def r0 (q:Option KV) (t:Option Nat) (e:Inf) (tm:Fr KV) (H:Hp Bx) (n:Nat) (rc:List Rc) (ih:Ih) (K:Kf):AN :=
 Option.rec (motive:=fun _=>Option Nat->Inf->Fr KV->Hp Bx->Nat->List Rc->Ih->Kf->AN) (fun _ e _ _ _ _ _ _=>.bad 2 e.o.op) (fun r t _ tm H n rc ih K=>b0e t tm r (fun tm=>ih tm H n rc K)) q t e tm H n rc ih K
def c2 (b:Bool) (e:Inf) (r:KV) (tm:Fr KV) (H H':Hp Bx) (n':Nat) (rc:List Rc) (ih:Ih) (K:Kf):AN :=
 Bool.rec (motive:=fun _=>Inf->KV->Fr KV->Hp Bx->Hp Bx->Nat->List Rc->Ih->Kf->AN) (fun e _ _ _ _ _ _ _ _=>.bad 32 e.o.op) (fun e r tm H H' n' rc ih K=>b0e e.o.dst tm r (fun tm=>ih tm H' n' (⟨e.i,0,H,H'⟩ :: rc) K)) b e r tm H H' n' rc ih K
def stF (s:Sd) (C:CtA) (L:Tr ZL) (m:Nat) (l:List Oper) (e:Inf) (tm:Fr KV) (H:Hp Bx) (n:Nat) (rc:List Rc) (ih:Ih) (K:Kf):AN :=
 Sd.rec (motive:=fun _=>CtA->Tr ZL->Nat->List Oper->Inf->Fr KV->Hp Bx->Nat->List Rc->Ih->Kf->AN)
  (fun d t _ L _ _ e tm H n rc ih K=>r0 (rF d L tm Hp.mk0) t e tm H n rc ih K)
  (fun sz agg x t i C L m l e tm H n rc ih K=>Vp.rec (motive:=fun _=>Nat->Bool->Operand->Option Nat->Nat->CtA->Tr ZL->Nat->List Oper->Inf->Fr KV->Hp Bx->Nat->List Rc->Ih->Kf->AN)
   (fun k _ sz agg x t i _ _ _ _ e tm H n rc ih K=>r0 (ldF (evF x tm) sz agg H) t e tm H n (⟨i,k,Hp.mk0,Hp.mk0⟩ :: rc) ih K)
   (fun _ _ _ _ _ _ _ _ _ _ _ _ _ _ e _ _ _ _ _ _=>.bad 31 e.o.op) (fun _ _ _ _ _ C L m l e tm H n rc ih K=>a5j C L m l e tm H n rc ih K) (vp (evF x tm)) sz agg x t i C L m l e tm H n rc ih K)
  (fun C L m _ e tm H n rc ih K=>aUW C L m tm H n e.o.op (fun r H' n'=>c2 (b2v rc e.ps H H') e r tm H H' n' rc ih K))
  (fun C L _ _ e tm H n rc ih K=>aUW C L n tm H n e.o.op (fun r H' n'=>b0e e.o.dst tm r (fun tm=>ih tm H' n' rc K)))
  (fun C L m l e tm H n rc ih K=>a5j C L m l e tm H n rc ih K) s C L m l e tm H n rc ih K
theorem b1a (q:Option KV) (t:Option Nat) (e:Inf) (tm:Fr KV) (H:Hp Bx) (n:Nat) (rc:List Rc) (ih:Ih) (K:Kf):r0 q t e tm H n rc ih K=a9i e.o.op q H n (fun r H n=>aBf tm t r fun tm=>ih tm H n rc K):=by
 cases q with
 | none=>rfl
 | some r=>exact a9M t tm r _
theorem a3I {l:List Oper} {tm:Fr KV} {o:Oper} (h:o.guard=none):a8R l tm o=some true:=by
 unfold a8R;rw [h]
theorem b0N (C:CtA) (L:Tr ZL) (m:Nat) (l:List Oper) (e:Inf) (tm:Fr KV) (H:Hp Bx) (n:Nat) (rc:List Rc) (ih:Ih) (K:Kf):stF (aBd L e) C L m l e tm H n rc ih K=a5j C L m l e tm H n rc ih K:=by
 cases hg:e.o.guard with
 | some g =>
   have hs:aBd L e=.sl:=by unfold aBd; rw [hg]
   rw [hs]
   rfl
 | none =>
   unfold a5j;rw [a3I hg];simp only [cond_true]
   match hk:e.k with
   | 0 =>
     unfold a9z;rw [hk];simp only;by_cases hd:dec L e.o.op=.no
     ·have hs:aBd L e=.sl:=by unfold aBd; rw [hg,hk]; simp only; rw [hd]
      rw [hs];show a5j C L m l e tm H n rc ih K=_;unfold a5j;rw [a3I hg];simp only [cond_true];unfold a9z;rw [hk];rfl
     ·have hs:aBd L e=.f0 (dec L e.o.op) e.o.dst:=by
       unfold aBd;rw [hg,hk];generalize dec L e.o.op=d at hd
       cases d <;> first | rfl | exact absurd rfl hd
      rw [hs];show r0 (rF (dec L e.o.op) L tm Hp.mk0) e.o.dst e tm H n rc ih K=_
      rw [b1a,aXx hd]
   | 1 =>
     have slow:aBd L e=.sl->stF (aBd L e) C L m l e tm H n rc ih K=a9z C L m e tm H n rc (fun tm H n rc=>ih tm H n rc K):=fun hs=>by
      rw [hs];show a5j C L m l e tm H n rc ih K=_;unfold a5j;rw [a3I hg];rfl
     cases hp:e.ps with
     | cons a b=>exact slow (by unfold aBd; rw [hg,hk,hp]; rfl)
     | nil =>
       cases hd:dec L e.o.op with
       | ld sz agg x =>
         have hs:aBd L e=.f1 sz agg x e.o.dst e.i:=by unfold aBd; rw [hg,hk,hp]; simp only; rw [hd]
         have hne:dec L e.o.op ≠ .no:=by rw [hd]; intro c; cases c
         have hz:=aXx hne tm H;rw [hd] at hz;have hz':a2w L H (evO tm) e.o.op=ldF (evF x tm) sz agg H:=hz
         have ho:∃ T,e.o.op=.load T x:=by
          generalize e.o.op=op at hd;unfold dec at hd
          split at hd <;> try (cases hd; done)
          ·split at hd
           ·cases hd; exact ⟨_,rfl⟩
           ·cases hd
          ·split at hd
           ·split at hd <;> cases hd
           ·cases hd
          ·split at hd
           ·rename_i d _;cases hq:Nat.beq d.kd 10 <;> rw [hq] at hd <;> cases hd
           ·cases hd
         obtain ⟨T,ho⟩:=ho;rw [hs];unfold a9z;rw [hk,hp];simp only
         have hkey:b4o e.o.op (evO tm)=match evO tm x with | .k (.c (.p k _))=>some k | .k (.c (.q _))=>some 1000000 | _=>none:=by rw [ho]; rfl
         rw [hkey];show Vp.rec (motive:=fun _=>Nat->Bool->Operand->Option Nat->Nat->CtA->Tr ZL->Nat->List Oper->Inf->Fr KV->Hp Bx->Nat->List Rc->Ih->Kf->AN) _ _ _ (vp (evF x tm)) sz agg x e.o.dst e.i C L m l e tm H n rc ih K=_;rw [a3v]
         cases hv:vp (evO tm x) with
         | p k off =>
           rw [b3K hv];show r0 (ldF (evF x tm) sz agg H) e.o.dst e tm H n (⟨e.i,k,Hp.mk0,Hp.mk0⟩ :: rc) ih K=bif b3Z rc [] k then _ else _;rw [b1a,<- hz']
           rfl
         | s k off n' c sz'=>rw [b3J hv]
         | no =>
           show a5j C L m l e tm H n rc ih K=_;unfold a5j;rw [a3I hg];simp only [cond_true];unfold a9z;rw [hk,hp];simp only
           rw [hkey]
       | _=>exact slow (by unfold aBd; rw [hg,hk,hp]; simp only; rw [hd])
   | 2 =>
     have hs:aBd L e=.f2:=by unfold aBd; rw [hg,hk]; rfl
     rw [hs];unfold a9z;rw [hk];show aUW C L m tm H n e.o.op _=zop C L m tm H n e.o.op _;rw [aHx];congr 1;funext r H' n';unfold c2
     cases b2v rc e.ps H H' with
     | false=>rfl
     | true=>exact a9M _ _ _ _
   | 3 =>
     have hs:aBd L e=.sl:=by unfold aBd; rw [hg,hk]; rfl
     rw [hs];show a5j C L m l e tm H n rc ih K=_;unfold a5j;rw [a3I hg]
     rfl
   | k+4 =>
     have hs:aBd L e=.f4:=by unfold aBd; rw [hg,hk]; rfl
     rw [hs];unfold a9z;rw [hk];show aUW C L n tm H n e.o.op _=zop C L n tm H n e.o.op _;rw [aHx];congr 1;funext r H' n';exact a9M _ _ _ _
def aWL (C:CtA) (L:Tr ZL) (m:Nat) (l:List Oper) (es:List Inf):Ih :=
 List.rec (motive:=fun _=>Ih) (fun tm H n _ K=>K tm H n) (fun e _ ih tm H n rc K=>stF (aBd L e) C L m l e tm H n rc ih K) es
theorem aJV (C:CtA) (L:Tr ZL) (m:Nat) (l:List Oper):∀ es,aWL C L m l es=aUV C L m l es
 | []=>rfl
 | e :: es=>by
   funext tm H n rc K;show stF (aBd L e) C L m l e tm H n rc (aWL C L m l es) K=_;rw [b0N,aJV C L m l es];rfl
inductive Qd
 | f (d:Dk) (t:Option Nat)
 | o
 | sl
def aTy (L:Tr ZL) (o:Oper):Qd :=
 match o.guard with
 | some _=>.sl
 | none=>(match dec L o.op with | .no=>.o | d=>.f d o.dst)
abbrev Iq:=Fr KV->Hp Bx->Nat->Kf->AN
def aXh (C:CtA) (L:Tr ZL) (m:Nat) (l:List Oper) (o:Oper) (tm:Fr KV) (H:Hp Bx) (n:Nat) (ih:Iq) (K:Kf):AN :=
 match a8R l tm o with
 | some b=>bif b then zop C L m tm H n o.op (fun r H n=>aBf tm o.dst r fun tm=>ih tm H n K) else aBf tm o.dst (.t []) fun tm=>ih tm H n K
 | none=>.bad 8 (.ready 0)
def q0 (q:Option KV) (t:Option Nat) (o:Oper) (tm:Fr KV) (H:Hp Bx) (n:Nat) (ih:Iq) (K:Kf):AN :=
 Option.rec (motive:=fun _=>Option Nat->Oper->Fr KV->Hp Bx->Nat->Iq->Kf->AN) (fun _ o _ _ _ _ _=>.bad 2 o.op) (fun r t _ tm H n ih K=>b0e t tm r (fun tm=>ih tm H n K)) q t o tm H n ih K
def sqF (s:Qd) (C:CtA) (L:Tr ZL) (m:Nat) (l:List Oper) (o:Oper) (tm:Fr KV) (H:Hp Bx) (n:Nat) (ih:Iq) (K:Kf):AN :=
 Qd.rec (motive:=fun _=>CtA->Tr ZL->Nat->List Oper->Oper->Fr KV->Hp Bx->Nat->Iq->Kf->AN)
  (fun d t _ L _ _ o tm H n ih K=>q0 (rF d L tm H) t o tm H n ih K)
  (fun C L m _ o tm H n ih K=>aUW C L m tm H n o.op (fun r H n=>b0e o.dst tm r (fun tm=>ih tm H n K)))
  (fun C L m l o tm H n ih K=>aXh C L m l o tm H n ih K) s C L m l o tm H n ih K
theorem b4z (q:Option KV) (t:Option Nat) (o:Oper) (tm:Fr KV) (H:Hp Bx) (n:Nat) (ih:Iq) (K:Kf):q0 q t o tm H n ih K=a9i o.op q H n (fun r H n=>aBf tm t r fun tm=>ih tm H n K):=by
 cases q with
 | none=>rfl
 | some r=>exact a9M t tm r _
theorem aWM {C:CtA} {L:Tr ZL} {m:Nat} {tm:Fr KV} {H:Hp Bx} {n:Nat} {op:Op} {K:KtA} (h:dec L op ≠ .no):zop C L m tm H n op K=a9i op (a2w L H (evO tm) op) H n K:=by
 cases op <;> first | rfl | exact absurd rfl h
theorem b0R (C:CtA) (L:Tr ZL) (m:Nat) (l:List Oper) (o:Oper) (tm:Fr KV) (H:Hp Bx) (n:Nat) (ih:Iq) (K:Kf):sqF (aTy L o) C L m l o tm H n ih K=aXh C L m l o tm H n ih K:=by
 cases hg:o.guard with
 | some g =>
   have hs:aTy L o=.sl:=by unfold aTy; rw [hg]
   rw [hs]
   rfl
 | none =>
   unfold aXh;rw [a3I hg];simp only [cond_true];by_cases hd:dec L o.op=.no
   ·have hs:aTy L o=.o:=by unfold aTy; rw [hg]; simp only; rw [hd]
    rw [hs];show aUW C L m tm H n o.op _=_;rw [aHx];congr 1;funext r H n;exact a9M _ _ _ _
   ·have hs:aTy L o=.f (dec L o.op) o.dst:=by
     unfold aTy;rw [hg];generalize dec L o.op=d at hd
     cases d <;> first | rfl | exact absurd rfl hd
    rw [hs];show q0 (rF (dec L o.op) L tm H) o.dst o tm H n ih K=_;rw [b4z,aWM hd,aXx hd]
def aWJ (C:CtA) (L:Tr ZL) (m:Nat) (l os:List Oper):Iq :=
 List.rec (motive:=fun _=>Iq) (fun tm H n K=>K tm H n) (fun o _ ih tm H n K=>sqF (aTy L o) C L m l o tm H n ih K) os
theorem aJT (C:CtA) (L:Tr ZL) (m:Nat) (l:List Oper):∀ os,aWJ C L m l os=aZ8 C L m l os
 | []=>rfl
 | o :: os=>by
   funext tm H n K;show sqF (aTy L o) C L m l o tm H n (aWJ C L m l os) K=_;rw [b0R,aJT C L m l os];rfl
abbrev KcA:=Kc KV
def aWK (C:CtA) (L:Tr ZL) (W:Nat->Bool) (N m:Nat) (l:List Oper) (draw:Bool) (tm:Fr KV) (H:Hp Bx) (n:Nat) (K:KcA):AN :=
 Bool.rec (motive:=fun _=>AN) (Bool.rec (motive:=fun _=>AN) (.bad 10 (.ready 0)) (aWJ C L m l l tm H n fun tm H n=>K .normal tm H n) (a1L l N))
  (Option.rec (motive:=fun _=>AN) (.bad 10 (.ready 1)) (fun es=>aWL C L m l es tm H n [] fun tm H n=>K .normal tm H n) (b03 W N l)) draw
theorem aSP (C:CtA) (L:Tr ZL) (W:Nat->Bool) (N m:Nat) (l:List Oper) (draw:Bool) (tm:Fr KV) (H:Hp Bx) (n:Nat) (K:KcA):aWK C L W N m l draw tm H n K=aCv C L W N m l draw tm H n K:=by
 unfold aWK aCv;rw [aJT];simp only [aJV]
abbrev Kd:=Fr KV->Hp Bx->Nat->KcA->AN
def exS (e:Exit) (tm:Fr KV) (H:Hp Bx) (n:Nat) (ib:Kd) (K:KcA):AN :=
 Exit.rec (motive:=fun _=>Fr KV->Hp Bx->Nat->Kd->KcA->AN) (fun tm H n ib K=>ib tm H n K) (fun j tm H n _ K=>K (.exit j) tm H n) (fun j tm H n _ K=>K (.goto j) tm H n) (fun tm H n _ K=>K .ret tm H n) (fun v tm H n _ K=>K (.panic v) tm H n) (fun tm H n _ K=>K .outgrown tm H n) e tm H n ib K
def exB (e:Exit) (id:Nat) (tm:Fr KV) (H:Hp Bx) (n:Nat) (K:KcA):AN :=
 Exit.rec (motive:=fun _=>Nat->Fr KV->Hp Bx->Nat->KcA->AN) (fun _ tm H n K=>K .normal tm H n) (fun j id tm H n K=>Bool.rec (motive:=fun _=>Nat->Fr KV->Hp Bx->Nat->KcA->AN) (fun j tm H n K=>K (.exit j) tm H n) (fun _ tm H n K=>K .normal tm H n) (Nat.beq j id) j tm H n K) (fun j _ tm H n K=>K (.goto j) tm H n) (fun _ tm H n K=>K .ret tm H n) (fun v _ tm H n K=>K (.panic v) tm H n) (fun _ tm H n K=>K .outgrown tm H n) e id tm H n K
def cdF (x:KV) (ia ib:Kd) (tm:Fr KV) (H:Hp Bx) (n:Nat) (K:KcA):AN :=
 Vw.rec (motive:=fun _=>Kd->Kd->Fr KV->Hp Bx->Nat->KcA->AN) (fun _ _ _ _ _ _ _ _=>.bad 11 (.ready 0)) (fun b ia ib tm H n K=>Bool.rec (motive:=fun _=>Kd->Kd->Fr KV->Hp Bx->Nat->KcA->AN) (fun _ ib tm H n K=>ib tm H n K) (fun ia _ tm H n K=>ia tm H n K) b ia ib tm H n K) (fun _ _ _ _ _ _=>.bad 11 (.ready 0)) (vw x) ia ib tm H n K
def a8y (C:CtA) (L:Tr ZL) (W:Nat->Bool) (N m fuel:Nat) (c:Code):Kd :=
 Code.rec (motive:=fun _=>Kd)
  (fun tm H n K=>K .normal tm H n)
  (fun _ ops draw tm H n K=>aWK C L W N m ops.toList draw tm H n K)
  (fun _ _ ia ib tm H n K=>ia tm H n fun e tm H n=>exS e tm H n ib K)
  (fun c _ _ ia ib tm H n K=>cdF (evF c tm) ia ib tm H n K)
  (fun id _ ia tm H n K=>ia tm H n fun e tm H n=>exB e id tm H n K)
  (fun _ ia tm H n K=>Nat.rec (motive:=fun _=>Kd) (fun _ _ _ _=>.bad 12 (.ready 0)) (fun _ ih tm H n K=>ia tm H n fun e tm H n=>exS e tm H n ih K) fuel tm H n K)
  (fun _ _ _ _ _ _ _ _ _ _=>.bad 13 (.ready 0))
  (fun id tm H n K=>K (.exit id) tm H n)
  (fun _ _ _ _ _ _=>.bad 14 (.ready 0))
  (fun _ _ _ _ _=>.bad 15 (.ready 0))
  (fun _ _ _ _ _=>.bad 16 (.ready 0))
  (fun tm H n K=>K .ret tm H n)
  (fun _ _ _ _ _=>.bad 17 (.ready 0)) c
theorem b2w (x:KV) (ia ib:Kd) (tm:Fr KV) (H:Hp Bx) (n:Nat) (K:KcA):cdF x ia ib tm H n K=(match x with | .k (.c (.v (.bool b)))=>bif b then ia tm H n K else ib tm H n K | _=>.bad 11 (.ready 0)):=by
 unfold cdF
 cases h:vw x with
 | bool b=>rw [aHE h]; cases b <;> rfl
 | int k n=>rw [aEG h]
 | no =>
   have:=(aCz h).2;split
   ·exact absurd rfl (this _)
   ·rfl
theorem a3N (C:CtA) (L:Tr ZL) (W:Nat->Bool) (N m fuel:Nat):∀ c,a8y C L W N m fuel c=a5o C L W N m fuel c
 | .skip=>rfl
 | .region id ops draw=>by
   funext tm H n K
   exact aSP C L W N m ops.toList draw tm H n K
 | .seq a b=>by
   funext tm H n K;show a8y C L W N m fuel a tm H n (fun e tm H n=>exS e tm H n (a8y C L W N m fuel b) K)=a5o C L W N m fuel a tm H n (fun e tm H n=>match e with | .normal=>a5o C L W N m fuel b tm H n K | e=>K e tm H n);rw [a3N C L W N m fuel a,a3N C L W N m fuel b];congr 1;funext e tm H n
   cases e <;> rfl
 | .cond c a b=>by
   funext tm H n K;show cdF (evF c tm) (a8y C L W N m fuel a) (a8y C L W N m fuel b) tm H n K=_;rw [a3N C L W N m fuel a,a3N C L W N m fuel b,b2w,a3v]
   rfl
 | .block id a=>by
   funext tm H n K;show a8y C L W N m fuel a tm H n (fun e tm H n=>exB e id tm H n K)=a5o C L W N m fuel a tm H n (fun e tm H n=>match e with | .exit j=>bif Nat.beq j id then K .normal tm H n else K (.exit j) tm H n | e=>K e tm H n);rw [a3N C L W N m fuel a];congr 1;funext e tm H n
   cases e with
   | exit j =>
     show Bool.rec (motive:=fun _=>Nat->Fr KV->Hp Bx->Nat->KcA->AN) _ _ (Nat.beq j id) j tm H n K=bif Nat.beq j id then _ else _
     cases Nat.beq j id <;> rfl
   | _=>rfl
 | .loop a=>by
   funext tm H n K;show Nat.rec (motive:=fun _=>Kd) (fun _ _ _ _=>.bad 12 (.ready 0)) (fun _ ih tm H n K=>a8y C L W N m fuel a tm H n fun e tm H n=>exS e tm H n ih K) fuel tm H n K=Nat.rec (motive:=fun _=>Fr KV->Hp Bx->Nat->AN) (fun _ _ _=>.bad 12 (.ready 0)) (fun _ ih tm H n=>a5o C L W N m fuel a tm H n fun e tm H n=>match e with | .normal=>ih tm H n | e=>K e tm H n) fuel tm H n;rw [a3N C L W N m fuel a]
   have key:∀ (f:Nat) (tm:Fr KV) (H:Hp Bx) (n:Nat),Nat.rec (motive:=fun _=>Kd) (fun _ _ _ _=>.bad 12 (.ready 0)) (fun _ ih tm H n K=>a5o C L W N m fuel a tm H n fun e tm H n=>exS e tm H n ih K) f tm H n K=Nat.rec (motive:=fun _=>Fr KV->Hp Bx->Nat->AN) (fun _ _ _=>.bad 12 (.ready 0)) (fun _ ih tm H n=>a5o C L W N m fuel a tm H n fun e tm H n=>match e with | .normal=>ih tm H n | e=>K e tm H n) f tm H n:=by
    intro f
    induction f with
    | zero=>intros; rfl
    | succ f ih =>
      intro tm H n;show a5o C L W N m fuel a tm H n (fun e tm H n=>exS e tm H n _ K)=a5o C L W N m fuel a tm H n (fun e tm H n=>_);congr 1;funext e tm H n
      cases e <;> first | rfl | exact ih tm H n
   exact key fuel tm H n
 | .rangeFunc _ _ _ _=>rfl
 | .exit _=>rfl
 | .scope _=>rfl
 | .label _=>rfl
 | .goto _=>rfl
 | .ret=>rfl
 | .refuse _=>rfl
def b3N (i:Nat) (tm:Fr KV) (r:KV) (K:Fr KV->AN):AN:=P3.rec (motive:=fun _=>Fr KV->KV->(Fr KV->AN)->AN) (fun tm _ K=>K tm) (fun a b c tm r K=>up3 a tm b c (some r) K) (pt3 i) tm r K
theorem aXF (i:Nat) (tm:Fr KV) (r:KV) (K:Fr KV->AN):b3N i tm r K=K (Fr.put tm i (some r)):=by
 unfold b3N Fr.put
 cases pt3 i with
 | out=>rfl
 | go a b c=>exact aU2 a tm b c (some r) K
def aWR (xs:List KK):Nat->Fr KV->(Fr KV->AN)->AN:=List.rec (motive:=fun _=>Nat->Fr KV->(Fr KV->AN)->AN) (fun _ tm K=>K tm) (fun x _ ih i tm K=>b3N i tm (.k x) (fun tm=>ih (Nat.succ i) tm K)) xs
theorem aJZ:∀ (xs:List KK) (i:Nat) (tm:Fr KV) (K:Fr KV->AN),aWR xs i tm K=K (aS0 xs i tm)
 | [],_,_,_=>rfl
 | x :: xs,i,tm,K=>by
   show b3N i tm (.k x) (fun tm=>aWR xs (Nat.succ i) tm K)=_;rw [aXF,aJZ xs];rfl
def b4R (q:Option KV) (H:Hp Bx) (n f:Nat) (K:KtA):AN:=Option.rec (motive:=fun _=>Hp Bx->Nat->Nat->KtA->AN) (fun _ _ f _=>.bad 22 (.ready f)) (fun r H n _ K=>K r H n) q H n f K
def b7a (e:Exit) (L:Tr ZL) (tm:Fr KV) (H:Hp Bx) (n f:Nat) (rs:List ResultVar) (K:KtA):AN :=
 Exit.rec (motive:=fun _=>Tr ZL->Fr KV->Hp Bx->Nat->Nat->List ResultVar->KtA->AN) (fun L tm H n f rs K=>b4R (aNW L tm H rs) H n f K) (fun _ _ _ _ _ f _ _=>.bad 23 (.ready f)) (fun _ _ _ _ _ f _ _=>.bad 23 (.ready f)) (fun L tm H n f rs K=>b4R (aNW L tm H rs) H n f K) (fun _ _ _ _ _ f _ _=>.bad 23 (.ready f)) (fun _ _ _ _ f _ _=>.bad 23 (.ready f)) e L tm H n f rs K
def aN8 (C:CtA) (L:Tr ZL) (W:Nat->Bool) (m fuel f:Nat) (z:ZF) (xs:List KK) (H:Hp Bx) (n:Nat) (K:KtA):AN :=
 aWR xs 0 Fr.mk0 fun tm=>a8y C L W z.N m fuel z.body tm H n fun e tm H n=>b7a e L tm H n f z.res K
theorem aN7 (C:CtA) (L:Tr ZL) (W:Nat->Bool) (m fuel f:Nat) (z:ZF) (xs:List KK) (H:Hp Bx) (n:Nat) (K:KtA):aN8 C L W m fuel f z xs H n K=aSY C L W m fuel f z xs H n K:=by
 unfold aN8 aSY;rw [aJZ,a3N];congr 1;funext e tm H n
 cases e <;> first | rfl | (show b4R (aNW L tm H z.res) H n f K=Option.rec (motive:=fun _=>AN) _ _ _; cases aNW L tm H z.res <;> rfl)
def b0g (a:Nat) (K:Nat->AN):AN:=Nat.rec (motive:=fun _=>(Nat->AN)->AN) (fun K=>K 0) (fun p _ K=>K (Nat.succ p)) a K
theorem aCV (a:Nat) (K:Nat->AN):b0g a K=K a:=by cases a <;> rfl
def b4N (z:Int) (K:Int->AN):AN:=Int.rec (motive:=fun _=>(Int->AN)->AN) (fun a K=>b0g a fun a=>K (.ofNat a)) (fun a K=>b0g a fun a=>K (.negSucc a)) z K
theorem aQs (z:Int) (K:Int->AN):b4N z K=K z:=by
 cases z with
 | ofNat a=>exact aCV a (fun a=>K (.ofNat a))
 | negSucc a=>exact aCV a (fun a=>K (.negSucc a))
def b2F (b:Bool) (K:Bool->AN):AN:=Bool.rec (motive:=fun _=>(Bool->AN)->AN) (fun K=>K false) (fun K=>K true) b K
theorem aUx (b:Bool) (K:Bool->AN):b2F b K=K b:=by cases b <;> rfl
def b5I (v:Value) (K:Value->AN):AN:=Value.rec (motive_1:=fun _=>(Value->AN)->AN) (motive_2:=fun _=>Unit) (motive_3:=fun _=>Unit) (fun b K=>b2F b fun b=>K (.bool b)) (fun k n K=>b4N n fun n=>K (.int k n)) (fun a b K=>K (.float a b)) (fun a b c K=>K (.complex a b c)) (fun a K=>K (.string a)) (fun a K=>K (.pointer a)) (fun a b c K=>K (.slice a b c)) (fun a K=>K (.map a)) (fun a K=>K (.chan a)) (fun a b c _ _ K=>K (.func a b c)) (fun K=>K .nilFunc) (fun a b _ K=>K (.iface a b)) (fun K=>K .nilIface) (fun a _ K=>K (.agg a)) (fun a _ K=>K (.tuple a)) (fun _ _=>()) () (fun _ _ _ _=>()) v K
theorem aW4 (v:Value) (K:Value->AN):b5I v K=K v:=by
 cases v with
 | bool b=>exact aUx b (fun b=>K (.bool b))
 | int k n=>exact aQs n (fun n=>K (.int k n))
 | _=>rfl
def aXX (l:List Nat):(List Nat->AN)->AN:=List.rec (motive:=fun _=>(List Nat->AN)->AN) (fun K=>K []) (fun x _ ih K=>b0g x fun x=>ih fun l=>K (x :: l)) l
theorem aKD:∀ (l:List Nat) (K:List Nat->AN),aXX l K=K l
 | [],_=>rfl
 | x :: l,K=>by
   show (b0g x fun x=>aXX l fun l=>K (x :: l))=_;rw [aCV,aKD l]
def lfA (x:LF) (K:LF->AN):AN:=LF.rec (motive:=fun _=>(LF->AN)->AN) (fun v K=>b5I v fun v=>K (.v v)) (fun l K=>aXX l fun l=>K (.sl l)) (fun z K=>b4N z fun z=>K (.I z)) (fun k off K=>K (.p k off)) (fun k off n c sz K=>K (.s k off n c sz)) (fun K=>K .e0) (fun f ks K=>K (.fn f ks)) (fun x K=>b0g x fun x=>K (.q x)) x K
theorem aVk (x:LF) (K:LF->AN):lfA x K=K x:=by
 cases x with
 | v v=>exact aW4 v (fun v=>K (.v v))
 | I z=>exact aQs z (fun z=>K (.I z))
 | sl l=>exact aKD l (fun l=>K (.sl l))
 | q x=>exact aCV x (fun x=>K (.q x))
 | _=>rfl
def b4J (l:List LF):(List LF->AN)->AN:=List.rec (motive:=fun _=>(List LF->AN)->AN) (fun K=>K []) (fun x _ ih K=>lfA x fun x=>ih fun l=>K (x :: l)) l
theorem aPA:∀ (l:List LF) (K:List LF->AN),b4J l K=K l
 | [],_=>rfl
 | x :: l,K=>by
   show (lfA x fun x=>b4J l fun l=>K (x :: l))=_;rw [aVk,aPA l]
def kkA (x:KK) (K:KK->AN):AN:=KK.rec (motive:=fun _=>(KK->AN)->AN) (fun x K=>lfA x fun x=>K (.c x)) (fun l K=>b4J l fun l=>K (.g l)) x K
theorem aVm (x:KK) (K:KK->AN):kkA x K=K x:=by
 cases x with
 | c x=>exact aVk x (fun x=>K (.c x))
 | g l=>exact aPA l (fun l=>K (.g l))
def aVl (l:List KK):(List KK->AN)->AN:=List.rec (motive:=fun _=>(List KK->AN)->AN) (fun K=>K []) (fun x _ ih K=>kkA x fun x=>ih fun l=>K (x :: l)) l
theorem aC5:∀ (l:List KK) (K:List KK->AN),aVl l K=K l
 | [],_=>rfl
 | x :: l,K=>by
   show (kkA x fun x=>aVl l fun l=>K (x :: l))=_;rw [aVm,aC5 l]
def kvA (x:KV) (K:KV->AN):AN:=KV.rec (motive:=fun _=>(KV->AN)->AN) (fun K=>K .u) (fun x K=>kkA x fun x=>K (.k x)) (fun l K=>aVl l fun l=>K (.t l)) x K
theorem b1S (x:KV) (K:KV->AN):kvA x K=K x:=by
 cases x with
 | u=>rfl
 | k x=>exact aVm x (fun x=>K (.k x))
 | t l=>exact aC5 l (fun l=>K (.t l))
def b4K (q:Option KV) (H:Hp Bx) (n:Nat) (K:KtA) (s:AN):AN:=Option.rec (motive:=fun _=>Hp Bx->Nat->KtA->AN->AN) (fun _ _ _ s=>s) (fun r H n K _=>K r H n) q H n K s
def frF (q:Option KV) (f:Nat) (H:Hp Bx) (n:Nat) (K:KtA):AN :=
 Option.rec (motive:=fun _=>Nat->Hp Bx->Nat->KtA->AN) (fun f _ _ _=>.bad 26 (.ready f)) (fun r f H n K=>Bool.rec (motive:=fun _=>KV->Nat->Hp Bx->Nat->KtA->AN) (fun _ f _ _ _=>.bad 26 (.ready f)) (fun r _ H n K=>K r H n) (aYz 0 r) r f H n K) q f H n K
theorem b2i {q:Option KV} {f:Nat} {H:Hp Bx} {n:Nat} {K:KtA} {y:KV} (h:frF q f H n K=.ok y):∃ r,q=some r/\aYz 0 r=true/\K r H n=.ok y:=by
 unfold frF at h
 cases q with
 | none=>cases h
 | some r =>
   dsimp only at h
   cases hl:aYz 0 r with
   | false=>rw [hl] at h; cases h
   | true=>rw [hl] at h; exact ⟨r,rfl,hl,h⟩
open Vc (a1G)
section
variable (ρ:Nat->Nat)
def aXs (ks:List (Nat × Nat)):List (Nat × Nat):=List.rec [] (fun p _ ih=>(ρ p.1,p.2) :: ih) ks
def aKm (x:LF):LF:=LF.rec (fun v=>.v v) (fun l=>.sl l) (fun z=>.I z) (fun k off=>.p (ρ k) off) (fun k off n c sz=>.s (ρ k) off n c sz) .e0 (fun f ks=>.fn f (aXs ρ ks)) (fun x=>.q x) x
def aSG (l:List LF):List LF:=List.rec [] (fun x _ ih=>aKm ρ x :: ih) l
def aXt (x:KK):KK:=KK.rec (fun x=>.c (aKm ρ x)) (fun l=>.g (aSG ρ l)) x
def aHT (l:List KK):List KK:=List.rec [] (fun x _ ih=>aXt ρ x :: ih) l
def b0Z (x:KV):KV:=KV.rec .u (fun x=>.k (aXt ρ x)) (fun l=>.t (aHT ρ l)) x
def aTv (b:Bx):Bx:=⟨b.T,aSG ρ b.cs⟩
end
section
variable {ρ:Nat->Nat} {bm:BM} {w:World}
def bmR (bm:BM) (ρ:Nat->Nat):BM:=⟨fun k=>bm (ρ k),bm.z⟩
theorem aKj:∀ {ks:List (Nat × Nat)} {us:List Value},relP bm (aXs ρ ks) us ↔ relP (bmR bm ρ) ks us
 | [],[]=>Iff.rfl
 | p :: ks,u :: us=>by
   show (_/\relP bm (aXs ρ ks) us) ↔ (_/\relP _ ks us)
   rw [aKj (ks:=ks) (us:=us)]
   exact Iff.rfl
 | [],_ :: _=>Iff.rfl
 | _ :: _,[]=>Iff.rfl
theorem aKl {x:LF} {u:Value}:rel1 bm w (aKm ρ x) u ↔ rel1 (bmR bm ρ) w x u:=by
 cases x with
 | fn f ks =>
   show (∃ us,relP bm (aXs ρ ks) us/\_) ↔ ∃ us,relP _ ks us/\_
   simp only [aKj]
 | _=>exact Iff.rfl
theorem aOK (x:LF):(aKm ρ x).flat=x.flat.map (aKm ρ):=by cases x <;> rfl
theorem a7U:∀ l:List LF,a0d (aSG ρ l)=(a0d l).map (aKm ρ)
 | []=>rfl
 | x :: l=>by
   show (aKm ρ x).flat ++ a0d (aSG ρ l)=(x.flat ++ a0d l).map (aKm ρ);rw [a7U l,aOK,List.map_append]
theorem aH7:∀ {l:List LF} {us:List Value},relL bm w (l.map (aKm ρ)) us ↔ relL (bmR bm ρ) w l us
 | [],[]=>Iff.rfl
 | x :: l,u :: us=>by
   show (rel1 bm w (aKm ρ x) u/\relL bm w (l.map (aKm ρ)) us) ↔ (_/\_)
   rw [aKl,aH7]
 | [],_ :: _=>Iff.rfl
 | _ :: _,[]=>Iff.rfl
theorem aKk {x:KK} {u:Value}:relK bm w (aXt ρ x) u ↔ relK (bmR bm ρ) w x u:=by
 cases x with
 | c x=>exact aKl
 | g l =>
   show (∃ us:List Value,_/\relL bm w (a0d (aSG ρ l)) us) ↔ ∃ us:List Value,_/\relL _ w (a0d l) us;simp only [a7U,aH7]
theorem a9K:∀ {l:List KK} {us:List Value},relKs bm w (aHT ρ l) us ↔ relKs (bmR bm ρ) w l us
 | [],[]=>Iff.rfl
 | x :: l,u :: us=>by
   show (relK bm w (aXt ρ x) u/\relKs bm w (aHT ρ l) us) ↔ (_/\_)
   rw [aKk,a9K]
 | [],_ :: _=>Iff.rfl
 | _ :: _,[]=>Iff.rfl
theorem aKi {x:KV} {u:Value}:relV bm w (b0Z ρ x) u ↔ relV (bmR bm ρ) w x u:=by
 cases x with
 | u=>exact Iff.rfl
 | k x=>exact aKk
 | t l =>
   show (∃ us:List Value,_/\relKs bm w (aHT ρ l) us) ↔ ∃ us:List Value,_/\relKs _ w l us;simp only [a9K]
theorem aCJ {b:Nat} {x:Bx}:BoxAt bm w b (aTv ρ x) ↔ BoxAt (bmR bm ρ) w b x:=by
 show (∃ vs rs:List Value,_/\relL bm w (a0d (aSG ρ x.cs)) vs) ↔ ∃ vs rs:List Value,_/\relL _ w (a0d x.cs) vs;simp only [a7U,aH7];exact Iff.rfl
theorem aIa {n:Nat} {bm bm':BM} (hb:∀ k,k < n->bm' k=bm k) (hz:∀ b,bm.z b->bm'.z b) {b:Nat} {x:Bx} (hl:aPw n x.cs=true) (h:BoxAt bm w b x):BoxAt bm' w b x:=by
 obtain ⟨vs,rs,h1,h2⟩:=h;exact ⟨vs,rs,h1,a9W hb hz (a8b hl) h2⟩
end
structure MP where
 n0:Nat
 xs:List KK
 B0:List Bx
 r:KV
 B1:List Bx
def aPx (n:Nat) (l:List Bx):Bool:=List.rec true (fun b _ ih=>Bool.rec false ih (aPw n b.cs)) l
theorem a7e {n:Nat}:∀ {l:List Bx},aPx n l=true->∀ x ∈ l,aPw n x.cs=true
 | [],_,_,hx=>by cases hx
 | b :: l,h,x,hx=>by
   obtain ⟨h1,h2⟩:=a1c h;rcases List.mem_cons.1 hx with rfl | hx
   ·exact h1
   ·exact a7e h2 x hx
def aOV (l:List Bx):Nat->Hp Bx->Hp Bx:=List.rec (motive:=fun _=>Nat->Hp Bx->Hp Bx) (fun _ H=>H) (fun b _ ih k H=>ih (Nat.succ k) (Hp.put H k (some b))) l
theorem a9k:∀ (l:List Bx) (k:Nat) (H:Hp Bx) (j:Nat) (x:Bx),(aOV l k H).get j=some x->(k <= j/\l[j - k]?=some x) \/ (H.get j=some x/\¬ (k <= j/\j < k+l.length))
 | [],k,H,j,x,h=>.inr ⟨h,by simp⟩
 | b :: l,k,H,j,x,h=>by
   rcases a9k l (k+1) (Hp.put H k (some b)) j x h with ⟨h1,h2⟩ | ⟨h1,h2⟩
   ·refine .inl ⟨by omega,?_⟩;rw [show j - k=(j - (k+1))+1 by omega];simpa using h2
   ·by_cases e:j=k
    ·subst e;have:=Hp.put_eq _ _ _ _ h1;exact .inl ⟨Nat.le_refl _,by simpa using this⟩
    ·rw [Hp.put_ne _ _ _ _ e] at h1;exact .inr ⟨h1,by simp only [List.length_cons]; omega⟩
def mkH (l:List Bx):Hp Bx:=aOV l 0 aH3
theorem aH5 {l:List Bx} {j:Nat} {x:Bx} (h:(mkH l).get j=some x):l[j]?=some x:=by
 rcases a9k l 0 aH3 j x h with ⟨_,h2⟩ | ⟨h1,_⟩
 ·exact h2
 ·have:(aH3:Hp Bx).get j=none:=Hp.mk_none j;rw [this] at h1;cases h1
theorem aXZ (l:List Bx):Low (mkH l) l.length:=fun k hk=>by
 cases h:(mkH l).get k with
 | none=>rfl
 | some x =>
   have:=aH5 h;rw [List.getElem?_eq_none hk] at this;cases this
structure b7F (p:MP) (bm:BM) (w:World) (v:Value) (w':World) (bm':BM):Prop where
 g:Grow p.n0 p.n0 (p.n0+p.B1.length) w bm bm'
 fr:Frame p.n0 p.n0 bm w w'
 box:∀ i b x,p.B1[i]?=some x->bm' (p.n0+i)=some b->BoxAt bm' w' b x
 lt:∀ k b,bm' k=some b->b < w'.heap.size
 nz:∀ k b,bm' k=some b->¬ bm'.z b
 inj:∀ i j b x y,p.B1[i]?=some x->p.B1[j]?=some y->bm' (p.n0+i)=some b->bm' (p.n0+j)=some b->i=j
 zlt:∀ b,bm'.z b->b < w'.heap.size
 rel:relV bm' w' p.r v
structure MPOK (P:Program) (f:Nat) (p:MP):Prop where
 ent:a1G P f=true
 len:p.B0.length=p.n0
 lx:aIb p.n0 p.xs=true
 l0:aPx p.n0 p.B0=true
 lr:aYz (p.n0+p.B1.length) p.r=true
 l1:aPx (p.n0+p.B1.length) p.B1=true
 run:∀ (bm:BM) (w:World) (vs:List Value),Ok (mkH p.B0) bm w->(∀ k,p.n0 <= k->bm k=none)->relKs bm w p.xs vs ->
  Calls P f vs.toArray w fun e w'=>∃ v bm',e=.returned v/\b7F p bm w v w' bm'
def b4S (a b:Value):Bool :=
 match a,b with
 | .int k n,.int k' n'=>Bool.rec (motive:=fun _=>Bool) false (eqI n n') (Nat.beq (kNo k) (kNo k'))
 | .bool a,.bool b=>Bool.rec (motive:=fun _=>Bool) (Bool.rec (motive:=fun _=>Bool) true false b) b a
 | .string a,.string b=>decide (a=b)
 | .slice none n c,.slice none n' c'=>Bool.rec (motive:=fun _=>Bool) false (Nat.beq c c') (Nat.beq n n')
 | .pointer none,.pointer none=>true
 | .nilFunc,.nilFunc=>true
 | _,_=>false
theorem aY1 {a b:Value} (h:b4S a b=true):a=b:=by
 unfold b4S at h;split at h
 ·obtain ⟨h1,h2⟩:=a1c h;rw [aVo] at h1;rw [aLk] at h2;rw [of_decide_eq_true h1,of_decide_eq_true h2]
 ·rename_i a b
  cases a <;> cases b <;> first | rfl | cases h
 ·rw [of_decide_eq_true h]
 ·obtain ⟨h1,h2⟩:=a1c h;rw [a0l h1,a0l h2]
 ·rfl
 ·rfl
 ·cases h
def b3X (ρ:Nat->Nat) (l:List (Nat × Nat)):List (Nat × Nat)->Bool:=List.rec (motive:=fun _=>List (Nat × Nat)->Bool) (fun r=>List.rec (motive:=fun _=>Bool) true (fun _ _ _=>false) r) (fun a _ ih r=>List.rec (motive:=fun _=>Bool) false (fun b r _=>Bool.rec (motive:=fun _=>Bool) false (Bool.rec (motive:=fun _=>Bool) false (ih r) (Nat.beq a.2 b.2)) (Nat.beq (ρ a.1) b.1)) r) l
theorem aQM {ρ:Nat->Nat}:∀ {l r:List (Nat × Nat)},b3X ρ l r=true->aXs ρ l=r
 | [],[],_=>rfl
 | [],_ :: _,h=>by cases h
 | _ :: _,[],h=>by cases h
 | (a,c) :: l,(b,d) :: r,h=>by
   obtain ⟨h1,h2⟩:=a1c (a:=Nat.beq (ρ a) b) (b:=Bool.rec (motive:=fun _=>Bool) false (b3X ρ l r) (Nat.beq c d)) h;obtain ⟨h3,h4⟩:=a1c (a:=Nat.beq c d) (b:=b3X ρ l r) h2;show (ρ a,c) :: aXs ρ l=_;rw [a0l h1,a0l h3,aQM h4]
def eq1 (ρ:Nat->Nat) (x y:LF):Bool :=
 match x,y with
 | .v a,.v b=>b4S a b
 | .sl a,.sl b=>lsB a b
 | .I a,.I b=>eqI a b
 | .p k o,.p k' o'=>Bool.rec (motive:=fun _=>Bool) false (Nat.beq o o') (Nat.beq (ρ k) k')
 | .s k o n c z,.s k' o' n' c' z'=>Bool.rec (motive:=fun _=>Bool) false (Bool.rec (motive:=fun _=>Bool) false (Bool.rec (motive:=fun _=>Bool) false (Bool.rec (motive:=fun _=>Bool) false (Nat.beq z z') (Nat.beq c c')) (Nat.beq n n')) (Nat.beq o o')) (Nat.beq (ρ k) k')
 | .e0,.e0=>true
 | .fn f l,.fn g r=>Bool.rec (motive:=fun _=>Bool) false (b3X ρ l r) (Nat.beq f g)
 | _,_=>false
theorem aVD {ρ:Nat->Nat} {x y:LF} (h:eq1 ρ x y=true):aKm ρ x=y:=by
 unfold eq1 at h;split at h
 ·rw [aY1 h]; rfl
 ·rw [aPv h]; rfl
 ·rw [aLk] at h; rw [of_decide_eq_true h]; rfl
 ·obtain ⟨h1,h2⟩:=a1c h;show LF.p (ρ _) _=_;rw [a0l h1,a0l h2]
 ·obtain ⟨h1,h2⟩:=a1c h;obtain ⟨h3,h4⟩:=a1c h2;obtain ⟨h5,h6⟩:=a1c h4;obtain ⟨h7,h8⟩:=a1c h6;show LF.s (ρ _) _ _ _ _=_;rw [a0l h1,a0l h3,a0l h5,a0l h7,a0l h8]
 ·rfl
 ·obtain ⟨h1,h2⟩:=a1c h;show LF.fn _ (aXs ρ _)=_;rw [a0l h1,aQM h2]
 ·cases h
def eqL (ρ:Nat->Nat) (l:List LF):List LF->Bool:=List.rec (motive:=fun _=>List LF->Bool) (fun r=>List.rec (motive:=fun _=>Bool) true (fun _ _ _=>false) r) (fun a _ ih r=>List.rec (motive:=fun _=>Bool) false (fun b r _=>Bool.rec (motive:=fun _=>Bool) false (ih r) (eq1 ρ a b)) r) l
theorem aQN {ρ:Nat->Nat}:∀ {l r:List LF},eqL ρ l r=true->aSG ρ l=r
 | [],[],_=>rfl
 | [],_ :: _,h=>by cases h
 | _ :: _,[],h=>by cases h
 | a :: l,b :: r,h=>by
   obtain ⟨h1,h2⟩:=a1c (a:=eq1 ρ a b) (b:=eqL ρ l r) h;show aKm ρ a :: aSG ρ l=_;rw [aVD h1,aQN h2]
def b2n (ρ:Nat->Nat) (x y:KK):Bool :=
 match x,y with
 | .c a,.c b=>eq1 ρ a b
 | .g a,.g b=>eqL ρ a b
 | _,_=>false
theorem aQP {ρ:Nat->Nat} {x y:KK} (h:b2n ρ x y=true):aXt ρ x=y:=by
 unfold b2n at h;split at h
 ·show KK.c (aKm ρ _)=_;rw [aVD h]
 ·show KK.g (aSG ρ _)=_;rw [aQN h]
 ·cases h
def aUa (ρ:Nat->Nat) (l:List KK):List KK->Bool:=List.rec (motive:=fun _=>List KK->Bool) (fun r=>List.rec (motive:=fun _=>Bool) true (fun _ _ _=>false) r) (fun a _ ih r=>List.rec (motive:=fun _=>Bool) false (fun b r _=>Bool.rec (motive:=fun _=>Bool) false (ih r) (b2n ρ a b)) r) l
theorem aDp {ρ:Nat->Nat}:∀ {l r:List KK},aUa ρ l r=true->aHT ρ l=r
 | [],[],_=>rfl
 | [],_ :: _,h=>by cases h
 | _ :: _,[],h=>by cases h
 | a :: l,b :: r,h=>by
   obtain ⟨h1,h2⟩:=a1c (a:=b2n ρ a b) (b:=aUa ρ l r) h;show aXt ρ a :: aHT ρ l=_;rw [aQP h1,aDp h2]
def b4T (ρ:Nat->Nat) (x y:KV):Bool :=
 match x,y with
 | .u,.u=>true
 | .k a,.k b=>b2n ρ a b
 | .t a,.t b=>aUa ρ a b
 | _,_=>false
theorem aY2 {ρ:Nat->Nat} {x y:KV} (h:b4T ρ x y=true):b0Z ρ x=y:=by
 unfold b4T at h;split at h
 ·rfl
 ·show KV.k (aXt ρ _)=_;rw [aQP h]
 ·show KV.t (aHT ρ _)=_;rw [aDp h]
 ·cases h
def b2o (ρ:Nat->Nat) (H:Hp Bx) (l:List Bx):Nat->Bool:=List.rec (motive:=fun _=>Nat->Bool) (fun _=>true) (fun b _ ih k=>Option.rec (motive:=fun _=>Bool) false (fun c=>Bool.rec (motive:=fun _=>Bool) false (Bool.rec (motive:=fun _=>Bool) false (ih (Nat.succ k)) (Nat.beq b.T c.T)) (eqL ρ b.cs c.cs)) (b2b H (ρ k))) l
theorem aIx {ρ:Nat->Nat} {H:Hp Bx}:∀ {l:List Bx} {k:Nat},b2o ρ H l k=true->∀ i x,l[i]?=some x->H.get (ρ (k+i))=some (aTv ρ x)
 | [],_,_,i,x,hi=>by simp at hi
 | b :: l,k,h,i,x,hi=>by
   have h':Option.rec (motive:=fun _=>Bool) false (fun c=>Bool.rec (motive:=fun _=>Bool) false (Bool.rec (motive:=fun _=>Bool) false (b2o ρ H l (Nat.succ k)) (Nat.beq b.T c.T)) (eqL ρ b.cs c.cs)) (b2b H (ρ k))=true:=h;rw [aQw] at h'
   cases hg:H.get (ρ k) with
   | none=>rw [hg] at h'; cases h'
   | some c =>
     rw [hg] at h';obtain ⟨h1,h2⟩:=a1c (a:=eqL ρ b.cs c.cs) h';obtain ⟨h3,h4⟩:=a1c (a:=Nat.beq b.T c.T) (b:=b2o ρ H l (Nat.succ k)) h2
     cases i with
     | zero =>
       have e:b=x:=by simpa using hi
       subst e;rw [Nat.add_zero,hg];show some c=some ⟨b.T,aSG ρ b.cs⟩
       rw [aQN h1,a0l h3]
     | succ i =>
       have:=aIx h4 i x (by simpa using hi);rwa [Nat.succ_add,<- Nat.add_succ] at this
def b1W (ρ:Nat->Nat) (a:Nat) (n:Nat) (I:Hp Nat):Bool:=Nat.rec (motive:=fun _=>Bool) true (fun k ih=>Bool.rec (motive:=fun _=>Bool) false ih (Option.rec (motive:=fun _=>Bool) false (fun j=>Nat.beq j (Nat.add a k)) (Hp.get I (ρ (Nat.add a k))))) n
theorem aDc {ρ:Nat->Nat} {a:Nat} {I:Hp Nat}:∀ {n:Nat},b1W ρ a n I=true->∀ k,k < n->Hp.get I (ρ (a+k))=some (a+k)
 | 0,_,k,hk=>by omega
 | n+1,h,k,hk=>by
   obtain ⟨h1,h2⟩:=a1c (b:=b1W ρ a n I) h;by_cases e:k=n
   ·subst e;have h1':Option.rec (motive:=fun _=>Bool) false (fun j=>Nat.beq j (a+k)) (Hp.get I (ρ (a+k)))=true:=h1
    cases hg:Hp.get I (ρ (a+k)) with
    | none=>rw [hg] at h1'; cases h1'
    | some j=>rw [hg] at h1'; rw [a0l h1']
   ·exact aDc h2 k (by omega)
theorem aK5 {ρ:Nat->Nat} {a n:Nat} {I:Hp Nat} (h:b1W ρ a n I=true) {k j:Nat} (h1:a <= k) (h2:k < a+n) (h3:a <= j) (h4:j < a+n) (e:ρ k=ρ j):k=j:=by
 have g1:=aDc h (k - a) (by omega);have g2:=aDc h (j - a) (by omega);rw [show a+(k - a)=k by omega] at g1;rw [show a+(j - a)=j by omega] at g2;rw [e,g2] at g1;simpa using g1.symm
section
variable {P:Program}
def aTq (n0:Nat) (E:Fr Nat) (k:Nat):Nat:=Bool.rec (motive:=fun _=>Nat) (Option.rec (motive:=fun _=>Nat) 0 (fun x=>x) (Fr.get E k)) k (Nat.ble (Nat.succ k) n0)
theorem aXp {n0 k:Nat} {E:Fr Nat} (h:k < n0):aTq n0 E k=k:=by
 unfold aTq;rw [Nat.ble_eq_true_of_le (show Nat.succ k <= n0 from h)]
def geB (ρ:Nat->Nat) (n0 a n:Nat):Bool:=Nat.rec (motive:=fun _=>Bool) true (fun k ih=>Bool.rec (motive:=fun _=>Bool) false ih (Nat.ble n0 (ρ (Nat.add a k)))) n
theorem aQy {ρ:Nat->Nat} {n0 a:Nat}:∀ {n:Nat},geB ρ n0 a n=true->∀ k,k < n->n0 <= ρ (a+k)
 | 0,_,k,hk=>by omega
 | n+1,h,k,hk=>by
   obtain ⟨h1,h2⟩:=a1c (b:=geB ρ n0 a n) h;by_cases e:k=n
   ·subst e; exact a0R h1
   ·exact aQy h2 k (by omega)
def b31 (p:MP) (E:Fr Nat) (I:Hp Nat) (r:KV) (H:Hp Bx):Bool :=
 Bool.rec (motive:=fun _=>Bool) false (Bool.rec (motive:=fun _=>Bool) false (Bool.rec (motive:=fun _=>Bool) false (geB (aTq p.n0 E) p.n0 p.n0 (len p.B1)) (b1W (aTq p.n0 E) p.n0 (len p.B1) I)) (b2o (aTq p.n0 E) H p.B1 p.n0)) (b4T (aTq p.n0 E) p.r r)
def b33 (p:MP):Bool :=
 Bool.rec (motive:=fun _=>Bool) false (Bool.rec (motive:=fun _=>Bool) false (Bool.rec (motive:=fun _=>Bool) false (Bool.rec (motive:=fun _=>Bool) false (aPx (Nat.add p.n0 (len p.B1)) p.B1) (aYz (Nat.add p.n0 (len p.B1)) p.r)) (aPx p.n0 p.B0)) (aIb p.n0 p.xs)) (Nat.beq (len p.B0) p.n0)
theorem MPOK.of {f:Nat} {p:MP} {E:Fr Nat} {I:Hp Nat} {q:Res} (h0:b33 p=true) (hc:CallOK P p.n0 f p.xs (mkH p.B0) p.n0 q) (h1:b31 p E I q.r q.H=true):MPOK P f p:=by
 unfold b33 at h0;unfold b31 at h1;obtain ⟨a1,h0⟩:=a1c h0;obtain ⟨a2,h0⟩:=a1c h0;obtain ⟨a3,h0⟩:=a1c h0;obtain ⟨a4,a5⟩:=a1c h0;obtain ⟨b1,h1⟩:=a1c h1;obtain ⟨b2,h1⟩:=a1c h1;obtain ⟨b3,b4⟩:=a1c h1;rw [a8H] at a1 a4 a5 b3 b4;have a1:=a0l a1;refine ⟨hc.1,a1,a2,a3,a4,a5,fun bm w vs ok0 g1 g5=>?_⟩;obtain ⟨s,hrun⟩:=hc.2 (Nat.le_refl _) (by have:=aXZ p.B0; rwa [a1] at this);refine (hrun bm w vs ok0 (fun k k1 k2=>g1 k k1) g5).mono ?_;rintro e w' ⟨v,rfl,bm1,g,fr,ok,hv⟩;have eB:=aIx b2;have eV:=aY2 b1
 generalize hρ:aTq p.n0 E=ρ at *
 have ρlt:∀ k,k < p.n0->ρ k=k:=fun k hk=>by rw [<- hρ]; exact aXp hk
 have ρge:∀ k,p.n0 <= k->k < p.n0+p.B1.length->p.n0 <= ρ k:=fun k k1 k2=>by
  have:=aQy b4 (k - p.n0) (by omega);rwa [show p.n0+(k - p.n0)=k by omega] at this
 have live:∀ k,p.n0 <= k->k < p.n0+p.B1.length->∃ x,q.H.get (ρ k)=some x:=fun k k1 k2=>by
  have:=eB (k - p.n0) _ (List.getElem?_eq_getElem (show k - p.n0 < p.B1.length by omega));rw [show p.n0+(k - p.n0)=k by omega] at this;exact ⟨_,this⟩
 have hco:∀ k,k < p.n0+p.B1.length->(⟨fun k=>if k < p.n0+p.B1.length then bm1 (ρ k) else none,bm1.z⟩:BM) k=bmR bm1 ρ k:=fun k hk=>if_pos hk;generalize hb2:(⟨fun k=>if k < p.n0+p.B1.length then bm1 (ρ k) else none,bm1.z⟩:BM)=bm2 at hco
 have hz:bm2.z=bm1.z:=by rw [<- hb2]
 have hex:∀ k b,bm2 k=some b->k < p.n0+p.B1.length/\bm1 (ρ k)=some b:=fun k b h=>by
  by_cases hk:k < p.n0+p.B1.length
  ·rw [hco k hk] at h;exact ⟨hk,h⟩
  ·rw [<- hb2] at h;simp [hk] at h
 refine ⟨v,bm2,rfl,⟨by omega,fun k hk=>?_,fun k b k1 k2 k3=>.inl ?_,fun b h=>hz ▸ g.z b h,fun b h=>g.zn b (hz ▸ h)⟩,fr,fun i b x k1 k2=>?_,fun k b k1=>ok.lt _ b (hex k b k1).2,fun k b k1 h=>ok.nz _ b (hex k b k1).2 (hz ▸ h),fun i j b x y k1 k2 k3 k4=>?_,fun b h=>ok.zlt b (hz ▸ h),?_⟩
 ·rcases Nat.lt_or_ge k p.n0 with h | h
  ·rw [hco k (by omega)];show bm1 (ρ k)=bm k;rw [ρlt k h];exact g.same k (by omega)
  ·rw [g1 k h,<- hb2];exact if_neg (by omega)
 ·obtain ⟨x,hx'⟩:=live k k1 k2
  rcases g.fresh (ρ k) b (ρge k k1 k2) (s.low.lt hx') (hex k b k3).2 with h | ⟨j,j1,j2,_⟩
  ·exact h
  ·omega
 ·exact aIa (bm:=bmR bm1 ρ) hco (fun b h=>hz ▸ h) (a7e a5 x (List.mem_of_getElem? k1)) (aCJ.1 (ok.box _ b _ (hex _ b k2).2 (eB i x k1)))
 ·obtain ⟨c1,c2⟩:=hex _ b k3;obtain ⟨d1,d2⟩:=hex _ b k4;have:=aK5 b3 (by omega) c1 (by omega) d1 (ok.inj _ _ b _ _ c2 d2 (eB i x k1) (eB j y k2));omega
 ·rw [<- eV] at hv;exact aCZ (bm:=bmR bm1 ρ) hco (fun b h=>hz ▸ h) a4 (aKi.1 hv)
end
def aHS (n0 n:Nat) (E:Fr Nat) (k:Nat):Nat:=Bool.rec (motive:=fun _=>Nat) (Option.rec (motive:=fun _=>Nat) 0 (fun x=>x) (Fr.get E k)) (Nat.add n (Nat.sub k n0)) (Nat.ble n0 k)
theorem aXq {n0 n k:Nat} {E:Fr Nat} (h:n0 <= k):aHS n0 n E k=n+(k - n0):=by
 unfold aHS;rw [Nat.ble_eq_true_of_le h];rfl
def b30 (p:MP) (n:Nat) (E:Fr Nat) (I:Hp Nat) (xs:List KK) (H:Hp Bx):Bool :=
 Bool.rec (motive:=fun _=>Bool) false (Bool.rec (motive:=fun _=>Bool) false (b1W (aHS p.n0 n E) 0 p.n0 I) (b2o (aHS p.n0 n E) H p.B0 0)) (aUa (aHS p.n0 n E) p.xs xs)
theorem MPOK.use {P:Program} {f m n:Nat} {p:MP} (hp:MPOK P f p) {E:Fr Nat} {I:Hp Nat} {xs:List KK} {H:Hp Bx} (h:b30 p n E I xs H=true) :
    CallOK P m f xs H n ⟨b0Z (aHS p.n0 n E) p.r,aOV (p.B1.map (aTv (aHS p.n0 n E))) n H,n+p.B1.length⟩:=by
 unfold b30 at h;obtain ⟨b1,h⟩:=a1c h;obtain ⟨b2,b3⟩:=a1c h;have eB:=aIx b2;have eX:=aDp b1;refine ⟨hp.ent,fun hm hl=>⟨⟨by show n <= n+p.B1.length; omega,fun k hk=>?_,fun k hk=>?_⟩,fun bm w vs ok hroom hrel=>?_⟩⟩
 ·show (aOV _ n H).get k=none;have hk:n+p.B1.length <= k:=hk
  cases hg:(aOV (p.B1.map (aTv (aHS p.n0 n E))) n H).get k with
  | none=>rfl
  | some x =>
    rcases a9k _ _ _ _ _ hg with ⟨_,h2⟩ | ⟨h1,_⟩
    ·rw [List.getElem?_eq_none (by rw [List.length_map]; omega)] at h2; cases h2
    ·rw [hl k (by omega)] at h1; cases h1
 ·show (aOV _ n H).get k=H.get k
  have key:∀ (l:List Bx) (a:Nat) (H:Hp Bx),k < a->(aOV l a H).get k=H.get k:=by
   intro l
   induction l with
   | nil=>intro a H _; rfl
   | cons b l ih =>
     intro a H ha;show (aOV l (a+1) (Hp.put H a (some b))).get k=_;rw [ih _ _ (by omega),Hp.put_ne _ _ _ _ (by omega)]
  exact key _ _ _ (by omega)
 ·have hroom:Room bm n (n+p.B1.length):=hroom
  generalize hρ:aHS p.n0 n E=ρ at *
  have ρge:∀ k,p.n0 <= k->ρ k=n+(k - p.n0):=fun k hk=>by rw [<- hρ]; exact aXq hk
  have live:∀ k,k < p.n0->∃ x,H.get (ρ k)=some x:=fun k hk=>by
   have:=eB k _ (List.getElem?_eq_getElem (show k < p.B0.length by rw [hp.len]; exact hk));rw [Nat.zero_add] at this;exact ⟨_,this⟩
  have ρlt:∀ k,k < p.n0->ρ k < n:=fun k hk=>by
   obtain ⟨x,hx⟩:=live k hk;exact hl.lt hx
  have hb0:∀ k,k < p.n0->(⟨fun k=>if k < p.n0 then bm (ρ k) else none,bm.z⟩:BM) k=bmR bm ρ k:=fun k hk=>if_pos hk;have hbn:∀ k,p.n0 <= k->(⟨fun k=>if k < p.n0 then bm (ρ k) else none,bm.z⟩:BM) k=none:=fun k hk=>if_neg (by omega);have hbz:(⟨fun k=>if k < p.n0 then bm (ρ k) else none,bm.z⟩:BM).z=bm.z:=rfl;generalize (⟨fun k=>if k < p.n0 then bm (ρ k) else none,bm.z⟩:BM)=bm0 at hb0 hbn hbz
  have hex:∀ k b,bm0 k=some b->k < p.n0/\bm (ρ k)=some b:=fun k b h=>by
   by_cases hk:k < p.n0
   ·rw [hb0 k hk] at h;exact ⟨hk,h⟩
   ·rw [hbn k (by omega)] at h;cases h
  have hrel':relKs bm0 w p.xs vs:=by
   rw [<- eX] at hrel;exact a7d (bm:=bmR bm ρ) hb0 (fun b h=>hbz ▸ h) hp.lx (a9K.1 hrel)
  have ok0:Ok (mkH p.B0) bm0 w:=⟨fun k b x k1 k2=>by
      have hx:=eB k x (aH5 k2);rw [Nat.zero_add] at hx
      exact aIa (bm:=bmR bm ρ) hb0 (fun b h=>hbz ▸ h) (a7e hp.l0 x (List.mem_of_getElem? (aH5 k2))) (aCJ.1 (ok.box _ b _ (hex k b k1).2 hx)),
   fun k b k1=>ok.lt _ b (hex k b k1).2,fun k b k1 h=>ok.nz _ b (hex k b k1).2 (hbz ▸ h),fun k j b x y k1 k2 _ _=>by
    obtain ⟨hk,k1⟩:=hex k b k1;obtain ⟨hj,k2⟩:=hex j b k2;obtain ⟨x,hx⟩:=live k hk;obtain ⟨y,hy⟩:=live j hj
    exact aK5 b3 (Nat.zero_le _) (by omega) (Nat.zero_le _) (by omega) (ok.inj _ _ b x y k1 k2 hx hy),fun b h=>ok.zlt b (hbz ▸ h)⟩
  refine (hp.run bm0 w vs ok0 hbn hrel').mono ?_;rintro e w' ⟨v,bm1,rfl,ok1⟩;have g1:=ok1.g;have fr:=ok1.fr
  have fr':∀ m',Frame m' n bm w w':=fun m'=>⟨fr.le,fun b hb _=>fr.same b hb (fun k h1 h2=>by omega),fr.sz,fr.env⟩
  have hnew:∀ k,n <= k->k < n+p.B1.length->(⟨fun k=>if n <= k/\k < n+p.B1.length then bm1 (p.n0+(k - n)) else bm k,bm1.z⟩:BM) k=bm1 (p.n0+(k - n)):=fun k h1 h2=>if_pos ⟨h1,h2⟩;have hold:∀ k,¬ (n <= k/\k < n+p.B1.length)->(⟨fun k=>if n <= k/\k < n+p.B1.length then bm1 (p.n0+(k - n)) else bm k,bm1.z⟩:BM) k=bm k:=fun k h1=>if_neg h1;have hbz':(⟨fun k=>if n <= k/\k < n+p.B1.length then bm1 (p.n0+(k - n)) else bm k,bm1.z⟩:BM).z=bm1.z:=rfl;generalize (⟨fun k=>if n <= k/\k < n+p.B1.length then bm1 (p.n0+(k - n)) else bm k,bm1.z⟩:BM)=bm' at hnew hold hbz'
  have fresh:∀ k b,n <= k->k < n+p.B1.length->bm' k=some b->w.heap.size <= b:=fun k b k1 k2 k3=>by
   rw [hnew k k1 k2] at k3
   rcases g1.fresh _ b (by omega) (by omega) k3 with h | ⟨j,j1,j2,_⟩
   ·exact h
   ·omega
  have g:Grow m n (n+p.B1.length) w bm bm':=⟨by omega,hold,fun k b k1 k2 k3=>.inl (fresh k b k1 k2 k3),fun b h=>hbz' ▸ g1.z b (hbz ▸ h),fun b h=>by
   rw [hbz'] at h;rw [<- hbz]
   exact g1.zn b h⟩
  have hk:Keep bm bm' w w':=Keep.of ok g hroom (fr' m)
  have hco:∀ k,k < p.n0+p.B1.length->bmR bm' ρ k=bm1 k:=fun k hk=>by
   show bm' (ρ k)=bm1 k;rcases Nat.lt_or_ge k p.n0 with h1 | h1
   ·have:=ρlt k h1;rw [hold _ (by omega),g1.same k (by omega)];exact (hb0 k h1).symm
   ·rw [ρge k h1,hnew _ (by omega) (by omega)];congr 1;omega
  have cases':∀ k x,(aOV (p.B1.map (aTv ρ)) n H).get k=some x->(n <= k/\k < n+p.B1.length/\∃ y,p.B1[k - n]?=some y/\aTv ρ y=x) \/ (¬ (n <= k/\k < n+p.B1.length)/\H.get k=some x):=fun k x h=>by
   rcases a9k _ _ _ _ _ h with ⟨c1,c2⟩ | ⟨c1,c2⟩
   ·rw [List.getElem?_map] at c2;obtain ⟨y,hy,rfl⟩:=Option.map_eq_some_iff.1 c2;have:=(List.getElem?_eq_some_iff.1 hy).1;exact .inl ⟨c1,by omega,y,hy,rfl⟩
   ·rw [List.length_map] at c2;exact .inr ⟨c2,c1⟩
  have old:∀ k b,¬ (n <= k/\k < n+p.B1.length)->bm' k=some b->bm k=some b:=fun k b h1 h2=>by rwa [hold k h1] at h2
  refine ⟨v,rfl,bm',g,fr' m,⟨fun k b x k1 k2=>?_,fun k b k1=>?_,fun k b k1 h=>?_,fun k j b x y k1 k2 k3 k4=>?_,fun b h=>ok1.zlt b (hbz' ▸ h)⟩,aKi.2 (aCZ (bm:=bm1) hco (fun b h=>hbz' ▸ h) hp.lr ok1.rel)⟩
  ·rcases cases' k x k2 with ⟨c1,c2,y,hy,rfl⟩ | ⟨c1,c2⟩
   ·rw [hnew k c1 c2] at k1;exact aCJ.2 (aIa (bm:=bm1) hco (fun b h=>hbz' ▸ h) (a7e hp.l1 y (List.mem_of_getElem? hy)) (ok1.box _ b y hy k1))
   ·have k1:=old k b c1 k1;exact (ok.box k b x k1 c2).keep hk ((fr' n).same b (ok.lt k b k1) (fun k h1 h2=>by omega))
  ·by_cases c:n <= k/\k < n+p.B1.length
   ·rw [hnew k c.1 c.2] at k1;exact ok1.lt _ b k1
   ·exact Nat.lt_of_lt_of_le (ok.lt k b (old k b c k1)) fr.le
  ·rw [hbz'] at h;by_cases c:n <= k/\k < n+p.B1.length
   ·rw [hnew k c.1 c.2] at k1;exact ok1.nz _ b k1 h
   ·have k1:=old k b c k1;rcases g1.zn b h with h | h
    ·exact ok.nz k b k1 (hbz ▸ h)
    ·have:=ok.lt k b k1;omega
  ·rcases cases' k x k3 with ⟨c1,c2,x',hx,_⟩ | ⟨c1,c2⟩ <;> rcases cases' j y k4 with ⟨d1,d2,y',hy,_⟩ | ⟨d1,d2⟩
   ·rw [hnew k c1 c2] at k1;rw [hnew j d1 d2] at k2;have:=ok1.inj _ _ b _ _ hx hy k1 k2;omega
   ·have h1:=fresh k b c1 c2 k1;have h2:=ok.lt j b (old j b d1 k2);omega
   ·have h1:=fresh j b d1 d2 k2;have h2:=ok.lt k b (old k b c1 k1);omega
   ·exact ok.inj k j b x y (old k b c1 k1) (old j b d1 k2) c2 d2
