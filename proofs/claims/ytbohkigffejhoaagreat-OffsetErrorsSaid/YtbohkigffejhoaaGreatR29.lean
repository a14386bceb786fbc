import Derived.Test.YtbohkigffejhoaaGreatR28
import Derived.Test.YtbohkigffejhoaaGreatR16
open Go.Proofs.Tryz (prog)
noncomputable section
namespace Go.Proofs.YtbohkigffejhoaaGreat
open Go.RowKit
namespace Zc
def mtP (l:List (Nat × Nat)):List (Nat × Nat)->Fr Nat->Fr Nat:=List.rec (motive:=fun _=>List (Nat × Nat)->Fr Nat->Fr Nat) (fun _ E=>E) (fun a _ ih r E=>List.rec (motive:=fun _=>Fr Nat->Fr Nat) (fun E=>E) (fun b r _ E=>ih r (Fr.put E a.1 (some b.1))) r E) l
def mt1 (x y:LF) (E:Fr Nat):Fr Nat :=
 match x,y with
 | .p k _,.p k' _=>Fr.put E k (some k')
 | .s k _ _ _ _,.s k' _ _ _ _=>Fr.put E k (some k')
 | .fn _ l,.fn _ r=>mtP l r E
 | _,_=>E
def mtL (l:List LF):List LF->Fr Nat->Fr Nat:=List.rec (motive:=fun _=>List LF->Fr Nat->Fr Nat) (fun _ E=>E) (fun a _ ih r E=>List.rec (motive:=fun _=>Fr Nat->Fr Nat) (fun E=>E) (fun b r _ E=>ih r (mt1 a b E)) r E) l
def mtK (x y:KK) (E:Fr Nat):Fr Nat :=
 match x,y with
 | .c a,.c b=>mt1 a b E
 | .g a,.g b=>mtL a b E
 | _,_=>E
def b3Q (l:List KK):List KK->Fr Nat->Fr Nat:=List.rec (motive:=fun _=>List KK->Fr Nat->Fr Nat) (fun _ E=>E) (fun a _ ih r E=>List.rec (motive:=fun _=>Fr Nat->Fr Nat) (fun E=>E) (fun b r _ E=>ih r (mtK a b E)) r E) l
def mtV (x y:KV) (E:Fr Nat):Fr Nat :=
 match x,y with
 | .k a,.k b=>mtK a b E
 | .t a,.t b=>b3Q a b E
 | _,_=>E
def mtB (H:Hp Bx) (l:List Bx):Nat->Fr Nat->Fr Nat:=List.rec (motive:=fun _=>Nat->Fr Nat->Fr Nat) (fun _ E=>E) (fun b _ ih k E=>ih (Nat.succ k) (Option.rec (motive:=fun _=>Fr Nat) E (fun j=>Option.rec (motive:=fun _=>Fr Nat) E (fun c=>mtL b.cs c.cs E) (b2b H j)) (Fr.get E k))) l
def b3T (ρ:Nat->Nat) (a n:Nat):Hp Nat:=Nat.rec (motive:=fun _=>Hp Nat) Hp.mk0 (fun k ih=>Hp.put ih (ρ (Nat.add a k)) (some (Nat.add a k))) n
def n2K (n:Nat) (r:KV) (H:Hp Bx) (K:KtA):AN:=Nat.rec (motive:=fun _=>KV->Hp Bx->KtA->AN) (fun r H K=>K r H 0) (fun p _ r H K=>K r H (Nat.succ p)) n r H K
theorem b1v (n:Nat) (r:KV) (H:Hp Bx) (K:KtA):n2K n r H K=K r H n:=by cases n <;> rfl
def aPs (ρ:Nat->Nat) (l:List Bx):List Bx:=List.rec (motive:=fun _=>List Bx) [] (fun b _ ih=>aTv ρ b :: ih) l
theorem aX0 (ρ:Nat->Nat) (l:List Bx):aPs ρ l=l.map (aTv ρ):=by
 induction l with
 | nil=>rfl
 | cons b l ih=>show aTv ρ b :: aPs ρ l=_; rw [ih]; rfl
def aXg (p:MP) (E:Fr Nat) (xs:List KK) (H:Hp Bx) (n:Nat) (K:KtA) (F:AN):AN :=
 Bool.rec (motive:=fun _=>AN) F (n2K (Nat.add n (len p.B1)) (b0Z (aHS p.n0 n E) p.r) (aOV (aPs (aHS p.n0 n E) p.B1) n H) K) (b30 p n E (b3T (aHS p.n0 n E) 0 p.n0) xs H)
def b0G (xs:List KK) (H:Hp Bx) (n:Nat) (K:KtA) (F:AN) (ps:List MP):AN :=
 List.rec (motive:=fun _=>AN) F (fun p _ ih=>aXg p (mtB H p.B0 0 (b3Q p.xs xs Fr.mk0)) xs H n K ih) ps
def zin (L:Tr ZL) (W:Nat->Bool) (F:Nat->Option ZF) (fuel:Nat) (C:CtA) (m f:Nat) (xs:List KK) (H:Hp Bx) (n:Nat) (K:KtA):AN :=
 Option.rec (motive:=fun _=>AN) (.bad 25 (.ready f)) (fun z =>
  Bool.rec (motive:=fun _=>AN) (.bad 24 (.ready f))
   (aN8 C L W m fuel f z xs H n K)
   (Nat.ble (len xs) z.N)) (F f)
def zst (L:Tr ZL) (W:Nat->Bool) (F:Nat->Option ZF) (D:Tr a4p) (fuel:Nat) (C:CtA) (m f:Nat) (xs:List KK) (H:Hp Bx) (n:Nat) (K:KtA):AN :=
 Option.rec (motive:=fun _=>AN) (zin L W F fuel C m f xs H n K) (fun g=>aVl xs fun xs=>b4K (g xs) H n K (zin L W F fuel C m f xs H n K)) (D.get f)
def zCM (L:Tr ZL) (W:Nat->Bool) (F:Nat->Option ZF) (D:Tr a4p) (M:Tr (List MP)) (fuel d:Nat):CtA :=
 Nat.rec (motive:=fun _=>CtA) (fun _ f _ _ _ _=>.bad 20 (.ready f)) (fun _ C m f xs H n K =>
  Option.rec (motive:=fun _=>AN) (zst L W F D fuel C m f xs H n K) (fun ps=>aVl xs fun xs=>b0G xs H n K (zst L W F D fuel C m f xs H n K) ps) (M.get f)) d
section
variable {P:Program} {L:Tr ZL} {W:Nat->Bool} {F:Nat->Option ZF} {D:Tr a4p} {fuel:Nat}
theorem b0A (hm:P.follows .mixedOrders=true) (hL:a5q P L) (hF:aEh P F) {C:CtA} (hC:a5n P C):a5n P (zin L W F fuel C):=fun m f xs H n K y h=>by
 unfold zin at h
 cases hz:F f with
 | none=>rw [hz] at h; cases h
 | some z =>
   rw [hz] at h;dsimp only at h
   cases hle:Nat.ble (len xs) z.N with
   | false=>rw [hle] at h; cases h
   | true =>
     rw [hle] at h;have hle':=a0R hle;rw [a8H] at hle';dsimp only at h;rw [aN7] at h;exact aSX hm hL hC hF hz hle' h
theorem b0v (hm:P.follows .mixedOrders=true) (hL:a5q P L) (hF:aEh P F) (hD:LeafOK P D) {C:CtA} (hC:a5n P C):a5n P (zst L W F D fuel C):=fun m f xs H n K y h=>by
 have hi:=b0A (W:=W) (fuel:=fuel) hm hL hF hC m f xs H n K y;unfold zst at h
 cases hg:D.get f with
 | none=>rw [hg] at h; exact hi h
 | some g =>
   rw [hg] at h;have h1:(aVl xs fun xs=>b4K (g xs) H n K (zin L W F fuel C m f xs H n K))=.ok y:=h;rw [aC5] at h1;unfold b4K at h1
   cases hr:g xs with
   | none=>rw [hr] at h1; exact hi h1
   | some r=>rw [hr] at h1; exact ⟨⟨r,H,n⟩,h1,(hD f g xs r hg hr).call⟩
def MOK (P:Program) (M:Tr (List MP)):Prop:=∀ f ps,M.get f=some ps->∀ p ∈ ps,MPOK P f p
theorem aOl {f m:Nat} {xs:List KK} {H:Hp Bx} {n:Nat} {K:KtA} {y:KV} {F:AN} (hF:F=.ok y->∃ q:Res,K q.r q.H q.n=.ok y/\CallOK P m f xs H n q):∀ {ps:List MP},(∀ p ∈ ps,MPOK P f p)->b0G xs H n K F ps=.ok y->∃ q:Res,K q.r q.H q.n=.ok y/\CallOK P m f xs H n q
 | [],_,h=>hF h
 | p :: ps,hp,h=>by
   have h1:aXg p (mtB H p.B0 0 (b3Q p.xs xs Fr.mk0)) xs H n K (b0G xs H n K F ps)=.ok y:=h;generalize mtB H p.B0 0 (b3Q p.xs xs Fr.mk0)=E at h1;unfold aXg at h1
   cases hc:b30 p n E (b3T (aHS p.n0 n E) 0 p.n0) xs H with
   | false =>
     rw [hc] at h1
     exact aOl hF (fun q hq=>hp q (List.mem_cons_of_mem _ hq)) h1
   | true =>
     rw [hc] at h1;have h2:n2K (Nat.add n (len p.B1)) (b0Z (aHS p.n0 n E) p.r) (aOV (aPs (aHS p.n0 n E) p.B1) n H) K=.ok y:=h1;rw [b1v,a8H,aX0] at h2;exact ⟨_,h2,(hp p (List.mem_cons_self ..)).use hc⟩
theorem aOa (hm:P.follows .mixedOrders=true) (hL:a5q P L) (hF:aEh P F) (hD:LeafOK P D) {M:Tr (List MP)} (hM:MOK P M):∀ d,a5n P (zCM L W F D M fuel d)
 | 0=>fun _ _ _ _ _ _ _ h=>by cases h
 | d+1=>fun m f xs H n K y h=>by
   have hC:=b0v (W:=W) (fuel:=fuel) hm hL hF hD (aOa hm hL hF hD hM d);have h1:Option.rec (motive:=fun _=>AN) (zst L W F D fuel (zCM L W F D M fuel d) m f xs H n K) (fun ps=>aVl xs fun xs=>b0G xs H n K (zst L W F D fuel (zCM L W F D M fuel d) m f xs H n K) ps) (M.get f)=.ok y:=h
   cases hg:M.get f with
   | none=>rw [hg] at h1; exact hC m f xs H n K y h1
   | some ps =>
     rw [hg] at h1;have h2:(aVl xs fun xs=>b0G xs H n K (zst L W F D fuel (zCM L W F D M fuel d) m f xs H n K) ps)=.ok y:=h1;rw [aC5] at h2;exact aOl (hC m f xs H n K y) (hM f ps hg) h2
def kM (p:MP):KtA:=fun r H _=>(fun E=>Bool.rec (motive:=fun _=>AN) (.bad 30 (.ready 0)) (.ok .u) (b31 p E (b3T (aTq p.n0 E) p.n0 (len p.B1)) r H)) (mtB H p.B1 p.n0 (mtV p.r r Fr.mk0))
def b4v (L:Tr ZL) (W:Nat->Bool) (F:Nat->Option ZF) (D:Tr a4p) (M:Tr (List MP)) (fuel d f:Nat) (p:MP):AN :=
 Bool.rec (motive:=fun _=>AN) (.bad 31 (.ready 0)) (zCM L W F D M fuel d p.n0 f p.xs (mkH p.B0) p.n0 (kM p)) (b33 p)
theorem MPOK.run_of (hm:P.follows .mixedOrders=true) (hL:a5q P L) (hF:aEh P F) (hD:LeafOK P D) {M:Tr (List MP)} (hM:MOK P M) {d f:Nat} {p:MP} (h:b4v L W F D M fuel d f p=.ok .u):MPOK P f p:=by
 unfold b4v at h
 cases h0:b33 p with
 | false=>rw [h0] at h; cases h
 | true =>
   rw [h0] at h;have h1:zCM L W F D M fuel d p.n0 f p.xs (mkH p.B0) p.n0 (kM p)=.ok .u:=h;obtain ⟨q,hk,hc⟩:=aOa hm hL hF hD hM d _ _ _ _ _ _ _ h1;unfold kM at hk;dsimp only at hk;generalize mtB q.H p.B1 p.n0 (mtV p.r q.r Fr.mk0)=E at hk
   cases hc1:b31 p E (b3T (aTq p.n0 E) p.n0 (Zc.len p.B1)) q.r q.H with
   | false=>rw [hc1] at hk; cases hk
   | true=>exact MPOK.of h0 hc hc1
def a3Z (M:Tr (List MP)) (f:Nat) (p:MP):Tr (List MP):=M.put f (some (p :: Option.rec (motive:=fun _=>List MP) [] (fun l=>l) (M.get f)))
theorem MOK.add {M:Tr (List MP)} (hM:MOK P M) {f:Nat} {p:MP} (hp:MPOK P f p):MOK P (a3Z M f p):=fun g ps hg q hq=>by
 unfold a3Z at hg;by_cases e:g=f
 ·subst e;have:=Tr.put_eq _ _ _ _ hg
  have e:p :: Option.rec (motive:=fun _=>List MP) [] (fun l=>l) (M.get g)=ps:=by simpa using this
  subst e;rcases List.mem_cons.1 hq with rfl | hq
  ·exact hp
  ·cases hx:M.get g with
   | none=>rw [hx] at hq; cases hq
   | some l=>rw [hx] at hq; exact hM g l hx q hq
 ·rw [Tr.put_ne _ _ _ _ e] at hg;exact hM g ps hg q hq
theorem MOK.nil:MOK P (Tr.mk none 10):=fun g ps hg=>by
 rw [Tr.mk_none] at hg;cases hg
def b1Q (f:Nat):KtA:=fun r H _=>frF (aVA H r) f H 0 (fun r _ _=>kvA r fun r=>.ok r)
def aPB (L:Tr ZL) (W:Nat->Bool) (F:Nat->Option ZF) (D:Tr a4p) (fuel d f:Nat):a4p:=fun xs =>
 bif aIb 0 xs then Ans.rec (fun r=>some r) (fun _ _=>none) (zCM L W F D (Tr.mk none 10) fuel d 0 f xs aH3 0 (b1Q f)) else none
def upD (L:Tr ZL) (W:Nat->Bool) (F:Nat->Option ZF) (fuel d:Nat) (D:Tr a4p) (l:List Nat):Tr a4p :=
 List.rec D (fun f _ ih=>ih.put f (some (aPB L W F D fuel d f))) l
theorem aC4 (hm:P.follows .mixedOrders=true) (hL:a5q P L) (hF:aEh P F) (hD:LeafOK P D) {d f:Nat} {xs:List KK} {r:KV} (h:aPB L W F D fuel d f xs=some r):QuietOK P f xs r:=by
 unfold aPB at h
 cases hx:aIb 0 xs with
 | false=>rw [hx] at h; cases h
 | true =>
   rw [hx] at h
   cases hz:zCM L W F D (Tr.mk none 10) fuel d 0 f xs aH3 0 (b1Q f) with
   | bad a b=>rw [hz] at h; cases h
   | ok y =>
     rw [hz] at h
     have e:y=r:=by simpa using h
     subst e;obtain ⟨q,hk,hc⟩:=aOa hm hL hF hD MOK.nil d _ _ _ _ _ _ _ hz;obtain ⟨s,hq,hl,hk⟩:=b2i hk;rw [b1S] at hk;cases hk;exact hc.quiet hx hq hl
theorem LeafOK.put (hD:LeafOK P D) {f:Nat} {g:a4p} (hg:∀ xs r,g xs=some r->QuietOK P f xs r):LeafOK P (D.put f (some g)):=fun f' g' xs r h hr=>by
 by_cases e:f'=f
 ·subst e;have:=Tr.put_eq _ _ _ _ h
  have e:g=g':=by simpa using this
  subst e;exact hg xs r hr
 ·rw [Tr.put_ne _ _ _ _ e] at h;exact hD f' g' xs r h hr
theorem aU1 (hm:P.follows .mixedOrders=true) (hL:a5q P L) (hF:aEh P F) (hD:LeafOK P D) {d:Nat}:∀ l,LeafOK P (upD L W F fuel d D l)
 | []=>hD
 | _ :: l=>(aU1 hm hL hF hD l).put fun _ _=>aC4 hm hL hF hD
def sqL (l:List (Int × Int)) (g:a4p):a4p:=fun xs =>
 match xs with
 | [.g [.I a]]=>List.rec (motive:=fun _=>Option KV) (g [.g [.I a]]) (fun p _ ih=>Bool.rec (motive:=fun _=>Option KV) ih (some (.t [.g [.I p.2],.c (.v (.int .i64 0))])) (eqI p.1 a)) l
 | xs=>g xs
theorem aEN {f:Nat} {g:a4p} (hg:∀ xs r,g xs=some r->QuietOK P f xs r):∀ l:List (Int × Int),(l.map fun p=>g [.g [.I p.1]])=(l.map fun p=>some (.t [.g [.I p.2],.c (.v (.int .i64 0))]))->∀ xs r,sqL l g xs=some r->QuietOK P f xs r:=fun l h xs r hr=>by
 unfold sqL at hr;split at hr
 ·rename_i a
  induction l with
  | nil=>exact hg _ _ hr
  | cons p l ih =>
    simp only [List.map_cons,List.cons.injEq] at h;dsimp only at hr
    cases e:eqI p.1 a with
    | false=>rw [e] at hr; exact ih h.2 hr
    | true =>
      rw [e] at hr;rw [aLk] at e;have e:=of_decide_eq_true e;subst e;exact hg _ _ (h.1.trans hr)
 ·exact hg _ _ hr
end
def Tr.allB {α:Type} (p:Nat->α->Bool):Tr α->Nat->Nat->Bool
 | .l,_,_=>true
 | .n v a b,s,o=>(match v with | some x=>p o x | none=>true) && (allB p a (2*s) (o+s) && allB p b (2*s) (o+2*s))
theorem Tr.allB_get {α:Type} {p:Nat->α->Bool}:∀ (t:Tr α) (s o i:Nat) (x:α),t.allB p s o=true->t.get i=some x->p (o+s*i) x=true
 | .l,_,_,_,_,_,h=>by cases h
 | .n v a b,s,o,i,x,h,hi=>by
   simp only [Tr.allB,Bool.and_eq_true] at h;rw [Tr.get_n] at hi;by_cases h0:i=0
   ·rw [if_pos h0] at hi;subst h0 hi;simpa using h.1
   ·rw [if_neg h0] at hi;by_cases h1:i % 2=1
    ·rw [if_pos h1] at hi;have:=Tr.allB_get a (2*s) (o+s) _ x h.2.1 hi
     have e:o+s+2*s*((i - 1) / 2)=o+s*i:=by
      have e1:i=2*((i - 1) / 2)+1:=by omega
      generalize (i - 1) / 2=j at *
      subst e1;rw [Nat.mul_add,Nat.mul_comm 2 s,Nat.mul_assoc];omega
     rwa [e] at this
    ·rw [if_neg h1] at hi;have:=Tr.allB_get b (2*s) (o+2*s) _ x h.2.2 hi
     have e:o+2*s+2*s*((i - 1) / 2)=o+s*i:=by
      have e1:i=2*((i - 1) / 2)+2:=by omega
      generalize (i - 1) / 2=j at *
      subst e1;rw [Nat.mul_add,Nat.mul_comm 2 s,Nat.mul_assoc];omega
     rwa [e] at this
def LZ:Tr ZL :=
 .n (none) (.n (none) (.n (some ⟨1,false,3,0,0,0,[],[.v (.int .i64 0)],[],[]⟩) (.n (none) (.n (none) (.n (some ⟨1,false,10,189,1,4,[.v (.int .u32 0)],[.v (.slice none 0 0)],[],[]⟩) (.l) (.l)) (.l)) (.n (none) (.n (none) (.n (none) (.l) (.n (none) (.n (some ⟨13,true,0,0,0,0,[],[.v (.int .i64 0),.I 0,.I 0,.I 0,.I 0,.I 0,.I 0],[(0,1),(1,12)],[3,180]⟩) (.l) (.l)) (.l))) (.l)) (.n (none) (.n (none) (.l) (.n (some ⟨1,false,10,35,4,64,[.I 0,.I 0],[.v (.slice none 0 0)],[],[]⟩) (.l) (.l))) (.n (none) (.n (none) (.n (some ⟨8,true,0,0,0,0,[],[.I 0,.I 0,.I 0,.I 0],[(0,4),(4,4)],[35,35]⟩) (.l) (.l)) (.l)) (.l))))) (.n (none) (.n (none) (.n (some ⟨4,true,0,0,0,0,[],[.I 0,.I 0],[(0,2),(2,2)],[33,33]⟩) (.n (none) (.n (none) (.l) (.n (some ⟨5,true,0,0,0,0,[],[.v (.int .i64 0),.v (.int .i64 0),.v (.int .i64 0),.v (.int .i64 0),.v (.bool false)],[(0,1),(1,1),(2,1),(3,1),(4,1)],[2,2,2,2,4]⟩) (.l) (.l))) (.l)) (.l)) (.n (none) (.n (some ⟨1,false,10,50,20,320,[.I 0,.I 0,.I 0,.I 0,.I 0,.I 0,.I 0,.I 0,.I 0,.I 0],[.v (.slice none 0 0)],[],[]⟩) (.l) (.l)) (.l))) (.n (some ⟨1,true,0,0,0,0,[],[.v (.slice none 0 0)],[(0,1)],[25]⟩) (.l) (.n (none) (.l) (.n (some ⟨1,false,10,73,8,128,[.I 0,.I 0,.I 0,.I 0],[.v (.slice none 0 0)],[],[]⟩) (.n (none) (.n (some ⟨1,false,10,83,1,24,[.v (.slice none 0 0)],[.v (.slice none 0 0)],[],[]⟩) (.l) (.l)) (.l)) (.l)))))) (.n (some ⟨1,false,7,0,0,0,[],[.v (.int .u8 0)],[],[]⟩) (.n (some ⟨1,false,11,0,0,0,[],[.v (.string ⟨#[]⟩)],[],[]⟩) (.n (none) (.n (some ⟨2,true,0,0,0,0,[],[.I 0],[(0,1),(1,1)],[4,31]⟩) (.n (none) (.n (none) (.l) (.n (some ⟨1,false,10,387,5,40,[.v (.int .i64 0),.v (.int .i64 0),.v (.int .i64 0),.v (.int .i64 0),.v (.bool false)],[.v (.slice none 0 0)],[],[]⟩) (.l) (.l))) (.l)) (.l)) (.l)) (.n (some ⟨1,false,10,52,66,1040,[.v (.bool false),.I 0,.I 0,.I 0,.I 0,.I 0,.I 0,.I 0,.I 0,.I 0,.I 0,.I 0,.I 0,.v (.bool false),.I 0,.I 0,.I 0,.I 0,.I 0,.I 0,.I 0,.I 0,.I 0,.I 0,.I 0,.I 0,.I 0,.I 0,.I 0,.I 0,.I 0,.I 0,.I 0,.I 0],[.v (.slice none 0 0)],[],[]⟩) (.n (none) (.n (some ⟨8,true,0,0,0,0,[],[.I 0,.I 0,.I 0,.I 0],[(0,4),(4,4)],[35,35]⟩) (.l) (.l)) (.l)) (.n (none) (.n (none) (.n (some ⟨1,false,10,4,1,1,[.v (.bool false)],[.v (.slice none 0 0)],[],[]⟩) (.l) (.l)) (.l)) (.n (some ⟨1,false,4,0,0,0,[],[.v (.int .u64 0)],[],[]⟩) (.l) (.l))))) (.n (none) (.n (none) (.n (some ⟨1,false,3,0,0,0,[],[.v (.int .i64 0)],[],[]⟩) (.l) (.l)) (.n (none) (.n (none) (.l) (.n (none) (.n (some ⟨22,true,0,0,0,0,[],[.I 0,.I 0,.I 0,.I 0,.I 0,.I 0,.I 0,.I 0,.I 0,.I 0,.v (.int .i64 0),.v (.bool false)],[(0,20),(20,1),(21,1)],[50,3,4]⟩) (.l) (.l)) (.l))) (.l))) (.n (none) (.l) (.n (none) (.l) (.n (some ⟨11,true,0,0,0,0,[],[.I 0,.I 0,.I 0,.I 0,.v (.slice none 0 0),.v (.slice none 0 0),.v (.slice none 0 0)],[(0,4),(4,4),(8,1),(9,1),(10,1)],[35,35,122,83,123]⟩) (.n (some ⟨1,false,5,0,0,0,[],[.v (.int .u32 0)],[],[]⟩) (.l) (.l)) (.l))))))) (.n (some ⟨1,false,3,0,0,0,[],[.v (.int .i64 0)],[],[]⟩) (.n (some ⟨1,false,1,0,0,0,[],[.v (.bool false)],[],[]⟩) (.n (none) (.n (none) (.l) (.n (some ⟨12,true,0,0,0,0,[],[.I 0,.I 0,.I 0,.I 0,.I 0,.I 0],[(0,4),(4,4),(8,4)],[35,35,35]⟩) (.l) (.l))) (.l)) (.n (none) (.n (none) (.l) (.n (some ⟨66,true,0,0,0,0,[],[.v (.bool false),.I 0,.I 0,.I 0,.I 0,.I 0,.I 0,.I 0,.I 0,.I 0,.I 0,.I 0,.I 0,.v (.bool false),.I 0,.I 0,.I 0,.I 0,.I 0,.I 0,.I 0,.I 0,.I 0,.I 0,.I 0,.I 0,.I 0,.I 0,.I 0,.I 0,.I 0,.I 0,.I 0,.I 0],[(0,1),(1,12),(13,12),(25,1),(26,20),(46,20)],[4,46,48,4,50,50]⟩) (.l) (.n (none) (.n (some ⟨12,true,0,0,0,0,[],[.I 0,.I 0,.I 0,.I 0,.I 0,.I 0],[(0,4),(4,4),(8,4)],[35,35,35]⟩) (.l) (.l)) (.l)))) (.n (none) (.n (none) (.n (none) (.n (none) (.n (some ⟨1,false,10,341,22,336,[.I 0,.I 0,.I 0,.I 0,.I 0,.I 0,.I 0,.I 0,.I 0,.I 0,.v (.int .i64 0),.v (.bool false)],[.v (.slice none 0 0)],[],[]⟩) (.l) (.l)) (.n (some ⟨1,false,10,2,1,8,[.v (.int .i64 0)],[.v (.slice none 0 0)],[],[]⟩) (.l) (.l))) (.l)) (.l)) (.l)))) (.n (none) (.n (none) (.n (none) (.n (none) (.l) (.n (some ⟨1,false,10,25,1,24,[.v (.slice none 0 0)],[.v (.slice none 0 0)],[],[]⟩) (.n (none) (.n (some ⟨13,true,0,0,0,0,[],[.v (.int .i64 0),.I 0,.I 0,.I 0,.I 0,.I 0,.I 0],[(0,1),(1,12)],[3,180]⟩) (.l) (.l)) (.l)) (.l))) (.n (some ⟨20,true,0,0,0,0,[],[.I 0,.I 0,.I 0,.I 0,.I 0,.I 0,.I 0,.I 0,.I 0,.I 0],[(0,4),(4,4),(8,4),(12,4),(16,4)],[35,35,35,35,35]⟩) (.l) (.l))) (.n (none) (.n (none) (.n (none) (.n (none) (.n (some ⟨1,false,10,268,1,24,[.v (.slice none 0 0)],[.v (.slice none 0 0)],[],[]⟩) (.l) (.l)) (.l)) (.l)) (.l)) (.n (none) (.l) (.n (some ⟨1,false,10,27,1,24,[.v (.slice none 0 0)],[.v (.slice none 0 0)],[],[]⟩) (.l) (.l))))) (.n (none) (.n (none) (.n (none) (.l) (.n (none) (.l) (.n (some ⟨1,false,4,0,0,0,[],[.v (.int .u64 0)],[],[]⟩) (.l) (.l)))) (.l)) (.n (none) (.n (some ⟨12,true,0,0,0,0,[],[.I 0,.I 0,.I 0,.I 0,.I 0,.I 0],[(0,4),(4,4),(8,4)],[35,35,35]⟩) (.l) (.n (some ⟨16,true,0,0,0,0,[],[.I 0,.I 0,.I 0,.I 0,.I 0,.I 0,.I 0,.I 0],[(0,4),(4,4),(8,4),(12,4)],[35,35,35,35]⟩) (.n (none) (.n (some ⟨1,false,3,0,0,0,[],[.v (.int .i64 0)],[],[]⟩) (.l) (.l)) (.l)) (.l))) (.n (none) (.n (none) (.n (some ⟨1,false,10,3,1,8,[.v (.int .i64 0)],[.v (.slice none 0 0)],[],[]⟩) (.l) (.l)) (.n (none) (.n (some ⟨2,true,0,0,0,0,[],[.v (.int .i64 0),.v (.int .i64 0)],[(0,1),(1,1)],[2,2]⟩) (.l) (.l)) (.l))) (.n (none) (.l) (.n (some ⟨24,true,0,0,0,0,[],[.I 0,.I 0,.I 0,.I 0,.I 0,.I 0,.I 0,.I 0,.I 0,.I 0,.I 0,.I 0],[(0,4),(4,4),(8,4),(12,4),(16,4),(20,4)],[35,35,35,35,35,35]⟩) (.l) (.l))))))))
theorem aUR:a5q prog LZ:=by
 have h:LZ.allB (zlB prog) 1 0=true:=by kernel_rfl
 intro t l ht;have:=Tr.allB_get LZ 1 0 t l h ht;rw [Nat.zero_add,Nat.one_mul] at this;exact b0z this
def WZ (f:Nat):Bool:=aNO [28,65,66,76,140,242,259,262,268,343,350,366,381,419,447,485,486,509] f
def FZ:Nat->Option ZF:=aWO prog
def fuZ:Nat:=4000
def dpZ:Nat:=64
theorem aUS:aEh prog FZ:=aST _
def E0:Tr a4p:=Tr.mk none 10
theorem b5E:LeafOK prog E0:=fun f g xs r h=>by
 unfold E0 at h;rw [Tr.mk_none] at h;cases h
def up (D:Tr a4p) (l:List Nat):Tr a4p:=upD LZ WZ FZ fuZ dpZ D l
theorem a4Q {D:Tr a4p} {l:List Nat} (h:LeafOK prog D):LeafOK prog (up D l):=aU1 Vc.mixed aUR aUS h l
def E1:Tr a4p:=up E0 [58,63,71,81,108,130,133,134,147,173,174,176,177,178,207,222,258,270,277,278,281,301,380,423,425,445,454,496,500,515,516]
theorem b5D:LeafOK prog E1:=a4Q b5E
def E2:Tr a4p:=up E1 [26,62,64,92,95,129,167,169,170,175,186,212,223,224,313,314,328,364,452,502]
theorem b5C:LeafOK prog E2:=a4Q b5D
def E3:Tr a4p:=up E2 [25,27,59,60,61,93,94,105,132,144,171,213,229,250,279,316,330,336,451,457,458,478]
theorem b3o:LeafOK prog E3:=a4Q b5C
def E4:Tr a4p:=up E3 [24,88,121,122,168,216,280,308,334,348,377,397]
theorem b5B:LeafOK prog E4:=a4Q b3o
def b5P:List (Int × Int):=[(0,0),(1,1),(4,2),(25,5)]
def b1f:a4p:=sqL b5P (aPB LZ WZ FZ E3 fuZ dpZ 397)
theorem aXC:∀ xs r,b1f xs=some r->QuietOK prog 397 xs r:=aEN (fun _ _=>aC4 Vc.mixed aUR aUS b3o) b5P (by kernel_rfl)
def aSv:Tr a4p:=E4.put 397 (some b1f)
theorem aHo:LeafOK prog aSv:=b5B.put aXC
def E5:Tr a4p:=up aSv [54,90,172,198,204,237,302,303,312,315,327,331,332,406,417,424,472,476,487,512]
theorem b5A:LeafOK prog E5:=a4Q aHo
def b5O:List (Int × Int):=[(1,1),(4,2),(9,3),(16,4)]
def b1e:a4p:=sqL b5O (aPB LZ WZ FZ aSv fuZ dpZ 424)
theorem aXB:∀ xs r,b1e xs=some r->QuietOK prog 424 xs r:=aEN (fun _ _=>aC4 Vc.mixed aUR aUS aHo) b5O (by kernel_rfl)
def b5N:List (Int × Int):=[(17,4),(25,5),(33,5),(81,9)]
def b1d:a4p:=sqL b5N b1e
theorem aXA:∀ xs r,b1d xs=some r->QuietOK prog 424 xs r:=aEN aXB b5N (by kernel_rfl)
def b5M:List (Int × Int):=[(225,15),(289,17),(1600,40),(4563402752,67552)]
def b1c:a4p:=sqL b5M b1d
theorem aXz:∀ xs r,b1c xs=some r->QuietOK prog 424 xs r:=aEN aXA b5M (by kernel_rfl)
def b5L:List (Int × Int):=[(8858370048,94118),(21743271936,147456),(26843545600,163840),(77577846784,278528)]
def b1b:a4p:=sqL b5L b1c
theorem aXy:∀ xs r,b1b xs=some r->QuietOK prog 424 xs r:=aEN aXz b5L (by kernel_rfl)
def aWC:Tr a4p:=E5.put 424 (some b1b)
theorem aSu:LeafOK prog aWC:=b5A.put aXy
def E6:Tr a4p:=up aWC [20,36,91,110,111,112,128,151,199,231,253,321,326,333,335,386,394,395,396,401,415,426,440,471,501]
theorem b5z:LeafOK prog E6:=a4Q aSu
def E7:Tr a4p:=up E6 [23,40,41,57,89,152,205,217,220,230,267,284,329,359,360,361,393,409,410,412,450,507]
theorem b5y:LeafOK prog E7:=a4Q b5z
def E8:Tr a4p:=up E7 [45,68,116,126,160,161,214,251,252,254,255,310,311,347,374,376,400,407,411,413,449,475,482,483,484,508]
theorem b5x:LeafOK prog E8:=a4Q b5y
def E9:Tr a4p:=up E8 [29,124,153,196,197,215,219,225,249,318,367,403,408,427,459,473,481,497]
theorem b5w:LeafOK prog E9:=a4Q b5x
def E10:Tr a4p:=up E9 [75,125,136,137,150,201,202,218,263,322,349,355,375,421,422,435,443,474,479,480,495,519]
theorem b3y:LeafOK prog E10:=a4Q b5w
def E11:Tr a4p:=up E10 [72,114,159,271,319,363,399,414,416,441,513]
theorem b3x:LeafOK prog E11:=a4Q b3y
def E12:Tr a4p:=up E11 [80,117,203,286,317,325,352,358,362,384,491]
theorem b3w:LeafOK prog E12:=a4Q b3x
def E13:Tr a4p:=up E12 [115,143,181,200,211,256,420,498]
theorem b3v:LeafOK prog E13:=a4Q b3w
def E14:Tr a4p:=up E13 [113,127,163,187,210,262,282,285,446]
theorem b3u:LeafOK prog E14:=a4Q b3v
def E15:Tr a4p:=up E14 [47,83,209,233,246,354,444]
theorem b3t:LeafOK prog E15:=a4Q b3u
def E16:Tr a4p:=up E15 [206,245,365]
theorem b3s:LeafOK prog E16:=a4Q b3t
def E17:Tr a4p:=up E16 [257,261]
theorem b3r:LeafOK prog E17:=a4Q b3s
def E18:Tr a4p:=up E17 [155,158]
theorem b3q:LeafOK prog E18:=a4Q b3r
def E19:Tr a4p:=up E18 [78,494]
theorem b3p:LeafOK prog E19:=a4Q b3q
def EZ:Tr a4p:=E19
theorem b5v:LeafOK prog EZ:=b3p
