import Derived.Test.YtbohkigffejhoaaGreatR24
namespace Go.Proofs.YtbohkigffejhoaaGreat
open Go.RowKit
set_option maxHeartbeats 4000000
namespace Vc
attribute [local irreducible] owes a1v
theorem aUZ (n:Int):isI (n*n)=true:=by
 have e:(n*n).toNat=n.natAbs*n.natAbs:=by rw [<- Int.natAbs_mul_self,Int.toNat_natCast]
 have h:isq (n.natAbs*n.natAbs)=n.natAbs:=aCm (Nat.le_refl _) (by simp only [Nat.add_mul,Nat.mul_add]; omega)
 unfold isI sqI
 rw [e,h]
 exact decide_eq_true (Int.natAbs_mul_self)
theorem aZj (q:Rat):isQ (q*q)=true:=by
 have hc:(q.num*q.num).natAbs.Coprime (q.den*q.den):=by
  rw [Int.natAbs_mul]
  exact (q.reduced.mul_left q.reduced).mul_right (q.reduced.mul_left q.reduced)
 have e:q*q=(⟨q.num*q.num,q.den*q.den,Nat.mul_ne_zero q.den_nz q.den_nz,hc⟩:Rat):=by
  rw [<- Rat.num_divInt_den (⟨q.num*q.num,q.den*q.den,Nat.mul_ne_zero q.den_nz q.den_nz,hc⟩:Rat)]
  conv=>lhs; rw [<- Rat.num_divInt_den q]
  rw [Rat.divInt_mul_divInt]
  simp
 unfold isQ
 rw [e]
 show (isI (q.num*q.num) && isI ((q.den*q.den:Nat):Int))=true
 rw [aUZ,Int.natCast_mul,aUZ]; rfl
theorem aWY {e x y:Rat} (h:isQ e=false) (hy:y ≠ 0) (he:x*x=y*y*e):False:=by
 have e2:e=(x / y)*(x / y):=by
  have:x / y=x*y⁻¹:=Rat.div_def x y
  have hi:y*y⁻¹=1:=Rat.mul_inv_cancel y hy
  grind
 rw [e2,aZj] at h
 cases h
theorem aK6 {c d e k:Rat} (hv:isQ e=false \/ d=0) (h:a1l (a0q (a0H c d e) k) ≠ 0):a1a (a0q (a0H c d e) k) ≠ 0:=by
 have z:a1D=0:=rfl
 unfold a0H at h ⊢
 by_cases hd:Rt.sg d=0
 ·rw [if_pos (by simpa using hd)] at h ⊢
  intro hn
  refine h ?_
  have hr:(c+k)*(c+k)=0:=by
   simp only [a1a,a1q,a0q,a0E,z] at hn
   grind
  have h0:c+k=0:=by rcases Rat.mul_eq_zero.1 hr with g | g <;> exact g
  have e1:(a0q (a0E c) k).ra=0:=h0
  have e2:(a0q (a0E c) k).rb=0:=rfl
  unfold a1l
  rw [e1,e2]
  rfl
 ·rw [if_neg (by simpa using hd)] at h ⊢
  have hd':d ≠ 0:=fun e=>hd (by rw [e]; rfl)
  intro hn
  simp only [a1a,a1q,a0q] at hn
  rcases hv with hv | hv
  ·exact aWY (x:=c+k) (y:=d) hv hd' (by grind)
  ·exact hd' hv
theorem aZv (a b c d e k m:Rat):(a0l (a4m (a0q (a0H a b e) k)) (a2O (a0q (a0H c d e) m)).1).2=true:=by
 have z:a1D=0:=rfl
 have s0:Rt.sg (0:Rat)=0:=rfl
 have hx:∀ q:Rat,q=0->Rt.sg q=0:=fun q h=>by rw [h]; rfl
 unfold a0l
 split
 ·rfl
 ·rename_i h1
  have h1:Rt.sg (a4m (a0q (a0H a b e) k)).rb ≠ 0:=by simpa using h1
  have hb:Rt.sg b ≠ 0:=fun hb=>h1 (by
   unfold a0H
   rw [if_pos (by simpa using hb)]
   refine hx _ ?_
   show -a1D=0
   rw [z]; rfl)
  have r1:(a4m (a0q (a0H a b e) k)).rc=e:=by
   unfold a0H
   rw [if_neg (by simpa using hb)]
   rfl
  dsimp only
  rw [r1]
  unfold a2O a0z
  dsimp only
  split
  ·show (bif Rt.sg a1D == 0 then true else _)=true
   rw [z,s0]; rfl
  ·rename_i h2
   have h3:Rt.sg (a0q (a0H c d e) m).rc ≠ 0:=fun h3=>h2 (by rw [h3]; simp)
   have r2:(a0q (a0H c d e) m).rc=e:=by
    unfold a0H at h3 ⊢
    split at h3
    ·exact absurd (hx _ z) h3
    ·rename_i hd
     rw [if_neg hd]
     rfl
   rw [r2,show e - e=0 by grind,s0]
   simp
def okR (r:Rx):Prop:=(szR r.ra <= 265/\szR r.rb <= 40/\szR r.rc <= 130)
theorem a7i {a b e k:Rat} (ha:szR a <= 260) (hb:szR b <= 40) (he:szR e <= 130) (hk:szR k <= 4):okR (a0q (a0H a b e) k):=by
 have z:szR a1D <= 2:=aHJ
 have h1:=a1S a k
 unfold a0H
 split
 ·exact ⟨by show szR (a+k) <= _; omega,by show szR a1D <= _; omega,by show szR a1D <= _; omega⟩
 ·exact ⟨by show szR (a+k) <= _; omega,hb,he⟩
theorem aOX {r:Rx} (h:okR r):r.sz <= 435:=by have:=a2Z r; obtain ⟨h1,h2,h3⟩:=h; omega
theorem aUM {a b c:Rat} {n m k:Nat} (ha:szR a <= n) (hb:szR b <= m) (hc:szR c <= k) (hm:2 <= m) (hk:2 <= k):szR (a0z a b c).ra <= n/\szR (a0z a b c).rb <= m/\szR (a0z a b c).rc <= k:=by
 have z:szR a1D <= 2:=aHJ
 unfold a0z
 split
 ·exact ⟨ha,by show szR a1D <= _; omega,by show szR a1D <= _; omega⟩
 ·exact ⟨ha,hb,hc⟩
theorem aWV {r:Rx} (h:okR r):szR (a1a r) <= 741:=by
 obtain ⟨h1,h2,h3⟩:=h
 have a1:=a0L r.ra r.ra; have a2:=a0L r.rb r.rb; have a3:=a0L (r.rb*r.rb) r.rc; have a4:=a2V (r.ra*r.ra) (r.rb*r.rb*r.rc)
 unfold a1a a1q
 omega
theorem aU1 {r:Rx} (h:okR r) (hn:a1a r ≠ 0):szR (a2O r).1.ra <= 1008/\szR (a2O r).1.rb <= 783/\szR (a2O r).1.rc <= 130:=by
 have n:=aWV h
 obtain ⟨h1,h2,h3⟩:=h
 have o:szR a2X <= 2:=aUC
 have q:=a9q a2X (a1a r) hn
 have a1:=a0L r.ra (a2X / a1a r); have a2:=a0L r.rb (a2X / a1a r); have a3:=a18 (r.rb*(a2X / a1a r))
 exact aUM (by omega) (by omega) h3 (by omega) (by omega)
theorem aZb {r s:Rx} (h:okR r) (hs:szR s.ra <= 1008/\szR s.rb <= 783/\szR s.rc <= 130):(a2n r s).1.sz <= 4500:=by
 obtain ⟨h1,h2,h3⟩:=h; obtain ⟨g1,g2,g3⟩:=hs
 have hc:szR (a0l r s).1 <= 130:=by unfold a0l; split <;> assumption
 have a1:=a0L r.ra s.ra; have a2:=a0L r.rb s.rb; have a3:=a0L (r.rb*s.rb) (a0l r s).1; have a4:=a1S (r.ra*s.ra) (r.rb*s.rb*(a0l r s).1)
 have b1:=a0L r.ra s.rb; have b2:=a0L r.rb s.ra; have b3:=a1S (r.ra*s.rb) (r.rb*s.ra)
 obtain ⟨c1,c2,c3⟩:=aUM (a:=r.ra*s.ra+r.rb*s.rb*(a0l r s).1) (b:=r.ra*s.rb+r.rb*s.ra) (c:=(a0l r s).1) (n:=2227) (m:=2098) (k:=130) (by omega) (by omega) hc (by omega) (by omega)
 have:=a2Z (a2n r s).1
 unfold a2n at this ⊢
 dsimp only at this ⊢
 omega
theorem aUR {r:Rx} (h:okR r):okR (a4m r):=⟨Nat.le_trans (a18 _) h.1,Nat.le_trans (a18 _) h.2.1,h.2.2⟩
def a5C (u:Ux):Prop:=u.arc=false->a1Y u=false->u.l.lb ≠ 0
theorem aE8 {q:Rat} {n:Nat} (h:szR q <= n):szR (-q) <= n:=Nat.le_trans (a18 q) h
def a0b (u:Ux) (p:Px):Wx:=(if (a1Y u)=true then Wx.mk ((2:Int)) false (Rx.mk 0 0 0) else (if (!(u.arc))=true then Wx.mk ((0:Int)) true (a0E ((-(u.l.la)) / (u.l.lb))) else (if (((a1l (a0q (a2D p) (-(u.k.ky))))) == ((0:Int)))=true then (if u.cw=true then Wx.mk ((1:Int)) false (Rx.mk 0 0 0) else Wx.mk ((-1:Int)) false (Rx.mk 0 0 0)) else Wx.mk ((0:Int)) true ((a2n (a4m (a0q (a04 p) (-(u.k.kx)))) ((a2O (a0q (a2D p) (-(u.k.ky)))).1)).1))))
def a7x:=(True/\(True/\True))
def aKY:=(Value.bool false=.bool false/\([]:List Nat)=[]/\Value.bool false=.bool false/\([]:List Nat)=[])
def aKZ (u:Ux) (p:Px):=(aKY/\((((a0b u p).wok)=false)/\(aKY/\((((a0b u p).wok)=false)/\(aKY/\((((a0b u p).wok)=false)/\True))))))
def a6y (p:Px) (p_:Ux):=(a0q (a2D p) (-p_.k.ky))
def aKX (p:Px) (u:Ux) (p_:Ux):=(a2n (a4m (a0q (a04 p) (-p_.k.kx))) ((a2O (a6y p u)).1))
def aFx:=(True/\(True/\a7x))
theorem aAM (u:Ux) (p:Px) (hp:(okU u/\okP p)/\a5C u):owes LTD aUz [] Tryz.f319 (bd Tryz.f319) [.g (eU u),.g (eP p)] (.k (.g [.v (.int .i64 ((a0b u p).wr)),.Z ((a0b u p).wok) ((a0b u p).wv.ra),.Z ((a0b u p).wok) ((a0b u p).wv.rb),.Z ((a0b u p).wok) ((a0b u p).wv.rc)])):=by
 refine a0p (show ((((((!u.arc)=(!u.arc))/\(((!u.arc)=(!u.arc))/\((!u.arc)=(!u.arc))))/\(((u.arc=u.arc)/\((u.arc=u.arc)/\(u.arc=u.arc)))/\(aFx/\aFx)))/\u.sz <= 14000)/\(((a1Y u)=true->((Value.int .i64 (2:Int)=(.int .i64 ((a0b u p).wr)))/\(aKZ u p)))/\((a1Y u)=false->(((!u.arc)=true->((((!u.arc)=true)/\(szR u.l.la <= 5000000))/\((True/\((!u.arc)=true)/\(u.l.lb ≠ 0/\szR (-u.l.la) <= 1000000/\szR u.l.lb <= 1000000))/\((True/\True)/\((Value.int .i64 (0:Int)=(.int .i64 ((a0b u p).wr)))/\((((a0b u p).wok)=true)/\(((a0E ((-u.l.la) / u.l.lb)).ra=(a0b u p).wv.ra)/\((((a0b u p).wok)=true)/\(((a0E ((-u.l.la) / u.l.lb)).rb=(a0b u p).wv.rb)/\((((a0b u p).wok)=true)/\(((a0E ((-u.l.la) / u.l.lb)).rc=(a0b u p).wv.rc)/\True)))))))))))/\((!u.arc)=false->((aFx/\True)/\(((u.arc=true)/\(szR u.k.kx <= 5000000))/\((a7x/\True/\(a04 p).sz+szR (-u.k.kx) <= 200000)/\((aFx/\True)/\(((u.arc=true)/\(szR u.k.ky <= 5000000))/\((a7x/\True/\(a2D p).sz+szR (-u.k.ky) <= 200000)/\((a7x/\(a6y p u).sz <= 150000)/\((((a1l (a6y p u)) == (0:Int))=true->((u.cw=true->((Value.int .i64 (1:Int)=(.int .i64 ((a0b u p).wr)))/\(aKZ u p)))/\(u.cw=false->((Value.int .i64 (-1:Int)=(.int .i64 ((a0b u p).wr)))/\(aKZ u p)))))/\(((a1l (a6y p u)) == (0:Int))=false->((a7x/\a1l (a6y p u) ≠ 0/\a1a (a6y p u) ≠ 0/\(a6y p u).sz <= 20000)/\((a7x/\(a0q (a04 p) (-u.k.kx)).sz <= 200000)/\((a7x/\a7x/\(a0l (a4m (a0q (a04 p) (-u.k.kx))) ((a2O (a6y p u)).1)).2=true/\(a4m (a0q (a04 p) (-u.k.kx))).sz+((a2O (a6y p u)).1).sz <= 60000)/\((Value.int .i64 (0:Int)=(.int .i64 ((a0b u p).wr)))/\((((a0b u p).wok)=true)/\(((aKX p u u).1.ra=(a0b u p).wv.ra)/\((((a0b u p).wok)=true)/\(((aKX p u u).1.rb=(a0b u p).wv.rb)/\((((a0b u p).wok)=true)/\(((aKX p u u).1.rc=(a0b u p).wv.rc)/\True))))))))))))))))))))))))=_ by kernel_rfl) ?_
 delta aFx aKX a6y aKZ aKY a7x
 obtain ⟨⟨hu,hP⟩,hs⟩:=hp
 have hs:u.arc=false->a1Y u=false->u.l.lb ≠ 0:=hs
 have su:=a4r hu; have sp:=a1Q hP
 obtain ⟨hl,hk,_,_,_,_⟩:=hu
 have sl:=aB5 hl; have sk:=a7j hk
 obtain ⟨l1,l2,l3⟩:=hl; obtain ⟨k1,k2,k3⟩:=hk
 obtain ⟨⟨p1,p2,p3,p4,p5⟩,pe,pv⟩:=hP
 have n1:=aE8 (q:=u.k.kx) k1; have n2:=aE8 (q:=u.k.ky) k2; have n3:=aE8 (q:=u.l.la) l1
 have oX:okR (a0q (a04 p) (-(u.k.kx))):=a7i p1 p2 p5 (by omega)
 have oY:okR (a0q (a2D p) (-(u.k.ky))):=a7i p3 p4 p5 (by omega)
 have zX:=aOX oX; have zY:=aOX oY
 have zN:=aOX (aUR oX)
 have gX:=aR6 p; have gY:=aYj p
 have nY:a1l (a0q (a2D p) (-(u.k.ky))) ≠ 0->a1a (a0q (a2D p) (-(u.k.ky))) ≠ 0:=aK6 (by rcases pv with h | h; exact .inl h; exact .inr h.2)
 have cm:=aZv p.a p.b p.c p.d p.e (-(u.k.kx)) (-(u.k.ky))
 have iv:a1l (a0q (a2D p) (-(u.k.ky))) ≠ 0->((a2O (a0q (a2D p) (-(u.k.ky)))).1).sz <= 1921:=fun h=>by
  obtain ⟨h1,h2,h3⟩:=aU1 oY (nY h)
  have:=a2Z (a2O (a0q (a2D p) (-(u.k.ky)))).1
  omega
 have bne:∀ {x:Int},(x == 0)=false->x ≠ 0:=fun h=>by simpa using h
 have nar:(!u.arc)=false->u.arc=true:=fun h=>by simpa using h
 have nar2:(!u.arc)=true->u.arc=false:=fun h=>by simpa using h
 repeat' first | trivial | with_reducible apply And.intro | assumption | (with_reducible exact hs (nar2 (by assumption)) (by assumption)) | (with_reducible exact nY (bne (by assumption))) | (with_reducible exact bne (by assumption)) | (intro _)
 all_goals first | rfl | omega | (exact nar (by assumption)) | (have:=iv (bne (by assumption)); omega) | (unfold a0b; (repeat' first | rfl | rw [a06 (by assumption)] | rw [a05 (by assumption)]); done) | (simp_all; done)
def a8x:Ctr:=⟨319,spY (rU.c (rP.c r0)) (fun (u,p,_)=>(okU u/\okP p)/\a5C u) (fun (u,p,_)=>.k (.g [.v (.int .i64 ((a0b u p).wr)),.Z ((a0b u p).wok) ((a0b u p).wv.ra),.Z ((a0b u p).wok) ((a0b u p).wv.rb),.Z ((a0b u p).wok) ((a0b u p).wv.rc)]))⟩
theorem a7J:CtrOK Tryz.prog a8x:=yOK a0F aBk Tryz.func319 fun x hp=>aAM x.1 x.2.1 hp
theorem aKg {u:Ux} {p:Px} (hu:okU u) (hP:okP p) (hs:a5C u):((a0b u p).wr=0->(a0b u p).wok=true)/\((a0b u p).wr ≠ 0->(a0b u p).wr ≠ 2->u.arc=true/\un (a0b u p).wr)/\(a0b u p).wv.sz <= 4500:=by
 have z0:szR (0:Rat) <= 2:=a3h (n:=0) (by decide)
 have zz:(Rx.mk 0 0 0).sz <= 4500:=by have:=a9J 0 0 0; omega
 obtain ⟨hl,hk,_,_,_,_⟩:=hu
 obtain ⟨l1,l2,l3⟩:=hl; obtain ⟨k1,k2,k3⟩:=hk
 obtain ⟨⟨p1,p2,p3,p4,p5⟩,pe,pv⟩:=hP
 unfold a0b
 split
 ·exact ⟨fun h=>(by cases h),fun _ h=>absurd rfl h,zz⟩
 ·rename_i hV
  split
  ·rename_i ha
   refine ⟨fun _=>rfl,fun h=>absurd rfl h,?_⟩
   have hb:=hs (by simpa using ha) (by simpa using hV)
   have h1:=a18 u.l.la; have h2:=a9q (-(u.l.la)) u.l.lb hb; have h3:=a6e (-(u.l.la) / u.l.lb)
   show (a0E _).sz <= _
   omega
  ·rename_i ha
   have ha:u.arc=true:=by simpa using ha
   split
   ·split
    ·exact ⟨fun h=>(by cases h),fun _ _=>⟨ha,.inr (.inr rfl)⟩,zz⟩
    ·exact ⟨fun h=>(by cases h),fun _ _=>⟨ha,.inl rfl⟩,zz⟩
   ·rename_i hn
    refine ⟨fun _=>rfl,fun h=>absurd rfl h,?_⟩
    have n1:=aE8 (q:=u.k.kx) k1; have n2:=aE8 (q:=u.k.ky) k2
    have oX:okR (a0q (a04 p) (-(u.k.kx))):=a7i p1 p2 p5 (by omega)
    have oY:okR (a0q (a2D p) (-(u.k.ky))):=a7i p3 p4 p5 (by omega)
    exact aZb (aUR oX) (aU1 oY (aK6 (by rcases pv with h | h; exact .inl h; exact .inr h.2) (by simpa using hn:a1l (a0q (a2D p) (-(u.k.ky))) ≠ 0)))
def WS0:List Ctr:=aUz ++ [a8x]
theorem aVR:∀ c ∈ WS0,CtrOK Tryz.prog c:=a0O aBk (a03 a7J (a2L))
def a1I (u:Ux) (v:Ux):Int × Int:=(if (!((a0G u.f v.f)))=true then (((0:Int)),((1:Int))) else (if (((a0b u u.f).wr) != ((a0b v v.f).wr))=true then (if (decide (((a0b u u.f).wr) < ((a0b v v.f).wr)))=true then (((-1:Int)),((0:Int))) else (((1:Int)),((0:Int)))) else (if (((a0b u u.f).wr) == ((2:Int)))=true then (((0:Int)),((0:Int))) else (if (((a0b u u.f).wr) != ((0:Int)))=true then ((((a0b u u.f).wr)*(((Rt.sg ((u.k.kq) - (v.k.kq)))))),((0:Int))) else (if (((a0S ((a0b u u.f).wv) ((a0b v v.f).wv))) != ((0:Int)))=true then ((a0S ((a0b u u.f).wv) ((a0b v v.f).wv)),((0:Int))) else ((a3T u v),((0:Int))))))))
def aAt (u:Ux) (v:Ux):=((Value.int .i64 (0:Int)=(.int .i64 ((a1I u v).2)))/\True)
def aAs:=(True/\(True/\(True/\(True/\True))))
def aFw (p_:Ux):=((((!p_.arc)=(!p_.arc))/\(((!p_.arc)=(!p_.arc))/\((!p_.arc)=(!p_.arc))))/\(((p_.arc=p_.arc)/\((p_.arc=p_.arc)/\(p_.arc=p_.arc)))/\(aAs/\aAs)))
theorem aDN (u:Ux) (v:Ux) (hp:(okU u/\okU v)/\a5C u/\a5C v):owes LTD WS0 [] Tryz.f203 (bd Tryz.f203) [.g (eU u),.g (eU v)] (.t [.c (.v (.int .i64 ((a1I u v).1))),.c (.v (.int .i64 ((a1I u v).2)))]):=by
 refine a0p (show ((aAs/\aAs/\u.f.sz+v.f.sz <= 14500)/\(((!(a0G u.f v.f))=true->((Value.int .i64 (0:Int)=(.int .i64 ((a1I u v).1)))/\((Value.int .i64 (1:Int)=(.int .i64 ((a1I u v).2)))/\True)))/\((!(a0G u.f v.f))=false->(((aFw u)/\aAs/\(okU u/\okP u.f)/\a5C u)/\(((aFw v)/\aAs/\(okU v/\okP v.f)/\a5C v)/\(((((a0b u u.f).wr) != ((a0b v v.f).wr))=true->(((decide (((a0b u u.f).wr) < ((a0b v v.f).wr)))=true->((Value.int .i64 (-1:Int)=(.int .i64 ((a1I u v).1)))/\(aAt u v)))/\((decide (((a0b u u.f).wr) < ((a0b v v.f).wr)))=false->((Value.int .i64 (1:Int)=(.int .i64 ((a1I u v).1)))/\(aAt u v)))))/\((((a0b u u.f).wr) != ((a0b v v.f).wr))=false->(((((a0b u u.f).wr) == (2:Int))=true->((Value.int .i64 (0:Int)=(.int .i64 ((a1I u v).1)))/\(aAt u v)))/\((((a0b u u.f).wr) == (2:Int))=false->(((((a0b u u.f).wr) != (0:Int))=true->(((u.arc=true)/\(v.arc=true)/\(szR u.k.kq <= 1000000/\szR v.k.kq <= 1000000))/\((inR .i64 (((a0b u u.f).wr)*(Rt.sg (u.k.kq - v.k.kq))))/\((Value.int .i64 (((a0b u u.f).wr)*(Rt.sg (u.k.kq - v.k.kq)))=(.int .i64 ((a1I u v).1)))/\(aAt u v)))))/\((((a0b u u.f).wr) != (0:Int))=false->((((((a0b u u.f).wok)=true)/\((((a0b u u.f).wok)=true)/\(((a0b u u.f).wok)=true)))/\((((a0b v v.f).wok)=true)/\((((a0b v v.f).wok)=true)/\(((a0b v v.f).wok)=true)))/\((a0b u u.f).wv).sz+((a0b v v.f).wv).sz <= 14900)/\((((a0S ((a0b u u.f).wv) ((a0b v v.f).wv)) != (0:Int))=true->((Value.int .i64 (a0S ((a0b u u.f).wv) ((a0b v v.f).wv))=(.int .i64 ((a1I u v).1)))/\(aAt u v)))/\(((a0S ((a0b u u.f).wv) ((a0b v v.f).wv)) != (0:Int))=false->(((aFw u)/\(aFw v)/\u.sz+v.sz <= 100000)/\((Value.int .i64 (a3T u v)=(.int .i64 ((a1I u v).1)))/\(aAt u v)))))))))))))))))=_ by kernel_rfl) ?_
 delta aFw aAs aAt
 obtain ⟨⟨hu,hv⟩,su,sv⟩:=hp
 have zu:=a4r hu; have zv:=a4r hv
 obtain ⟨f1,f2,f3⟩:=aKg hu hu.2.2.1 su; obtain ⟨g1,g2,g3⟩:=aKg hv hv.2.2.1 sv
 have pu:=a1Q hu.2.2.1; have pv:=a1Q hv.2.2.1
 have ku:=hu.2.1.2.2; have kv:=hv.2.1.2.2
 have ou:=hu.2.2.1; have ov:=hv.2.2.1
 have nne:∀ {x y:Int},(x != y)=false->x=y:=fun h=>by simpa using h
 have yne:∀ {x y:Int},(x != y)=true->x ≠ y:=fun h=>by simpa using h
 have bne:∀ {x y:Int},(x == y)=false->x ≠ y:=fun h=>by simpa using h
 generalize hS:a0b u u.f=S at *
 generalize hT:a0b v v.f=T at *
 repeat' first | trivial | with_reducible apply And.intro | assumption | (intro _)
 all_goals first | rfl | omega | (exact f1 (nne (by assumption))) | (exact g1 ((nne (by assumption):S.wr=T.wr) ▸ (nne (by assumption):S.wr=0))) | (exact (f2 (yne (by assumption)) (bne (by assumption))).1) | (have e:S.wr=T.wr:=nne (by assumption); exact (g2 (e ▸ yne (by assumption)) (e ▸ bne (by assumption))).1) | (with_reducible apply a0N; exact a0u (f2 (yne (by assumption)) (bne (by assumption))).2 (a0Z _)) | (unfold a1I; rw [hS,hT]; (repeat' first | rfl | rw [a06 (by assumption)] | rw [a05 (by assumption)]); done)
def aDO:Ctr:=⟨203,spY (rU.c (rU.c r0)) (fun (u,v,_)=>(okU u/\okU v)/\a5C u/\a5C v) (fun (u,v,_)=>.t [.c (.v (.int .i64 ((a1I u v).1))),.c (.v (.int .i64 ((a1I u v).2)))])⟩
theorem aAO:CtrOK Tryz.prog aDO:=yOK a0F aVR Tryz.func203 fun x hp=>aDN x.1 x.2.1 hp
def WS1:List Ctr:=WS0 ++ [aDO]
theorem aZ0:∀ c ∈ WS1,CtrOK Tryz.prog c:=a0O aVR (a03 aAO (a2L))
def a1g (u:Ux) (v:Ux):Int:=(if (((a0g u.f v.f)) != ((0:Int)))=true then a0g u.f v.f else (if (((a1I u v).1) != ((0:Int)))=true then (a1I u v).1 else a0g u.t v.t))
def aAr:=(True/\(True/\(True/\(True/\True))))
def aPt (p_:Ux):=((((!p_.arc)=(!p_.arc))/\(((!p_.arc)=(!p_.arc))/\((!p_.arc)=(!p_.arc))))/\(((p_.arc=p_.arc)/\((p_.arc=p_.arc)/\(p_.arc=p_.arc)))/\(aAr/\aAr)))
theorem aAP (u:Ux) (v:Ux) (hp:(okU u/\okU v)/\a5C u/\a5C v):owes LTD WS1 [] Tryz.f115 (bd Tryz.f115) [.g (eU u),.g (eU v)] (.k (.c (.v (.int .i64 ((a1g u v)))))):=by
 refine a0p (show ((aAr/\aAr/\u.f.sz+v.f.sz <= 14500)/\((((a0g u.f v.f) != (0:Int))=true->(Value.int .i64 (a0g u.f v.f)=(.int .i64 (a1g u v))))/\(((a0g u.f v.f) != (0:Int))=false->(((aPt u)/\(aPt v)/\(okU u/\okU v)/\a5C u/\a5C v)/\(((((a1I u v).1) != (0:Int))=true->(Value.int .i64 ((a1I u v).1)=(.int .i64 (a1g u v))))/\((((a1I u v).1) != (0:Int))=false->((aAr/\aAr/\u.t.sz+v.t.sz <= 14500)/\(Value.int .i64 (a0g u.t v.t)=(.int .i64 (a1g u v))))))))))=_ by kernel_rfl) ?_
 delta aPt aAr
 obtain ⟨⟨hu,hv⟩,su,sv⟩:=hp
 have zu:=a4r hu; have zv:=a4r hv
 have pu:=a1Q hu.2.2.1; have pv:=a1Q hv.2.2.1
 have tu:=a1Q hu.2.2.2.1; have tv:=a1Q hv.2.2.2.1
 repeat' first | trivial | with_reducible apply And.intro | assumption | (intro _)
 all_goals first | rfl | omega | (unfold a1g; (repeat' first | rfl | rw [a06 (by assumption)] | rw [a05 (by assumption)]); done)
def aCu:Ctr:=⟨115,spY (rU.c (rU.c r0)) (fun (u,v,_)=>(okU u/\okU v)/\a5C u/\a5C v) (fun (u,v,_)=>.k (.c (.v (.int .i64 ((a1g u v))))))⟩
theorem aDP:CtrOK Tryz.prog aCu:=yOK a0F aZ0 Tryz.func115 fun x hp=>aAP x.1 x.2.1 hp
end Vc
end Go.Proofs.YtbohkigffejhoaaGreat
namespace Go.Proofs.YtbohkigffejhoaaGreat
open Go.RowKit
namespace Vc
attribute [local irreducible] owes a1v
def nrm (w:Ux):Ux:=if decide (a0g w.f w.t > 0)=true then a0s w else w
def b0Z (u w:Ux):Prop:=(u.arc=false/\w=u) \/ (u.arc=true/\aEu u [] w)
def PcO (u v:Ux):Prop:=∃ w,b0Z u w/\v=nrm w
structure PcI (u:Ux) (l out:List Ux) (i:Nat):Prop where
 hl:∀ w ∈ l,b0Z u w
 hn:l.length <= 1
 hi:i <= l.length
 ho:out.length <= i
 hp:∀ v ∈ out,PcO u v
def WP0:List Ctr:=WT4 ++ [a8x,aDO,aCu]
theorem aVS:∀ c ∈ WP0,CtrOK Tryz.prog c:=a0O aZZ (a03 a7J (a03 aAO (a03 aDP (a2L))))
def a3e (p_ q_:Ux):=(((Value.bool p_.arc=(.bool q_.arc))/\(((!p_.arc)=(!q_.arc))/\((p_.l.la=q_.l.la)/\(((!p_.arc)=(!q_.arc))/\((p_.l.lb=q_.l.lb)/\(((!p_.arc)=(!q_.arc))/\((p_.l.lc=q_.l.lc)/\((p_.arc=q_.arc)/\((p_.k.kx=q_.k.kx)/\((p_.arc=q_.arc)/\((p_.k.ky=q_.k.ky)/\((p_.arc=q_.arc)/\((p_.k.kq=q_.k.kq)/\((Value.bool p_.cw=(.bool q_.cw))/\((p_.f.a=q_.f.a)/\((p_.f.b=q_.f.b)/\((p_.f.c=q_.f.c)/\((p_.f.d=q_.f.d)/\((p_.f.e=q_.f.e)/\((p_.t.a=q_.t.a)/\((p_.t.b=q_.t.b)/\((p_.t.c=q_.t.c)/\((p_.t.d=q_.t.d)/\((p_.t.e=q_.t.e)/\True))))))))))))))))))))))))/\True)
def a5i:=(True/\(True/\(True/\(True/\True))))
def a3Y (p_:Ux):=((((!p_.arc)=(!p_.arc))/\(((!p_.arc)=(!p_.arc))/\((!p_.arc)=(!p_.arc))))/\(((p_.arc=p_.arc)/\((p_.arc=p_.arc)/\(p_.arc=p_.arc)))/\(a5i/\a5i)))
def a2g (p_:Ux):=((((!p_.arc)=(!p_.arc))/\(((!p_.arc)=(!p_.arc))/\((!p_.arc)=(!p_.arc))))/\(((p_.arc=p_.arc)/\((p_.arc=p_.arc)/\(p_.arc=p_.arc)))/\(a5i/\a5i)))
def a5T (p_:Ux):=(decide ((a0g p_.f p_.t) > (0:Int)))
def aCh (p_:Ux):=(a5i/\a5i/\p_.f.sz+p_.t.sz <= 14500)
def a5h (p_:Ux):=([(a0d p_.k).1]:List Px)
def a5g (p_:Ux):=([(a0d p_.k).2]:List Px)
def aAg (x10:List Ux × List Ux × Nat):=(x10.1.getD (((x10.2.2:Nat):Int).toNat) dfU)
def aAf (x14:List Ux × List Ux × Nat):=(x14.1.getD (((x14.2.2:Nat):Int).toNat) dfU)
def a6P (x17:List Ux × List Ux × Nat):=(x17.1.getD (((x17.2.2:Nat):Int).toNat) dfU)
def a6O (x2:List Ux × List Ux × Nat):=(x2.1.getD (((x2.2.2:Nat):Int).toNat) dfU)
def a6N (x6:List Ux × List Ux × Nat):=(x6.1.getD (((x6.2.2:Nat):Int).toNat) dfU)
def a8o (a:List Ux) (u:Ux):=((∀ v ∈ a,PcO u v)/\a.length <= 1)
def aAq (x11:List Ux × List Ux × Nat × Nat × Ux):=(x11.2.1.getD (((x11.2.2.2.1:Nat):Int).toNat) dfU)
def aIs (x11:List Ux × List Ux × Nat × Nat × Ux):=(bif (decide (((x11.2.2.2.1:Nat):Int) < (x11.2.1.length:Int))) then (decide ((a1g (aAq x11) x11.2.2.2.2) <= (0:Int))) else false)
def aAp (x12:List Ux × List Ux × Nat × Nat × Ux):=(x12.2.1.getD (((x12.2.2.2.1:Nat):Int).toNat) dfU)
def aIr (x12:List Ux × List Ux × Nat × Nat × Ux):=(bif (decide (((x12.2.2.2.1:Nat):Int) < (x12.2.1.length:Int))) then (decide ((a1g (aAp x12) x12.2.2.2.2) <= (0:Int))) else false)
def aAo (x15:List Ux × List Ux × Nat × Nat × Ux):=(x15.2.1.getD (((x15.2.2.2.1:Nat):Int).toNat) dfU)
def aIq (x15:List Ux × List Ux × Nat × Nat × Ux):=(bif (decide (((x15.2.2.2.1:Nat):Int) < (x15.2.1.length:Int))) then (decide ((a1g (aAo x15) x15.2.2.2.2) <= (0:Int))) else false)
def aAn (x16:List Ux × List Ux × Nat × Nat × Ux):=(x16.2.1.getD (((x16.2.2.2.1:Nat):Int).toNat) dfU)
def aIp (x16:List Ux × List Ux × Nat × Nat × Ux):=(bif (decide (((x16.2.2.2.1:Nat):Int) < (x16.2.1.length:Int))) then (decide ((a1g (aAn x16) x16.2.2.2.2) <= (0:Int))) else false)
def aAm (x18:List Ux × List Ux × Nat × Nat × Ux):=(x18.2.1.getD (((x18.2.2.2.1:Nat):Int).toNat) dfU)
def aIo (x18:List Ux × List Ux × Nat × Nat × Ux):=(bif (decide (((x18.2.2.2.1:Nat):Int) < (x18.2.1.length:Int))) then (decide ((a1g (aAm x18) x18.2.2.2.2) <= (0:Int))) else false)
def aAl (x19:List Ux × List Ux × Nat × Nat × Ux):=(x19.2.1.getD (((x19.2.2.2.1:Nat):Int).toNat) dfU)
def aIn (x19:List Ux × List Ux × Nat × Nat × Ux):=(bif (decide (((x19.2.2.2.1:Nat):Int) < (x19.2.1.length:Int))) then (decide ((a1g (aAl x19) x19.2.2.2.2) <= (0:Int))) else false)
def aAk (x3:List Ux × List Ux × Nat × Nat × Ux):=(x3.2.1.getD (((x3.2.2.2.1:Nat):Int).toNat) dfU)
def aIm (x3:List Ux × List Ux × Nat × Nat × Ux):=(bif (decide (((x3.2.2.2.1:Nat):Int) < (x3.2.1.length:Int))) then (decide ((a1g (aAk x3) x3.2.2.2.2) <= (0:Int))) else false)
def aAj (x4:List Ux × List Ux × Nat × Nat × Ux):=(x4.2.1.getD (((x4.2.2.2.1:Nat):Int).toNat) dfU)
def aIl (x4:List Ux × List Ux × Nat × Nat × Ux):=(bif (decide (((x4.2.2.2.1:Nat):Int) < (x4.2.1.length:Int))) then (decide ((a1g (aAj x4) x4.2.2.2.2) <= (0:Int))) else false)
def aAi (x7:List Ux × List Ux × Nat × Nat × Ux):=(x7.2.1.getD (((x7.2.2.2.1:Nat):Int).toNat) dfU)
def aIk (x7:List Ux × List Ux × Nat × Nat × Ux):=(bif (decide (((x7.2.2.2.1:Nat):Int) < (x7.2.1.length:Int))) then (decide ((a1g (aAi x7) x7.2.2.2.2) <= (0:Int))) else false)
def aAh (x8:List Ux × List Ux × Nat × Nat × Ux):=(x8.2.1.getD (((x8.2.2.2.1:Nat):Int).toNat) dfU)
def aIj (x8:List Ux × List Ux × Nat × Nat × Ux):=(bif (decide (((x8.2.2.2.1:Nat):Int) < (x8.2.1.length:Int))) then (decide ((a1g (aAh x8) x8.2.2.2.2) <= (0:Int))) else false)
set_option maxHeartbeats 4000000 in
theorem aBB (u:Ux) (hp:okU u/\(u.arc=true->a1H u (a0d u.k).1=false/\a1H u (a0d u.k).2=false)):a1v LTL WP0 [.inv 12 (List Ux × List Ux × Nat) (fun ξ=>⟨[.u,.u,.u,.k (.c (.rd .U (false) (ξ.1))),.u,.u,.u,.k (.c (.ow 0 52 .U (ξ.2.1))),.k (.c (.v (.int .i64 (((ξ.2.2:Nat):Int))))),.u,.u,.u,.u,.u,.u,.u,.u,.u,.u,.u,.u,.u,.u,.u,.u,.u,.u,.u,.u,.u,.u,.u,.u,.u,.u,.u,.u,.u,.u,.u,.u,.u,.u,.u,.u,.u,.u,.u,.u,.u,.u,.u,.u,.u,.u,.u,.u,.u,.u,.u,.u,.u,.u,.u,.u,.u,.u,.u,.u,.u,.u,.u,.u,.u,.u,.u,.u,.u,.u,.u,.u,.u,.u,.u,.u],[]⟩) (fun _ ξ=>PcI u ξ.1 ξ.2.1 ξ.2.2) (fun ξ=>ξ.1.length - ξ.2.2),.inv 18 (List Ux × List Ux × Nat × Nat × Ux) (fun ξ=>⟨[.u,.u,.u,.k (.c (.rd .U (false) (ξ.1))),.u,.u,.u,.k (.c (.ow 0 52 .U (ξ.2.1))),.k (.c (.v (.int .i64 (((ξ.2.2.1:Nat):Int))))),.k (.c (.bx 0 0)),.k (.c (.v (.int .i64 (((ξ.2.2.2.1:Nat):Int))))),.u,.u,.u,.u,.u,.u,.u,.u,.u,.u,.u,.u,.u,.u,.u,.u,.u,.u,.u,.u,.u,.u,.u,.u,.u,.u,.u,.u,.u,.u,.u,.u,.u,.u,.u,.u,.u,.u,.u,.u,.u,.u,.u,.u,.u,.u,.u,.u,.u,.u,.u,.u,.u,.u,.u,.u,.u,.u,.u,.u,.u,.u,.u,.u,.u,.u,.u,.u,.u,.u,.u,.u,.u,.u],[⟨52,(eU ξ.2.2.2.2)⟩]⟩) (fun σ ξ=>(PcI u ξ.1 ξ.2.1 ξ.2.2.1/\ξ.2.2.1 < ξ.1.length)/\(ξ.2.2.1:Int)=(tmI σ 8)/\ξ.2.2.2.1 <= ξ.2.1.length/\PcO u ξ.2.2.2.2) (fun ξ=>ξ.2.1.length - ξ.2.2.2.1),.cut 20 1000] Tryz.f118 (bd Tryz.f118) [.g (eU u)] (fun a:List Ux=>(∀ v ∈ a,PcO u v)/\a.length <= 1) (fun a=>.k (.c (.rd .U (false) (a)))):=by
 refine a1J (show (((a2g u)/\True)/\((u.arc=true->((((u.arc=true)/\((u.arc=true)/\(u.arc=true)))/\0 <= u.k.kq/\u.k.sz <= 20000)/\(((a2g u)/\a5i/\0 <= ((a0d u.k).1).e/\u.sz+((a0d u.k).1).sz <= 3000)/\(((a1H u ((a0d u.k).1))=true->((a5i/\True)/\((([]:List Px).length+(a5h u).length <= 10000000)/\(((a2g u)/\a5i/\0 <= ((a0d u.k).2).e/\u.sz+((a0d u.k).2).sz <= 3000)/\(((a1H u ((a0d u.k).2))=true->((a5i/\True)/\(((a5h u).length+(a5g u).length <= 10000000)/\(((a2g u)/\(okU u/\∀ p ∈ ((a5h u) ++ (a5g u)),okP p)/\((a5h u) ++ (a5g u)).length <= 90000)/\(∀ e1:List Ux × Int,(((∀ v ∈ e1.1,aEu u ((a5h u) ++ (a5g u)) v)/\(e1.1=[] \/ ∀ p ∈ ((a5h u) ++ (a5g u)),a1h u p=true))/\e1.1.length <= ((a5h u) ++ (a5g u)).length+1->((∃ x2:List Ux × List Ux × Nat,((PcI u x2.1 x2.2.1 x2.2.2)/\(((e1.1=x2.1)/\((x2.2.1=[])/\((Value.int .i64 (0:Int)=(.int .i64 ((x2.2.2:Nat):Int)))/\True)))/\True)))/\(∀ x2:List Ux × List Ux × Nat,((PcI u x2.1 x2.2.1 x2.2.2)->(((decide (((x2.2.2:Nat):Int) < (x2.1.length:Int)))=true->((0 <= ((x2.2.2:Nat):Int)/\((x2.2.2:Nat):Int) < (x2.1.length:Int))/\((aCh (a6O x2))/\(((a5T (a6O x2))=true->(((a3Y (a6O x2))/\True)/\((∃ x3:List Ux × List Ux × Nat × Nat × Ux,(((PcI u x3.1 x3.2.1 x3.2.2.1/\x3.2.2.1 < x3.1.length)/\(x3.2.2.1:Int)=((x2.2.2:Nat):Int)/\x3.2.2.2.1 <= x3.2.1.length/\PcO u x3.2.2.2.2)/\(((x2.1=x3.1)/\((x2.2.1=x3.2.1)/\((Value.int .i64 ((x2.2.2:Nat):Int)=(.int .i64 ((x3.2.2.1:Nat):Int)))/\(True/\((Value.int .i64 (0:Int)=(.int .i64 ((x3.2.2.2.1:Nat):Int)))/\True)))))/\(a3e (a0s (a6O x2)) x3.2.2.2.2))))/\(∀ x3:List Ux × List Ux × Nat × Nat × Ux,((PcI u x3.1 x3.2.1 x3.2.2.1/\x3.2.2.1 < x3.1.length)/\(x3.2.2.1:Int)=((x2.2.2:Nat):Int)/\x3.2.2.2.1 <= x3.2.1.length/\PcO u x3.2.2.2.2->((((decide (((x3.2.2.2.1:Nat):Int) < (x3.2.1.length:Int))) == true)=true->(0 <= ((x3.2.2.2.1:Nat):Int)/\((x3.2.2.2.1:Nat):Int) < (x3.2.1.length:Int)))/\((((decide (((x3.2.2.2.1:Nat):Int) < (x3.2.1.length:Int))) == true)=true->((a3Y (aAk x3))/\(a2g x3.2.2.2.2)/\(okU (aAk x3)/\okU x3.2.2.2.2)/\a5C (aAk x3)/\a5C x3.2.2.2.2))/\(((aIm x3)=true->((inR .i64 (((x3.2.2.2.1:Nat):Int)+(1:Int)))/\(∃ y3:List Ux × List Ux × Nat × Nat × Ux,(((PcI u y3.1 y3.2.1 y3.2.2.1/\y3.2.2.1 < y3.1.length)/\(y3.2.2.1:Int)=((x2.2.2:Nat):Int)/\y3.2.2.2.1 <= y3.2.1.length/\PcO u y3.2.2.2.2)/\((y3.2.1.length - y3.2.2.2.1 < x3.2.1.length - x3.2.2.2.1)/\(((x3.1=y3.1)/\((x3.2.1=y3.2.1)/\((Value.int .i64 ((x3.2.2.1:Nat):Int)=(.int .i64 ((y3.2.2.1:Nat):Int)))/\(True/\((Value.int .i64 (((x3.2.2.2.1:Nat):Int)+(1:Int))=(.int .i64 ((y3.2.2.2.1:Nat):Int)))/\True)))))/\(a3e x3.2.2.2.2 y3.2.2.2.2)))))))/\((aIm x3)=false->((0 <= ((x3.2.2.2.1:Nat):Int)/\((x3.2.2.2.1:Nat):Int) <= (x3.2.1.length:Int))/\((0 <= ((x3.2.2.2.1:Nat):Int)/\((x3.2.2.2.1:Nat):Int) <= (x3.2.1.length:Int))/\(((((a2g x3.2.2.2.2)/\True)/\(((([x3.2.2.2.2]:List Ux).length+(x3.2.1.drop ((x3.2.2.2.1:Nat):Int).toNat).length <= 10000000)/\((((x3.2.1.take ((x3.2.2.2.1:Nat):Int).toNat).length+(([x3.2.2.2.2]:List Ux) ++ (x3.2.1.drop ((x3.2.2.2.1:Nat):Int).toNat)).length <= 10000000)/\(((inR .i64 (((x3.2.2.1:Nat):Int)+(1:Int)))/\(∃ y2:List Ux × List Ux × Nat,((PcI u y2.1 y2.2.1 y2.2.2)/\((y2.1.length - y2.2.2 < x2.1.length - x2.2.2)/\(((x3.1=y2.1)/\((((x3.2.1.take ((x3.2.2.2.1:Nat):Int).toNat) ++ (([x3.2.2.2.2]:List Ux) ++ (x3.2.1.drop ((x3.2.2.2.1:Nat):Int).toNat)))=y2.2.1)/\((Value.int .i64 (((x3.2.2.1:Nat):Int)+(1:Int))=(.int .i64 ((y2.2.2:Nat):Int)))/\True)))/\True)))))/\True))/\True))/\True))/\True)/\True))))))))))))/\((a5T (a6O x2))=false->((∃ x4:List Ux × List Ux × Nat × Nat × Ux,(((PcI u x4.1 x4.2.1 x4.2.2.1/\x4.2.2.1 < x4.1.length)/\(x4.2.2.1:Int)=((x2.2.2:Nat):Int)/\x4.2.2.2.1 <= x4.2.1.length/\PcO u x4.2.2.2.2)/\(((x2.1=x4.1)/\((x2.2.1=x4.2.1)/\((Value.int .i64 ((x2.2.2:Nat):Int)=(.int .i64 ((x4.2.2.1:Nat):Int)))/\(True/\((Value.int .i64 (0:Int)=(.int .i64 ((x4.2.2.2.1:Nat):Int)))/\True)))))/\(a3e (a6O x2) x4.2.2.2.2))))/\(∀ x4:List Ux × List Ux × Nat × Nat × Ux,((PcI u x4.1 x4.2.1 x4.2.2.1/\x4.2.2.1 < x4.1.length)/\(x4.2.2.1:Int)=((x2.2.2:Nat):Int)/\x4.2.2.2.1 <= x4.2.1.length/\PcO u x4.2.2.2.2->((((decide (((x4.2.2.2.1:Nat):Int) < (x4.2.1.length:Int))) == true)=true->(0 <= ((x4.2.2.2.1:Nat):Int)/\((x4.2.2.2.1:Nat):Int) < (x4.2.1.length:Int)))/\((((decide (((x4.2.2.2.1:Nat):Int) < (x4.2.1.length:Int))) == true)=true->((a3Y (aAj x4))/\(a2g x4.2.2.2.2)/\(okU (aAj x4)/\okU x4.2.2.2.2)/\a5C (aAj x4)/\a5C x4.2.2.2.2))/\(((aIl x4)=true->((inR .i64 (((x4.2.2.2.1:Nat):Int)+(1:Int)))/\(∃ y4:List Ux × List Ux × Nat × Nat × Ux,(((PcI u y4.1 y4.2.1 y4.2.2.1/\y4.2.2.1 < y4.1.length)/\(y4.2.2.1:Int)=((x2.2.2:Nat):Int)/\y4.2.2.2.1 <= y4.2.1.length/\PcO u y4.2.2.2.2)/\((y4.2.1.length - y4.2.2.2.1 < x4.2.1.length - x4.2.2.2.1)/\(((x4.1=y4.1)/\((x4.2.1=y4.2.1)/\((Value.int .i64 ((x4.2.2.1:Nat):Int)=(.int .i64 ((y4.2.2.1:Nat):Int)))/\(True/\((Value.int .i64 (((x4.2.2.2.1:Nat):Int)+(1:Int))=(.int .i64 ((y4.2.2.2.1:Nat):Int)))/\True)))))/\(a3e x4.2.2.2.2 y4.2.2.2.2)))))))/\((aIl x4)=false->((0 <= ((x4.2.2.2.1:Nat):Int)/\((x4.2.2.2.1:Nat):Int) <= (x4.2.1.length:Int))/\((0 <= ((x4.2.2.2.1:Nat):Int)/\((x4.2.2.2.1:Nat):Int) <= (x4.2.1.length:Int))/\(((((a2g x4.2.2.2.2)/\True)/\(((([x4.2.2.2.2]:List Ux).length+(x4.2.1.drop ((x4.2.2.2.1:Nat):Int).toNat).length <= 10000000)/\((((x4.2.1.take ((x4.2.2.2.1:Nat):Int).toNat).length+(([x4.2.2.2.2]:List Ux) ++ (x4.2.1.drop ((x4.2.2.2.1:Nat):Int).toNat)).length <= 10000000)/\(((inR .i64 (((x4.2.2.1:Nat):Int)+(1:Int)))/\(∃ y2:List Ux × List Ux × Nat,((PcI u y2.1 y2.2.1 y2.2.2)/\((y2.1.length - y2.2.2 < x2.1.length - x2.2.2)/\(((x4.1=y2.1)/\((((x4.2.1.take ((x4.2.2.2.1:Nat):Int).toNat) ++ (([x4.2.2.2.2]:List Ux) ++ (x4.2.1.drop ((x4.2.2.2.1:Nat):Int).toNat)))=y2.2.1)/\((Value.int .i64 (((x4.2.2.1:Nat):Int)+(1:Int))=(.int .i64 ((y2.2.2:Nat):Int)))/\True)))/\True)))))/\True))/\True))/\True))/\True)/\True)))))))))))))))/\((decide (((x2.2.2:Nat):Int) < (x2.1.length:Int)))=false->(∃ a:List Ux,((a8o a u)/\(x2.2.1=a))))))))))))))/\((a1H u ((a0d u.k).2))=false->(((a2g u)/\(okU u/\∀ p ∈ (a5h u),okP p)/\(a5h u).length <= 90000)/\(∀ e5:List Ux × Int,(((∀ v ∈ e5.1,aEu u (a5h u) v)/\(e5.1=[] \/ ∀ p ∈ (a5h u),a1h u p=true))/\e5.1.length <= (a5h u).length+1->((∃ x6:List Ux × List Ux × Nat,((PcI u x6.1 x6.2.1 x6.2.2)/\(((e5.1=x6.1)/\((x6.2.1=[])/\((Value.int .i64 (0:Int)=(.int .i64 ((x6.2.2:Nat):Int)))/\True)))/\True)))/\(∀ x6:List Ux × List Ux × Nat,((PcI u x6.1 x6.2.1 x6.2.2)->(((decide (((x6.2.2:Nat):Int) < (x6.1.length:Int)))=true->((0 <= ((x6.2.2:Nat):Int)/\((x6.2.2:Nat):Int) < (x6.1.length:Int))/\((aCh (a6N x6))/\(((a5T (a6N x6))=true->(((a3Y (a6N x6))/\True)/\((∃ x7:List Ux × List Ux × Nat × Nat × Ux,(((PcI u x7.1 x7.2.1 x7.2.2.1/\x7.2.2.1 < x7.1.length)/\(x7.2.2.1:Int)=((x6.2.2:Nat):Int)/\x7.2.2.2.1 <= x7.2.1.length/\PcO u x7.2.2.2.2)/\(((x6.1=x7.1)/\((x6.2.1=x7.2.1)/\((Value.int .i64 ((x6.2.2:Nat):Int)=(.int .i64 ((x7.2.2.1:Nat):Int)))/\(True/\((Value.int .i64 (0:Int)=(.int .i64 ((x7.2.2.2.1:Nat):Int)))/\True)))))/\(a3e (a0s (a6N x6)) x7.2.2.2.2))))/\(∀ x7:List Ux × List Ux × Nat × Nat × Ux,((PcI u x7.1 x7.2.1 x7.2.2.1/\x7.2.2.1 < x7.1.length)/\(x7.2.2.1:Int)=((x6.2.2:Nat):Int)/\x7.2.2.2.1 <= x7.2.1.length/\PcO u x7.2.2.2.2->((((decide (((x7.2.2.2.1:Nat):Int) < (x7.2.1.length:Int))) == true)=true->(0 <= ((x7.2.2.2.1:Nat):Int)/\((x7.2.2.2.1:Nat):Int) < (x7.2.1.length:Int)))/\((((decide (((x7.2.2.2.1:Nat):Int) < (x7.2.1.length:Int))) == true)=true->((a3Y (aAi x7))/\(a2g x7.2.2.2.2)/\(okU (aAi x7)/\okU x7.2.2.2.2)/\a5C (aAi x7)/\a5C x7.2.2.2.2))/\(((aIk x7)=true->((inR .i64 (((x7.2.2.2.1:Nat):Int)+(1:Int)))/\(∃ y7:List Ux × List Ux × Nat × Nat × Ux,(((PcI u y7.1 y7.2.1 y7.2.2.1/\y7.2.2.1 < y7.1.length)/\(y7.2.2.1:Int)=((x6.2.2:Nat):Int)/\y7.2.2.2.1 <= y7.2.1.length/\PcO u y7.2.2.2.2)/\((y7.2.1.length - y7.2.2.2.1 < x7.2.1.length - x7.2.2.2.1)/\(((x7.1=y7.1)/\((x7.2.1=y7.2.1)/\((Value.int .i64 ((x7.2.2.1:Nat):Int)=(.int .i64 ((y7.2.2.1:Nat):Int)))/\(True/\((Value.int .i64 (((x7.2.2.2.1:Nat):Int)+(1:Int))=(.int .i64 ((y7.2.2.2.1:Nat):Int)))/\True)))))/\(a3e x7.2.2.2.2 y7.2.2.2.2)))))))/\((aIk x7)=false->((0 <= ((x7.2.2.2.1:Nat):Int)/\((x7.2.2.2.1:Nat):Int) <= (x7.2.1.length:Int))/\((0 <= ((x7.2.2.2.1:Nat):Int)/\((x7.2.2.2.1:Nat):Int) <= (x7.2.1.length:Int))/\(((((a2g x7.2.2.2.2)/\True)/\(((([x7.2.2.2.2]:List Ux).length+(x7.2.1.drop ((x7.2.2.2.1:Nat):Int).toNat).length <= 10000000)/\((((x7.2.1.take ((x7.2.2.2.1:Nat):Int).toNat).length+(([x7.2.2.2.2]:List Ux) ++ (x7.2.1.drop ((x7.2.2.2.1:Nat):Int).toNat)).length <= 10000000)/\(((inR .i64 (((x7.2.2.1:Nat):Int)+(1:Int)))/\(∃ y6:List Ux × List Ux × Nat,((PcI u y6.1 y6.2.1 y6.2.2)/\((y6.1.length - y6.2.2 < x6.1.length - x6.2.2)/\(((x7.1=y6.1)/\((((x7.2.1.take ((x7.2.2.2.1:Nat):Int).toNat) ++ (([x7.2.2.2.2]:List Ux) ++ (x7.2.1.drop ((x7.2.2.2.1:Nat):Int).toNat)))=y6.2.1)/\((Value.int .i64 (((x7.2.2.1:Nat):Int)+(1:Int))=(.int .i64 ((y6.2.2:Nat):Int)))/\True)))/\True)))))/\True))/\True))/\True))/\True)/\True))))))))))))/\((a5T (a6N x6))=false->((∃ x8:List Ux × List Ux × Nat × Nat × Ux,(((PcI u x8.1 x8.2.1 x8.2.2.1/\x8.2.2.1 < x8.1.length)/\(x8.2.2.1:Int)=((x6.2.2:Nat):Int)/\x8.2.2.2.1 <= x8.2.1.length/\PcO u x8.2.2.2.2)/\(((x6.1=x8.1)/\((x6.2.1=x8.2.1)/\((Value.int .i64 ((x6.2.2:Nat):Int)=(.int .i64 ((x8.2.2.1:Nat):Int)))/\(True/\((Value.int .i64 (0:Int)=(.int .i64 ((x8.2.2.2.1:Nat):Int)))/\True)))))/\(a3e (a6N x6) x8.2.2.2.2))))/\(∀ x8:List Ux × List Ux × Nat × Nat × Ux,((PcI u x8.1 x8.2.1 x8.2.2.1/\x8.2.2.1 < x8.1.length)/\(x8.2.2.1:Int)=((x6.2.2:Nat):Int)/\x8.2.2.2.1 <= x8.2.1.length/\PcO u x8.2.2.2.2->((((decide (((x8.2.2.2.1:Nat):Int) < (x8.2.1.length:Int))) == true)=true->(0 <= ((x8.2.2.2.1:Nat):Int)/\((x8.2.2.2.1:Nat):Int) < (x8.2.1.length:Int)))/\((((decide (((x8.2.2.2.1:Nat):Int) < (x8.2.1.length:Int))) == true)=true->((a3Y (aAh x8))/\(a2g x8.2.2.2.2)/\(okU (aAh x8)/\okU x8.2.2.2.2)/\a5C (aAh x8)/\a5C x8.2.2.2.2))/\(((aIj x8)=true->((inR .i64 (((x8.2.2.2.1:Nat):Int)+(1:Int)))/\(∃ y8:List Ux × List Ux × Nat × Nat × Ux,(((PcI u y8.1 y8.2.1 y8.2.2.1/\y8.2.2.1 < y8.1.length)/\(y8.2.2.1:Int)=((x6.2.2:Nat):Int)/\y8.2.2.2.1 <= y8.2.1.length/\PcO u y8.2.2.2.2)/\((y8.2.1.length - y8.2.2.2.1 < x8.2.1.length - x8.2.2.2.1)/\(((x8.1=y8.1)/\((x8.2.1=y8.2.1)/\((Value.int .i64 ((x8.2.2.1:Nat):Int)=(.int .i64 ((y8.2.2.1:Nat):Int)))/\(True/\((Value.int .i64 (((x8.2.2.2.1:Nat):Int)+(1:Int))=(.int .i64 ((y8.2.2.2.1:Nat):Int)))/\True)))))/\(a3e x8.2.2.2.2 y8.2.2.2.2)))))))/\((aIj x8)=false->((0 <= ((x8.2.2.2.1:Nat):Int)/\((x8.2.2.2.1:Nat):Int) <= (x8.2.1.length:Int))/\((0 <= ((x8.2.2.2.1:Nat):Int)/\((x8.2.2.2.1:Nat):Int) <= (x8.2.1.length:Int))/\(((((a2g x8.2.2.2.2)/\True)/\(((([x8.2.2.2.2]:List Ux).length+(x8.2.1.drop ((x8.2.2.2.1:Nat):Int).toNat).length <= 10000000)/\((((x8.2.1.take ((x8.2.2.2.1:Nat):Int).toNat).length+(([x8.2.2.2.2]:List Ux) ++ (x8.2.1.drop ((x8.2.2.2.1:Nat):Int).toNat)).length <= 10000000)/\(((inR .i64 (((x8.2.2.1:Nat):Int)+(1:Int)))/\(∃ y6:List Ux × List Ux × Nat,((PcI u y6.1 y6.2.1 y6.2.2)/\((y6.1.length - y6.2.2 < x6.1.length - x6.2.2)/\(((x8.1=y6.1)/\((((x8.2.1.take ((x8.2.2.2.1:Nat):Int).toNat) ++ (([x8.2.2.2.2]:List Ux) ++ (x8.2.1.drop ((x8.2.2.2.1:Nat):Int).toNat)))=y6.2.1)/\((Value.int .i64 (((x8.2.2.1:Nat):Int)+(1:Int))=(.int .i64 ((y6.2.2:Nat):Int)))/\True)))/\True)))))/\True))/\True))/\True))/\True)/\True)))))))))))))))/\((decide (((x6.2.2:Nat):Int) < (x6.1.length:Int)))=false->(∃ a:List Ux,((a8o a u)/\(x6.2.1=a)))))))))))))))))/\((a1H u ((a0d u.k).1))=false->(((a2g u)/\a5i/\0 <= ((a0d u.k).2).e/\u.sz+((a0d u.k).2).sz <= 3000)/\(((a1H u ((a0d u.k).2))=true->((a5i/\True)/\((([]:List Px).length+(a5g u).length <= 10000000)/\(((a2g u)/\(okU u/\∀ p ∈ (a5g u),okP p)/\(a5g u).length <= 90000)/\(∀ e9:List Ux × Int,(((∀ v ∈ e9.1,aEu u (a5g u) v)/\(e9.1=[] \/ ∀ p ∈ (a5g u),a1h u p=true))/\e9.1.length <= (a5g u).length+1->((∃ x10:List Ux × List Ux × Nat,((PcI u x10.1 x10.2.1 x10.2.2)/\(((e9.1=x10.1)/\((x10.2.1=[])/\((Value.int .i64 (0:Int)=(.int .i64 ((x10.2.2:Nat):Int)))/\True)))/\True)))/\(∀ x10:List Ux × List Ux × Nat,((PcI u x10.1 x10.2.1 x10.2.2)->(((decide (((x10.2.2:Nat):Int) < (x10.1.length:Int)))=true->((0 <= ((x10.2.2:Nat):Int)/\((x10.2.2:Nat):Int) < (x10.1.length:Int))/\((aCh (aAg x10))/\(((a5T (aAg x10))=true->(((a3Y (aAg x10))/\True)/\((∃ x11:List Ux × List Ux × Nat × Nat × Ux,(((PcI u x11.1 x11.2.1 x11.2.2.1/\x11.2.2.1 < x11.1.length)/\(x11.2.2.1:Int)=((x10.2.2:Nat):Int)/\x11.2.2.2.1 <= x11.2.1.length/\PcO u x11.2.2.2.2)/\(((x10.1=x11.1)/\((x10.2.1=x11.2.1)/\((Value.int .i64 ((x10.2.2:Nat):Int)=(.int .i64 ((x11.2.2.1:Nat):Int)))/\(True/\((Value.int .i64 (0:Int)=(.int .i64 ((x11.2.2.2.1:Nat):Int)))/\True)))))/\(a3e (a0s (aAg x10)) x11.2.2.2.2))))/\(∀ x11:List Ux × List Ux × Nat × Nat × Ux,((PcI u x11.1 x11.2.1 x11.2.2.1/\x11.2.2.1 < x11.1.length)/\(x11.2.2.1:Int)=((x10.2.2:Nat):Int)/\x11.2.2.2.1 <= x11.2.1.length/\PcO u x11.2.2.2.2->((((decide (((x11.2.2.2.1:Nat):Int) < (x11.2.1.length:Int))) == true)=true->(0 <= ((x11.2.2.2.1:Nat):Int)/\((x11.2.2.2.1:Nat):Int) < (x11.2.1.length:Int)))/\((((decide (((x11.2.2.2.1:Nat):Int) < (x11.2.1.length:Int))) == true)=true->((a3Y (aAq x11))/\(a2g x11.2.2.2.2)/\(okU (aAq x11)/\okU x11.2.2.2.2)/\a5C (aAq x11)/\a5C x11.2.2.2.2))/\(((aIs x11)=true->((inR .i64 (((x11.2.2.2.1:Nat):Int)+(1:Int)))/\(∃ y11:List Ux × List Ux × Nat × Nat × Ux,(((PcI u y11.1 y11.2.1 y11.2.2.1/\y11.2.2.1 < y11.1.length)/\(y11.2.2.1:Int)=((x10.2.2:Nat):Int)/\y11.2.2.2.1 <= y11.2.1.length/\PcO u y11.2.2.2.2)/\((y11.2.1.length - y11.2.2.2.1 < x11.2.1.length - x11.2.2.2.1)/\(((x11.1=y11.1)/\((x11.2.1=y11.2.1)/\((Value.int .i64 ((x11.2.2.1:Nat):Int)=(.int .i64 ((y11.2.2.1:Nat):Int)))/\(True/\((Value.int .i64 (((x11.2.2.2.1:Nat):Int)+(1:Int))=(.int .i64 ((y11.2.2.2.1:Nat):Int)))/\True)))))/\(a3e x11.2.2.2.2 y11.2.2.2.2)))))))/\((aIs x11)=false->((0 <= ((x11.2.2.2.1:Nat):Int)/\((x11.2.2.2.1:Nat):Int) <= (x11.2.1.length:Int))/\((0 <= ((x11.2.2.2.1:Nat):Int)/\((x11.2.2.2.1:Nat):Int) <= (x11.2.1.length:Int))/\(((((a2g x11.2.2.2.2)/\True)/\(((([x11.2.2.2.2]:List Ux).length+(x11.2.1.drop ((x11.2.2.2.1:Nat):Int).toNat).length <= 10000000)/\((((x11.2.1.take ((x11.2.2.2.1:Nat):Int).toNat).length+(([x11.2.2.2.2]:List Ux) ++ (x11.2.1.drop ((x11.2.2.2.1:Nat):Int).toNat)).length <= 10000000)/\(((inR .i64 (((x11.2.2.1:Nat):Int)+(1:Int)))/\(∃ y10:List Ux × List Ux × Nat,((PcI u y10.1 y10.2.1 y10.2.2)/\((y10.1.length - y10.2.2 < x10.1.length - x10.2.2)/\(((x11.1=y10.1)/\((((x11.2.1.take ((x11.2.2.2.1:Nat):Int).toNat) ++ (([x11.2.2.2.2]:List Ux) ++ (x11.2.1.drop ((x11.2.2.2.1:Nat):Int).toNat)))=y10.2.1)/\((Value.int .i64 (((x11.2.2.1:Nat):Int)+(1:Int))=(.int .i64 ((y10.2.2:Nat):Int)))/\True)))/\True)))))/\True))/\True))/\True))/\True)/\True))))))))))))/\((a5T (aAg x10))=false->((∃ x12:List Ux × List Ux × Nat × Nat × Ux,(((PcI u x12.1 x12.2.1 x12.2.2.1/\x12.2.2.1 < x12.1.length)/\(x12.2.2.1:Int)=((x10.2.2:Nat):Int)/\x12.2.2.2.1 <= x12.2.1.length/\PcO u x12.2.2.2.2)/\(((x10.1=x12.1)/\((x10.2.1=x12.2.1)/\((Value.int .i64 ((x10.2.2:Nat):Int)=(.int .i64 ((x12.2.2.1:Nat):Int)))/\(True/\((Value.int .i64 (0:Int)=(.int .i64 ((x12.2.2.2.1:Nat):Int)))/\True)))))/\(a3e (aAg x10) x12.2.2.2.2))))/\(∀ x12:List Ux × List Ux × Nat × Nat × Ux,((PcI u x12.1 x12.2.1 x12.2.2.1/\x12.2.2.1 < x12.1.length)/\(x12.2.2.1:Int)=((x10.2.2:Nat):Int)/\x12.2.2.2.1 <= x12.2.1.length/\PcO u x12.2.2.2.2->((((decide (((x12.2.2.2.1:Nat):Int) < (x12.2.1.length:Int))) == true)=true->(0 <= ((x12.2.2.2.1:Nat):Int)/\((x12.2.2.2.1:Nat):Int) < (x12.2.1.length:Int)))/\((((decide (((x12.2.2.2.1:Nat):Int) < (x12.2.1.length:Int))) == true)=true->((a3Y (aAp x12))/\(a2g x12.2.2.2.2)/\(okU (aAp x12)/\okU x12.2.2.2.2)/\a5C (aAp x12)/\a5C x12.2.2.2.2))/\(((aIr x12)=true->((inR .i64 (((x12.2.2.2.1:Nat):Int)+(1:Int)))/\(∃ y12:List Ux × List Ux × Nat × Nat × Ux,(((PcI u y12.1 y12.2.1 y12.2.2.1/\y12.2.2.1 < y12.1.length)/\(y12.2.2.1:Int)=((x10.2.2:Nat):Int)/\y12.2.2.2.1 <= y12.2.1.length/\PcO u y12.2.2.2.2)/\((y12.2.1.length - y12.2.2.2.1 < x12.2.1.length - x12.2.2.2.1)/\(((x12.1=y12.1)/\((x12.2.1=y12.2.1)/\((Value.int .i64 ((x12.2.2.1:Nat):Int)=(.int .i64 ((y12.2.2.1:Nat):Int)))/\(True/\((Value.int .i64 (((x12.2.2.2.1:Nat):Int)+(1:Int))=(.int .i64 ((y12.2.2.2.1:Nat):Int)))/\True)))))/\(a3e x12.2.2.2.2 y12.2.2.2.2)))))))/\((aIr x12)=false->((0 <= ((x12.2.2.2.1:Nat):Int)/\((x12.2.2.2.1:Nat):Int) <= (x12.2.1.length:Int))/\((0 <= ((x12.2.2.2.1:Nat):Int)/\((x12.2.2.2.1:Nat):Int) <= (x12.2.1.length:Int))/\(((((a2g x12.2.2.2.2)/\True)/\(((([x12.2.2.2.2]:List Ux).length+(x12.2.1.drop ((x12.2.2.2.1:Nat):Int).toNat).length <= 10000000)/\((((x12.2.1.take ((x12.2.2.2.1:Nat):Int).toNat).length+(([x12.2.2.2.2]:List Ux) ++ (x12.2.1.drop ((x12.2.2.2.1:Nat):Int).toNat)).length <= 10000000)/\(((inR .i64 (((x12.2.2.1:Nat):Int)+(1:Int)))/\(∃ y10:List Ux × List Ux × Nat,((PcI u y10.1 y10.2.1 y10.2.2)/\((y10.1.length - y10.2.2 < x10.1.length - x10.2.2)/\(((x12.1=y10.1)/\((((x12.2.1.take ((x12.2.2.2.1:Nat):Int).toNat) ++ (([x12.2.2.2.2]:List Ux) ++ (x12.2.1.drop ((x12.2.2.2.1:Nat):Int).toNat)))=y10.2.1)/\((Value.int .i64 (((x12.2.2.1:Nat):Int)+(1:Int))=(.int .i64 ((y10.2.2:Nat):Int)))/\True)))/\True)))))/\True))/\True))/\True))/\True)/\True)))))))))))))))/\((decide (((x10.2.2:Nat):Int) < (x10.1.length:Int)))=false->(∃ a:List Ux,((a8o a u)/\(x10.2.1=a))))))))))))))/\((a1H u ((a0d u.k).2))=false->(((a2g u)/\(okU u/\∀ p ∈ ([]:List Px),okP p)/\([]:List Px).length <= 90000)/\(∀ e13:List Ux × Int,(((∀ v ∈ e13.1,aEu u ([]:List Px) v)/\(e13.1=[] \/ ∀ p ∈ ([]:List Px),a1h u p=true))/\e13.1.length <= ([]:List Px).length+1->((∃ x14:List Ux × List Ux × Nat,((PcI u x14.1 x14.2.1 x14.2.2)/\(((e13.1=x14.1)/\((x14.2.1=[])/\((Value.int .i64 (0:Int)=(.int .i64 ((x14.2.2:Nat):Int)))/\True)))/\True)))/\(∀ x14:List Ux × List Ux × Nat,((PcI u x14.1 x14.2.1 x14.2.2)->(((decide (((x14.2.2:Nat):Int) < (x14.1.length:Int)))=true->((0 <= ((x14.2.2:Nat):Int)/\((x14.2.2:Nat):Int) < (x14.1.length:Int))/\((aCh (aAf x14))/\(((a5T (aAf x14))=true->(((a3Y (aAf x14))/\True)/\((∃ x15:List Ux × List Ux × Nat × Nat × Ux,(((PcI u x15.1 x15.2.1 x15.2.2.1/\x15.2.2.1 < x15.1.length)/\(x15.2.2.1:Int)=((x14.2.2:Nat):Int)/\x15.2.2.2.1 <= x15.2.1.length/\PcO u x15.2.2.2.2)/\(((x14.1=x15.1)/\((x14.2.1=x15.2.1)/\((Value.int .i64 ((x14.2.2:Nat):Int)=(.int .i64 ((x15.2.2.1:Nat):Int)))/\(True/\((Value.int .i64 (0:Int)=(.int .i64 ((x15.2.2.2.1:Nat):Int)))/\True)))))/\(a3e (a0s (aAf x14)) x15.2.2.2.2))))/\(∀ x15:List Ux × List Ux × Nat × Nat × Ux,((PcI u x15.1 x15.2.1 x15.2.2.1/\x15.2.2.1 < x15.1.length)/\(x15.2.2.1:Int)=((x14.2.2:Nat):Int)/\x15.2.2.2.1 <= x15.2.1.length/\PcO u x15.2.2.2.2->((((decide (((x15.2.2.2.1:Nat):Int) < (x15.2.1.length:Int))) == true)=true->(0 <= ((x15.2.2.2.1:Nat):Int)/\((x15.2.2.2.1:Nat):Int) < (x15.2.1.length:Int)))/\((((decide (((x15.2.2.2.1:Nat):Int) < (x15.2.1.length:Int))) == true)=true->((a3Y (aAo x15))/\(a2g x15.2.2.2.2)/\(okU (aAo x15)/\okU x15.2.2.2.2)/\a5C (aAo x15)/\a5C x15.2.2.2.2))/\(((aIq x15)=true->((inR .i64 (((x15.2.2.2.1:Nat):Int)+(1:Int)))/\(∃ y15:List Ux × List Ux × Nat × Nat × Ux,(((PcI u y15.1 y15.2.1 y15.2.2.1/\y15.2.2.1 < y15.1.length)/\(y15.2.2.1:Int)=((x14.2.2:Nat):Int)/\y15.2.2.2.1 <= y15.2.1.length/\PcO u y15.2.2.2.2)/\((y15.2.1.length - y15.2.2.2.1 < x15.2.1.length - x15.2.2.2.1)/\(((x15.1=y15.1)/\((x15.2.1=y15.2.1)/\((Value.int .i64 ((x15.2.2.1:Nat):Int)=(.int .i64 ((y15.2.2.1:Nat):Int)))/\(True/\((Value.int .i64 (((x15.2.2.2.1:Nat):Int)+(1:Int))=(.int .i64 ((y15.2.2.2.1:Nat):Int)))/\True)))))/\(a3e x15.2.2.2.2 y15.2.2.2.2)))))))/\((aIq x15)=false->((0 <= ((x15.2.2.2.1:Nat):Int)/\((x15.2.2.2.1:Nat):Int) <= (x15.2.1.length:Int))/\((0 <= ((x15.2.2.2.1:Nat):Int)/\((x15.2.2.2.1:Nat):Int) <= (x15.2.1.length:Int))/\(((((a2g x15.2.2.2.2)/\True)/\(((([x15.2.2.2.2]:List Ux).length+(x15.2.1.drop ((x15.2.2.2.1:Nat):Int).toNat).length <= 10000000)/\((((x15.2.1.take ((x15.2.2.2.1:Nat):Int).toNat).length+(([x15.2.2.2.2]:List Ux) ++ (x15.2.1.drop ((x15.2.2.2.1:Nat):Int).toNat)).length <= 10000000)/\(((inR .i64 (((x15.2.2.1:Nat):Int)+(1:Int)))/\(∃ y14:List Ux × List Ux × Nat,((PcI u y14.1 y14.2.1 y14.2.2)/\((y14.1.length - y14.2.2 < x14.1.length - x14.2.2)/\(((x15.1=y14.1)/\((((x15.2.1.take ((x15.2.2.2.1:Nat):Int).toNat) ++ (([x15.2.2.2.2]:List Ux) ++ (x15.2.1.drop ((x15.2.2.2.1:Nat):Int).toNat)))=y14.2.1)/\((Value.int .i64 (((x15.2.2.1:Nat):Int)+(1:Int))=(.int .i64 ((y14.2.2:Nat):Int)))/\True)))/\True)))))/\True))/\True))/\True))/\True)/\True))))))))))))/\((a5T (aAf x14))=false->((∃ x16:List Ux × List Ux × Nat × Nat × Ux,(((PcI u x16.1 x16.2.1 x16.2.2.1/\x16.2.2.1 < x16.1.length)/\(x16.2.2.1:Int)=((x14.2.2:Nat):Int)/\x16.2.2.2.1 <= x16.2.1.length/\PcO u x16.2.2.2.2)/\(((x14.1=x16.1)/\((x14.2.1=x16.2.1)/\((Value.int .i64 ((x14.2.2:Nat):Int)=(.int .i64 ((x16.2.2.1:Nat):Int)))/\(True/\((Value.int .i64 (0:Int)=(.int .i64 ((x16.2.2.2.1:Nat):Int)))/\True)))))/\(a3e (aAf x14) x16.2.2.2.2))))/\(∀ x16:List Ux × List Ux × Nat × Nat × Ux,((PcI u x16.1 x16.2.1 x16.2.2.1/\x16.2.2.1 < x16.1.length)/\(x16.2.2.1:Int)=((x14.2.2:Nat):Int)/\x16.2.2.2.1 <= x16.2.1.length/\PcO u x16.2.2.2.2->((((decide (((x16.2.2.2.1:Nat):Int) < (x16.2.1.length:Int))) == true)=true->(0 <= ((x16.2.2.2.1:Nat):Int)/\((x16.2.2.2.1:Nat):Int) < (x16.2.1.length:Int)))/\((((decide (((x16.2.2.2.1:Nat):Int) < (x16.2.1.length:Int))) == true)=true->((a3Y (aAn x16))/\(a2g x16.2.2.2.2)/\(okU (aAn x16)/\okU x16.2.2.2.2)/\a5C (aAn x16)/\a5C x16.2.2.2.2))/\(((aIp x16)=true->((inR .i64 (((x16.2.2.2.1:Nat):Int)+(1:Int)))/\(∃ y16:List Ux × List Ux × Nat × Nat × Ux,(((PcI u y16.1 y16.2.1 y16.2.2.1/\y16.2.2.1 < y16.1.length)/\(y16.2.2.1:Int)=((x14.2.2:Nat):Int)/\y16.2.2.2.1 <= y16.2.1.length/\PcO u y16.2.2.2.2)/\((y16.2.1.length - y16.2.2.2.1 < x16.2.1.length - x16.2.2.2.1)/\(((x16.1=y16.1)/\((x16.2.1=y16.2.1)/\((Value.int .i64 ((x16.2.2.1:Nat):Int)=(.int .i64 ((y16.2.2.1:Nat):Int)))/\(True/\((Value.int .i64 (((x16.2.2.2.1:Nat):Int)+(1:Int))=(.int .i64 ((y16.2.2.2.1:Nat):Int)))/\True)))))/\(a3e x16.2.2.2.2 y16.2.2.2.2)))))))/\((aIp x16)=false->((0 <= ((x16.2.2.2.1:Nat):Int)/\((x16.2.2.2.1:Nat):Int) <= (x16.2.1.length:Int))/\((0 <= ((x16.2.2.2.1:Nat):Int)/\((x16.2.2.2.1:Nat):Int) <= (x16.2.1.length:Int))/\(((((a2g x16.2.2.2.2)/\True)/\(((([x16.2.2.2.2]:List Ux).length+(x16.2.1.drop ((x16.2.2.2.1:Nat):Int).toNat).length <= 10000000)/\((((x16.2.1.take ((x16.2.2.2.1:Nat):Int).toNat).length+(([x16.2.2.2.2]:List Ux) ++ (x16.2.1.drop ((x16.2.2.2.1:Nat):Int).toNat)).length <= 10000000)/\(((inR .i64 (((x16.2.2.1:Nat):Int)+(1:Int)))/\(∃ y14:List Ux × List Ux × Nat,((PcI u y14.1 y14.2.1 y14.2.2)/\((y14.1.length - y14.2.2 < x14.1.length - x14.2.2)/\(((x16.1=y14.1)/\((((x16.2.1.take ((x16.2.2.2.1:Nat):Int).toNat) ++ (([x16.2.2.2.2]:List Ux) ++ (x16.2.1.drop ((x16.2.2.2.1:Nat):Int).toNat)))=y14.2.1)/\((Value.int .i64 (((x16.2.2.1:Nat):Int)+(1:Int))=(.int .i64 ((y14.2.2:Nat):Int)))/\True)))/\True)))))/\True))/\True))/\True))/\True)/\True)))))))))))))))/\((decide (((x14.2.2:Nat):Int) < (x14.1.length:Int)))=false->(∃ a:List Ux,((a8o a u)/\(x14.2.1=a)))))))))))))))))))/\(u.arc=false->((∃ x17:List Ux × List Ux × Nat,((PcI u x17.1 x17.2.1 x17.2.2)/\(((([u]:List Ux)=x17.1)/\((x17.2.1=[])/\((Value.int .i64 (0:Int)=(.int .i64 ((x17.2.2:Nat):Int)))/\True)))/\True)))/\(∀ x17:List Ux × List Ux × Nat,((PcI u x17.1 x17.2.1 x17.2.2)->(((decide (((x17.2.2:Nat):Int) < (x17.1.length:Int)))=true->((0 <= ((x17.2.2:Nat):Int)/\((x17.2.2:Nat):Int) < (x17.1.length:Int))/\((aCh (a6P x17))/\(((a5T (a6P x17))=true->(((a3Y (a6P x17))/\True)/\((∃ x18:List Ux × List Ux × Nat × Nat × Ux,(((PcI u x18.1 x18.2.1 x18.2.2.1/\x18.2.2.1 < x18.1.length)/\(x18.2.2.1:Int)=((x17.2.2:Nat):Int)/\x18.2.2.2.1 <= x18.2.1.length/\PcO u x18.2.2.2.2)/\(((x17.1=x18.1)/\((x17.2.1=x18.2.1)/\((Value.int .i64 ((x17.2.2:Nat):Int)=(.int .i64 ((x18.2.2.1:Nat):Int)))/\(True/\((Value.int .i64 (0:Int)=(.int .i64 ((x18.2.2.2.1:Nat):Int)))/\True)))))/\(a3e (a0s (a6P x17)) x18.2.2.2.2))))/\(∀ x18:List Ux × List Ux × Nat × Nat × Ux,((PcI u x18.1 x18.2.1 x18.2.2.1/\x18.2.2.1 < x18.1.length)/\(x18.2.2.1:Int)=((x17.2.2:Nat):Int)/\x18.2.2.2.1 <= x18.2.1.length/\PcO u x18.2.2.2.2->((((decide (((x18.2.2.2.1:Nat):Int) < (x18.2.1.length:Int))) == true)=true->(0 <= ((x18.2.2.2.1:Nat):Int)/\((x18.2.2.2.1:Nat):Int) < (x18.2.1.length:Int)))/\((((decide (((x18.2.2.2.1:Nat):Int) < (x18.2.1.length:Int))) == true)=true->((a3Y (aAm x18))/\(a2g x18.2.2.2.2)/\(okU (aAm x18)/\okU x18.2.2.2.2)/\a5C (aAm x18)/\a5C x18.2.2.2.2))/\(((aIo x18)=true->((inR .i64 (((x18.2.2.2.1:Nat):Int)+(1:Int)))/\(∃ y18:List Ux × List Ux × Nat × Nat × Ux,(((PcI u y18.1 y18.2.1 y18.2.2.1/\y18.2.2.1 < y18.1.length)/\(y18.2.2.1:Int)=((x17.2.2:Nat):Int)/\y18.2.2.2.1 <= y18.2.1.length/\PcO u y18.2.2.2.2)/\((y18.2.1.length - y18.2.2.2.1 < x18.2.1.length - x18.2.2.2.1)/\(((x18.1=y18.1)/\((x18.2.1=y18.2.1)/\((Value.int .i64 ((x18.2.2.1:Nat):Int)=(.int .i64 ((y18.2.2.1:Nat):Int)))/\(True/\((Value.int .i64 (((x18.2.2.2.1:Nat):Int)+(1:Int))=(.int .i64 ((y18.2.2.2.1:Nat):Int)))/\True)))))/\(a3e x18.2.2.2.2 y18.2.2.2.2)))))))/\((aIo x18)=false->((0 <= ((x18.2.2.2.1:Nat):Int)/\((x18.2.2.2.1:Nat):Int) <= (x18.2.1.length:Int))/\((0 <= ((x18.2.2.2.1:Nat):Int)/\((x18.2.2.2.1:Nat):Int) <= (x18.2.1.length:Int))/\(((((a2g x18.2.2.2.2)/\True)/\(((([x18.2.2.2.2]:List Ux).length+(x18.2.1.drop ((x18.2.2.2.1:Nat):Int).toNat).length <= 10000000)/\((((x18.2.1.take ((x18.2.2.2.1:Nat):Int).toNat).length+(([x18.2.2.2.2]:List Ux) ++ (x18.2.1.drop ((x18.2.2.2.1:Nat):Int).toNat)).length <= 10000000)/\(((inR .i64 (((x18.2.2.1:Nat):Int)+(1:Int)))/\(∃ y17:List Ux × List Ux × Nat,((PcI u y17.1 y17.2.1 y17.2.2)/\((y17.1.length - y17.2.2 < x17.1.length - x17.2.2)/\(((x18.1=y17.1)/\((((x18.2.1.take ((x18.2.2.2.1:Nat):Int).toNat) ++ (([x18.2.2.2.2]:List Ux) ++ (x18.2.1.drop ((x18.2.2.2.1:Nat):Int).toNat)))=y17.2.1)/\((Value.int .i64 (((x18.2.2.1:Nat):Int)+(1:Int))=(.int .i64 ((y17.2.2:Nat):Int)))/\True)))/\True)))))/\True))/\True))/\True))/\True)/\True))))))))))))/\((a5T (a6P x17))=false->((∃ x19:List Ux × List Ux × Nat × Nat × Ux,(((PcI u x19.1 x19.2.1 x19.2.2.1/\x19.2.2.1 < x19.1.length)/\(x19.2.2.1:Int)=((x17.2.2:Nat):Int)/\x19.2.2.2.1 <= x19.2.1.length/\PcO u x19.2.2.2.2)/\(((x17.1=x19.1)/\((x17.2.1=x19.2.1)/\((Value.int .i64 ((x17.2.2:Nat):Int)=(.int .i64 ((x19.2.2.1:Nat):Int)))/\(True/\((Value.int .i64 (0:Int)=(.int .i64 ((x19.2.2.2.1:Nat):Int)))/\True)))))/\(a3e (a6P x17) x19.2.2.2.2))))/\(∀ x19:List Ux × List Ux × Nat × Nat × Ux,((PcI u x19.1 x19.2.1 x19.2.2.1/\x19.2.2.1 < x19.1.length)/\(x19.2.2.1:Int)=((x17.2.2:Nat):Int)/\x19.2.2.2.1 <= x19.2.1.length/\PcO u x19.2.2.2.2->((((decide (((x19.2.2.2.1:Nat):Int) < (x19.2.1.length:Int))) == true)=true->(0 <= ((x19.2.2.2.1:Nat):Int)/\((x19.2.2.2.1:Nat):Int) < (x19.2.1.length:Int)))/\((((decide (((x19.2.2.2.1:Nat):Int) < (x19.2.1.length:Int))) == true)=true->((a3Y (aAl x19))/\(a2g x19.2.2.2.2)/\(okU (aAl x19)/\okU x19.2.2.2.2)/\a5C (aAl x19)/\a5C x19.2.2.2.2))/\(((aIn x19)=true->((inR .i64 (((x19.2.2.2.1:Nat):Int)+(1:Int)))/\(∃ y19:List Ux × List Ux × Nat × Nat × Ux,(((PcI u y19.1 y19.2.1 y19.2.2.1/\y19.2.2.1 < y19.1.length)/\(y19.2.2.1:Int)=((x17.2.2:Nat):Int)/\y19.2.2.2.1 <= y19.2.1.length/\PcO u y19.2.2.2.2)/\((y19.2.1.length - y19.2.2.2.1 < x19.2.1.length - x19.2.2.2.1)/\(((x19.1=y19.1)/\((x19.2.1=y19.2.1)/\((Value.int .i64 ((x19.2.2.1:Nat):Int)=(.int .i64 ((y19.2.2.1:Nat):Int)))/\(True/\((Value.int .i64 (((x19.2.2.2.1:Nat):Int)+(1:Int))=(.int .i64 ((y19.2.2.2.1:Nat):Int)))/\True)))))/\(a3e x19.2.2.2.2 y19.2.2.2.2)))))))/\((aIn x19)=false->((0 <= ((x19.2.2.2.1:Nat):Int)/\((x19.2.2.2.1:Nat):Int) <= (x19.2.1.length:Int))/\((0 <= ((x19.2.2.2.1:Nat):Int)/\((x19.2.2.2.1:Nat):Int) <= (x19.2.1.length:Int))/\(((((a2g x19.2.2.2.2)/\True)/\(((([x19.2.2.2.2]:List Ux).length+(x19.2.1.drop ((x19.2.2.2.1:Nat):Int).toNat).length <= 10000000)/\((((x19.2.1.take ((x19.2.2.2.1:Nat):Int).toNat).length+(([x19.2.2.2.2]:List Ux) ++ (x19.2.1.drop ((x19.2.2.2.1:Nat):Int).toNat)).length <= 10000000)/\(((inR .i64 (((x19.2.2.1:Nat):Int)+(1:Int)))/\(∃ y17:List Ux × List Ux × Nat,((PcI u y17.1 y17.2.1 y17.2.2)/\((y17.1.length - y17.2.2 < x17.1.length - x17.2.2)/\(((x19.1=y17.1)/\((((x19.2.1.take ((x19.2.2.2.1:Nat):Int).toNat) ++ (([x19.2.2.2.2]:List Ux) ++ (x19.2.1.drop ((x19.2.2.2.1:Nat):Int).toNat)))=y17.2.1)/\((Value.int .i64 (((x19.2.2.1:Nat):Int)+(1:Int))=(.int .i64 ((y17.2.2:Nat):Int)))/\True)))/\True)))))/\True))/\True))/\True))/\True)/\True)))))))))))))))/\((decide (((x17.2.2:Nat):Int) < (x17.1.length:Int)))=false->(∃ a:List Ux,((a8o a u)/\(x17.2.1=a)))))))))))=_ by kernel_rfl) ?_
 delta aIj aAh aIk aAi aIl aAj aIm aAk aIn aAl aIo aAm aIp aAn aIq aAo aIr aAp aIs aAq a8o a6N a6O a6P aAf aAg a5g a5h aCh a5T a2g a3Y a5i a3e
 simp only [true_and,and_true,aA5,aJP,Int.toNat_natCast,Value.int.injEq,Value.bool.injEq,decide_eq_true_eq,decide_eq_false_iff_not,beq_true,Int.natCast_nonneg,Int.ofNat_lt,Int.ofNat_le,Int.ofNat_inj,gt_iff_lt]
 obtain ⟨hu,hin⟩:=hp
 have su:=a4r hu
 have sk:=a7j hu.2.1
 have uf:=a1Q hu.2.2.1
 have ut:=a1Q hu.2.2.2.1
 have raw:∀ w,b0Z u w->okU w:=fun w h=>by
  rcases h with ⟨_,rfl⟩ | ⟨_,x,y,rfl,_,hx,hy⟩
  ·exact hu
  ·have m:∀ p ∈ [u.f,u.t] ++ ([]:List Px),okP p:=fun p hp=>by
    simp only [List.append_nil,List.mem_cons,List.not_mem_nil,or_false] at hp
    rcases hp with rfl | rfl
    ·exact hu.2.2.1
    ·exact hu.2.2.2.1
   exact ⟨hu.1,hu.2.1,m x hx,m y hy,hu.2.2.2.2⟩
 have one:szR (((1:Int)):Rat) <= 2:=a3h (by decide)
 have zero:szR (((0:Int)):Rat) <= 2:=a3h (by decide)
 have mone:szR (a2m (((1:Int)):Rat)) <= 2:=Nat.le_trans (a18 _) one
 obtain ⟨k1,k2,k3⟩:=hu.2.1
 have oE:u.arc=true->okP (a0d u.k).1/\okP (a0d u.k).2:=fun ha =>
  ⟨aB2 (Rat.le_of_lt (hu.2.2.2.2.1 ha)) (by omega) (by omega) (by omega) (by omega) (by omega),aB2 (Rat.le_of_lt (hu.2.2.2.2.1 ha)) (by omega) (by omega) (by omega) (by omega) (by omega)⟩
 have nt:∀ {b:Bool},b=false->¬ b=true:=fun h=>by rw [h]; decide
 refine ⟨fun ha=>⟨⟨⟨ha,ha,ha⟩,Rat.le_of_lt (hu.2.2.2.2.1 ha),by omega⟩,⟨a3j (oE ha).1,by have:=a1Q (oE ha).1; omega⟩,fun h=>absurd h (nt (hin ha).1),fun _=>⟨⟨a3j (oE ha).2,by have:=a1Q (oE ha).2; omega⟩,fun h=>absurd h (nt (hin ha).2),fun _=>⟨⟨⟨hu,fun p hp=>(by simp at hp)⟩,Nat.zero_le _⟩,fun e1 h1=>⟨⟨(e1.1,[],0),⟨fun w hw=>.inr ⟨ha,h1.1.1 w hw⟩,h1.2,Nat.zero_le _,Nat.le_refl _,fun v hv=>(by simp at hv)⟩,rfl,rfl,rfl⟩,fun x2 h2=>?_⟩⟩⟩⟩,fun ha=>⟨⟨([u],[],0),⟨fun w hw=>.inl ⟨ha,List.mem_singleton.1 hw⟩,Nat.le_refl _,Nat.zero_le _,Nat.le_refl _,fun v hv=>(by simp at hv)⟩,rfl,rfl,rfl⟩,fun x2 h2=>?_⟩⟩
 all_goals
  have j1:=h2.hn
  have j2:=h2.ho
  have j3:=h2.hi
  refine ⟨fun hlt=>?_,fun hge=>⟨_,⟨h2.hp,by omega⟩,rfl⟩⟩
  have rw1:=h2.hl _ (a1k (d:=dfU) hlt)
  have ow1:=raw _ rw1
  have pf:=a1Q ow1.2.2.1
  have pt:=a1Q ow1.2.2.2.1
  refine ⟨hlt,by omega,fun hc=>⟨⟨(x2.1,x2.2.1,x2.2.2,0,a0s (x2.1.getD x2.2.2 dfU)),⟨⟨h2,hlt⟩,rfl,Nat.zero_le _,⟨_,rw1,by unfold nrm; rw [if_pos (decide_eq_true hc)]⟩⟩,⟨rfl,rfl,rfl,rfl⟩,(by repeat' (first | exact rfl | apply And.intro))⟩,fun x3 h3=>?_⟩,fun hc=>⟨⟨(x2.1,x2.2.1,x2.2.2,0,x2.1.getD x2.2.2 dfU),⟨⟨h2,hlt⟩,rfl,Nat.zero_le _,⟨_,rw1,by unfold nrm; rw [if_neg (by simpa using hc)]⟩⟩,⟨rfl,rfl,rfl,rfl⟩,(by repeat' (first | exact rfl | apply And.intro))⟩,fun x3 h3=>?_⟩⟩
  all_goals
   obtain ⟨⟨hI,hlt3⟩,he,hk,hp3⟩:=h3
   have g1:=hI.hn
   have g2:=hI.ho
   have g3:=hI.hi
   refine ⟨fun h=>h,fun h=>absurd h (by omega),fun h=>absurd h.1 (by omega),fun _=>?_⟩
   have hnew:PcI u x3.1 (x3.2.1.take x3.2.2.2.1 ++ ([x3.2.2.2.2] ++ x3.2.1.drop x3.2.2.2.1)) (x3.2.2.1+1):=⟨hI.hl,hI.hn,hlt3,by simp only [List.length_take,List.length_drop,List.length_append,List.length_cons,List.length_nil]; omega,fun v hv=>by
    rcases List.mem_append.1 hv with hv | hv
    ·exact hI.hp v (List.mem_of_mem_take hv)
    ·rcases List.mem_append.1 hv with hv | hv
     ·rw [List.mem_singleton.1 hv]; exact hp3
     ·exact hI.hp v (List.mem_of_mem_drop hv)⟩
   repeat' apply And.intro
   all_goals try (simp only [List.length_take,List.length_drop,List.length_append,List.length_cons,List.length_nil]; omega)
   all_goals try omega
   all_goals try exact ⟨(x3.1,_,x3.2.2.1+1),hnew,(by dsimp only; omega),rfl,rfl,(by simp)⟩
def aGE:Ctr:=⟨118,spE (rU.c r0) (List Ux) (fun (u,_)=>okU u/\(u.arc=true->a1H u (a0d u.k).1=false/\a1H u (a0d u.k).2=false)) (fun (u,_) a=>(∀ v ∈ a,PcO u v)/\a.length <= 1) (fun _ a=>.k (.c (.rd .U (false) (a))))⟩
theorem aGD:CtrOK Tryz.prog aGE:=eOK a2s aVS Tryz.func118 fun x hp=>aBB x.1 hp
end Vc
end Go.Proofs.YtbohkigffejhoaaGreat
namespace Go.Proofs.YtbohkigffejhoaaGreat
open Go.RowKit
set_option maxHeartbeats 4000000
namespace Vc
attribute [local irreducible] owes a1v
def InU (u:Ux):Prop:=okU u/\(u.arc=true->a1H u (a0d u.k).1=false/\a1H u (a0d u.k).2=false)
def a4U (l:List Ux) (v:Ux):Prop:=∃ u ∈ l,∃ p,PcO u p/\∃ c,(∀ q ∈ c,okP q/\a1h p q=true)/\aEu p c v
structure PaI (l all:List Ux) (i:Nat):Prop where
 hm:∀ p ∈ all,∃ u ∈ l,PcO u p
 hn:all.length <= i
 hi:i <= l.length
structure PbI (l all out:List Ux) (i:Nat):Prop where
 hm:∀ p ∈ all,∃ u ∈ l,PcO u p
 hn:all.length <= 400
 hi:i <= all.length
 ho:∀ v ∈ out,a4U l v
 hk:out.length <= 1700*i
structure PcJ (all:List Ux) (i:Nat) (cuts:List Px) (k:Nat):Prop where
 hc:∀ q ∈ cuts,okP q/\a1h (all.getD i dfU) q=true
 hk:cuts.length <= 4*k
 hi:k <= all.length
structure OdI (l out:List Ux) (i:Nat):Prop where
 hi:i <= l.length
 hn:out.length <= i
 hm:∀ v ∈ out,v ∈ l
theorem aLo {u v:Ux} {l:List Px} (hu:okU u) (hl:∀ q ∈ l,okP q) (h:aEu u l v):okU v:=by
 obtain ⟨x,y,rfl,_,hx,hy⟩:=h
 have m:∀ p ∈ [u.f,u.t] ++ l,okP p:=fun p hp=>by
  simp only [List.mem_append,List.mem_cons,List.not_mem_nil,or_false] at hp
  rcases hp with (rfl | rfl) | hp
  ·exact hu.2.2.1
  ·exact hu.2.2.2.1
  ·exact hl p hp
 exact ⟨hu.1,hu.2.1,m x hx,m y hy,hu.2.2.2.2⟩
theorem aWJ {u p:Ux} (hu:okU u) (h:PcO u p):okU p:=by
 obtain ⟨w,hw,rfl⟩:=h
 have ow:okU w:=by
  rcases hw with ⟨_,rfl⟩ | ⟨_,h⟩
  ·exact hu
  ·exact aLo hu (fun q hq=>(by simp at hq)) h
 unfold nrm
 split
 ·exact ⟨ow.1,ow.2.1,ow.2.2.2.1,ow.2.2.1,ow.2.2.2.2⟩
 ·exact ow
def WP1:List Ctr:=WP0 ++ [aGE]
theorem aCG:∀ c ∈ WP1,CtrOK Tryz.prog c:=a0O aVS (a03 aGD (a2L))
def aAe (p_:Ux):=((((!p_.arc)=(!p_.arc))/\(((!p_.arc)=(!p_.arc))/\((!p_.arc)=(!p_.arc))))/\(((p_.arc=p_.arc)/\((p_.arc=p_.arc)/\(p_.arc=p_.arc)))/\((True/\(True/\(True/\(True/\True))))/\(True/\(True/\(True/\(True/\True)))))))
def a5S (x4:List Ux × List Ux × Nat × List Px × Nat):=(x4.1.getD (((x4.2.2.1:Nat):Int).toNat) dfU)
def aKU (l:List Ux) (y4:List Ux × List Ux × Nat × List Px × Nat) (x3:List Ux × List Ux × Nat):=((PbI l y4.1 y4.2.1 y4.2.2.1/\y4.2.2.1 < y4.1.length)/\(y4.2.2.1:Int)=((x3.2.2:Nat):Int)/\PcJ y4.1 y4.2.2.1 y4.2.2.2.1 y4.2.2.2.2)
def aAd (x4:List Ux × List Ux × Nat × List Px × Nat):=(x4.1.getD (((x4.2.2.2.2:Nat):Int).toNat) dfU)
def aAc (x4:List Ux × List Ux × Nat × List Px × Nat):=(((x4.2.2.2.2:Nat):Int)+(1:Int))
def aKW (x4:List Ux × List Ux × Nat × List Px × Nat) (e6:List Px × Bool) (l:List Ux) (x3:List Ux × List Ux × Nat):=((((x4.2.2.2.1.length+e6.1.length <= 10000000)/\((inR .i64 (aAc x4))/\(∃ y4:List Ux × List Ux × Nat × List Px × Nat,((aKU l y4 x3)/\((y4.1.length - y4.2.2.2.2 < x4.1.length - x4.2.2.2.2)/\(((x4.1=y4.1)/\((x4.2.1=y4.2.1)/\((Value.int .i64 ((x4.2.2.1:Nat):Int)=(.int .i64 ((y4.2.2.1:Nat):Int)))/\(((x4.2.2.2.1 ++ e6.1)=y4.2.2.2.1)/\((Value.int .i64 (aAc x4)=(.int .i64 ((y4.2.2.2.2:Nat):Int)))/\True)))))/\True))))))/\True)/\True)
def aKV (x4:List Ux × List Ux × Nat × List Px × Nat) (e5:List Px × Bool) (l:List Ux) (x3:List Ux × List Ux × Nat):=((((x4.2.2.2.1.length+e5.1.length <= 10000000)/\((inR .i64 (aAc x4))/\(∃ y4:List Ux × List Ux × Nat × List Px × Nat,((aKU l y4 x3)/\((y4.1.length - y4.2.2.2.2 < x4.1.length - x4.2.2.2.2)/\(((x4.1=y4.1)/\((x4.2.1=y4.2.1)/\((Value.int .i64 ((x4.2.2.1:Nat):Int)=(.int .i64 ((y4.2.2.1:Nat):Int)))/\(((x4.2.2.2.1 ++ e5.1)=y4.2.2.2.1)/\((Value.int .i64 (aAc x4)=(.int .i64 ((y4.2.2.2.2:Nat):Int)))/\True)))))/\True))))))/\True)/\True)
def a7w (l:List Ux) (x1:List Ux × Nat):=(l.getD (((x1.2:Nat):Int).toNat) dfU)
theorem aBy (l:List Ux) (hp:(∀ u ∈ l,InU u)/\l.length <= 400):a1v LTL WP1 [.inv 3 (List Ux × Nat) (fun ξ=>⟨[.k (.c (.rd .U (false) (l))),.u,.u,.k (.c (.ow 0 52 .U (ξ.1))),.k (.c (.v (.int .i64 (((ξ.2:Nat):Int))))),.u,.u,.u,.u,.u,.u,.u,.u,.u,.u,.u,.u,.u,.u,.u,.u,.u,.u,.u,.u,.u,.u,.u,.u,.u,.u,.u,.u,.u,.u,.u,.u,.u,.u,.u,.u,.u,.u,.u,.u,.u,.u,.u,.u,.u,.u,.u,.u,.u,.u,.u,.u,.u,.u,.u,.u,.u,.u,.u,.u,.u,.u,.u,.u],[]⟩) (fun _ ξ=>PaI l ξ.1 ξ.2) (fun ξ=>l.length - ξ.2),.inv 8 (List Ux × List Ux × Nat) (fun ξ=>⟨[.u,.u,.u,.k (.c (.rd .U (false) (ξ.1))),.u,.k (.c (.ow 0 52 .U (ξ.2.1))),.k (.c (.v (.int .i64 (((ξ.2.2:Nat):Int))))),.u,.u,.u,.u,.u,.u,.u,.u,.u,.u,.u,.u,.u,.u,.u,.u,.u,.u,.u,.u,.u,.u,.u,.u,.u,.u,.u,.u,.u,.u,.u,.u,.u,.u,.u,.u,.u,.u,.u,.u,.u,.u,.u,.u,.u,.u,.u,.u,.u,.u,.u,.u,.u,.u,.u,.u,.u,.u,.u,.u,.u,.u],[]⟩) (fun _ ξ=>PbI l ξ.1 ξ.2.1 ξ.2.2) (fun ξ=>400 - ξ.2.2),.inv 12 (List Ux × List Ux × Nat × List Px × Nat) (fun ξ=>⟨[.u,.u,.u,.k (.c (.rd .U (false) (ξ.1))),.u,.k (.c (.ow 0 52 .U (ξ.2.1))),.k (.c (.v (.int .i64 (((ξ.2.2.1:Nat):Int))))),.k (.c (.ow 1 50 .P (ξ.2.2.2.1))),.k (.c (.v (.int .i64 (((ξ.2.2.2.2:Nat):Int))))),.u,.u,.u,.u,.u,.u,.u,.u,.u,.u,.u,.u,.u,.u,.u,.u,.u,.u,.u,.u,.u,.u,.u,.u,.u,.u,.u,.u,.u,.u,.u,.u,.u,.u,.u,.u,.u,.u,.u,.u,.u,.u,.u,.u,.u,.u,.u,.u,.u,.u,.u,.u,.u,.u,.u,.u,.u,.u,.u,.u],[]⟩) (fun σ ξ=>(PbI l ξ.1 ξ.2.1 ξ.2.2.1/\ξ.2.2.1 < ξ.1.length)/\(ξ.2.2.1:Int)=(tmI σ 6)/\PcJ ξ.1 ξ.2.2.1 ξ.2.2.2.1 ξ.2.2.2.2) (fun ξ=>ξ.1.length - ξ.2.2.2.2),.cut 15 1000] Tryz.f52 (bd Tryz.f52) [.c (.rd .U (false) (l))] (fun a:List Ux=>(∀ v ∈ a,a4U l v)/\a.length <= 700000) (fun a=>.k (.c (.rd .U (false) (a)))):=by
 refine a1J (show ((∃ x1:List Ux × Nat,((PaI l x1.1 x1.2)/\(((l=l)/\((x1.1=[])/\((Value.int .i64 (0:Int)=(.int .i64 ((x1.2:Nat):Int)))/\True)))/\True)))/\(∀ x1:List Ux × Nat,((PaI l x1.1 x1.2)->(((decide (((x1.2:Nat):Int) < (l.length:Int)))=true->((0 <= ((x1.2:Nat):Int)/\((x1.2:Nat):Int) < (l.length:Int))/\(((aAe (a7w l x1))/\okU (a7w l x1)/\((a7w l x1).arc=true->a1H (a7w l x1) (a0d (a7w l x1).k).1=false/\a1H (a7w l x1) (a0d (a7w l x1).k).2=false))/\(∀ e2:List Ux,((∀ v ∈ e2,PcO (a7w l x1) v)/\e2.length <= 1->((x1.1.length+e2.length <= 10000000)/\((inR .i64 (((x1.2:Nat):Int)+(1:Int)))/\(∃ y1:List Ux × Nat,((PaI l y1.1 y1.2)/\((l.length - y1.2 < l.length - x1.2)/\(((l=l)/\(((x1.1 ++ e2)=y1.1)/\((Value.int .i64 (((x1.2:Nat):Int)+(1:Int))=(.int .i64 ((y1.2:Nat):Int)))/\True)))/\True)))))))))))/\((decide (((x1.2:Nat):Int) < (l.length:Int)))=false->((∃ x3:List Ux × List Ux × Nat,((PbI l x3.1 x3.2.1 x3.2.2)/\(((x1.1=x3.1)/\((x3.2.1=[])/\((Value.int .i64 (0:Int)=(.int .i64 ((x3.2.2:Nat):Int)))/\True)))/\True)))/\(∀ x3:List Ux × List Ux × Nat,((PbI l x3.1 x3.2.1 x3.2.2)->(((decide (((x3.2.2:Nat):Int) < (x3.1.length:Int)))=true->((∃ x4:List Ux × List Ux × Nat × List Px × Nat,(((PbI l x4.1 x4.2.1 x4.2.2.1/\x4.2.2.1 < x4.1.length)/\(x4.2.2.1:Int)=((x3.2.2:Nat):Int)/\PcJ x4.1 x4.2.2.1 x4.2.2.2.1 x4.2.2.2.2)/\(((x3.1=x4.1)/\((x3.2.1=x4.2.1)/\((Value.int .i64 ((x3.2.2:Nat):Int)=(.int .i64 ((x4.2.2.1:Nat):Int)))/\((x4.2.2.2.1=[])/\((Value.int .i64 (0:Int)=(.int .i64 ((x4.2.2.2.2:Nat):Int)))/\True)))))/\True)))/\(∀ x4:List Ux × List Ux × Nat × List Px × Nat,((PbI l x4.1 x4.2.1 x4.2.2.1/\x4.2.2.1 < x4.1.length)/\(x4.2.2.1:Int)=((x3.2.2:Nat):Int)/\PcJ x4.1 x4.2.2.1 x4.2.2.2.1 x4.2.2.2.2->(((decide (((x4.2.2.2.2:Nat):Int) < (x4.1.length:Int)))=true->(((((x4.2.2.2.2:Nat):Int) != ((x4.2.2.1:Nat):Int))=true->((0 <= ((x4.2.2.1:Nat):Int)/\((x4.2.2.1:Nat):Int) < (x4.1.length:Int))/\((0 <= ((x4.2.2.2.2:Nat):Int)/\((x4.2.2.2.2:Nat):Int) < (x4.1.length:Int))/\((((((aAe (a5S x4))/\(aAe (aAd x4))/\okU (a5S x4)/\okU (aAd x4))/\(∀ e6:List Px × Bool,((∀ p ∈ e6.1,okP p/\a1h (a5S x4) p=true/\a1h (aAd x4) p=true)/\e6.1.length <= 4->(((aKW x4 e6 l x3)/\((aKW x4 e6 l x3)/\True))/\(((aKW x4 e6 l x3)/\True)/\True)))))/\True)/\True)/\((((((aAe (a5S x4))/\(aAe (aAd x4))/\okU (a5S x4)/\okU (aAd x4))/\(∀ e5:List Px × Bool,((∀ p ∈ e5.1,okP p/\a1h (a5S x4) p=true/\a1h (aAd x4) p=true)/\e5.1.length <= 4->(((aKV x4 e5 l x3)/\((aKV x4 e5 l x3)/\True))/\(((aKV x4 e5 l x3)/\True)/\True)))))/\True)/\True)/\True)))))/\((((x4.2.2.2.2:Nat):Int) != ((x4.2.2.1:Nat):Int))=false->((inR .i64 (aAc x4))/\(∃ y4:List Ux × List Ux × Nat × List Px × Nat,((aKU l y4 x3)/\((y4.1.length - y4.2.2.2.2 < x4.1.length - x4.2.2.2.2)/\(((x4.1=y4.1)/\((x4.2.1=y4.2.1)/\((Value.int .i64 ((x4.2.2.1:Nat):Int)=(.int .i64 ((y4.2.2.1:Nat):Int)))/\((x4.2.2.2.1=y4.2.2.2.1)/\((Value.int .i64 (aAc x4)=(.int .i64 ((y4.2.2.2.2:Nat):Int)))/\True)))))/\True))))))))/\((decide (((x4.2.2.2.2:Nat):Int) < (x4.1.length:Int)))=false->((0 <= ((x4.2.2.1:Nat):Int)/\((x4.2.2.1:Nat):Int) < (x4.1.length:Int))/\(((aAe (a5S x4))/\(okU (a5S x4)/\∀ p ∈ x4.2.2.2.1,okP p)/\x4.2.2.2.1.length <= 90000)/\(∀ e7:List Ux × Int,(((∀ v ∈ e7.1,aEu (a5S x4) x4.2.2.2.1 v)/\(e7.1=[] \/ ∀ p ∈ x4.2.2.2.1,a1h (a5S x4) p=true))/\e7.1.length <= x4.2.2.2.1.length+1->((x4.2.1.length+e7.1.length <= 10000000)/\((inR .i64 (((x4.2.2.1:Nat):Int)+(1:Int)))/\(∃ y3:List Ux × List Ux × Nat,((PbI l y3.1 y3.2.1 y3.2.2)/\((400 - y3.2.2 < 400 - x3.2.2)/\(((x4.1=y3.1)/\(((x4.2.1 ++ e7.1)=y3.2.1)/\((Value.int .i64 (((x4.2.2.1:Nat):Int)+(1:Int))=(.int .i64 ((y3.2.2:Nat):Int)))/\True)))/\True))))))))))))))))/\((decide (((x3.2.2:Nat):Int) < (x3.1.length:Int)))=false->(∃ a:List Ux,(((∀ v ∈ a,a4U l v)/\a.length <= 700000)/\(x3.2.1=a)))))))))))))=_ by kernel_rfl) ?_
 delta a7w aKV aKW aAc aAd aKU a5S aAe
 simp only [true_and,and_true,Int.toNat_natCast,Value.int.injEq,decide_eq_true_eq,decide_eq_false_iff_not,Int.natCast_nonneg,Int.ofNat_lt,Int.ofNat_inj]
 obtain ⟨hin,hn⟩:=hp
 have pk:∀ {all:List Ux},(∀ p ∈ all,∃ u ∈ l,PcO u p)->∀ p ∈ all,okU p:=fun hm p hp=>by
  obtain ⟨u,hu,h⟩:=hm p hp
  exact aWJ (hin u hu).1 h
 refine ⟨⟨([],0),⟨fun p hp=>(by simp at hp),Nat.le_refl _,Nat.zero_le _⟩,rfl,rfl⟩,fun x1 h1=>⟨fun hlt=>⟨hlt,hin _ (a1k hlt),fun e2 h2=>⟨by have:=h1.hn; have:=h2.2; omega,by unfold inR; omega,(x1.1 ++ e2,x1.2+1),⟨fun p hp=>?_,by have:=h1.hn; have:=h2.2; simp only [List.length_append]; omega,hlt⟩,by dsimp only; omega,rfl,by simp⟩⟩,fun hge=>⟨⟨(x1.1,[],0),⟨h1.hm,by have:=h1.hn; have:=h1.hi; dsimp only; omega,Nat.zero_le _,fun v hv=>(by simp at hv),Nat.zero_le _⟩,rfl,rfl,rfl⟩,fun x3 h3=>⟨fun hlt=>⟨⟨(x3.1,x3.2.1,x3.2.2,[],0),⟨⟨h3,hlt⟩,rfl,⟨fun q hq=>(by simp at hq),Nat.zero_le _,Nat.zero_le _⟩⟩,rfl,rfl,rfl,rfl,rfl⟩,fun x4 h4=>?_⟩,fun hge=>⟨_,⟨h3.ho,by have:=h3.hk; have:=h3.hi; have:=h3.hn; omega⟩,rfl⟩⟩⟩⟩⟩
 ·rcases List.mem_append.1 hp with hp | hp
  ·exact h1.hm p hp
  ·exact ⟨_,a1k hlt,h2.1 p hp⟩
 ·obtain ⟨⟨hB,hlt4⟩,he,hJ⟩:=h4
  have oi:=pk hB.hm _ (a1k (d:=dfU) hlt4)
  have b1:=hB.hn
  have b2:=hB.hk
  have b3:=hJ.hk
  have b4:=hJ.hi
  refine ⟨fun hlt5=>⟨fun hne=>?_,fun _=>⟨by unfold inR; omega,(x4.1,x4.2.1,x4.2.2.1,x4.2.2.2.1,x4.2.2.2.2+1),⟨⟨hB,hlt4⟩,he,⟨hJ.hc,by dsimp only; omega,hlt5⟩⟩,by dsimp only; omega,rfl,rfl,rfl,rfl,by simp⟩⟩,fun hge5=>?_⟩
  ·have ok2:=pk hB.hm _ (a1k (d:=dfU) hlt5)
   have hnew:∀ e6:List Px × Bool,((∀ p ∈ e6.1,okP p/\a1h (x4.1.getD x4.2.2.1 dfU) p=true/\a1h (x4.1.getD x4.2.2.2.2 dfU) p=true)/\e6.1.length <= 4)->PcJ x4.1 x4.2.2.1 (x4.2.2.2.1 ++ e6.1) (x4.2.2.2.2+1):=fun e6 h6=>⟨fun q hq=>by
    rcases List.mem_append.1 hq with hq | hq
    ·exact hJ.hc q hq
    ·exact ⟨(h6.1 q hq).1,(h6.1 q hq).2.1⟩,by have:=h6.2; simp only [List.length_append]; omega,hlt5⟩
   refine ⟨hlt4,hlt5,⟨⟨oi,ok2⟩,fun e6 h6=>?_⟩,⟨oi,ok2⟩,fun e6 h6=>?_⟩
   all_goals
    have h62:=h6.2
    repeat' apply And.intro
    all_goals try omega
    all_goals exact ⟨(x4.1,x4.2.1,x4.2.2.1,x4.2.2.2.1 ++ e6.1,x4.2.2.2.2+1),⟨⟨hB,hlt4⟩,he,hnew e6 h6⟩,(by dsimp only; omega),rfl,rfl,rfl,rfl,(by simp)⟩
  ·refine ⟨hlt4,⟨⟨oi,fun q hq=>(hJ.hc q hq).1⟩,by omega⟩,fun e7 h7=>⟨by have:=h7.2; omega,by unfold inR; omega,(x4.1,x4.2.1 ++ e7.1,x4.2.2.1+1),⟨hB.hm,hB.hn,hlt4,fun v hv=>?_,by have:=h7.2; simp only [List.length_append]; omega⟩,by dsimp only; omega,rfl,rfl,by simp⟩⟩
   rcases List.mem_append.1 hv with hv | hv
   ·exact hB.ho v hv
   ·obtain ⟨u,hu,hpc⟩:=hB.hm _ (a1k (d:=dfU) hlt4)
    exact ⟨u,hu,_,hpc,_,hJ.hc,h7.1.1 v hv⟩
def aGy:Ctr:=⟨52,spE (lU.c r0) (List Ux) (fun (l,_)=>(∀ u ∈ l,InU u)/\l.length <= 400) (fun (l,_) a=>(∀ v ∈ a,a4U l v)/\a.length <= 700000) (fun _ a=>.k (.c (.rd .U (false) (a))))⟩
theorem aGx:CtrOK Tryz.prog aGy:=eOK a2s aCG Tryz.func52 fun x hp=>aBy x.1 hp
def aKT (p_:Ux):=((((!p_.arc)=(!p_.arc))/\(((!p_.arc)=(!p_.arc))/\((!p_.arc)=(!p_.arc))))/\(((p_.arc=p_.arc)/\((p_.arc=p_.arc)/\(p_.arc=p_.arc)))/\((True/\(True/\(True/\(True/\True))))/\(True/\(True/\(True/\(True/\True)))))))
def aFv (x2:List Ux × Nat × Int × Nat):=(x2.1.getD (((x2.2.2.2:Nat):Int).toNat) dfU)
def a8R (x2:List Ux × Nat × Int × Nat):=(((x2.2.1:Nat):Int).toNat)
def aPs (l:List Ux) (y2:List Ux × Nat × Int × Nat) (x1:List Ux × Nat):=((OdI l y2.1 y2.2.1/\y2.2.1 < l.length)/\(y2.2.1:Int)=((x1.2:Nat):Int)/\(-1 <= y2.2.2.1/\y2.2.2.1 < (y2.1.length:Int))/\y2.2.2.2 <= y2.1.length)
theorem aJi (l:List Ux) (hp:(∀ v ∈ l,okU v)/\l.length <= 1000000):a1v LTL WP1 [.inv 3 (List Ux × Nat) (fun ξ=>⟨[.k (.c (.rd .U (false) (l))),.u,.u,.k (.c (.ow 0 52 .U (ξ.1))),.k (.c (.v (.int .i64 (((ξ.2:Nat):Int))))),.u,.u,.u,.u,.u,.u,.u,.u,.u,.u,.u,.u,.u,.u,.u,.u,.u,.u,.u,.u,.u,.u,.u,.u,.u,.u,.u,.u,.u,.u,.u,.u,.u,.u,.u,.u,.u,.u,.u,.u,.u,.u],[]⟩) (fun _ ξ=>OdI l ξ.1 ξ.2) (fun ξ=>l.length - ξ.2),.inv 7 (List Ux × Nat × Int × Nat) (fun ξ=>⟨[.k (.c (.rd .U (false) (l))),.u,.u,.k (.c (.ow 0 52 .U (ξ.1))),.k (.c (.v (.int .i64 (((ξ.2.1:Nat):Int))))),.k (.c (.v (.int .i64 (ξ.2.2.1)))),.k (.c (.v (.int .i64 (((ξ.2.2.2:Nat):Int))))),.u,.u,.u,.u,.u,.u,.u,.u,.u,.u,.u,.u,.u,.u,.u,.u,.u,.u,.u,.u,.u,.u,.u,.u,.u,.u,.u,.u,.u,.u,.u,.u,.u,.u,.u,.u,.u,.u,.u,.u],[]⟩) (fun σ ξ=>(OdI l ξ.1 ξ.2.1/\ξ.2.1 < l.length)/\(ξ.2.1:Int)=(tmI σ 4)/\(-1 <= ξ.2.2.1/\ξ.2.2.1 < (ξ.1.length:Int))/\ξ.2.2.2 <= ξ.1.length) (fun ξ=>ξ.1.length - ξ.2.2.2),.cut 13 1000] Tryz.f51 (bd Tryz.f51) [.c (.rd .U (false) (l))] (fun a:List Ux=>(∀ v ∈ a,v ∈ l)/\a.length <= l.length) (fun a=>.k (.c (.rd .U (false) (a)))):=by
 refine a1J (show ((∃ x1:List Ux × Nat,((OdI l x1.1 x1.2)/\(((l=l)/\((x1.1=[])/\((Value.int .i64 (0:Int)=(.int .i64 ((x1.2:Nat):Int)))/\True)))/\True)))/\(∀ x1:List Ux × Nat,((OdI l x1.1 x1.2)->(((decide (((x1.2:Nat):Int) < (l.length:Int)))=true->((∃ x2:List Ux × Nat × Int × Nat,(((OdI l x2.1 x2.2.1/\x2.2.1 < l.length)/\(x2.2.1:Int)=((x1.2:Nat):Int)/\(-1 <= x2.2.2.1/\x2.2.2.1 < (x2.1.length:Int))/\x2.2.2.2 <= x2.1.length)/\(((l=l)/\((x1.1=x2.1)/\((Value.int .i64 ((x1.2:Nat):Int)=(.int .i64 ((x2.2.1:Nat):Int)))/\((Value.int .i64 (-1:Int)=(.int .i64 x2.2.2.1))/\((Value.int .i64 (0:Int)=(.int .i64 ((x2.2.2.2:Nat):Int)))/\True)))))/\True)))/\(∀ x2:List Ux × Nat × Int × Nat,((OdI l x2.1 x2.2.1/\x2.2.1 < l.length)/\(x2.2.1:Int)=((x1.2:Nat):Int)/\(-1 <= x2.2.2.1/\x2.2.2.1 < (x2.1.length:Int))/\x2.2.2.2 <= x2.1.length->(((decide (((x2.2.2.2:Nat):Int) < (x2.1.length:Int)))=true->((0 <= ((x2.2.2.2:Nat):Int)/\((x2.2.2.2:Nat):Int) < (x2.1.length:Int))/\((0 <= ((x2.2.1:Nat):Int)/\((x2.2.1:Nat):Int) < (l.length:Int))/\(((aKT (aFv x2))/\(aKT (l.getD (a8R x2) dfU))/\(aFv x2).sz+(l.getD (a8R x2) dfU).sz <= 14000)/\(((a5o (aFv x2) (l.getD (a8R x2) dfU))=true->((inR .i64 (((x2.2.2.2:Nat):Int)+(1:Int)))/\(∃ y2:List Ux × Nat × Int × Nat,((aPs l y2 x1)/\((y2.1.length - y2.2.2.2 < x2.1.length - x2.2.2.2)/\(((l=l)/\((x2.1=y2.1)/\((Value.int .i64 ((x2.2.1:Nat):Int)=(.int .i64 ((y2.2.1:Nat):Int)))/\((Value.int .i64 ((x2.2.2.2:Nat):Int)=(.int .i64 y2.2.2.1))/\((Value.int .i64 (((x2.2.2.2:Nat):Int)+(1:Int))=(.int .i64 ((y2.2.2.2:Nat):Int)))/\True)))))/\True))))))/\((a5o (aFv x2) (l.getD (a8R x2) dfU))=false->((inR .i64 (((x2.2.2.2:Nat):Int)+(1:Int)))/\(∃ y2:List Ux × Nat × Int × Nat,((aPs l y2 x1)/\((y2.1.length - y2.2.2.2 < x2.1.length - x2.2.2.2)/\(((l=l)/\((x2.1=y2.1)/\((Value.int .i64 ((x2.2.1:Nat):Int)=(.int .i64 ((y2.2.1:Nat):Int)))/\((Value.int .i64 x2.2.2.1=(.int .i64 y2.2.2.1))/\((Value.int .i64 (((x2.2.2.2:Nat):Int)+(1:Int))=(.int .i64 ((y2.2.2.2:Nat):Int)))/\True)))))/\True)))))))))))/\((decide (((x2.2.2.2:Nat):Int) < (x2.1.length:Int)))=false->(((decide (x2.2.2.1 < (0:Int)))=true->((0 <= ((x2.2.1:Nat):Int)/\((x2.2.1:Nat):Int) < (l.length:Int))/\(((aKT (l.getD (a8R x2) dfU))/\True)/\((x2.1.length+([(l).getD (a8R x2) dfU]:List Ux).length <= 10000000)/\((inR .i64 (((x2.2.1:Nat):Int)+(1:Int)))/\(∃ y1:List Ux × Nat,((OdI l y1.1 y1.2)/\((l.length - y1.2 < l.length - x1.2)/\(((l=l)/\(((x2.1 ++ ([(l).getD (a8R x2) dfU]:List Ux))=y1.1)/\((Value.int .i64 (((x2.2.1:Nat):Int)+(1:Int))=(.int .i64 ((y1.2:Nat):Int)))/\True)))/\True)))))))))/\((decide (x2.2.2.1 < (0:Int)))=false->((0 <= x2.2.2.1/\x2.2.2.1 <= (x2.1.length:Int))/\((inR .i64 (x2.2.2.1+(1:Int)))/\((0 <= x2.2.2.1+(1:Int)/\x2.2.2.1+(1:Int) <= (x2.1.length:Int))/\((((x2.1.take x2.2.2.1.toNat).length+(x2.1.drop (x2.2.2.1+(1:Int)).toNat).length <= 10000000)/\(((inR .i64 (((x2.2.1:Nat):Int)+(1:Int)))/\(∃ y1:List Ux × Nat,((OdI l y1.1 y1.2)/\((l.length - y1.2 < l.length - x1.2)/\(((l=l)/\((((x2.1.take x2.2.2.1.toNat) ++ (x2.1.drop (x2.2.2.1+(1:Int)).toNat))=y1.1)/\((Value.int .i64 (((x2.2.1:Nat):Int)+(1:Int))=(.int .i64 ((y1.2:Nat):Int)))/\True)))/\True)))))/\True))/\True))))))))))))/\((decide (((x1.2:Nat):Int) < (l.length:Int)))=false->(∃ a:List Ux,(((∀ v ∈ a,v ∈ l)/\a.length <= l.length)/\(x1.1=a))))))))=_ by kernel_rfl) ?_
 delta aPs a8R aFv aKT
 simp only [true_and,and_true,Int.toNat_natCast,Value.int.injEq,decide_eq_true_eq,decide_eq_false_iff_not,Int.natCast_nonneg,Int.ofNat_lt,Int.ofNat_inj]
 obtain ⟨hl,hn⟩:=hp
 refine ⟨⟨([],0),⟨Nat.zero_le _,Nat.le_refl _,fun v hv=>(by simp at hv)⟩,rfl,rfl⟩,fun x1 h1=>⟨fun hlt=>⟨⟨(x1.1,x1.2,-1,0),⟨⟨h1,hlt⟩,rfl,⟨Int.le_refl _,by dsimp only; omega⟩,Nat.zero_le _⟩,rfl,rfl,rfl,rfl⟩,fun x2 h2=>?_⟩,fun hge=>⟨_,⟨h1.hm,by have:=h1.hn; have:=h1.hi; omega⟩,rfl⟩⟩⟩
 obtain ⟨⟨hO,hlt2⟩,he,⟨a1,a2⟩,hk⟩:=h2
 have o1:=hO.hn
 have o2:=hO.hi
 have hx:l.getD x2.2.1 dfU ∈ l:=a1k hlt2
 refine ⟨fun hlt3=>?_,fun hge=>⟨fun hneg=>⟨hlt2,by simp only [List.length_cons,List.length_nil]; omega,by unfold inR; omega,(x2.1 ++ [l.getD x2.2.1 dfU],x2.2.1+1),⟨hlt2,by simp only [List.length_append,List.length_cons,List.length_nil]; omega,fun v hv=>?_⟩,by dsimp only; omega,rfl,by simp⟩,fun hpos=>⟨⟨by omega,by omega⟩,by unfold inR; omega,⟨by omega,by omega⟩,by simp only [List.length_take,List.length_drop]; omega,by unfold inR; omega,(_,x2.2.1+1),⟨hlt2,by simp only [List.length_append,List.length_take,List.length_drop]; omega,fun v hv=>?_⟩,by dsimp only; omega,rfl,by simp⟩⟩⟩
 ·have s1:=a4r (hl _ (hO.hm _ (a1k (d:=dfU) hlt3)))
  have s2:=a4r (hl _ hx)
  refine ⟨hlt3,hlt2,by omega,fun _=>⟨by unfold inR; omega,(x2.1,x2.2.1,(x2.2.2.2:Int),x2.2.2.2+1),⟨⟨hO,hlt2⟩,he,⟨by dsimp only; omega,by dsimp only; omega⟩,hlt3⟩,by dsimp only; omega,rfl,rfl,rfl,by simp⟩,fun _=>⟨by unfold inR; omega,(x2.1,x2.2.1,x2.2.2.1,x2.2.2.2+1),⟨⟨hO,hlt2⟩,he,⟨a1,a2⟩,hlt3⟩,by dsimp only; omega,rfl,rfl,rfl,by simp⟩⟩
 ·rcases List.mem_append.1 hv with hv | hv
  ·exact hO.hm v hv
  ·rw [List.mem_singleton.1 hv]; exact hx
 ·rcases List.mem_append.1 hv with hv | hv
  ·exact hO.hm v (List.mem_of_mem_take hv)
  ·exact hO.hm v (List.mem_of_mem_drop hv)
def aVw:Ctr:=⟨51,spE (lU.c r0) (List Ux) (fun (l,_)=>(∀ v ∈ l,okU v)/\l.length <= 1000000) (fun (l,_) a=>(∀ v ∈ a,v ∈ l)/\a.length <= l.length) (fun _ a=>.k (.c (.rd .U (false) (a))))⟩
theorem aQY:CtrOK Tryz.prog aVw:=eOK a2s aCG Tryz.func51 fun x hp=>aJi x.1 hp
end Vc
end Go.Proofs.YtbohkigffejhoaaGreat
