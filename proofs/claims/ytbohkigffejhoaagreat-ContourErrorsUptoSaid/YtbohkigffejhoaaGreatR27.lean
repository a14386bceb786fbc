import Derived.Test.YtbohkigffejhoaaGreatR26
import Derived.Test.YtbohkigffejhoaaGreatR22
import Derived.Test.YtbohkigffejhoaaGreatR21
namespace Go.Proofs.YtbohkigffejhoaaGreat
open Vc
namespace Lm
def b0Y (u:Ux):Prop:=okU u/\((u.arc=false/\a2v u.l u.f=0/\a2v u.l u.t=0) \/ (u.arc=true/\u.cw=false/\((u.f=(a0d u.k).1/\u.t=(a0d u.k).2) \/ (u.f=(a0d u.k).2/\u.t=(a0d u.k).1))))
theorem a6o {p:Px} (hp:0 <= p.e):a0g p p=0:=by
 have:=wkC.anti p p hp hp
 omega
theorem a8u {p:Px} (hp:0 <= p.e):a0G p p=true:=by
 unfold a0G
 rw [a6o hp]
 rfl
theorem aYI {u:Ux} (h:b0Y u):InU u:=by
 refine ⟨h.1,fun ha=>?_⟩
 obtain ⟨h0,h | ⟨_,_,h⟩⟩:=h
 ·rw [ha] at h; cases h.1
 have ef:=a3j h0.2.2.1
 have et:=a3j h0.2.2.2.1
 have a:∀ p,p=u.f \/ p=u.t->a1H u p=false:=fun p hp=>by
  unfold a1H
  rcases hp with rfl | rfl
  ·rw [a8u ef]; cases a1h u u.f <;> rfl
  ·rw [a8u et]; cases a1h u u.t <;> cases a0G u.f u.t <;> rfl
 rcases h with ⟨h1,h2⟩ | ⟨h1,h2⟩
 ·exact ⟨a _ (.inl h1.symm),a _ (.inr h2.symm)⟩
 ·exact ⟨a _ (.inr h2.symm),a _ (.inl h1.symm)⟩
theorem aOS {u:Ux} {p:Px} (h:a1h u p=true):a08 u p=true/\a0Y u u.f p <= 0/\a0Y u p u.t <= 0:=by
 unfold a1h at h
 rw [aA5,aA5] at h
 exact ⟨h.1.1,by simpa using h.1.2,by simpa using h.2⟩
theorem a9w {p q:Px} (h:a0S (a04 p) (a04 q) < 0):a0g p q < 0:=by
 unfold a0g
 rw [if_pos (by rw [bne_iff_ne]; omega)]
 exact h
theorem aE0 {u:Ux} (ha:u.arc=false) (h:¬ a0g u.f u.t > 0) (p q:Px):a0Y u p q=a0g p q:=by
 unfold a0Y
 rw [ha]
 simp [h]
theorem a5O {u:Ux} (ha:u.arc=true) (hw:u.cw=false) (p q:Px):a0Y u p q=a0U u.k u.f p q:=by
 unfold a0Y
 rw [ha,hw]
 simp
theorem aC3 {u:Ux} (ha:u.arc=true) (hw:u.cw=true) (p q:Px):a0Y u p q=a0U (a0n u).k (a0n u).f (a0v p) (a0v q):=by
 unfold a0Y
 rw [ha,hw]
 simp
theorem aY8 {w:Ux} (hf:0 <= w.f.e) (ht:0 <= w.t.e):¬ a0g (nrm w).f (nrm w).t > 0:=by
 unfold nrm
 split
 ·rename_i h
  have h:a0g w.f w.t > 0:=by simpa using h
  have:=wkC.anti w.f w.t hf ht
  show ¬ a0g w.t w.f > 0
  omega
 ·rename_i h
  simpa using h
theorem aYQ {u:Ux} {x y:Px} (hx:0 <= x.e) (hy:0 <= y.e) (ha:u.arc=false) (h:¬ a0g u.f u.t > 0) (r:Ro u x y):a0g x y < 0:=by
 unfold Ro at r
 rw [aE0 ha h,aE0 ha h] at r
 rcases r with r | ⟨r,e⟩
 ·exact r
 ·have:=wkC.anti x y hx hy
  unfold a0G at e
  rw [beq_eq_false_iff_ne] at e
  omega
theorem aUU {p v:Ux} {c:List Px} (hp:okU p) (ha:p.arc=false) (h:¬ a0g p.f p.t > 0) (sf:a2v p.l p.f=0) (st:a2v p.l p.t=0) (hc:∀ q ∈ c,okP q/\a1h p q=true) (hv:aEu p c v):MeU v:=by
 have ov:=aLo hp (fun q hq=>(hc q hq).1) hv
 obtain ⟨x,y,rfl,r,mx,my⟩:=hv
 have ex:0 <= x.e:=a3j ov.2.2.1
 have ey:0 <= y.e:=a3j ov.2.2.2.1
 have sup:∀ q,q ∈ [p.f,p.t] ++ c->a2v p.l q=0:=fun q hq=>by
  simp only [List.mem_append,List.mem_cons,List.not_mem_nil,or_false] at hq
  rcases hq with (rfl | rfl) | hq
  ·exact sf
  ·exact st
  ·have:=(aOS (hc q hq).2).1
   unfold a08 at this
   rw [ha] at this
   simpa using this
 refine ⟨ov,fun _ hb=>?_,aYQ ex ey ha h r⟩
 have hb:p.l.lb=0:=hb
 exact aN9 ex ey (sup _ mx) (sup _ my) hb ((hp.2.2.2.2.2 ha).resolve_right fun k=>k hb)
theorem aK5 {k:Kx} {p:Px} {s:Rat} (hk:0 <= k.kq) (hp:0 <= p.e) (hs:s=1 \/ s=-1) (h:IsE s k p):OnC k p:=by
 refine ((aBp hk).add ((h.1.mul (((aZT hp).add (a3W (-k.kx))).add ((a3W s).mul (a9O hk)))).add (h.2.mul ((b1l hp).add (a3W (-k.ky)))))).congr fun n=>?_
 rcases hs with rfl | rfl <;> grind
theorem aF8 {k:Kx} {p q:Px} (hp:0 <= p.e) (hq:0 <= q.e) (a:OnC k p) (b:OnC k q) (hx:Zer fun n=>vX p n - vX q n) (hu:(0 <= a0T (a2D p) k.ky/\0 <= a0T (a2D q) k.ky) \/ (a0T (a2D p) k.ky <= 0/\a0T (a2D q) k.ky <= 0)):a0g p q=0:=by
 refine (a4c hp hq).2 ⟨hx,?_⟩
 have:=aEO (a8f hp k.ky) (a8f hq k.ky) hu (((a.add b.neg).add (hx.mul (((aZT hp).add (aZT hq)).add (a3W (-(2*k.kx))))).neg).congr fun n=>by grind)
 exact this.congr fun n=>by grind
theorem aLl {k:Kx} {L R:Px} (hk:0 < k.kq) (eL:0 <= L.e) (eR:0 <= R.e) (hL:IsE (-1) k L) (hR:IsE 1 k R):a0U k L L R=-1/\a0U k R R L=-1:=by
 have uL:=(a3Q hk eL).2 hL
 have uR:=(a3Q hk eR).1 hR
 have l0:=aEk k eL eL (a6o eL)
 have r0:=aEk k eR eR (a6o eR)
 have lr:=aL2 uL uR
 have rl:=aEj uR uL
 rw [a4O,a4O,l0,r0,lr,rl]
 exact ⟨rfl,rfl⟩
theorem aZh {k:Kx} {L R:Px} (hk:0 < k.kq) (eL:0 <= L.e) (eR:0 <= R.e) (hL:IsE (-1) k L) (hR:IsE 1 k R):a0S (a04 L) (a04 R) < 0:=by
 have r:=aKk hk
 exact (a2y eL eR).lt.2 (((r.add r).add_zer (hR.1.add hL.1.neg)).congr fun n=>by grind)
theorem aWG {u w:Ux} (hu:okU u) (ha:u.arc=true) (hw:u.cw=false) (h:(IsE (-1) u.k u.f/\IsE 1 u.k u.t) \/ (IsE 1 u.k u.f/\IsE (-1) u.k u.t)) (hc:aEu u [] w):w=u:=by
 have ef:=a3j hu.2.2.1
 have et:=a3j hu.2.2.2.1
 have hk:=hu.2.2.2.2.1 ha
 obtain ⟨x,y,rfl,r,mx,my⟩:=hc
 have self:∀ p:Px,0 <= p.e->¬ Ro u p p:=fun p hp r=>by
  have o:=aWP (u:=u) ef hp hp (a6o hp)
  have e:=a8u hp
  rcases r with r | ⟨_,r⟩
  ·omega
  ·rw [e] at r; cases r
 have ft:a0Y u u.f u.t < 0:=by
  rw [a5O ha hw]
  rcases h with ⟨a,b⟩ | ⟨a,b⟩
  ·rw [(aLl hk ef et a b).1]; decide
  ·rw [(aLl hk et ef b a).2]; decide
 simp only [List.append_nil,List.mem_cons,List.not_mem_nil,or_false] at mx my
 rcases mx with rfl | rfl
 ·rcases my with rfl | rfl
  ·exact (self _ ef r).elim
  ·cases u; rfl
 ·rcases my with rfl | rfl
  ·exfalso
   rcases r with r | ⟨r,_⟩
   ·rw [a5O ha hw] at r
    exact aIT u.k ef r
   ·exact r ft
  ·exact (self _ et r).elim
theorem aUP {u:Ux} {p:Px} (ha:u.arc=true) (hp:0 <= p.e) (h:a08 u p=true):OnC u.k p:=by
 unfold a08 at h
 rw [ha] at h
 exact aTJ hp (by simpa using h)
theorem aST {u v:Ux} {c:List Px} (hu:okU u) (ha:u.arc=true) (hw:u.cw=false) (a:IsE (-1) u.k u.f) (b:IsE 1 u.k u.t) (hc:∀ q ∈ c,okP q/\a1h u q=true) (hv:aEu u c v):MeU v:=by
 have ov:=aLo hu (fun q hq=>(hc q hq).1) hv
 obtain ⟨x,y,rfl,r,mx,my⟩:=hv
 have ex:0 <= x.e:=a3j ov.2.2.1
 have ey:0 <= y.e:=a3j ov.2.2.2.1
 have ef:=a3j hu.2.2.1
 have et:=a3j hu.2.2.2.1
 have hk:=hu.2.2.2.2.1 ha
 have all:∀ q,q ∈ [u.f,u.t] ++ c->OnC u.k q/\a0U u.k u.f q u.t <= 0:=fun q hq=>by
  simp only [List.mem_append,List.mem_cons,List.not_mem_nil,or_false] at hq
  rcases hq with (rfl | rfl) | hq
  ·exact ⟨aK5 (Rat.le_of_lt hk) ef (.inr rfl) a,by rw [(aLl hk ef et a b).1]; decide⟩
  ·exact ⟨aK5 (Rat.le_of_lt hk) et (.inl rfl) b,by rw [aDz u.k u.f ef et et (a6o et)]; decide⟩
  ·have h:=aOS (hc q hq).2
   exact ⟨aUP ha (a3j (hc q hq).1) h.1,by have:=h.2.2; rwa [a5O ha hw] at this⟩
 obtain ⟨cx,bx⟩:=all x mx
 obtain ⟨cy,by_⟩:=all y my
 have lt:a0U u.k u.f x y < 0:=by
  unfold Ro at r
  rw [a5O ha hw,a5O ha hw] at r
  rcases r with r | ⟨r,e⟩
  ·exact r
  ·have an:=(b04 u.k u.f).anti x y ex ey
   have ne:a0U u.k u.f x y ≠ 0:=fun e0=>by
    obtain ⟨h1,h2⟩:=aHr (aF4 e0)
    have:=aF8 ex ey cx cy ((a2y ex ey).zer.1 h2) (aBS h1)
    have h3:=wkC.anti x y ex ey
    unfold a0G at e
    rw [beq_eq_false_iff_ne] at e
    omega
   omega
 refine ⟨ov,fun hn=>?_,a9w (aSU hk ef et ex ey a b cx cy bx by_ lt)⟩
 have hn:u.arc=false:=hn
 rw [ha] at hn; cases hn
theorem aSS {u v:Ux} {c:List Px} (hu:okU u) (ha:u.arc=true) (hw:u.cw=true) (a:IsE (-1) u.k u.f) (b:IsE 1 u.k u.t) (hc:∀ q ∈ c,okP q/\a1h u q=true) (hv:aEu u c v):MeU v:=by
 have ov:=aLo hu (fun q hq=>(hc q hq).1) hv
 obtain ⟨x,y,rfl,r,mx,my⟩:=hv
 have ex:0 <= x.e:=a3j ov.2.2.1
 have ey:0 <= y.e:=a3j ov.2.2.2.1
 have ef:=a3j hu.2.2.1
 have et:=a3j hu.2.2.2.1
 have hk:=hu.2.2.2.2.1 ha
 have hk':0 < (a0n u).k.kq:=hk
 have fl:∀ q:Px,OnC u.k q->OnC (a0n u).k (a0v q):=fun q h=>h.congr fun n=>by
  simp only [vX,vY,a0v,a0n]; grind
 have fa:IsE 1 (a0n u).k (a0v u.f):=⟨a.1.neg.congr fun n=>(by simp only [vX,a0v,a0n]; grind),a.2⟩
 have fb:IsE (-1) (a0n u).k (a0v u.t):=⟨b.1.neg.congr fun n=>(by simp only [vX,a0v,a0n]; grind),b.2⟩
 have ef':0 <= (a0v u.f).e:=ef
 have et':0 <= (a0v u.t).e:=et
 have mf:(a0n u).f=a0v u.f:=rfl
 have all:∀ q,q ∈ [u.f,u.t] ++ c->OnC (a0n u).k (a0v q)/\a0U (a0n u).k (a0v u.f) (a0v q) (a0v u.t) <= 0:=fun q hq=>by
  simp only [List.mem_append,List.mem_cons,List.not_mem_nil,or_false] at hq
  rcases hq with (rfl | rfl) | hq
  ·exact ⟨fl _ (aK5 (Rat.le_of_lt hk) ef (.inr rfl) a),by rw [(aLl hk' et' ef' fb fa).2]; decide⟩
  ·exact ⟨fl _ (aK5 (Rat.le_of_lt hk) et (.inl rfl) b),by rw [aDz _ _ ef' et' et' (a6o et')]; decide⟩
  ·have h:=aOS (hc q hq).2
   exact ⟨fl _ (aUP ha (a3j (hc q hq).1) h.1),by have:=h.2.2; rwa [aC3 ha hw,mf] at this⟩
 obtain ⟨cx,bx⟩:=all x mx
 obtain ⟨cy,by_⟩:=all y my
 have ex':0 <= (a0v x).e:=ex
 have ey':0 <= (a0v y).e:=ey
 have lt:a0U (a0n u).k (a0v u.f) (a0v x) (a0v y) < 0:=by
  unfold Ro at r
  rw [aC3 ha hw,aC3 ha hw,mf] at r
  rcases r with r | ⟨r,e⟩
  ·exact r
  ·have an:=(b04 (a0n u).k (a0v u.f)).anti (a0v x) (a0v y) ex' ey'
   have ne:a0U (a0n u).k (a0v u.f) (a0v x) (a0v y) ≠ 0:=fun e0=>by
    obtain ⟨h1,h2⟩:=aHr (aF4 e0)
    have c0:=aF8 ex' ey' cx cy ((a2y ex' ey').zer.1 h2) (aBS h1)
    obtain ⟨z1,z2⟩:=(a4c ex' ey').1 c0
    have:a0g x y=0:=(a4c ex ey).2 ⟨z1.neg.congr fun n=>(by simp only [vX,a0v]; grind),z2⟩
    have h3:=wkC.anti x y ex ey
    unfold a0G at e
    rw [beq_eq_false_iff_ne] at e
    omega
   omega
 have up:=aSh hk' et' ef' ex' ey' fb fa cx cy bx by_ lt
 refine ⟨ov,fun hn=>?_,a9w ((a2y ex ey).lt.2 (((a2y ex' ey').pos.1 up).congr fun n=>by simp only [vX,a0v]; grind))⟩
 have hn:u.arc=false:=hn
 rw [ha] at hn; cases hn
theorem aSK {l:List Ux} {v:Ux} (hl:∀ u ∈ l,b0Y u) (h:a4U l v):MeU v:=by
 obtain ⟨u,hu,p,⟨w,hw,rfl⟩,c,hc,hv⟩:=h
 obtain ⟨h0,⟨ha,sf,st⟩ | ⟨ha,hcw,hE⟩⟩:=hl u hu
 ·obtain ⟨_,rfl⟩ | ⟨hb,_⟩:=hw
  ·have n:=aY8 (a3j h0.2.2.1) (a3j h0.2.2.2.1)
   have o:=aWJ h0 ⟨_,.inl ⟨ha,rfl⟩,rfl⟩
   unfold nrm at *
   split at hv
   ·rename_i g
    rw [if_pos g] at n o hc
    exact aUU o ha n st sf hc hv
   ·rename_i g
    rw [if_neg g] at n o hc
    exact aUU o ha n sf st hc hv
  ·rw [ha] at hb; cases hb
 ·have hk:=h0.2.2.2.2.1 ha
  obtain ⟨i1,i2⟩:=aZp (Rat.le_of_lt hk)
  have hE':(IsE (-1) u.k u.f/\IsE 1 u.k u.t) \/ (IsE 1 u.k u.f/\IsE (-1) u.k u.t):=by
   rcases hE with ⟨h1,h2⟩ | ⟨h1,h2⟩
   ·rw [h1,h2]; exact .inl ⟨i1,i2⟩
   ·rw [h1,h2]; exact .inr ⟨i2,i1⟩
  have ef:=a3j h0.2.2.1
  have et:=a3j h0.2.2.2.1
  obtain ⟨hb,_⟩ | ⟨_,hb⟩:=hw
  ·rw [ha] at hb; cases hb
  ·obtain rfl:=aWG h0 ha hcw hE' hb
   have o:=aWJ h0 ⟨_,.inr ⟨ha,hb⟩,rfl⟩
   rcases hE' with ⟨a,b⟩ | ⟨a,b⟩
   ·have lt:=a9w (aZh hk ef et a b)
    have g:¬ decide (a0g w.f w.t > 0)=true:=by simp; omega
    unfold nrm at *
    rw [if_neg g] at *
    exact aST h0 ha hcw a b hc hv
   ·have lt:=a9w (aZh hk et ef b a)
    have an:=wkC.anti w.f w.t ef et
    have g:decide (a0g w.f w.t > 0)=true:=by simp; omega
    unfold nrm at *
    rw [if_pos g] at *
    refine aSS o ha ?_ b a hc hv
    show (bif w.arc then (!w.cw) else false)=true
    rw [ha,hcw]; rfl
end Lm
end Go.Proofs.YtbohkigffejhoaaGreat
namespace Go.Proofs.YtbohkigffejhoaaGreat
namespace Vc
def thr (v w:Vx):Lx:=⟨v.vy - w.vy,w.vx - v.vx,(v.vy - w.vy)*v.vx+(w.vx - v.vx)*v.vy⟩
def aBm (v w:Vx):Ux:=⟨false,thr v w,⟨0,0,0⟩,false,a2f v,a2f w⟩
def okV (v:Vx):Prop:=szR v.vx <= 3/\szR v.vy <= 3
def aYf (l:List Vx) (u:Ux):Prop:=∃ v ∈ l,∃ w ∈ l,u=aBm v w/\(u.l.la ≠ 0 \/ u.l.lb ≠ 0)
structure PoI (l:List Vx) (out:List Ux) (i:Nat):Prop where
 ho:∀ u ∈ out,aYf l u
 hn:out.length <= i
 hi:i <= l.length
def a6W (u:Ux):Prop:=Lm.b0Y u/\u.sz <= 1500
theorem aOn (l:Lx) (x:Vx) (h:l.la*x.vx+l.lb*x.vy - l.lc=0):a2v l (a2f x)=0:=by
 have q:isQ a1Z=true:=by decide +kernel
 have z:=Lm.zr
 have e:a1C (a2A (a0J l.la x.vx) (a0J l.lb x.vy)) l.lc+a2A (a0J l.la a1Z) (a0J l.lb a1Z)*sqr a1Z=0:=by
  simp only [a1C,a2A,a0J,a1Z]
  grind
 unfold a2v a2j a2f a1m
 simp only [q,if_true,e]
 decide +kernel
theorem aYG:szR (0:Rat) <= 2:=a3h (n:=0) (by decide)
theorem aSx {v w:Vx} (hv:okV v) (hw:okV w) (h:(thr v w).la ≠ 0 \/ (thr v w).lb ≠ 0):a6W (aBm v w):=by
 obtain ⟨v1,v2⟩:=hv
 obtain ⟨w1,w2⟩:=hw
 have a1:szR (v.vy - w.vy) <= 7:=by have:=a2V v.vy w.vy; omega
 have a2:szR (w.vx - v.vx) <= 7:=by have:=a2V w.vx v.vx; omega
 have a3:szR ((v.vy - w.vy)*v.vx+(w.vx - v.vx)*v.vy) <= 27:=by
  have h1:=a0L (v.vy - w.vy) v.vx
  have h2:=a0L (w.vx - v.vx) v.vy
  have h3:=a1S ((v.vy - w.vy)*v.vx) ((w.vx - v.vx)*v.vy)
  omega
 have z:=aYG
 have pv:=aRA (v:=v) (by omega) (by omega)
 have pw:=aRA (v:=w) (by omega) (by omega)
 refine ⟨⟨⟨⟨a1,a2,a3⟩,⟨z,z,Nat.le_succ_of_le z⟩,pv,pw,fun e=>(by cases e),fun _=>h⟩,.inl ⟨rfl,aOn _ _ ?_,aOn _ _ ?_⟩⟩,?_⟩
 ·simp only [aBm,thr]; grind
 ·simp only [aBm,thr]; grind
 ·have e:=aCM (aBm v w)
  have e1:(aBm v w).l.sz <= 41:=aB5 ⟨a1,a2,a3⟩
  have e2:(aBm v w).k.sz <= 7:=a7j ⟨z,z,Nat.le_succ_of_le z⟩
  have e3:(aBm v w).f.sz <= 12:=Nat.le_trans (aUm v) (by omega)
  have e4:(aBm v w).t.sz <= 12:=Nat.le_trans (aUm w) (by omega)
  omega
theorem aOs {l:List Vx} (hl:∀ v ∈ l,okV v) {u:Ux} (h:aYf l u):a6W u:=by
 obtain ⟨v,hv,w,hw,rfl,h⟩:=h
 exact aSx (hl v hv) (hl w hw) h
theorem aP0 {k:Kx} (hk:okK k) (h0:0 < k.kq):∀ u ∈ a6H k,a6W u:=by
 have z:=aYG
 have one:szR (((1:Int)):Rat) <= 2:=a3h (by decide)
 have zero:szR (((0:Int)):Rat) <= 2:=a3h (by decide)
 have mone:szR (a2m (((1:Int)):Rat)) <= 2:=Nat.le_trans (a18 _) one
 obtain ⟨k1,k2,k3⟩:=hk
 have e1:okP (a0d k).1:=aB2 (Rat.le_of_lt h0) (by omega) (by omega) (by omega) (by omega) (by omega)
 have e2:okP (a0d k).2:=aB2 (Rat.le_of_lt h0) (by omega) (by omega) (by omega) (by omega) (by omega)
 have l0:okL ⟨0,0,0⟩:=⟨Nat.le_trans z (by decide),Nat.le_trans z (by decide),Nat.le_trans z (by decide)⟩
 have s1:=a1Q e1
 have s2:=a1Q e2
 have s3:=a7j ⟨k1,k2,k3⟩
 intro u hu
 simp only [a6H,List.mem_cons,List.not_mem_nil,or_false] at hu
 have s4:(Lx.mk 0 0 0).sz <= 6:=by have:=aHT ⟨0,0,0⟩; simp only at this; omega
 rcases hu with rfl | rfl
 ·refine ⟨⟨⟨l0,⟨k1,k2,k3⟩,e1,e2,fun _=>h0,fun e=>(by cases e)⟩,.inr ⟨rfl,rfl,.inl ⟨rfl,rfl⟩⟩⟩,?_⟩
  have:=aCM ⟨true,⟨0,0,0⟩,k,false,(a0d k).1,(a0d k).2⟩
  simp only at this
  omega
 ·refine ⟨⟨⟨l0,⟨k1,k2,k3⟩,e2,e1,fun _=>h0,fun e=>(by cases e)⟩,.inr ⟨rfl,rfl,.inr ⟨rfl,rfl⟩⟩⟩,?_⟩
  have:=aCM ⟨true,⟨0,0,0⟩,k,false,(a0d k).2,(a0d k).1⟩
  simp only at this
  omega
theorem aSn {n:Int} (h:-999999999 <= n/\n <= 999999999):szR (n:Rat) <= 2:=a3h (by unfold Lb.B; omega)
end Vc
end Go.Proofs.YtbohkigffejhoaaGreat
namespace Go.Proofs.YtbohkigffejhoaaGreat
open Go.RowKit
set_option maxHeartbeats 4000000
namespace Vc
attribute [local irreducible] owes a1v
theorem aSL {L:List Lay} {C:List Ctr} {I:List LI} {fn:Func} {body:Code} {xs:List AK} {T:Nat} {φ:List Ux->Prop} {p:Prop} (h:p=aOP L C I fn body xs T φ) (hp:p):aOP L C I fn body xs T φ:=h ▸ hp
def aKN:=(Value.bool false=.bool false/\([]:List Nat)=[]/\Value.bool false=.bool false/\([]:List Nat)=[])
def aPn (v:Vx) (w:Vx):=(bif ((Rt.sg (a1C v.vy w.vy)) == (0:Int)) then ((Rt.sg (a1C w.vx v.vx)) == (0:Int)) else false)
def aPm (a:Lx × Bool) (v:Vx) (w:Vx):=((a.2=true->a.1=thr v w/\(a.1.la ≠ 0 \/ a.1.lb ≠ 0))/\(a.2=false->(thr v w).la=0/\(thr v w).lb=0))
theorem aAX (v:Vx) (w:Vx) (hp:(szR v.vx <= 3/\szR v.vy <= 3)/\szR w.vx <= 3/\szR w.vy <= 3):a1v LTL WF0 [] Tryz.f310 (bd Tryz.f310) [.g (eV v),.g (eV w)] (fun a:Lx × Bool=>(a.2=true->a.1=thr v w/\(a.1.la ≠ 0 \/ a.1.lb ≠ 0))/\(a.2=false->(thr v w).la=0/\(thr v w).lb=0)) (fun a=>.t [.g [.Z (a.2) (a.1.la),.Z (a.2) (a.1.lb),.Z (a.2) (a.1.lc)],.c (.v (.int .i64 ((if a.2=true then (0:Int) else 6))))]):=by
 refine a1J (show ((True/\True/\szR v.vy+szR w.vy <= 500000)/\((True/\True/\szR w.vx+szR v.vx <= 500000)/\((True/\True)/\(((((Rt.sg (a1C v.vy w.vy)) == (0:Int)) == true)=true->(True/\True))/\(((aPn v w)=true->(∃ a:Lx × Bool,((aPm a v w)/\((aKN/\((a.2=false)/\(aKN/\((a.2=false)/\(aKN/\((a.2=false)/\True))))))/\((Value.int .i64 (6:Int)=(.int .i64 (if a.2=true then (0:Int) else 6)))/\True)))))/\((aPn v w)=false->((True/\True/\szR (a1C v.vy w.vy)+szR v.vx <= 500000)/\((True/\True/\szR (a1C w.vx v.vx)+szR v.vy <= 500000)/\((True/\True/\szR (a0J (a1C v.vy w.vy) v.vx)+szR (a0J (a1C w.vx v.vx) v.vy) <= 500000)/\(∃ a:Lx × Bool,((aPm a v w)/\(((a.2=true)/\(((a1C v.vy w.vy)=a.1.la)/\((a.2=true)/\(((a1C w.vx v.vx)=a.1.lb)/\((a.2=true)/\(((a2A (a0J (a1C v.vy w.vy) v.vx) (a0J (a1C w.vx v.vx) v.vy))=a.1.lc)/\True))))))/\((Value.int .i64 (0:Int)=(.int .i64 (if a.2=true then (0:Int) else 6)))/\True)))))))))))))=_ by kernel_rfl) ?_
 delta aPm aPn aKN
 simp only [true_and,and_true,aA5,aJP,Value.int.injEq,beq_true,implies_true]
 obtain ⟨⟨v1,v2⟩,w1,w2⟩:=hp
 have a1:szR (a1C v.vy w.vy) <= 7:=by have:=a2V v.vy w.vy; unfold a1C; omega
 have a2:szR (a1C w.vx v.vx) <= 7:=by have:=a2V w.vx v.vx; unfold a1C; omega
 have m1:szR (a0J (a1C v.vy w.vy) v.vx) <= 10:=by have:=a0L (a1C v.vy w.vy) v.vx; unfold a0J; omega
 have m2:szR (a0J (a1C w.vx v.vx) v.vy) <= 10:=by have:=a0L (a1C w.vx v.vx) v.vy; unfold a0J; omega
 refine ⟨by omega,by omega,fun h=>⟨(⟨0,0,0⟩,false),⟨fun h=>(by cases h),fun _=>?_⟩,⟨rfl,rfl,rfl⟩,rfl⟩,fun h=>⟨by omega,by omega,by omega,(thr v w,true),⟨fun _=>⟨rfl,?_⟩,fun h=>(by cases h)⟩,⟨rfl,rfl,rfl,rfl,rfl,rfl⟩,rfl⟩⟩
 ·exact ⟨Rt.a2F.1 (eq_of_beq h.1),Rt.a2F.1 (eq_of_beq h.2)⟩
 ·by_cases h0:v.vy - w.vy=0
  ·right
   intro h1
   have e1:(Rt.sg (a1C v.vy w.vy) == 0)=true:=by rw [show a1C v.vy w.vy=0 from h0]; rfl
   have e2:=h e1
   rw [show a1C w.vx v.vx=0 from h1] at e2
   cases e2
  ·exact .inl h0
def a3I:Ctr:=⟨310,fun | [.g v_,.g w_]=>(match rdV v_,rdV w_ with | some (qv,v),some (qw,w)=>.ex (Lx × Bool) (qv/\qw/\(szR v.vx <= 3/\szR v.vy <= 3)/\szR w.vx <= 3/\szR w.vy <= 3) (fun a=>(a.2=true->a.1=thr v w/\(a.1.la ≠ 0 \/ a.1.lb ≠ 0))/\(a.2=false->(thr v w).la=0/\(thr v w).lb=0)) (fun a=>.t [.g [.Z (a.2) (a.1.la),.Z (a.2) (a.1.lb),.Z (a.2) (a.1.lc)],.c (.v (.int .i64 ((if a.2=true then (0:Int) else 6))))]) | _,_=>.no) | _=>.no⟩
theorem a7O:CtrOK Tryz.prog a3I:=.ofEx (by kernel_rfl) (fun bs w xs vs α pre φ r hr hA hG h hp=>by
 simp only [a3I] at h
 split at h
 ·rename_i v_ w_
  split at h
  ·rename_i qv v qw w ev ew
   cases h
   obtain ⟨kkv,kkw,hp⟩:=hp
   exact a2U mixed a2s aHy Tryz.func310 (by kernel_rfl) ((a1E (a8L ev kkv) (a1E (a8L ew kkw) a3E)) vs hr) hA hG rfl (fun _=>rfl) (aAX v w hp)
  ·cases h
 ·cases h) (fun xs pre r=>by simp only [a3I]; split <;> (try split) <;> (intro h; cases h))
def aD8:Ctr:=⟨310,fun | [.g v_,.g w_]=>(match rdV v_,rdV w_ with | some (qv,v),some (qw,w)=>.yes (qv/\qw/\((szR v.vx <= 3/\szR v.vy <= 3)/\szR w.vx <= 3/\szR w.vy <= 3)/\((thr v w).la ≠ 0 \/ (thr v w).lb ≠ 0)) (.t [.g [.R (thr v w).la,.R (thr v w).lb,.R (thr v w).lc],.c (.v (.int .i64 0))]) | _,_=>.no) | _=>.no⟩
def aD7:Ctr:=⟨310,fun | [.g v_,.g w_]=>(match rdV v_,rdV w_ with | some (qv,v),some (qw,w)=>.yes (qv/\qw/\((szR v.vx <= 3/\szR v.vy <= 3)/\szR w.vx <= 3/\szR w.vy <= 3)/\(thr v w).la=0/\(thr v w).lb=0) (.t [.g [.v (.bool false),.sl [],.v (.bool false),.sl [],.v (.bool false),.sl [],.v (.bool false),.sl [],.v (.bool false),.sl [],.v (.bool false),.sl []],.c (.v (.int .i64 6))]) | _,_=>.no) | _=>.no⟩
theorem aND:CtrOK Tryz.prog aD8:=.of (by kernel_rfl) (fun bs W xs vs pre r hr hA hG h hp=>by
 simp only [aD8] at h
 split at h
 ·rename_i v_ w_
  split at h
  ·rename_i qv v qw w ev ew
   cases h
   obtain ⟨kv,kw,hp,hne⟩:=hp
   have hsp:a3I.sp [.g v_,.g w_]=.ex (Lx × Bool) (qv/\qw/\(szR v.vx <= 3/\szR v.vy <= 3)/\szR w.vx <= 3/\szR w.vy <= 3) (fun a=>(a.2=true->a.1=thr v w/\(a.1.la ≠ 0 \/ a.1.lb ≠ 0))/\(a.2=false->(thr v w).la=0/\(thr v w).lb=0)) (fun a=>.t [.g [.Z (a.2) (a.1.la),.Z (a.2) (a.1.lb),.Z (a.2) (a.1.lc)],.c (.v (.int .i64 ((if a.2=true then (0:Int) else 6))))]):=by simp only [a3I,ev,ew]
   refine (a7O.ex bs W [.g v_,.g w_] vs _ _ _ _ hr hA hG hsp ⟨kv,kw,hp⟩).mono ?_
   rintro e w2 ⟨u,rfl,hx,⟨L,b⟩,hf,hu⟩
   cases b with
   | false =>
     obtain ⟨z1,z2⟩:=hf.2 rfl
     rcases hne with h | h
     ·exact absurd z1 h
     ·exact absurd z2 h
   | true =>
     obtain ⟨rfl,_⟩:=hf.1 rfl
     obtain ⟨us,rfl,hk⟩:=hu
     match us,hk with
     | [u1,u2],⟨k1,k2,_⟩=>exact ⟨_,rfl,hx,_,rfl,a8c (by rfl) k1,k2,trivial⟩
  ·cases h
 ·cases h) (fun xs α pre φ r=>by simp only [aD8]; split <;> (try split) <;> (intro h; cases h))
theorem aNC:CtrOK Tryz.prog aD7:=.of (by kernel_rfl) (fun bs W xs vs pre r hr hA hG h hp=>by
 simp only [aD7] at h
 split at h
 ·rename_i v_ w_
  split at h
  ·rename_i qv v qw w ev ew
   cases h
   obtain ⟨kv,kw,hp,z1,z2⟩:=hp
   have hsp:a3I.sp [.g v_,.g w_]=.ex (Lx × Bool) (qv/\qw/\(szR v.vx <= 3/\szR v.vy <= 3)/\szR w.vx <= 3/\szR w.vy <= 3) (fun a=>(a.2=true->a.1=thr v w/\(a.1.la ≠ 0 \/ a.1.lb ≠ 0))/\(a.2=false->(thr v w).la=0/\(thr v w).lb=0)) (fun a=>.t [.g [.Z (a.2) (a.1.la),.Z (a.2) (a.1.lb),.Z (a.2) (a.1.lc)],.c (.v (.int .i64 ((if a.2=true then (0:Int) else 6))))]):=by simp only [a3I,ev,ew]
   refine (a7O.ex bs W [.g v_,.g w_] vs _ _ _ _ hr hA hG hsp ⟨kv,kw,hp⟩).mono ?_
   rintro e w2 ⟨u,rfl,hx,⟨L,b⟩,hf,hu⟩
   cases b with
   | false =>
     obtain ⟨us,rfl,hk⟩:=hu
     match us,hk with
     | [u1,u2],⟨k1,k2,_⟩=>exact ⟨_,rfl,hx,_,rfl,a8c (by rfl) k1,k2,trivial⟩
   | true =>
     obtain ⟨rfl,h⟩:=hf.1 rfl
     rcases h with h | h
     ·exact absurd z1 h
     ·exact absurd z2 h
  ·cases h
 ·cases h) (fun xs α pre φ r=>by simp only [aD7]; split <;> (try split) <;> (intro h; cases h))
def b0X:List Ctr:=WF0 ++ [aD8]
theorem aYd:∀ c ∈ b0X,CtrOK Tryz.prog c:=a0O aHy (a03 aND (a2L))
def b0W:List Ctr:=WF0 ++ [aD7]
theorem aYc:∀ c ∈ b0W,CtrOK Tryz.prog c:=a0O aHy (a03 aNC (a2L))
def a3o:=(Value.bool false=.bool false/\([]:List Nat)=[]/\Value.bool false=.bool false/\([]:List Nat)=[])
def aFm:=(Value.bool false=(.bool false))
theorem aGL (v:Vx) (w:Vx) (hp:((szR v.vx <= 3/\szR v.vy <= 3)/\szR w.vx <= 3/\szR w.vy <= 3)/\((thr v w).la ≠ 0 \/ (thr v w).lb ≠ 0)):a1v LTL b0X [] Tryz.f196 (bd Tryz.f196) [.g (eV v),.g (eV w)] (fun a:Ux × Bool=>a.2=true->a.1=aBm v w/\(a.1.l.la ≠ 0 \/ a.1.l.lb ≠ 0)) (fun a=>.t [.g [.v (.bool (false)),.Z (a.2) (a.1.l.la),.Z (a.2) (a.1.l.lb),.Z (a.2) (a.1.l.lc),.Z (false) (a.1.k.kx),.Z (false) (a.1.k.ky),.Z (false) (a.1.k.kq),.v (.bool (false)),.Z (a.2) (a.1.f.a),.Z (a.2) (a.1.f.b),.Z (a.2) (a.1.f.c),.Z (a.2) (a.1.f.d),.Z (a.2) (a.1.f.e),.Z (a.2) (a.1.t.a),.Z (a.2) (a.1.t.b),.Z (a.2) (a.1.t.c),.Z (a.2) (a.1.t.d),.Z (a.2) (a.1.t.e)],.c (.v (.int .i64 ((if a.2=true then (0:Int) else 6))))]):=by
 refine a1J (show (((True/\True)/\(True/\True)/\((szR v.vx <= 3/\szR v.vy <= 3)/\szR w.vx <= 3/\szR w.vy <= 3)/\((thr v w).la ≠ 0 \/ (thr v w).lb ≠ 0))/\((((0) != (0:Int))=true->(∃ a:Ux × Bool,((a.2=true->a.1=aBm v w/\(a.1.l.la ≠ 0 \/ a.1.l.lb ≠ 0))/\((aFm/\(a3o/\((a.2=false)/\(a3o/\((a.2=false)/\(a3o/\((a.2=false)/\(a3o/\((false=false)/\(a3o/\((false=false)/\(a3o/\((false=false)/\(aFm/\(a3o/\((a.2=false)/\(a3o/\((a.2=false)/\(a3o/\((a.2=false)/\(a3o/\((a.2=false)/\(a3o/\((a.2=false)/\(a3o/\((a.2=false)/\(a3o/\((a.2=false)/\(a3o/\((a.2=false)/\(a3o/\((a.2=false)/\(a3o/\((a.2=false)/\True))))))))))))))))))))))))))))))))))/\((Value.int .i64 (6:Int)=(.int .i64 (if a.2=true then (0:Int) else 6)))/\True)))))/\(((0) != (0:Int))=false->(((True/\True)/\True)/\(((True/\True)/\True)/\(∃ a:Ux × Bool,((a.2=true->a.1=aBm v w/\(a.1.l.la ≠ 0 \/ a.1.l.lb ≠ 0))/\((aFm/\((a.2=true)/\(((thr v w).la=a.1.l.la)/\((a.2=true)/\(((thr v w).lb=a.1.l.lb)/\((a.2=true)/\(((thr v w).lc=a.1.l.lc)/\(a3o/\((false=false)/\(a3o/\((false=false)/\(a3o/\((false=false)/\(aFm/\((a.2=true)/\(((a2f v).a=a.1.f.a)/\((a.2=true)/\(((a2f v).b=a.1.f.b)/\((a.2=true)/\(((a2f v).c=a.1.f.c)/\((a.2=true)/\(((a2f v).d=a.1.f.d)/\((a.2=true)/\(((a2f v).e=a.1.f.e)/\((a.2=true)/\(((a2f w).a=a.1.t.a)/\((a.2=true)/\(((a2f w).b=a.1.t.b)/\((a.2=true)/\(((a2f w).c=a.1.t.c)/\((a.2=true)/\(((a2f w).d=a.1.t.d)/\((a.2=true)/\(((a2f w).e=a.1.t.e)/\True))))))))))))))))))))))))))))))))))/\((Value.int .i64 (0:Int)=(.int .i64 (if a.2=true then (0:Int) else 6)))/\True)))))))))=_ by kernel_rfl) ?_
 delta aFm a3o
 simp only [true_and,and_true,Value.int.injEq]
 obtain ⟨hp,hne⟩:=hp
 refine ⟨⟨hp,hne⟩,fun h=>absurd h (by decide),fun _=>⟨(aBm v w,true),fun _=>⟨rfl,hne⟩,?_,rfl⟩⟩
 repeat' first | exact rfl | apply And.intro
def a2S:=(Value.bool false=.bool false/\([]:List Nat)=[]/\Value.bool false=.bool false/\([]:List Nat)=[])
def aFl:=(Value.bool false=(.bool false))
theorem aGK (v:Vx) (w:Vx) (hp:((szR v.vx <= 3/\szR v.vy <= 3)/\szR w.vx <= 3/\szR w.vy <= 3)/\(thr v w).la=0/\(thr v w).lb=0):a1v LTL b0W [] Tryz.f196 (bd Tryz.f196) [.g (eV v),.g (eV w)] (fun a:Ux × Bool=>a.2=true->a.1=aBm v w/\(a.1.l.la ≠ 0 \/ a.1.l.lb ≠ 0)) (fun a=>.t [.g [.v (.bool (false)),.Z (a.2) (a.1.l.la),.Z (a.2) (a.1.l.lb),.Z (a.2) (a.1.l.lc),.Z (false) (a.1.k.kx),.Z (false) (a.1.k.ky),.Z (false) (a.1.k.kq),.v (.bool (false)),.Z (a.2) (a.1.f.a),.Z (a.2) (a.1.f.b),.Z (a.2) (a.1.f.c),.Z (a.2) (a.1.f.d),.Z (a.2) (a.1.f.e),.Z (a.2) (a.1.t.a),.Z (a.2) (a.1.t.b),.Z (a.2) (a.1.t.c),.Z (a.2) (a.1.t.d),.Z (a.2) (a.1.t.e)],.c (.v (.int .i64 ((if a.2=true then (0:Int) else 6))))]):=by
 refine a1J (show (((True/\True)/\(True/\True)/\((szR v.vx <= 3/\szR v.vy <= 3)/\szR w.vx <= 3/\szR w.vy <= 3)/\(thr v w).la=0/\(thr v w).lb=0)/\((((6) != (0:Int))=true->(∃ a:Ux × Bool,((a.2=true->a.1=aBm v w/\(a.1.l.la ≠ 0 \/ a.1.l.lb ≠ 0))/\((aFl/\(a2S/\((a.2=false)/\(a2S/\((a.2=false)/\(a2S/\((a.2=false)/\(a2S/\((false=false)/\(a2S/\((false=false)/\(a2S/\((false=false)/\(aFl/\(a2S/\((a.2=false)/\(a2S/\((a.2=false)/\(a2S/\((a.2=false)/\(a2S/\((a.2=false)/\(a2S/\((a.2=false)/\(a2S/\((a.2=false)/\(a2S/\((a.2=false)/\(a2S/\((a.2=false)/\(a2S/\((a.2=false)/\(a2S/\((a.2=false)/\True))))))))))))))))))))))))))))))))))/\((Value.int .i64 (6:Int)=(.int .i64 (if a.2=true then (0:Int) else 6)))/\True)))))/\(((6) != (0:Int))=false->(((True/\True)/\True)/\(((True/\True)/\True)/\(∃ a:Ux × Bool,((a.2=true->a.1=aBm v w/\(a.1.l.la ≠ 0 \/ a.1.l.lb ≠ 0))/\((aFl/\(a2S/\((a.2=false)/\(a2S/\((a.2=false)/\(a2S/\((a.2=false)/\(a2S/\((false=false)/\(a2S/\((false=false)/\(a2S/\((false=false)/\(aFl/\((a.2=true)/\(((a2f v).a=a.1.f.a)/\((a.2=true)/\(((a2f v).b=a.1.f.b)/\((a.2=true)/\(((a2f v).c=a.1.f.c)/\((a.2=true)/\(((a2f v).d=a.1.f.d)/\((a.2=true)/\(((a2f v).e=a.1.f.e)/\((a.2=true)/\(((a2f w).a=a.1.t.a)/\((a.2=true)/\(((a2f w).b=a.1.t.b)/\((a.2=true)/\(((a2f w).c=a.1.t.c)/\((a.2=true)/\(((a2f w).d=a.1.t.d)/\((a.2=true)/\(((a2f w).e=a.1.t.e)/\True))))))))))))))))))))))))))))))))))/\((Value.int .i64 (0:Int)=(.int .i64 (if a.2=true then (0:Int) else 6)))/\True)))))))))=_ by kernel_rfl) ?_
 delta aFl a2S
 simp only [true_and,and_true,Value.int.injEq]
 obtain ⟨hp,hz⟩:=hp
 refine ⟨⟨hp,hz⟩,fun _=>⟨(aBm v w,false),fun h=>(by cases h),?_,rfl⟩,fun h=>absurd h (by decide)⟩
 repeat' first | exact rfl | apply And.intro
def a6r:Ctr:=⟨196,fun | [.g v_,.g w_]=>(match rdV v_,rdV w_ with | some (qv,v),some (qw,w)=>.ex (Ux × Bool) (qv/\qw/\(szR v.vx <= 3/\szR v.vy <= 3)/\szR w.vx <= 3/\szR w.vy <= 3) (fun a=>a.2=true->a.1=aBm v w/\(a.1.l.la ≠ 0 \/ a.1.l.lb ≠ 0)) (fun a=>.t [.g [.v (.bool (false)),.Z (a.2) (a.1.l.la),.Z (a.2) (a.1.l.lb),.Z (a.2) (a.1.l.lc),.Z (false) (a.1.k.kx),.Z (false) (a.1.k.ky),.Z (false) (a.1.k.kq),.v (.bool (false)),.Z (a.2) (a.1.f.a),.Z (a.2) (a.1.f.b),.Z (a.2) (a.1.f.c),.Z (a.2) (a.1.f.d),.Z (a.2) (a.1.f.e),.Z (a.2) (a.1.t.a),.Z (a.2) (a.1.t.b),.Z (a.2) (a.1.t.c),.Z (a.2) (a.1.t.d),.Z (a.2) (a.1.t.e)],.c (.v (.int .i64 ((if a.2=true then (0:Int) else 6))))]) | _,_=>.no) | _=>.no⟩
theorem aDX:CtrOK Tryz.prog a6r:=.ofEx (by kernel_rfl) (fun bs W xs vs α pre φ r hr hA hG h hp=>by
 simp only [a6r] at h
 split at h
 ·rename_i v_ w_
  split at h
  ·rename_i qv v qw w ev ew
   cases h
   obtain ⟨kkv,kkw,hp⟩:=hp
   by_cases hne:(thr v w).la ≠ 0 \/ (thr v w).lb ≠ 0
   ·exact a2U mixed a2s aYd Tryz.func196 (by kernel_rfl) ((a1E (a8L ev kkv) (a1E (a8L ew kkw) a3E)) vs hr) hA hG rfl (fun _=>rfl) (aGL v w ⟨hp,hne⟩)
   ·have hz:(thr v w).la=0/\(thr v w).lb=0:=⟨Classical.byContradiction fun h=>hne (.inl h),Classical.byContradiction fun h=>hne (.inr h)⟩
    exact a2U mixed a2s aYc Tryz.func196 (by kernel_rfl) ((a1E (a8L ev kkv) (a1E (a8L ew kkw) a3E)) vs hr) hA hG rfl (fun _=>rfl) (aGK v w ⟨hp,hz⟩)
  ·cases h
 ·cases h) (fun xs pre r=>by simp only [a6r]; split <;> (try split) <;> (intro h; cases h))
def WG1:List Ctr:=WF0 ++ [a6r]
theorem aVV:∀ c ∈ WG1,CtrOK Tryz.prog c:=a0O aHy (a03 aDX (a2L))
def aCd (x1:List Ux × Nat) (l:List Vx):=(0 <= ((x1.2:Nat):Int)+(1:Int)/\0 < (l.length:Int))
def a7r (x1:List Ux × Nat):=(((x1.2:Nat):Int)+(1:Int))
def aPl (e2:Ux × Bool) (x1:List Ux × Nat) (l:List Vx) (p_:Ux):=(((((if e2.2=true then (0:Int) else 6) == (0:Int))=true->(((((e2.2=(!false))/\((e2.2=(!false))/\(e2.2=(!false))))/\(((false=false)/\((false=false)/\(false=false)))/\(((e2.2=true)/\((e2.2=true)/\((e2.2=true)/\((e2.2=true)/\(e2.2=true)))))/\((e2.2=true)/\((e2.2=true)/\((e2.2=true)/\((e2.2=true)/\(e2.2=true))))))))/\True)/\((x1.1.length+([Ux.mk false p_.l p_.k false p_.f p_.t]:List Ux).length <= 10000000)/\((inR .i64 (a7r x1))/\(∃ y1:List Ux × Nat,((PoI l y1.1 y1.2)/\((l.length - y1.2 < l.length - x1.2)/\(((l=l)/\(((x1.1 ++ ([Ux.mk false p_.l p_.k false p_.f p_.t]:List Ux))=y1.1)/\((Value.int .i64 (a7r x1)=(.int .i64 ((y1.2:Nat):Int)))/\True)))/\True))))))))/\(((if e2.2=true then (0:Int) else 6) == (0:Int))=false->((inR .i64 (a7r x1))/\(∃ y1:List Ux × Nat,((PoI l y1.1 y1.2)/\((l.length - y1.2 < l.length - x1.2)/\(((l=l)/\((x1.1=y1.1)/\((Value.int .i64 (a7r x1)=(.int .i64 ((y1.2:Nat):Int)))/\True)))/\True)))))))/\True)
def aCe (x1:List Ux × Nat) (l:List Vx):=(0 <= (a7r x1) % (l.length:Int)/\(a7r x1) % (l.length:Int) < (l.length:Int))
def aFk (l:List Vx) (x1:List Ux × Nat):=(l.getD (((a7r x1) % (l.length:Int)).toNat) (⟨0,0⟩:Vx))
def aFj (l:List Vx) (x1:List Ux × Nat):=(l.getD (((x1.2:Nat):Int).toNat) (⟨0,0⟩:Vx))
def aPk (l:List Vx) (x1:List Ux × Nat):=((True/\True)/\(True/\True)/\(szR (aFj l x1).vx <= 3/\szR (aFj l x1).vy <= 3)/\szR (aFk l x1).vx <= 3/\szR (aFk l x1).vy <= 3)
def a7s (l:List Vx) (x1:List Ux × Nat):=((((aPk l x1)/\(∀ e2:Ux × Bool,((e2.2=true->e2.1=aBm (aFj l x1) (aFk l x1)/\(e2.1.l.la ≠ 0 \/ e2.1.l.lb ≠ 0))->(aPl e2 x1 l e2.1))))/\True)/\True)
def aKM (l:List Vx) (x1:List Ux × Nat):=((((aPk l x1)/\(∀ e2:Ux × Bool,((e2.2=true->e2.1=aBm (aFj l x1) (aFk l x1)/\(e2.1.l.la ≠ 0 \/ e2.1.l.lb ≠ 0))->((aPl e2 x1 l e2.1)/\True))))/\(a7s l x1))/\((a7s l x1)/\True))
theorem aAL (l:List Vx) (hp:(∀ v ∈ l,okV v)/\l.length <= 2000000):aOP LTL WG1 [.inv 3 (List Ux × Nat) (fun ξ=>⟨[.k (.c (.rd .V (false) (l))),.u,.u,.k (.c (.ow 0 52 .U (ξ.1))),.k (.c (.v (.int .i64 (((ξ.2:Nat):Int))))),.u,.u,.u,.u,.u,.u,.u,.u,.u,.u,.u,.u,.u,.u,.u,.u,.u,.u,.u,.u,.u,.u,.u,.u,.u,.u,.u,.u,.u,.u,.u],[]⟩) (fun _ ξ=>PoI l ξ.1 ξ.2) (fun ξ=>l.length - ξ.2),.cut 5 2000] Tryz.f107 (bd Tryz.f107) [.c (.rd .V (false) (l))] 52 (fun a=>(∀ u ∈ a,aYf l u)/\a.length <= l.length):=by
 refine aSL (show ((∃ x1:List Ux × Nat,((PoI l x1.1 x1.2)/\(((l=l)/\((x1.1=[])/\((Value.int .i64 (0:Int)=(.int .i64 ((x1.2:Nat):Int)))/\True)))/\True)))/\(∀ x1:List Ux × Nat,((PoI l x1.1 x1.2)->(((decide (((x1.2:Nat):Int) < (l.length:Int)))=true->((0 <= ((x1.2:Nat):Int)/\((x1.2:Nat):Int) < (l.length:Int))/\((inR .i64 (a7r x1))/\((((aCd x1 l)/\((aCe x1 l)/\(aKM l x1)))/\((((aCd x1 l)/\((aCe x1 l)/\(a7s l x1)))/\True)/\True))/\(((aCd x1 l)/\((aCe x1 l)/\((aKM l x1)/\((aKM l x1)/\(((a7s l x1)/\((a7s l x1)/\True))/\True)))))/\(((((aCd x1 l)/\((aCe x1 l)/\(a7s l x1)))/\True)/\(((aCd x1 l)/\((aCe x1 l)/\((a7s l x1)/\((a7s l x1)/\True))))/\True))/\True))))))/\((decide (((x1.2:Nat):Int) < (l.length:Int)))=false->((∀ u ∈ x1.1,aYf l u)/\x1.1.length <= l.length))))))=_ by kernel_rfl) ?_
 delta aKM a7s aPk aFj aFk aCe aPl a7r aCd
 simp only [true_and,and_true,Int.toNat_natCast,Value.int.injEq,decide_eq_true_eq,decide_eq_false_iff_not,Int.natCast_nonneg,Int.ofNat_lt]
 obtain ⟨hl,hn⟩:=hp
 refine ⟨⟨([],0),⟨fun u hu=>(by simp at hu),Nat.le_refl _,Nat.zero_le _⟩,rfl,rfl⟩,fun x1 h1=>⟨fun hlt=>?_,fun hge=>⟨h1.ho,by have:=h1.hn; have:=h1.hi; omega⟩⟩⟩
 have i1:=h1.hi
 have i2:=h1.hn
 have r1:=Int.emod_nonneg ((x1.2:Int)+1) (show (l.length:Int) ≠ 0 by omega)
 have r2:=Int.emod_lt_of_pos ((x1.2:Int)+1) (show (0:Int) < (l.length:Int) by omega)
 generalize ((x1.2:Int)+1) % (l.length:Int)=m at *
 have mv:l.getD x1.2 ⟨0,0⟩ ∈ l:=a1k hlt
 have mw:l.getD m.toNat ⟨0,0⟩ ∈ l:=a1k (by omega)
 have ov:=hl _ mv
 have ow:=hl _ mw
 have hin:inR .i64 ((x1.2:Int)+1):=by unfold inR; omega
 repeat' apply And.intro
 all_goals try omega
 all_goals try exact hin
 all_goals try exact ov.1
 all_goals try exact ov.2
 all_goals try exact ow.1
 all_goals try exact ow.2
 all_goals
  intro e2 h2
  refine ⟨fun hc=>?_,fun hc=>⟨hin,(x1.1,x1.2+1),⟨h1.ho,by dsimp only; omega,hlt⟩,by dsimp only; omega,rfl,by simp⟩⟩
  have hb:e2.2=true:=by cases h:e2.2 <;> simp_all
  obtain ⟨s1,s2⟩:=h2 hb
  refine ⟨?_,by simp only [List.length_cons,List.length_nil]; omega,hin,(x1.1 ++ [Ux.mk false e2.1.l e2.1.k false e2.1.f e2.1.t],x1.2+1),⟨fun u hu=>?_,by simp only [List.length_append,List.length_cons,List.length_nil]; omega,hlt⟩,by dsimp only; omega,rfl,by simp⟩
  ·rw [hb]; simp
  ·rcases List.mem_append.1 hu with hu | hu
   ·exact h1.ho u hu
   ·rw [s1] at s2
    rw [List.mem_singleton.1 hu,s1]
    exact ⟨_,mv,_,mw,rfl,s2⟩
def a6q:Ctr:=⟨107,fun | [.c (.rd .V _ l)]=>.ex (List Ux) ((∀ v ∈ l,okV v)/\l.length <= 2000000) (fun a=>(∀ u ∈ a,aYf l u)/\a.length <= l.length) (fun a=>.k (.c (.rd .U false a))) | _=>.no⟩
theorem aDL:CtrOK Tryz.prog a6q:=.ofOwn (T:=52) (by kernel_rfl) (by rfl) (fun bs w xs vs α pre φ r hr hA hG h hp=>by
 simp only [a6q] at h
 split at h
 ·rename_i fll l
  cases h
  refine (aDB mixed a2s aVV Tryz.func107 (by kernel_rfl) ((aKl a3E) vs hr) hA hG rfl (aAL l hp)).mono ?_
  rintro e w' ⟨v,e1,e2,m,ob,e3,e4⟩
  exact ⟨v,e1,e2,m,m,ob,e3,rfl,e4⟩
 ·cases h) (fun xs pre r=>by simp only [a6q]; split <;> (intro h; cases h))
end Vc
end Go.Proofs.YtbohkigffejhoaaGreat
namespace Go.Proofs.YtbohkigffejhoaaGreat
open Go.RowKit
namespace Vc
def b0P (ops:List Oper) (g:Nat):Option Nat :=
 match ops[g]? with
 | some o=>o.dst
 | none=>none
def b0e (s:St) (t:Nat) (b:Bool):St:={ s with tm:=s.tm.set t (.k (.c (.v (.bool b)))) }
def b1c (n:Nat):List Nat->Bool
 | []=>false
 | x :: l=>bif Nat.beq x n then true else b1c n l
def aMj (ops:List Oper) (s:St) (o:Oper):Option Bool :=
 match o.guard with
 | none=>some true
 | some (g,v) =>
   match b0P ops g with
   | none=>none
   | some t =>
     match s.tm[t]? with
     | some (.k (.c (.v (.bool b))))=>some (bif b then v else !v)
     | _=>none
def aYB (ops:List Oper) (kn:List Nat) (i:Nat):Bool :=
 match ops[i]? with
 | some o=>(match o.guard with | some (g,_)=>!b1c g kn | none=>false)
 | none=>false
def aYL (ops:List Oper) (ls:Array Bool) (s:St) (i:Nat):Bool :=
 match ops[i]? with
 | some o=>(match aMj ops s o with | some b=>bif b then false else aHo ops ls i o | none=>false)
 | none=>false
def aYZ (L:List Lay) (ops:List Oper) (ls:Array Bool) (s:St) (i:Nat):Bool :=
 match ops[i]? with
 | some o=>(match aMj ops s o with | some b=>bif b then b0f true L (evS s) o.op && aHo ops ls i o else false | none=>false)
 | none=>false
def aY1 (s:St):Op->Option AV
 | .pick c x y =>
   match evS s c with
   | .k (.c (.v (.bool b)))=>some (bif b then evS s x else evS s y)
   | _=>none
 | _=>none
def aY2 (ops:List Oper) (ls:Array Bool) (s:St) (i:Nat):Bool :=
 match ops[i]? with
 | some o =>
   (match o.op with
   | .pick _ _ _=>(match aMj ops s o with | some b=>bif b then aHo ops ls i o else false | none=>false)
   | _=>false)
 | none=>false
abbrev bare (o:Oper):Oper:={ o with guard:=none }
def aBd (L:List Lay) (C:List Ctr) (ops:List Oper) (K:St->Prop):Nat->Nat->Array Bool->List Nat->St->Prop
 | 0,_,_,_,_=>False
 | e+1,d,ls,kn,s =>
   match d with
   | 0=>bif (Region.ready .any ops.toArray ls).isEmpty then K s else False
   | d+1 =>
     bif (Region.ready .any ops.toArray ls).isEmpty then False
     else match a8T (aYB ops kn) (Region.ready .any ops.toArray ls) with
      | some i =>
        match ops[i]? with
        | some o =>
          match o.guard with
          | some (g,_) =>
            match b0P ops g with
            | some t =>
              match s.tm[t]? with
              | some (.k (.c (.v (.bool x))))=>(x=true->aBd L C ops K e (d+1) ls (g :: kn) (b0e s t true))/\(x=false->aBd L C ops K e (d+1) ls (g :: kn) (b0e s t false))
              | _=>False
            | none=>False
          | none=>False
        | none=>False
      | none =>
        match a8T (aYL ops ls s) (Region.ready .any ops.toArray ls) with
        | some i =>
          match ops[i]? with
          | some o=>aBd L C ops K e d (ls.setIfInBounds i true) kn (a4S s o.dst .u)
          | none=>False
        | none =>
        match a8T (aY2 ops ls s) (Region.ready .any ops.toArray ls) with
        | some i =>
          match ops[i]? with
          | some o =>
            match aY1 s o.op with
            | some r=>aBd L C ops K e d (ls.setIfInBounds i true) kn (a4S s o.dst r)
            | none=>False
          | none=>False
        | none =>
          match a8T (aYZ L ops ls s) (Region.ready .any ops.toArray ls) with
          | some i =>
            match ops[i]? with
            | some o =>
              match a2z L s.bx (evS s) o.op with
              | some (pre,r)=>owe pre (aBd L C ops K e d (ls.setIfInBounds i true) kn (a4S s o.dst r))
              | none=>False
            | none=>False
          | none=>aTF (fun i=>match ops[i]? with
              | some o =>
                match aMj ops s o with
                | some b=>bif b then aop L C (bare o) s fun s'=>aBd L C ops K e d (ls.setIfInBounds i true) kn s' else False
                | none=>False
              | none=>False) (Region.ready .any ops.toArray ls)
section
variable {P:Program} {L:List Lay} {C:List Ctr} {I:List LI} {W0:World} {F:List (Option Nat)}
theorem a5p {l:List Oper} {s:St} {bs:Bs} {a:Act} {w:World} (hR:Rl W0 F bs s a w) {o:Oper} {b:Bool} (h:aMj l s o=some b):Region.wanted o (yielded l.toArray a.tmps)=b:=by
 unfold aMj at h
 unfold Region.wanted
 cases hg:o.guard with
 | none =>
   rw [hg] at h
   simpa using h
 | some gv =>
   obtain ⟨g,v⟩:=gv
   rw [hg] at h
   simp only at h
   split at h <;> try (cases h; done)
   rename_i t ht
   split at h <;> try (cases h; done)
   rename_i x hx
   unfold b0P at ht
   split at ht <;> try (cases ht; done)
   rename_i og hog
   have hv:relV bs w (.k (.c (.v (.bool x)))) (a.tmps.getD t undef):=hR.tmp t _ hx
   have hlt:t < a.tmps.size:=by rw [<- hR.tl]; exact (List.getElem?_eq_some_iff.1 hx).1
   have e:a.tmps[t]?=some (.bool x):=by
    have:a.tmps.getD t undef=.bool x:=hv.1
    rw [Array.getElem?_eq_getElem hlt]
    rw [Array.getD,dif_pos hlt] at this
    exact congrArg some this
   have hy:yielded l.toArray a.tmps g=some x:=by
    unfold yielded
    simp [hog,ht,e]
   simp only [hy]
   cases x <;> cases v <;> simp_all
theorem aEN {s:St} {t:Nat} {x:Bool} (h:s.tm[t]?=some (.k (.c (.v (.bool x))))):b0e s t x=s:=by
 unfold b0e
 have:s.tm.set t (.k (.c (.v (.bool x))))=s.tm:=by
  apply List.ext_getElem?
  intro i
  rw [List.getElem?_set]
  split
  ·rename_i hi
   subst hi
   split
   ·exact h.symm
   ·rename_i hl
    rw [List.getElem?_eq_none (by omega)] at h
    cases h
  ·rfl
 rw [this]
theorem aJZ (hz:none ∉ F) (hL:∀ l ∈ L,a14 P l) (hC:∀ c ∈ C,CtrOK P c) {Q:Exit->Act->World->Prop} {l:List Oper} {K:St->Prop} (hns:Region.noSelect l.toArray=true) (hp:∀ c a w,¬ Q (.panic c) a w) (hk:∀ s' bs' a' w',K s'->Rl W0 F bs' s' a' w'->Q .normal a' w') :
    ∀ (e d:Nat) (ls:Array Bool) (kn:List Nat) (s:St) (bs:Bs) (a:Act) (w:World),aBd L C l K e d ls kn s->Rl W0 F bs s a w->wpAny P .any l.toArray Q d ls a w:=by
 intro e
 induction e with
 | zero=>intro d ls kn s bs a w h hR; unfold aBd at h; exact h.elim
 | succ e ih =>
   intro d ls kn s bs a w h hR
   unfold aBd at h
   cases d with
   | zero =>
     simp only at h
     cases he:(Region.ready .any l.toArray ls).isEmpty with
     | false=>rw [he] at h; exact h.elim
     | true =>
       rw [he] at h
       exact ⟨List.isEmpty_iff.1 he,hk _ _ _ _ h hR⟩
   | succ d =>
     simp only at h
     cases hr:(Region.ready .any l.toArray ls).isEmpty with
     | true=>rw [hr] at h; exact h.elim
     | false =>
       rw [hr] at h
       simp only [cond_false] at h
       have aparts:∀ {i:Nat} {o:Oper},aHo l ls i o=true->∀ j oj,l.toArray[j]?=some oj->j ≠ i->ls.getD j true=false->(∀ e ∈ oj.after,Region.binds .any e=true->e.on ≠ i)->o.apart l.toArray oj=true:=fun {i o} hap j oj hoj hji hun hno=>by
        have h5:=a7S hap (j:=j) (o:=oj) (by simpa using hoj)
        simp only [Nat.zero_add,Bool.or_eq_true] at h5
        rcases h5 with ((h5 | h5) | h5) | h5
        ·exact absurd (Nat.eq_of_beq_eq_true h5) hji
        ·rw [hun] at h5; cases h5
        ·obtain ⟨e,he,hb,hon⟩:=a5k.1 h5
         exact absurd hon (hno e he hb)
        ·exact h5
       split at h
       ·rename_i i hf
        split at h <;> try exact h.elim
        rename_i o ho
        split at h <;> try exact h.elim
        rename_i g v hg
        split at h <;> try exact h.elim
        rename_i t ht
        split at h <;> try exact h.elim
        rename_i x hx
        cases x with
        | true =>
          have h1:=h.1 rfl
          rw [aEN hx] at h1
          exact ih _ _ _ _ _ _ _ h1 hR
        | false =>
          have h1:=h.2 rfl
          rw [aEN hx] at h1
          exact ih _ _ _ _ _ _ _ h1 hR
       ·split at h
        ·rename_i i hf
         obtain ⟨hi,hpi⟩:=a4u hf
         split at h <;> try exact h.elim
         rename_i o ho
         unfold aYL at hpi
         rw [ho] at hpi
         simp only at hpi
         split at hpi <;> try (cases hpi; done)
         rename_i b hb
         cases b with
         | true=>simp at hpi
         | false =>
           simp only [cond_false] at hpi
           exact wpAny_first (by simpa using ho) (fun j o cs b ho=>Region.noSelect_spec hns j o cs b ho) (fun c a w hq=>absurd hq (hp _ _ _)) d ls a w (aparts hpi) hi (.inr ⟨a5p hR hb,rfl⟩) (ih _ _ _ _ _ _ _ h (hR.put (r:=.u) (v:=undef) trivial o.dst))
        ·split at h
         ·rename_i i hf
          obtain ⟨hi,hpi⟩:=a4u hf
          split at h <;> try exact h.elim
          rename_i o ho
          split at h <;> try exact h.elim
          rename_i r hpk
          unfold aY2 at hpi
          rw [ho] at hpi
          simp only at hpi
          split at hpi <;> try (cases hpi; done)
          rename_i c x y hop
          split at hpi <;> try (cases hpi; done)
          rename_i b hb
          cases b with
          | false=>simp at hpi
          | true =>
            simp only [cond_true] at hpi
            rw [hop] at hpk
            unfold aY1 at hpk
            simp only at hpk
            split at hpk <;> try (cases hpk; done)
            rename_i q hq
            simp only [Option.some.injEq] at hpk
            subst hpk
            have hc:=hR.ev c
            rw [hq] at hc
            have e1:a.eval c=.bool q:=hc.1
            obtain ⟨v,hv,h2⟩:∃ v,(∀ w',(execOp a.eval o).run P w'=.ok (.value v) w')/\relV bs w (bif q then evS s x else evS s y) v:=by
             cases q with
             | true=>exact ⟨a.eval x,fun w'=>by simp [execOp,hop,e1,asBool],hR.ev x⟩
             | false=>exact ⟨a.eval y,fun w'=>by simp [execOp,hop,e1,asBool],hR.ev y⟩
            exact wpAny_first (by simpa using ho) (fun j o cs b ho=>Region.noSelect_spec hns j o cs b ho) (fun c a w hq=>absurd hq (hp _ _ _)) d ls a w (aparts hpi) hi (.inl ⟨a5p hR hb,hv⟩) (ih _ _ _ _ _ _ _ h (hR.put h2 o.dst))
         split at h
         ·rename_i i hf
          obtain ⟨hi,hpi⟩:=a4u hf
          split at h <;> try exact h.elim
          rename_i o ho
          unfold aYZ at hpi
          rw [ho] at hpi
          simp only at hpi
          split at hpi <;> try (cases hpi; done)
          rename_i b hb
          cases b with
          | false=>simp at hpi
          | true =>
            simp only [cond_true,Bool.and_eq_true] at hpi
            split at h <;> try exact h.elim
            rename_i pre r har
            have hd:due pre/\aBd L C l K e d (ls.setIfInBounds i true) kn (a4S s o.dst r):=by
             cases pre with
             | none=>exact ⟨trivial,h⟩
             | some p=>exact h
            obtain ⟨v,hv⟩:=aOE hL hR.ev hpi.1 har hd.1
            obtain ⟨v',h1,h2⟩:=a4v hL hR.ev hR.box har hd.1
            rw [hv w] at h1
            obtain rfl:v=v':=by simpa using h1
            exact wpAny_first (by simpa using ho) (fun j o cs b ho=>Region.noSelect_spec hns j o cs b ho) (fun c a w hq=>absurd hq (hp _ _ _)) d ls a w (aparts hpi.2) hi (.inl ⟨a5p hR hb,hv⟩) (ih _ _ _ _ _ _ _ hd.2 (hR.put h2 o.dst))
         ·refine ⟨fun he=>(by rw [he] at hr; cases hr),fun i hi=>?_⟩
          have hx:=aAJ h i hi
          split at hx <;> try exact hx.elim
          rename_i o ho
          split at hx <;> try exact hx.elim
          rename_i b hb
          cases b with
          | false=>exact hx.elim
          | true =>
            simp only [cond_true] at hx
            obtain ⟨hg,h2⟩:=aL0 (Q:=Q) hz hL hC hx hR
            have hoa:l.toArray[i]?=some o:=by simpa using ho
            unfold wpOp
            simp only [hoa]
            rw [if_pos (a5p hR hb)]
            exact .inl (h2 _ fun s' bs' a' w' hK hR'=>ih _ _ _ _ _ _ _ hK hR')
def aX2 (L:List Lay) (C:List Ctr) (I:List LI) (Qa:AEx->St->Prop):Code->St->Prop
 | .seq (.region _ ops true) c,s=>bif Region.noSelect ops then aBd L C ops.toList (fun s'=>awp L C I c s' Qa) (2*ops.size+1) ops.size (Array.replicate ops.size false) [] s else False
 | _,_=>False
theorem aFR (hm:P.follows .mixedOrders=true) (hL:∀ l ∈ L,a14 P l) (hC:∀ c ∈ C,CtrOK P c) {c:Code} {s:St} {Qa:AEx->St->Prop} (h:aX2 L C I Qa c s) (W0:World):Good P W0 Qa c s:=fun F hz Q hk bs a w hR=>by
 unfold aX2 at h
 split at h <;> try exact h.elim
 rename_i id ops r
 obtain ⟨hns,h⟩:=a5l h
 refine wp_seq ?_
 have h1:=aJZ (Q:=fun e a w=>e=.normal/\r.wp P Q a w) hz hL hC (l:=ops.toList) (by simpa using hns) (fun c a w h=>by cases h.1) (fun s' bs' a' w' h hR=>⟨rfl,a2C hz hm hL hC r s' bs' a' w' Qa Q h hR hk⟩) _ ops.size (Array.replicate ops.size false) [] s bs a w.drew h (hR.later (Ext.refl w).drew)
 exact wp_mono (wp_region_any hm (by simpa using h1)) fun e a w h=>by
  obtain ⟨rfl,h⟩:=h
  exact h
end
end Vc
end Go.Proofs.YtbohkigffejhoaaGreat
namespace Go.Proofs.YtbohkigffejhoaaGreat
open Go.RowKit
set_option maxHeartbeats 4000000
namespace Vc
attribute [local irreducible] owes a1v
attribute [local irreducible] aX3 awp aX2
def c8 (i:Int):Prop:=-128 <= i/\i <= 127
def C8 (l:List (Int × Int)) (x y z:Int):Prop:=(∀ p ∈ l,c8 p.1/\c8 p.2)/\c8 x/\c8 y/\c8 z
structure CuI (l:List (Int × Int)) (out:List Vx) (i:Nat):Prop where
 ho:∀ v ∈ out,okV v
 hn:out.length=i
 hi:i <= l.length
def WG2:List Ctr:=WG1 ++ [a6q]
theorem aVU:∀ c ∈ WG2,CtrOK Tryz.prog c:=a0O aVV (a03 aDL (a2L))
def aKL (x:Int) (y:Int) (r:Int):=(Kx.mk ((x:Int):Rat) ((y:Int):Rat) ((r*r:Int):Rat))
theorem aBw (x:Int) (y:Int) (r:Int) (hp:(-128000 <= x/\x <= 128000)/\(-128000 <= y/\y <= 128000)/\0 < r/\r <= 128000):a1v LTL WG2 [] Tryz.f164 (bd Tryz.f164) [.c (.v (.int .i64 (x))),.c (.v (.int .i64 (y))),.c (.v (.int .i64 (r)))] (fun a:List Ux=>(∀ u ∈ a,a6W u)/\a.length <= 2) (fun a=>.k (.c (.rd .U (false) (a)))):=by
 refine a1J (show ((-9223372036854775808 <= (x:Int)/\(x:Int) <= 9223372036854775807)/\((-9223372036854775808 <= (y:Int)/\(y:Int) <= 9223372036854775807)/\((inR .i64 (r*r))/\((-9223372036854775808 <= (r*r:Int)/\(r*r:Int) <= 9223372036854775807)/\(((True/\(True/\True))/\okK (aKL x y r)/\0 <= (aKL x y r).kq)/\(∀ e1:List Ux,((e1=a6H (aKL x y r))->(∃ a:List Ux,(((∀ u ∈ a,a6W u)/\a.length <= 2)/\(e1=a))))))))))=_ by kernel_rfl) ?_
 delta aKL
 simp only [true_and,and_true]
 obtain ⟨⟨x1,x2⟩,⟨y1,y2⟩,r1,r2⟩:=hp
 have p1:=Int.mul_pos r1 r1
 have p2:r*r <= 128000*128000:=Int.mul_le_mul r2 r2 (by omega) (by omega)
 have hk:okK ⟨(x:Rat),(y:Rat),((r*r:Int):Rat)⟩:=⟨aSn (by omega),aSn (by omega),by
  have h1:=aOg (r*r)
  have h2:szI (r*r) <= 2:=a4D (by unfold Lb.B; omega)
  show szR ((r*r:Int):Rat) <= 3
  omega⟩
 have h0:(0:Rat) < ((r*r:Int):Rat):=Rat.intCast_pos.2 p1
 refine ⟨⟨by omega,by omega⟩,⟨by omega,by omega⟩,by unfold inR; omega,⟨by omega,by omega⟩,⟨hk,Rat.le_of_lt h0⟩,fun e1 h1=>⟨e1,⟨fun u hu=>aP0 hk h0 u (by rw [<- h1]; exact hu),by rw [h1]; exact Nat.le_refl _⟩,rfl⟩⟩
def aGu:Ctr:=⟨164,spE (rI.c (rI.c (rI.c r0))) (List Ux) (fun (x,y,r,_)=>(-128000 <= x/\x <= 128000)/\(-128000 <= y/\y <= 128000)/\0 < r/\r <= 128000) (fun _ a=>(∀ u ∈ a,a6W u)/\a.length <= 2) (fun _ a=>.k (.c (.rd .U (false) (a))))⟩
theorem aGt:CtrOK Tryz.prog aGu:=eOK a2s aVU Tryz.func164 fun x hp=>aBw x.1 x.2.1 x.2.2.1 hp
def WG3:List Ctr:=WG2 ++ [aGu]
theorem aVT:∀ c ∈ WG3,CtrOK Tryz.prog c:=a0O aVU (a03 aGt (a2L))
def a5f (l:List (Int × Int)) (x1:List Vx × Nat):=(l.getD (((x1.2:Nat):Int).toNat) ((0,0):Int × Int))
def aPj (l:List (Int × Int)) (x:Int) (y:Int) (z:Int):=(((false=false)/\((l=l)/\((Value.int .i8 x=(.int .i8 x))/\((Value.int .i8 y=(.int .i8 y))/\((Value.int .i8 z=(.int .i8 z))/\True)))))/\True)
theorem aBv (l:List (Int × Int)) (x:Int) (y:Int) (z:Int) (hp:C8 l x y z/\l.length <= 2000000):a1v LTL WG3 [.inv 3 (List Vx × Nat) (fun ξ=>⟨[.u,.k (.c (.bx 0 0)),.u,.u,.k (.c (.ow 0 73 .V (ξ.1))),.k (.c (.v (.int .i64 (((ξ.2:Nat):Int))))),.u,.u,.u,.u,.u,.u,.u,.u,.u,.u,.u,.u,.u,.u,.u,.u,.u,.u,.u,.u,.u,.u,.u,.u,.u,.u,.u,.u,.u,.u,.u,.u,.u,.u,.u,.u,.u,.u,.u,.u,.u,.u,.u,.u,.u,.u,.u,.u,.u,.u,.u,.u,.u,.u,.u,.u,.u],[⟨58,[.rd .C (false) (l),.v (.int .i8 (x)),.v (.int .i8 (y)),.v (.int .i8 (z))]⟩]⟩) (fun _ ξ=>CuI l ξ.1 ξ.2) (fun ξ=>l.length - ξ.2),.cut 5 19] Tryz.f84 (bd Tryz.f84) [.g [.rd .C (false) (l),.v (.int .i8 (x)),.v (.int .i8 (y)),.v (.int .i8 (z))]] (fun a:List Ux × Bool=>((∀ u ∈ a.1,a6W u)/\a.1.length <= l.length+2)/\a.2=decide (l.length <= 5)) (fun a=>.t [.c (.rd .U (false) (a.1)),.c (.v (.bool (a.2)))]):=by
 refine a1J (show ((∃ x1:List Vx × Nat,((CuI l x1.1 x1.2)/\((True/\((x1.1=[])/\((Value.int .i64 (0:Int)=(.int .i64 ((x1.2:Nat):Int)))/\True)))/\(aPj l x y z))))/\(∀ x1:List Vx × Nat,((CuI l x1.1 x1.2)->(((decide (((x1.2:Nat):Int) < (l.length:Int)))=true->((0 <= ((x1.2:Nat):Int)/\((x1.2:Nat):Int) < (l.length:Int))/\((inR .i64 ((a5f l x1).1))/\((inR .i64 ((1000:Int)*((a5f l x1).1)))/\((0 <= ((x1.2:Nat):Int)/\((x1.2:Nat):Int) < (l.length:Int))/\((inR .i64 ((a5f l x1).2))/\((inR .i64 ((1000:Int)*((a5f l x1).2)))/\(((-9223372036854775808 <= ((1000:Int)*((a5f l x1).1):Int)/\((1000:Int)*((a5f l x1).1):Int) <= 9223372036854775807)/\-9223372036854775808 <= ((1000:Int)*((a5f l x1).2):Int)/\((1000:Int)*((a5f l x1).2):Int) <= 9223372036854775807)/\(((True/\True)/\True)/\((x1.1.length+([Vx.mk (((1000:Int)*((a5f l x1).1):Int):Rat) (((1000:Int)*((a5f l x1).2):Int):Rat)]:List Vx).length <= 10000000)/\((inR .i64 (((x1.2:Nat):Int)+(1:Int)))/\(∃ y1:List Vx × Nat,((CuI l y1.1 y1.2)/\((l.length - y1.2 < l.length - x1.2)/\((True/\(((x1.1 ++ ([Vx.mk (((1000:Int)*((a5f l x1).1):Int):Rat) (((1000:Int)*((a5f l x1).2):Int):Rat)]:List Vx))=y1.1)/\((Value.int .i64 (((x1.2:Nat):Int)+(1:Int))=(.int .i64 ((y1.2:Nat):Int)))/\True)))/\(aPj l x y z))))))))))))))))/\((decide (((x1.2:Nat):Int) < (l.length:Int)))=false->(((∀ v ∈ x1.1,okV v)/\x1.1.length <= 2000000)/\(∀ e2:List Ux,((∀ u ∈ e2,aYf x1.1 u)/\e2.length <= x1.1.length->((inR .i64 z)/\((inR .i64 ((1000:Int)*z))/\(((decide (((1000:Int)*z) > (0:Int)))=true->((inR .i64 x)/\((inR .i64 ((1000:Int)*x))/\((inR .i64 y)/\((inR .i64 ((1000:Int)*y))/\(((-128000 <= ((1000:Int)*x)/\((1000:Int)*x) <= 128000)/\(-128000 <= ((1000:Int)*y)/\((1000:Int)*y) <= 128000)/\0 < ((1000:Int)*z)/\((1000:Int)*z) <= 128000)/\(∀ e3:List Ux,((∀ u ∈ e3,a6W u)/\e3.length <= 2->((e2.length+e3.length <= 10000000)/\(∃ a:List Ux × Bool,((((∀ u ∈ a.1,a6W u)/\a.1.length <= l.length+2)/\a.2=decide (l.length <= 5))/\(((e2 ++ e3)=a.1)/\((Value.bool (decide ((l.length:Int) <= (5:Int)))=(.bool a.2))/\True)))))))))))))/\((decide (((1000:Int)*z) > (0:Int)))=false->(∃ a:List Ux × Bool,((((∀ u ∈ a.1,a6W u)/\a.1.length <= l.length+2)/\a.2=decide (l.length <= 5))/\((e2=a.1)/\((Value.bool (decide ((l.length:Int) <= (5:Int)))=(.bool a.2))/\True))))))))))))))))=_ by kernel_rfl) ?_
 delta aPj a5f
 simp only [true_and,and_true,Int.toNat_natCast,Value.int.injEq,Value.bool.injEq,decide_eq_true_eq,decide_eq_false_iff_not,Int.natCast_nonneg,Int.ofNat_lt,gt_iff_lt]
 obtain ⟨⟨hl,hx,hy,hz⟩,hn⟩:=hp
 have i8:∀ {a:Int},c8 a->inR .i64 a/\inR .i64 (1000*a)/\(-9223372036854775808 <= 1000*a/\1000*a <= 9223372036854775807)/\-128000 <= 1000*a/\1000*a <= 128000:=fun h=>by unfold c8 at h; unfold inR; omega
 refine ⟨⟨([],0),⟨fun v hv=>(by simp at hv),rfl,Nat.zero_le _⟩,rfl,rfl⟩,fun x1 h1=>⟨fun hlt=>?_,fun hge=>?_⟩⟩
 ·have hm:=hl _ (a1k (d:=((0,0):Int × Int)) hlt)
  have g1:=i8 hm.1
  have g2:=i8 hm.2
  have n1:=h1.hn
  refine ⟨hlt,g1.1,g1.2.1,hlt,g2.1,g2.2.1,⟨g1.2.2.1,g2.2.2.1⟩,by simp only [List.length_cons,List.length_nil]; omega,by unfold inR; omega,(_,x1.2+1),⟨fun v hv=>?_,by simp only [List.length_append,List.length_cons,List.length_nil]; omega,hlt⟩,by dsimp only; omega,rfl,by simp⟩
  rcases List.mem_append.1 hv with hv | hv
  ·exact h1.ho v hv
  ·rw [List.mem_singleton.1 hv]
   exact ⟨Nat.le_succ_of_le (aSn (by omega)),Nat.le_succ_of_le (aSn (by omega))⟩
 ·have n1:=h1.hn
  have n2:=h1.hi
  refine ⟨⟨h1.ho,by omega⟩,fun e2 h2=>?_⟩
  have hg:∀ u ∈ e2,a6W u:=fun u hu=>aOs h1.ho (h2.1 u hu)
  have n3:=h2.2
  have d5:decide ((l.length:Int) <= 5)=decide (l.length <= 5):=by apply decide_eq_decide.2; omega
  refine ⟨(i8 hz).1,(i8 hz).2.1,fun hp0=>⟨(i8 hx).1,(i8 hx).2.1,(i8 hy).1,(i8 hy).2.1,⟨(i8 hx).2.2.2,(i8 hy).2.2.2,hp0,(i8 hz).2.2.2.2⟩,fun e3 h3=>⟨by have:=h3.2; omega,(e2 ++ e3,_),⟨⟨fun u hu=>?_,by have:=h3.2; simp only [List.length_append]; omega⟩,rfl⟩,rfl,d5⟩⟩,fun _=>⟨(e2,_),⟨⟨hg,by dsimp only; omega⟩,rfl⟩,rfl,d5⟩⟩
  rcases List.mem_append.1 hu with hu | hu
  ·exact hg u hu
  ·exact h3.1 u hu
def a7H:Ctr:=⟨84,fun | [.g [.rd .C false l,.v (.int .i8 x),.v (.int .i8 y),.v (.int .i8 z)]]=>.ex (List Ux × Bool) (C8 l x y z/\l.length <= 2000000) (fun a=>((∀ u ∈ a.1,a6W u)/\a.1.length <= l.length+2)/\a.2=decide (l.length <= 5)) (fun a=>.t [.c (.rd .U (false) (a.1)),.c (.v (.bool (a.2)))]) | _=>.no⟩
theorem aGs:CtrOK Tryz.prog a7H:=.ofEx (by kernel_rfl) (fun bs w xs vs α pre φ r hr hA hG h hp=>by
 simp only [a7H] at h
 split at h
 ·rename_i l x y z
  cases h
  exact a2U mixed a2s aVT Tryz.func84 (by kernel_rfl) hr hA hG rfl (fun _=>rfl) (aBv l x y z hp)
 ·cases h) (fun xs pre r=>by simp only [a7H]; split <;> (intro h; cases h))
def WG4:List Ctr:=WG3 ++ [aQZ,a7H]
theorem aRL:∀ c ∈ WG4,CtrOK Tryz.prog c:=a0O aVT (a03 aNs (a03 aGs (a2L)))
theorem aGq (l:List (Int × Int)) (x:Int) (y:Int) (z:Int) (hp:C8 l x y z/\l.length <= 2000000):aX3 LTL WG4 [] (fun u:List Ux × Int=>(∀ v ∈ u.1,MeU v)/\u.1.length <= 400) (fun u:List Ux × Int=>(⟨[.u,.u,.k (.c (.bx 1 0)),.u,.u,.u,.k (.c (.bx 2 0)),.k (.c (.v (.int .i64 (u.2)))),.u,.u,.u,.u,.u,.u,.u,.u,.u,.u,.u,.u,.u,.u,.u,.u,.u,.u,.u,.u,.u,.u],[⟨58,[.rd .C (false) (l),.v (.int .i8 (x)),.v (.int .i8 (y)),.v (.int .i8 (z))]⟩,⟨27,[.v (.slice none 0 0)]⟩,⟨27,[.rd .U (false) (u.1)]⟩]⟩:St)) (aBg LTL Tryz.f34 (fun a:List Ux × Bool=>(∀ v ∈ a.1,MeU v)/\a.1.length <= 400) (fun a=>.t [.g [.rd .U (false) (a.1)],.c (.v (.bool (a.2)))])) 4 (bd Tryz.f34) (st0 Tryz.f34 [.g [.rd .C (false) (l),.v (.int .i8 (x)),.v (.int .i8 (y)),.v (.int .i8 (z))]]):=by
 refine Eq.mp (show ((C8 l x y z/\l.length <= 2000000)/\(∀ e1:List Ux × Bool,(((∀ u ∈ e1.1,a6W u)/\e1.1.length <= l.length+2)/\e1.2=decide (l.length <= 5)->(((!e1.2)=true->(∃ a:List Ux × Bool,(((∀ v ∈ a.1,MeU v)/\a.1.length <= 400)/\((a.1=[])/\((Value.bool false=(.bool a.2))/\True)))))/\((!e1.2)=false->(((∀ u ∈ e1.1,InU u/\u.sz <= 1500)/\(∀ v,a4U e1.1 v->MeU v))/\(∀ e2:List Ux × Int,((∀ v ∈ e2.1,MeU v)/\e2.1.length <= 400->(∃ u:List Ux × Int,(((∀ v ∈ u.1,MeU v)/\u.1.length <= 400)/\((True/\(True/\((Value.int .i64 e2.2=(.int .i64 u.2))/\True)))/\(((false=false)/\((l=l)/\((Value.int .i8 x=(.int .i8 x))/\((Value.int .i8 y=(.int .i8 y))/\((Value.int .i8 z=(.int .i8 z))/\True)))))/\(((Value.slice none 0 0=(.slice none 0 0))/\True)/\(((false=false)/\((e2.1=u.1)/\True))/\True))))))))))))))=_ by kernel_rfl) ?_
 simp only [true_and,and_true,Value.int.injEq,Value.bool.injEq]
 have nil:∃ a:List Ux × Bool,((∀ v ∈ a.1,MeU v)/\a.1.length <= 400)/\a.1=[]/\false=a.2:=⟨([],false),⟨fun v hv=>(by simp at hv),Nat.zero_le _⟩,rfl,rfl⟩
 refine ⟨hp,fun e1 h1=>⟨fun _=>nil,fun _=>⟨⟨fun u hu=>⟨Lm.aYI (h1.1.1 u hu).1,(h1.1.1 u hu).2⟩,fun v hv=>Lm.aSK (fun u hu=>(h1.1.1 u hu).1) hv⟩,fun e2 h2=>⟨e2,h2,rfl,rfl⟩⟩⟩⟩
def a98 (u:List Ux × Int):=((∃ a:List Ux × Bool,(((∀ v ∈ a.1,MeU v)/\a.1.length <= 400)/\(((false=false)/\((u.1=a.1)/\True))/\((Value.bool (decide ((u.1.length:Int) <= (12:Int)))=(.bool a.2))/\True))))/\True)
theorem aGp (l:List (Int × Int)) (x:Int) (y:Int) (z:Int) (u:List Ux × Int) (hu:(∀ v ∈ u.1,MeU v)/\u.1.length <= 400):aX2 LTL WG4 [] (aBg LTL Tryz.f34 (fun a:List Ux × Bool=>(∀ v ∈ a.1,MeU v)/\a.1.length <= 400) (fun a=>.t [.g [.rd .U (false) (a.1)],.c (.v (.bool (a.2)))])) (aMn 4 (bd Tryz.f34)) (⟨[.u,.u,.k (.c (.bx 1 0)),.u,.u,.u,.k (.c (.bx 2 0)),.k (.c (.v (.int .i64 (u.2)))),.u,.u,.u,.u,.u,.u,.u,.u,.u,.u,.u,.u,.u,.u,.u,.u,.u,.u,.u,.u,.u,.u],[⟨58,[.rd .C (false) (l),.v (.int .i8 (x)),.v (.int .i8 (y)),.v (.int .i8 (z))]⟩,⟨27,[.v (.slice none 0 0)]⟩,⟨27,[.rd .U (false) (u.1)]⟩]⟩:St):=by
 refine Eq.mp (show ((((u.2 == (0:Int))=true)->((((a98 u)/\((a98 u)/\True))/\(((a98 u)/\True)/\True))/\((((a98 u)/\((a98 u)/\True))/\(((a98 u)/\True)/\True))/\True)))/\(((u.2 == (0:Int))=false)->(((∃ a:List Ux × Bool,(((∀ v ∈ a.1,MeU v)/\a.1.length <= 400)/\(((false=false)/\((u.1=a.1)/\True))/\((Value.bool false=(.bool a.2))/\True))))/\True)/\True)))=_ by kernel_rfl) ?_
 delta a98
 simp only [true_and,and_true,Value.bool.injEq]
 have fin:∀ b:Bool,∃ a:List Ux × Bool,((∀ v ∈ a.1,MeU v)/\a.1.length <= 400)/\u.1=a.1/\b=a.2:=fun b=>⟨(u.1,b),hu,rfl,rfl⟩
 repeat' first | exact fin _ | apply And.intro | (intro _)
def a7G:Ctr:=⟨34,fun | [.g [.rd .C false l,.v (.int .i8 x),.v (.int .i8 y),.v (.int .i8 z)]]=>.ex (List Ux × Bool) (C8 l x y z/\l.length <= 2000000) (fun a=>(∀ v ∈ a.1,MeU v)/\a.1.length <= 400) (fun a=>.t [.g [.rd .U (false) (a.1)],.c (.v (.bool (a.2)))]) | _=>.no⟩
theorem aGr:CtrOK Tryz.prog a7G:=.ofEx (by kernel_rfl) (fun bs w xs vs α pre φ r hr hA hG h hp=>by
 simp only [a7G] at h
 split at h
 ·rename_i l x y z
  cases h
  exact aCr (P:=Tryz.prog) (body:=(bd Tryz.f34)) a2s Tryz.func34 (by kernel_rfl) hr hA hG rfl (fun _=>rfl) (aDp mixed a2s aRL (aGq l x y z hp) fun v hv=>aFR mixed a2s aRL (aGp l x y z v hv) w)
 ·cases h) (fun xs pre r=>by simp only [a7G]; split <;> (intro h; cases h))
def WG5:List Ctr:=WG4 ++ [a7G]
theorem aRK:∀ c ∈ WG5,CtrOK Tryz.prog c:=a0O aRL (a03 aGr (a2L))
def aKK (l:List (Int × Int)) (x:Int) (y:Int) (z:Int):=((false=false)/\((l=l)/\((Value.int .i8 x=(.int .i8 x))/\((Value.int .i8 y=(.int .i8 y))/\((Value.int .i8 z=(.int .i8 z))/\True)))))
def aPh (z:Int) (x:Int) (y:Int):=(bif (bif (bif (bif (decide (z > (10:Int))) then true else (decide (x < (0:Int)))) then true else (decide (x > (20:Int)))) then true else (decide (y < (0:Int)))) then true else (decide (y > (20:Int))))
def aPg:=(∃ a:List Ux × Bool,(((∀ v ∈ a.1,MeU v)/\a.1.length <= 400)/\((a.1=[])/\((Value.bool false=(.bool a.2))/\True))))
def aFi (l:List (Int × Int)) (x1:Nat):=(l.getD (((x1:Nat):Int).toNat) ((0,0):Int × Int))
def aPi (l:List (Int × Int)) (x1:Nat):=(bif (bif (bif (decide (((aFi l x1).1) < (0:Int))) then true else (decide (((aFi l x1).1) > (20:Int)))) then true else (decide (((aFi l x1).2) < (0:Int)))) then true else (decide (((aFi l x1).2) > (20:Int))))
def aKJ:=((Value.slice none 0 0=(.slice none 0 0))/\True)
theorem aGn (l:List (Int × Int)) (x:Int) (y:Int) (z:Int) (hp:C8 l x y z/\l.length <= 2000000):aX3 LTL WG5 [.inv 2 (Nat) (fun ξ=>⟨[.u,.k (.c (.bx 0 0)),.k (.c (.bx 1 0)),.u,.u,.u,.u,.u,.u,.k (.c (.rd .C (false) (l))),.k (.c (.v (.int .i64 ((l.length:Int))))),.k (.c (.v (.int .i64 (((ξ:Nat):Int))))),.u,.u,.u,.u,.u,.u,.u,.u,.u,.u,.u,.u,.u,.u,.u,.u,.u,.u,.u,.u,.u,.u,.u,.u,.u,.u,.u,.u,.u,.u,.u,.u,.u,.u,.u,.u,.u,.u,.u,.u,.u,.u,.u,.u,.u,.u,.u,.u,.u,.u,.u,.u,.u,.u,.u,.u,.u,.u,.u,.u,.u,.u,.u,.u,.u],[⟨58,[.rd .C (false) (l),.v (.int .i8 (x)),.v (.int .i8 (y)),.v (.int .i8 (z))]⟩,⟨27,[.v (.slice none 0 0)]⟩]⟩) (fun _ ξ=>ξ <= l.length) (fun ξ=>l.length - ξ)] (fun u:List Ux × Bool=>(∀ v ∈ u.1,MeU v)/\u.1.length <= 400) (fun u:List Ux × Bool=>(⟨[.u,.u,.k (.c (.bx 1 0)),.u,.u,.u,.k (.c (.bx 2 0)),.k (.c (.v (.bool (u.2)))),.u,.u,.u,.u,.u,.u,.u,.u,.u,.u,.u,.u,.u,.u,.u,.u,.u,.u,.u,.u,.u,.u,.u,.u,.u,.u,.u,.u,.u,.u,.u,.u,.u,.u,.u,.u,.u,.u,.u,.u,.u,.u,.u,.u,.u,.u,.u,.u,.u,.u,.u,.u,.u,.u,.u,.u,.u,.u,.u,.u,.u,.u,.u,.u,.u,.u,.u,.u,.u],[⟨58,[.rd .C (false) (l),.v (.int .i8 (x)),.v (.int .i8 (y)),.v (.int .i8 (z))]⟩,⟨27,[.v (.slice none 0 0)]⟩,⟨27,[.rd .U (false) (u.1)]⟩]⟩:St)) (aBg LTL Tryz.f14 (fun a:List Ux × Bool=>(∀ v ∈ a.1,MeU v)/\a.1.length <= 400) (fun a=>.t [.g [.rd .U (false) (a.1)],.c (.v (.bool (a.2)))])) 4 (bd Tryz.f14) (st0 Tryz.f14 [.g [.rd .C (false) (l),.v (.int .i8 (x)),.v (.int .i8 (y)),.v (.int .i8 (z))]]):=by
 refine Eq.mp (show ((∃ x1:Nat,((x1 <= l.length)/\((True/\(True/\((l=l)/\((Value.int .i64 (l.length:Int)=(.int .i64 (l.length:Int)))/\((Value.int .i64 (0:Int)=(.int .i64 ((x1:Nat):Int)))/\True)))))/\((aKK l x y z)/\(aKJ/\True)))))/\(∀ x1:Nat,((x1 <= l.length)->(((decide (((x1:Nat):Int) < (l.length:Int)))=true->((0 <= ((x1:Nat):Int)/\((x1:Nat):Int) < (l.length:Int))/\(((aPi l x1)=true->aPg)/\((aPi l x1)=false->((inR .i64 (((x1:Nat):Int)+(1:Int)))/\(∃ y1:Nat,((y1 <= l.length)/\((l.length - y1 < l.length - x1)/\((True/\(True/\((l=l)/\((Value.int .i64 (l.length:Int)=(.int .i64 (l.length:Int)))/\((Value.int .i64 (((x1:Nat):Int)+(1:Int))=(.int .i64 ((y1:Nat):Int)))/\True)))))/\((aKK l x y z)/\(aKJ/\True)))))))))))/\((decide (((x1:Nat):Int) < (l.length:Int)))=false->(((aPh z x y)=true->aPg)/\((aPh z x y)=false->((C8 l x y z/\l.length <= 2000000)/\(∀ e2:List Ux × Bool,((∀ v ∈ e2.1,MeU v)/\e2.1.length <= 400->(∃ u:List Ux × Bool,(((∀ v ∈ u.1,MeU v)/\u.1.length <= 400)/\((True/\(True/\((Value.bool e2.2=(.bool u.2))/\True)))/\((aKK l x y z)/\(aKJ/\(((false=false)/\((e2.1=u.1)/\True))/\True))))))))))))))))=_ by kernel_rfl) ?_
 delta aKJ aPi aFi aPg aPh aKK
 simp only [true_and,and_true,Int.toNat_natCast,Value.int.injEq,Value.bool.injEq,decide_eq_true_eq,decide_eq_false_iff_not,Int.natCast_nonneg,Int.ofNat_lt,gt_iff_lt]
 have nil:∃ a:List Ux × Bool,((∀ v ∈ a.1,MeU v)/\a.1.length <= 400)/\a.1=[]/\false=a.2:=⟨([],false),⟨fun v hv=>(by simp at hv),Nat.zero_le _⟩,rfl,rfl⟩
 refine ⟨⟨0,Nat.zero_le _,rfl⟩,fun x1 h1=>⟨fun hlt=>⟨hlt,fun _=>nil,fun _=>⟨by have:=hp.2; unfold inR; omega,x1+1,hlt,by omega,by simp⟩⟩,fun _=>⟨fun _=>nil,fun _=>⟨hp,fun e2 h2=>⟨e2,h2,rfl,rfl⟩⟩⟩⟩⟩
def a97 (u:List Ux × Bool):=((∃ a:List Ux × Bool,(((∀ v ∈ a.1,MeU v)/\a.1.length <= 400)/\(((false=false)/\((u.1=a.1)/\True))/\((Value.bool (decide ((u.1.length:Int) <= (8:Int)))=(.bool a.2))/\True))))/\True)
theorem aGm (l:List (Int × Int)) (x:Int) (y:Int) (z:Int) (u:List Ux × Bool) (hu:(∀ v ∈ u.1,MeU v)/\u.1.length <= 400):aX2 LTL WG5 [.inv 2 (Nat) (fun ξ=>⟨[.u,.k (.c (.bx 0 0)),.k (.c (.bx 1 0)),.u,.u,.u,.u,.u,.u,.k (.c (.rd .C (false) (l))),.k (.c (.v (.int .i64 ((l.length:Int))))),.k (.c (.v (.int .i64 (((ξ:Nat):Int))))),.u,.u,.u,.u,.u,.u,.u,.u,.u,.u,.u,.u,.u,.u,.u,.u,.u,.u,.u,.u,.u,.u,.u,.u,.u,.u,.u,.u,.u,.u,.u,.u,.u,.u,.u,.u,.u,.u,.u,.u,.u,.u,.u,.u,.u,.u,.u,.u,.u,.u,.u,.u,.u,.u,.u,.u,.u,.u,.u,.u,.u,.u,.u,.u,.u],[⟨58,[.rd .C (false) (l),.v (.int .i8 (x)),.v (.int .i8 (y)),.v (.int .i8 (z))]⟩,⟨27,[.v (.slice none 0 0)]⟩]⟩) (fun _ ξ=>ξ <= l.length) (fun ξ=>l.length - ξ)] (aBg LTL Tryz.f14 (fun a:List Ux × Bool=>(∀ v ∈ a.1,MeU v)/\a.1.length <= 400) (fun a=>.t [.g [.rd .U (false) (a.1)],.c (.v (.bool (a.2)))])) (aMn 4 (bd Tryz.f14)) (⟨[.u,.u,.k (.c (.bx 1 0)),.u,.u,.u,.k (.c (.bx 2 0)),.k (.c (.v (.bool (u.2)))),.u,.u,.u,.u,.u,.u,.u,.u,.u,.u,.u,.u,.u,.u,.u,.u,.u,.u,.u,.u,.u,.u,.u,.u,.u,.u,.u,.u,.u,.u,.u,.u,.u,.u,.u,.u,.u,.u,.u,.u,.u,.u,.u,.u,.u,.u,.u,.u,.u,.u,.u,.u,.u,.u,.u,.u,.u,.u,.u,.u,.u,.u,.u,.u,.u,.u,.u,.u,.u],[⟨58,[.rd .C (false) (l),.v (.int .i8 (x)),.v (.int .i8 (y)),.v (.int .i8 (z))]⟩,⟨27,[.v (.slice none 0 0)]⟩,⟨27,[.rd .U (false) (u.1)]⟩]⟩:St):=by
 refine Eq.mp (show (((u.2=true)->((((a97 u)/\((a97 u)/\True))/\(((a97 u)/\True)/\True))/\((((a97 u)/\((a97 u)/\True))/\(((a97 u)/\True)/\True))/\True)))/\((u.2=false)->(((∃ a:List Ux × Bool,(((∀ v ∈ a.1,MeU v)/\a.1.length <= 400)/\(((false=false)/\((u.1=a.1)/\True))/\((Value.bool false=(.bool a.2))/\True))))/\True)/\True)))=_ by kernel_rfl) ?_
 delta a97
 simp only [true_and,and_true,Value.bool.injEq]
 have fin:∀ b:Bool,∃ a:List Ux × Bool,((∀ v ∈ a.1,MeU v)/\a.1.length <= 400)/\u.1=a.1/\b=a.2:=fun b=>⟨(u.1,b),hu,rfl,rfl⟩
 repeat' first | exact fin _ | apply And.intro | (intro _)
def a7F:Ctr:=⟨14,fun | [.g [.rd .C false l,.v (.int .i8 x),.v (.int .i8 y),.v (.int .i8 z)]]=>.ex (List Ux × Bool) (C8 l x y z/\l.length <= 2000000) (fun a=>(∀ v ∈ a.1,MeU v)/\a.1.length <= 400) (fun a=>.t [.g [.rd .U (false) (a.1)],.c (.v (.bool (a.2)))]) | _=>.no⟩
theorem aGo:CtrOK Tryz.prog a7F:=.ofEx (by kernel_rfl) (fun bs w xs vs α pre φ r hr hA hG h hp=>by
 simp only [a7F] at h
 split at h
 ·rename_i l x y z
  cases h
  exact aCr (P:=Tryz.prog) (body:=(bd Tryz.f14)) a2s Tryz.func14 (by kernel_rfl) hr hA hG rfl (fun _=>rfl) (aDp mixed a2s aRK (aGn l x y z hp) fun v hv=>aFR mixed a2s aRK (aGm l x y z v hv) w)
 ·cases h) (fun xs pre r=>by simp only [a7F]; split <;> (intro h; cases h))
end Vc
end Go.Proofs.YtbohkigffejhoaaGreat
namespace Go.Proofs.YtbohkigffejhoaaGreat
open Go.RowKit
set_option maxRecDepth 8000
def aZU (r s t:Int):Prop:=r < 1 \/ s < 1 \/ t < 40 \/ t > s \/ s > r - t
set_option maxHeartbeats 4000000 in
theorem aOK (a:Option Addr) (n c:Nat) (r s t:Int) (w:World) (h:aZU r s t) (hr:(-9223372036854775808 <= r/\r <= 10000000)/\(-9223372036854775808 <= s/\s <= 10000000)/\-9223372036854775808 <= t/\t <= 10000000) :
    Calls Tryz.prog 16 #[.agg #[.slice a n c],.int .i64 r,.int .i64 s,.int .i64 t] w fun e w'=>e=.returned (.tuple #[.slice none 0 0,.int .i64 1])/\Ext w w':=by
 by_cases h1:r < 1
 ·have e1:decide (r < 1)=true:=by simp; omega
  clear h hr
  go_enter Tryz.func16,Tryz.ntmps16
  go_wp2_with fail
  go_ret2
  exact ⟨rfl,(Ext.refl w).alloc _⟩
 have e1:decide (r < 1)=false:=by simp; omega
 by_cases h2:s < 1
 ·have e2:decide (s < 1)=true:=by simp; omega
  clear h hr h1
  go_enter Tryz.func16,Tryz.ntmps16
  go_wp2_with fail
  go_ret2
  exact ⟨rfl,(Ext.refl w).alloc _⟩
 have e2:decide (s < 1)=false:=by simp; omega
 by_cases h3:t < 40
 ·have e3:decide (t < 40)=true:=by simp; omega
  clear h hr h1 h2
  go_enter Tryz.func16,Tryz.ntmps16
  go_wp2_with fail
  go_ret2
  exact ⟨rfl,(Ext.refl w).alloc _⟩
 have e3:decide (t < 40)=false:=by simp; omega
 by_cases h4:t > s
 ·have e4:decide (t > s)=true:=by simp; omega
  clear h hr h1 h2 h3
  go_enter Tryz.func16,Tryz.ntmps16
  go_wp2_with fail
  go_ret2
  exact ⟨rfl,(Ext.refl w).alloc _⟩
 have e4:decide (t > s)=false:=by simp; omega
 have h5:s > r - t:=by unfold aZU at h; omega
 have e6:IntKind.i64.wrap (r - t)=r - t:=by simp [IntKind.wrap,IntKind.signed,IntKind.bits]; omega
 have e5:decide (s > r - t)=true:=by simp; omega
 clear h hr h1 h2 h3 h4 h5
 go_enter Tryz.func16,Tryz.ntmps16
 go_wp2_with fail
 go_ret2
 exact ⟨rfl,(Ext.refl w).alloc _⟩
namespace Vc
def aLr:Ctr:=⟨16,fun | [.g [.rd .U false _],.c (.v (.int .i64 r)),.c (.v (.int .i64 s)),.c (.v (.int .i64 t))]=>.yes (aZU r s t/\(-9223372036854775808 <= r/\r <= 10000000)/\(-9223372036854775808 <= s/\s <= 10000000)/\-9223372036854775808 <= t/\t <= 10000000) (.t [.c (.pp []),.c (.v (.int .i64 1))]) | _=>.no⟩
theorem aQr:CtrOK Tryz.prog aLr:=.of (by kernel_rfl) (fun bs w xs vs pre r hr hA hG h hp=>by
 simp only [aLr] at h
 split at h
 ·rename_i l r s t
  cases h
  match vs,hr with
  | [_,_,_,_],⟨⟨us,rfl,hu⟩,⟨rfl,_⟩,⟨rfl,_⟩,⟨rfl,_⟩,_⟩ =>
    match us,hu with
    | [u],hu =>
      obtain ⟨⟨a,cap,b,off,rfl,_⟩,_⟩:=hu
      refine (aOK a l.length cap r s t w hp.1 hp.2).mono ?_
      rintro e w' ⟨rfl,hx⟩
      exact ⟨_,rfl,hx,_,rfl,⟨none,0,0,0,rfl,.inl rfl,fun _=>rfl,Nat.le_refl _,fun i x hx=>by simp at hx⟩,⟨rfl,rfl⟩,trivial⟩
 ·cases h) (fun xs α pre φ r=>by simp only [aLr]; split <;> (intro h; cases h))
def a9A:Ctr:=⟨15,fun | []=>.yes True (.k (.c (.v (.bool true)))) | _=>.no⟩
theorem aJg:CtrOK Tryz.prog a9A:=.of (by kernel_rfl) (fun bs w xs vs pre r hr hA hG h hp=>by
 simp only [a9A] at h
 split at h
 ·cases h
  match vs,hr with
  | [],_ =>
    refine (aJS w).mono ?_
    rintro e w' ⟨rfl,hx⟩
    exact ⟨_,rfl,hx,rfl,rfl⟩
 ·cases h) (fun xs α pre φ r=>by simp only [a9A]; split <;> (intro h; cases h))
end Vc
end Go.Proofs.YtbohkigffejhoaaGreat
namespace Go.Proofs.YtbohkigffejhoaaGreat
open Go.RowKit
namespace Vc
attribute [local irreducible] owes a1v
def LTM:List Lay:=LTL ++ [
 ⟨59,3,true,30,2,[.v (.int .i64 0),.v (.int .i64 0),.v (.int .i64 0)],[]⟩]
theorem aZ8:∀ l ∈ LTM,a14 Tryz.prog l:=by
 have h:LTM.all (aYn Tryz.prog)=true:=by kernel_rfl
 intro l hl
 exact aDd (List.all_eq_true.1 h l hl)
def WG6:List Ctr:=WG5 ++ [a7F,a9A,aLr]
theorem aZ1:∀ c ∈ WG6,CtrOK Tryz.prog c:=a0O aRK (a03 aGo (a03 aJg (a03 aQr (a2L))))
def aKI (r:Int) (s:Int) (t:Int):=(bif (bif (bif (decide (r > (0:Int))) then (decide (s > (0:Int))) else false) then (decide (t >= (40:Int))) else false) then (decide (t <= s)) else false)
def aPf (e1:List Ux × Bool) (r:Int) (s:Int) (t:Int):=(bif (bif (bif (bif (!true) then true else (!e1.2)) then true else (decide (r > (10000000:Int)))) then true else (decide (s > (10000000:Int)))) then true else (decide (t > (10000000:Int))))
set_option maxHeartbeats 4000000 in
theorem aJh (l:List (Int × Int)) (x:Int) (y:Int) (z:Int) (r:Int) (s:Int) (t:Int) (hp:(C8 l x y z/\l.length <= 2000000)/\(-9223372036854775808 <= r/\r <= 9223372036854775807)/\(-9223372036854775808 <= s/\s <= 9223372036854775807)/\(-9223372036854775808 <= t/\t <= 9223372036854775807)):a1v LTM WG6 [] Tryz.f4 (bd Tryz.f4) [.g [.rd .C (false) (l),.v (.int .i8 (x)),.v (.int .i8 (y)),.v (.int .i8 (z))],.g [.v (.int .i64 (r)),.v (.int .i64 (s)),.v (.int .i64 (t))]] (fun a:Bool=>a=true) (fun a=>.k (.c (.v (.bool (a))))):=by
 refine a1J (show ((C8 l x y z/\l.length <= 2000000)/\(∀ e1:List Ux × Bool,((∀ v ∈ e1.1,MeU v)/\e1.1.length <= 400->(True/\(((aPf e1 r s t)=true->(True/\(∃ a:Bool,((a=true)/\(Value.bool true=(.bool a))))))/\((aPf e1 r s t)=false->((((aKI r s t) == true)=true->(inR .i64 (s+t)))/\(((bif (aKI r s t) then (decide ((s+t) <= r)) else false)=true->(∃ a:Bool,((a=true)/\(Value.bool true=(.bool a)))))/\((bif (aKI r s t) then (decide ((s+t) <= r)) else false)=false->((aZU r s t/\(-9223372036854775808 <= r/\r <= 10000000)/\(-9223372036854775808 <= s/\s <= 10000000)/\-9223372036854775808 <= t/\t <= 10000000)/\(∃ a:Bool,((a=true)/\(Value.bool (bif ((1) == (1:Int)) then ((([]:List (List (Int × Int))).length:Int) == (0:Int)) else false)=(.bool a))))))))))))))=_ by kernel_rfl) ?_
 delta aPf aKI
 simp only [true_and,aA5,aJP,Value.bool.injEq,decide_eq_true_eq,decide_eq_false_iff_not,beq_true,gt_iff_lt,ge_iff_le]
 obtain ⟨hc,⟨r1,r2⟩,⟨s1,s2⟩,t1,t2⟩:=hp
 refine ⟨hc,fun e1 h1=>⟨fun _=>⟨true,rfl,rfl⟩,fun h2=>?_⟩⟩
 have key:∀ {a b:Bool},(bif a then true else b)=false->a=false/\b=false:=by intro a b h; cases a <;> cases b <;> simp_all
 have k1:=key h2
 have k2:=key k1.1
 have k3:=key k2.1
 have q1:=of_decide_eq_false k1.2
 have q2:=of_decide_eq_false k2.2
 have q3:=of_decide_eq_false k3.2
 refine ⟨fun _=>by unfold inR; omega,fun _=>⟨true,rfl,rfl⟩,fun h3=>⟨⟨?_,⟨r1,by omega⟩,⟨s1,by omega⟩,t1,by omega⟩,true,rfl,rfl⟩⟩
 unfold aZU
 by_cases hh:((0 < r/\0 < s)/\40 <= t)/\t <= s
 ·have:=h3 hh
  omega
 ·omega
def aQW:Ctr:=⟨4,fun | [.g [.rd .C false l,.v (.int .i8 x),.v (.int .i8 y),.v (.int .i8 z)],.g [.v (.int .i64 r),.v (.int .i64 s),.v (.int .i64 t)]]=>.ex (Bool) ((C8 l x y z/\l.length <= 2000000)/\(-9223372036854775808 <= r/\r <= 9223372036854775807)/\(-9223372036854775808 <= s/\s <= 9223372036854775807)/\(-9223372036854775808 <= t/\t <= 9223372036854775807)) (fun a=>a=true) (fun a=>.k (.c (.v (.bool (a))))) | _=>.no⟩
theorem aQV:CtrOK Tryz.prog aQW:=.ofEx (by kernel_rfl) (fun bs w xs vs α pre φ r hr hA hG h hp=>by
 simp only [aQW] at h
 split at h
 ·rename_i l x y z r s t
  cases h
  exact a2U mixed aZ8 aZ1 Tryz.func4 (by kernel_rfl) hr hA hG rfl (fun _=>rfl) (aJh l x y z r s t hp)
 ·cases h) (fun xs pre r=>by simp only [aQW]; split <;> (intro h; cases h))
end Vc
end Go.Proofs.YtbohkigffejhoaaGreat
