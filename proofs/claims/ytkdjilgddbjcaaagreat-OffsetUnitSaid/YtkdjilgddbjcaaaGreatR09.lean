import Derived.Test.YtkdjilgddbjcaaaGreatR08
import Derived.Deep.MidRow
namespace Go.Proofs.YtkdjilgddbjcaaaGreat
open Go.RowKit
namespace Vc
inductive AC
 | v (x:Value)
 | sl (l:List Nat)
 | I (z:Int)
 | R (q:Rat)
 | bx (i off:Nat)
 | sp (x:Nat)
 | pt (l:List (Int × Int))
 | pp (l:List (List (Int × Int)))
 | op (cs:List Value)
 | oq (l:List (Int × Int))
 | ba (i n:Nat)
 | ln (n:Nat)
 | pl (k:Nat) (l:List (List Int))
inductive AK
 | c (x:AC)
 | g (xs:List AC)
inductive AV
 | u
 | k (x:AK)
 | t (xs:List AK)
def AC.width:AC->Nat
 | .I _=>2
 | .R _=>4
 | _=>1
def AC.split:AC->List AC
 | .I z=>[.v (.bool (decide (z < 0))),.sl (Lb.limbs z.natAbs)]
 | .R q=>[.I q.num,.I (q.den:Int)]
 | x=>[x]
def AC.flat:AC->List AC
 | .I z=>[.v (.bool (decide (z < 0))),.sl (Lb.limbs z.natAbs)]
 | .R q=>[.v (.bool (decide (q.num < 0))),.sl (Lb.limbs q.num.natAbs),.v (.bool (decide ((q.den:Int) < 0))),.sl (Lb.limbs (q.den:Int).natAbs)]
 | x=>[x]
def flats:List AC->List AC
 | []=>[]
 | x :: l=>x.flat ++ flats l
theorem flats_append:∀ a b,flats (a ++ b)=flats a ++ flats b
 | [],_=>rfl
 | x :: a,b=>by rw [List.cons_append,flats,flats,flats_append a b,List.append_assoc]
theorem flat_length (x:AC):x.flat.length=x.width:=by cases x <;> rfl
theorem flats_split (x:AC):flats x.split=x.flat:=by cases x <;> rfl
structure Bs where
 lo:Nat
 l:List Nat
 ar:List Nat
 gh:List Nat
abbrev Bs.more (b:Bs) (l:List Nat):Bs:=⟨b.lo,b.l ++ l,b.ar,b.gh⟩
def Bs.away (b:Bs) (g:Nat):Prop:=g ∉ b.ar/\g ∉ b.gh
def Away (bs:Bs) (u:Value) (l:List Nat):Prop:=∀ g,u.ownBlock=some g->l=[] \/ bs.away g
theorem Away.none {bs:Bs} (h1:bs.ar=[]) (h2:bs.gh=[]) (u:Value) (l:List Nat):Away bs u l:=fun g _=>.inr ⟨by rw [h1]; simp,by rw [h2]; simp⟩
def SlO {α:Type} (k lo:Nat) (w:World) (u:Value) (l:List α) (f:Nat->Nat->α->Prop):Prop :=
 ∃ (a:Option Addr) (cap b off:Nat),u=.slice a l.length cap/\(l.length=0 \/ a=some ⟨b,off,none⟩)/\(a=none->cap=0)/\l.length <= cap /\
   ∀ i x,l[i]?=some x->b < lo/\b < w.heap.size/\f b (off+i*k) x
def SlP (lo:Nat) (w:World) (u:Value) (l:List (Int × Int)):Prop :=
 SlO 2 lo w u l fun b o p=>w.cell? ⟨b,o,none⟩=some (.int .i64 p.1)/\w.cell? ⟨b,o+1,none⟩=some (.int .i64 p.2)
def SlQ (lo:Nat) (w:World) (u:Value) (l:List (List (Int × Int))):Prop :=
 SlO 1 lo w u l fun b o p=>∃ v,w.cell? ⟨b,o,none⟩=some v/\SlP lo w v p
def SlV (lo:Nat) (w:World) (u:Value) (k:Nat) (l:List (List Int)):Prop :=
 SlO k lo w u l fun b o r=>r.length=k/\∀ j x,r[j]?=some x->w.cell? ⟨b,o+j,none⟩=some (.int .i64 x)
def Old (lo lo':Nat) (w w':World):Prop:=∀ b,b < lo->b < w.heap.size->b < lo'/\b < w'.heap.size/\∀ o,w'.cell? ⟨b,o,none⟩=w.cell? ⟨b,o,none⟩
theorem SlO.keep {α:Type} {k lo lo':Nat} {w w':World} {u:Value} {l:List α} {f g:Nat->Nat->α->Prop} (h:SlO k lo w u l f) (ho:Old lo lo' w w') (hf:∀ b o x,b < lo->b < w.heap.size->f b o x->g b o x):SlO k lo' w' u l g:=by
 obtain ⟨a,cap,b,off,h1,h2,h3,h4,h5⟩:=h
 refine ⟨a,cap,b,off,h1,h2,h3,h4,fun i x hx=>?_⟩
 obtain ⟨p,q,r⟩:=h5 i x hx
 obtain ⟨p',q',_⟩:=ho b p q
 exact ⟨p',q',hf _ _ _ p q r⟩
theorem SlP.keep {lo lo':Nat} {w w':World} {u:Value} {l:List (Int × Int)} (h:SlP lo w u l) (ho:Old lo lo' w w'):SlP lo' w' u l :=
 SlO.keep h ho fun b o x p q r=>by
  obtain ⟨_,_,e⟩:=ho b p q
  rw [e,e]; exact r
theorem SlV.keep {lo lo':Nat} {w w':World} {u:Value} {k:Nat} {l:List (List Int)} (h:SlV lo w u k l) (ho:Old lo lo' w w'):SlV lo' w' u k l :=
 SlO.keep h ho fun b o x p q r=>by
  obtain ⟨_,_,e⟩:=ho b p q
  exact ⟨r.1,fun j y hj=>by rw [e]; exact r.2 j y hj⟩
theorem SlQ.keep {lo lo':Nat} {w w':World} {u:Value} {l:List (List (Int × Int))} (h:SlQ lo w u l) (ho:Old lo lo' w w'):SlQ lo' w' u l :=
 SlO.keep h ho fun b o x p q ⟨v,r1,r2⟩=>by
  obtain ⟨_,_,e⟩:=ho b p q
  exact ⟨v,by rw [e]; exact r1,r2.keep ho⟩
def rel1 (bs:Bs) (w:World):AC->Value->Prop
 | .v x,u=>u=x/\x.oneCell'=true
 | .sl l,u=>SlU w u l/\Away bs u l
 | .bx i off,u=>∃ b,bs.l[i]?=some b/\u=.pointer (some ⟨b,off,none⟩)
 | .sp x,u=>∃ b o,u=.pointer (some ⟨b,o,none⟩)/\w.cell? ⟨b,o,none⟩=some (.int .u32 (x:Int))/\bs.away b
 | .pt l,u=>SlP bs.lo w u l
 | .pp l,u=>SlQ bs.lo w u l
 | .op cs,u=>∃ b o,u=.pointer (some ⟨b,o,none⟩)/\b < bs.lo/\b < w.heap.size/\∀ j v,cs[j]?=some v->w.cell? ⟨b,o+j,none⟩=some v/\v.oneCell'=true
 | .oq l,u=>∃ b o v,u=.pointer (some ⟨b,o,none⟩)/\b < bs.lo/\b < w.heap.size/\w.cell? ⟨b,o,none⟩=some v/\SlP bs.lo w v l
 | .ba i n,u=>∃ b,bs.l[i]?=some b/\u=.slice (some ⟨b,0,none⟩) n n
 | .ln n,u=>∃ a c,u=.slice a n c
 | .pl k l,u=>SlV bs.lo w u k l
 | .I _,_=>False
 | .R _,_=>False
def relL (bs:Bs) (w:World):List AC->List Value->Prop
 | [],[]=>True
 | x :: l,u :: us=>rel1 bs w x u/\relL bs w l us
 | _,_=>False
def relK (bs:Bs) (w:World):AK->Value->Prop
 | .c x,u=>rel1 bs w x u
 | .g xs,u=>∃ us:List Value,u=.agg us.toArray/\relL bs w (flats xs) us
def relKs (bs:Bs) (w:World):List AK->List Value->Prop
 | [],[]=>True
 | x :: l,u :: us=>relK bs w x u/\relKs bs w l us
 | _,_=>False
def relV (bs:Bs) (w:World):AV->Value->Prop
 | .u,_=>True
 | .k x,u=>relK bs w x u
 | .t xs,u=>∃ us:List Value,u=.tuple us.toArray/\relKs bs w xs us
section
variable {bs:Bs} {w w':World}
theorem rel1.one {x:AC} {u:Value} (h:rel1 bs w x u):u.oneCell'=true:=by
 cases x with
 | v x=>obtain ⟨rfl,h⟩:=h; exact h
 | sl l=>obtain ⟨a,c,rfl⟩:=SlU.form h.1; rfl
 | bx i off=>obtain ⟨b,_,rfl⟩:=h; rfl
 | sp x=>obtain ⟨b,o,rfl,_⟩:=h; rfl
 | pt l=>obtain ⟨a,c,b,o,rfl,_⟩:=h; rfl
 | pp l=>obtain ⟨a,c,b,o,rfl,_⟩:=h; rfl
 | op cs=>obtain ⟨b,o,rfl,_⟩:=h; rfl
 | oq l=>obtain ⟨b,o,v,rfl,_⟩:=h; rfl
 | ba i n=>obtain ⟨b,_,rfl⟩:=h; rfl
 | ln n=>obtain ⟨a,c,rfl⟩:=h; rfl
 | pl k l=>obtain ⟨a,c,b,o,rfl,_⟩:=h; rfl
 | I z=>exact h.elim
 | R q=>exact h.elim
theorem relL.len:∀ {l:List AC} {us:List Value},relL bs w l us->l.length=us.length
 | [],[],_=>rfl
 | _ :: _,_ :: _,h=>by rw [List.length_cons,List.length_cons,relL.len h.2]
 | [],_ :: _,h=>h.elim
 | _ :: _,[],h=>h.elim
theorem relKs.len:∀ {l:List AK} {us:List Value},relKs bs w l us->l.length=us.length
 | [],[],_=>rfl
 | _ :: _,_ :: _,h=>by rw [List.length_cons,List.length_cons,relKs.len h.2]
 | [],_ :: _,h=>h.elim
 | _ :: _,[],h=>h.elim
theorem relL.append:∀ {a b:List AC} {us vs:List Value},relL bs w a us->relL bs w b vs->relL bs w (a ++ b) (us ++ vs)
 | [],_,[],_,_,h=>h
 | _ :: _,_,_ :: _,_,h,k=>⟨h.1,relL.append h.2 k⟩
 | [],_,_ :: _,_,h,_=>h.elim
 | _ :: _,_,[],_,h,_=>h.elim
theorem relL.drop:∀ {a:List AC} {us:List Value} (n:Nat),relL bs w a us->relL bs w (a.drop n) (us.drop n)
 | _,_,0,h=>h
 | [],[],_+1,_=>trivial
 | _ :: _,_ :: _,n+1,h=>relL.drop n h.2
 | [],_ :: _,_+1,h=>h.elim
 | _ :: _,[],_+1,h=>h.elim
theorem relL.take:∀ {a:List AC} {us:List Value} (n:Nat),relL bs w a us->relL bs w (a.take n) (us.take n)
 | _,_,0,_=>by simp [relL]
 | [],[],_+1,_=>trivial
 | _ :: _,_ :: _,n+1,h=>⟨h.1,relL.take n h.2⟩
 | [],_ :: _,_+1,h=>h.elim
 | _ :: _,[],_+1,h=>h.elim
theorem relL.one:∀ {a:List AC} {us:List Value},relL bs w a us->∀ u ∈ us,u.oneCell'=true
 | [],[],_,_,hu=>by cases hu
 | _ :: _,_ :: _,h,u,hu=>by
   rcases List.mem_cons.1 hu with rfl | hu
   ·exact rel1.one h.1
   ·exact relL.one h.2 u hu
 | [],_ :: _,h,_,_=>h.elim
 | _ :: _,[],h,_,_=>h.elim
theorem relL.get:∀ {a:List AC} {us:List Value} {i:Nat} {x:AC},relL bs w a us->a[i]?=some x->∃ u,us[i]?=some u/\rel1 bs w x u
 | [],[],_,_,_,hi=>by simp at hi
 | y :: _,v :: _,0,x,h,hi=>⟨v,rfl,by have e:y=x:=(by simpa using hi); subst e; exact h.1⟩
 | _ :: _,_ :: _,i+1,_,h,hi=>by
   obtain ⟨u,h1,h2⟩:=relL.get h.2 (by simpa using hi)
   exact ⟨u,by simpa using h1,h2⟩
 | [],_ :: _,_,_,h,_=>h.elim
 | _ :: _,[],_,_,h,_=>h.elim
theorem relKs.get:∀ {a:List AK} {us:List Value} {i:Nat} {x:AK},relKs bs w a us->a[i]?=some x->∃ u,us[i]?=some u/\relK bs w x u
 | [],[],_,_,_,hi=>by simp at hi
 | y :: _,v :: _,0,x,h,hi=>⟨v,rfl,by have e:y=x:=(by simpa using hi); subst e; exact h.1⟩
 | _ :: _,_ :: _,i+1,_,h,hi=>by
   obtain ⟨u,h1,h2⟩:=relKs.get h.2 (by simpa using hi)
   exact ⟨u,by simpa using h1,h2⟩
 | [],_ :: _,_,_,h,_=>h.elim
 | _ :: _,[],_,_,h,_=>h.elim
structure Keep (bs bs':Bs) (w w':World):Prop where
 sl:∀ u l,SlU w u l->Away bs u l->SlU w' u l/\Away bs' u l
 cp:∀ (b o x:Nat),w.cell? ⟨b,o,none⟩=some (.int .u32 (x:Int))->bs.away b->w'.cell? ⟨b,o,none⟩=some (.int .u32 (x:Int))/\bs'.away b
 bx:∀ (i b:Nat),bs.l[i]?=some b->bs'.l[i]?=some b
 old:Old bs.lo bs'.lo w w'
theorem Keep.ext {bs:Bs} {w w':World} (h:Ext w w'):Keep bs bs w w':=⟨fun _ _ k a=>⟨k.later h,a⟩,fun _ _ _ k a=>⟨Later.cell k (Later.mk w' h),a⟩,fun _ _ k=>k,fun _ h1 h2=>⟨h1,Nat.lt_of_lt_of_le h2 h.size,fun _=>h.cell (by exact h2)⟩⟩
theorem Keep.more (bs:Bs) (w:World) (l:List Nat):Keep bs (bs.more l) w w:=⟨fun _ _ k a=>⟨k,a⟩,fun _ _ _ k a=>⟨k,a⟩,fun i b k=>by
 have hi:i < bs.l.length:=by
  rcases Nat.lt_or_ge i bs.l.length with h | h
  ·exact h
  ·rw [List.getElem?_eq_none h] at k; cases k
 show (bs.l ++ l)[i]?=some b
 rw [List.getElem?_append_left hi]; exact k,fun _ h1 h2=>⟨h1,h2,fun _=>rfl⟩⟩
theorem Keep.trans {a b c:Bs} {x y z:World} (h:Keep a b x y) (k:Keep b c y z):Keep a c x z:=⟨fun u l e a=>k.sl u l (h.sl u l e a).1 (h.sl u l e a).2,fun b o x e a=>k.cp b o x (h.cp b o x e a).1 (h.cp b o x e a).2,fun i d e=>k.bx i d (h.bx i d e),fun g h1 h2=>by
 obtain ⟨p,q,r⟩:=h.old g h1 h2
 obtain ⟨p',q',r'⟩:=k.old g p q
 exact ⟨p',q',fun o=>(r' o).trans (r o)⟩⟩
variable {bs':Bs}
theorem Keep.rel1 (h:Keep bs bs' w w'):∀ {x:AC} {u:Value},rel1 bs w x u->rel1 bs' w' x u
 | .v _,_,k=>k
 | .sl _,_,k=>h.sl _ _ k.1 k.2
 | .bx _ _,_,⟨b,k,e⟩=>⟨b,h.bx _ _ k,e⟩
 | .sp _,_,⟨b,o,e,k,a⟩=>⟨b,o,e,h.cp _ _ _ k a⟩
 | .pt _,_,k=>SlP.keep k h.old
 | .pp _,_,k=>SlQ.keep k h.old
 | .op _,_,⟨b,o,e,k1,k2,k3⟩=>by
   obtain ⟨p,q,r⟩:=h.old b k1 k2
   exact ⟨b,o,e,p,q,fun j v hj=>by rw [r]; exact k3 j v hj⟩
 | .oq _,_,⟨b,o,v,e,k1,k2,k3,k4⟩=>by
   obtain ⟨p,q,r⟩:=h.old b k1 k2
   exact ⟨b,o,v,e,p,q,by rw [r]; exact k3,k4.keep h.old⟩
 | .ba _ _,_,⟨b,k,e⟩=>⟨b,h.bx _ _ k,e⟩
 | .ln _,_,k=>k
 | .pl _ _,_,k=>SlV.keep k h.old
 | .I _,_,k=>k
 | .R _,_,k=>k
theorem Keep.relL (h:Keep bs bs' w w'):∀ {x:List AC} {u:List Value},relL bs w x u->relL bs' w' x u
 | [],[],_=>trivial
 | _ :: _,_ :: _,k=>⟨h.rel1 k.1,h.relL k.2⟩
 | [],_ :: _,k=>k.elim
 | _ :: _,[],k=>k.elim
theorem Keep.relK (h:Keep bs bs' w w'):∀ {x:AK} {u:Value},relK bs w x u->relK bs' w' x u
 | .c _,_,k=>h.rel1 k
 | .g _,_,⟨us,e,k⟩=>⟨us,e,h.relL k⟩
theorem Keep.relKs (h:Keep bs bs' w w'):∀ {x:List AK} {u:List Value},relKs bs w x u->relKs bs' w' x u
 | [],[],_=>trivial
 | _ :: _,_ :: _,k=>⟨h.relK k.1,h.relKs k.2⟩
 | [],_ :: _,k=>k.elim
 | _ :: _,[],k=>k.elim
theorem Keep.relV (h:Keep bs bs' w w'):∀ {x:AV} {u:Value},relV bs w x u->relV bs' w' x u
 | .u,_,_=>trivial
 | .k _,_,k=>h.relK k
 | .t _,_,⟨us,e,k⟩=>⟨us,e,h.relKs k⟩
end
def cut:Nat->List AC->Nat->Nat->Option (List AC)
 | 0,_,_,_=>none
 | f+1,xs,off,n =>
   match n with
   | 0=>some []
   | n+1 =>
     match xs with
     | []=>none
     | x :: r =>
       bif Nat.ble x.width off then cut f r (off - x.width) (n+1)
       else bif Nat.beq off 0 && Nat.ble x.width (n+1) then (cut f r 0 (n+1 - x.width)).map (x :: ·)
       else bif Nat.beq x.width 1 then none
       else cut f (x.split ++ r) off (n+1)
theorem cut_spec:∀ (f:Nat) (xs:List AC) (off n:Nat) (ys:List AC),cut f xs off n=some ys->flats ys=((flats xs).drop off).take n/\(flats ys).length=n
 | 0,_,_,_,_,h=>by simp [cut] at h
 | f+1,xs,off,0,ys,h=>by
   simp only [cut,Option.some.injEq] at h
   subst h
   simp [flats]
 | f+1,[],off,n+1,ys,h=>by simp [cut] at h
 | f+1,x :: r,off,n+1,ys,h=>by
   simp only [cut] at h
   have hl:=flat_length x
   cases h1:Nat.ble x.width off with
   | true =>
     rw [h1] at h
     simp only [cond_true] at h
     have h1':x.width <= off:=by simpa using h1
     obtain ⟨e1,e2⟩:=cut_spec f r _ _ ys h
     refine ⟨?_,e2⟩
     rw [e1,flats,List.drop_append,List.drop_of_length_le (l:=x.flat) (by omega),List.nil_append,hl]
   | false =>
     rw [h1] at h
     simp only [cond_false] at h
     cases h2:(Nat.beq off 0 && Nat.ble x.width (n+1)) with
     | true =>
       rw [h2] at h
       simp only [cond_true] at h
       simp only [Bool.and_eq_true,Nat.beq_eq,Nat.ble_eq] at h2
       obtain ⟨rfl,h3⟩:=h2
       simp only [Option.map_eq_some_iff] at h
       obtain ⟨zs,h4,rfl⟩:=h
       obtain ⟨e1,e2⟩:=cut_spec f r _ _ zs h4
       rw [flats,flats,List.drop_zero,List.take_append,hl,List.take_of_length_le (by omega),e1,List.drop_zero]
       refine ⟨rfl,?_⟩
       rw [List.length_append,hl]
       rw [e1,List.drop_zero] at e2
       rw [e2]
       omega
     | false =>
       rw [h2] at h
       simp only [cond_false] at h
       cases h3:Nat.beq x.width 1 with
       | true=>rw [h3] at h; simp at h
       | false =>
         rw [h3] at h
         simp only [cond_false] at h
         obtain ⟨e1,e2⟩:=cut_spec f _ _ _ ys h
         refine ⟨?_,e2⟩
         rw [e1,flats_append,flats_split,flats]
def upd (f:Nat) (xs:List AC) (off:Nat) (n:Nat) (tot:Nat) (ys:List AC):Option (List AC) :=
 match cut f xs 0 off,cut f xs (off+n) (tot - off - n) with
 | some a,some b=>some (a ++ ys ++ b)
 | _,_=>none
theorem upd_spec {f:Nat} {xs ys zs:List AC} {off n tot:Nat} (h:upd f xs off n tot ys=some zs):flats zs=(flats xs).take off ++ flats ys ++ ((flats xs).drop (off+n)).take (tot - off - n):=by
 unfold upd at h
 split at h
 ·rename_i a b h1 h2
  simp only [Option.some.injEq] at h
  subst h
  obtain ⟨e1,_⟩:=cut_spec _ _ _ _ _ h1
  obtain ⟨e2,_⟩:=cut_spec _ _ _ _ _ h2
  rw [flats_append,flats_append,e1,e2,List.drop_zero]
 ·cases h
def notU (u:Value):Prop:=∀ n,u ≠ .int .u32 n
def AC.soft:AC->Bool
 | .v (.int .u32 _)=>false
 | _=>true
def softs:List AC->Bool
 | []=>true
 | x :: l=>x.soft && softs l
theorem soft_rel {bs:Bs} {w:World}:∀ {x:AC} {u:Value},x.soft=true->rel1 bs w x u->notU u
 | .v x,u,hs,h=>by
   obtain ⟨rfl,_⟩:=h
   intro n e
   subst e
   simp [AC.soft] at hs
 | .sl _,_,_,h=>by obtain ⟨a,c,rfl⟩:=SlU.form h.1; intro n e; cases e
 | .bx _ _,_,_,⟨_,_,h⟩=>by subst h; intro n e; cases e
 | .sp _,_,_,⟨_,_,h,_⟩=>by subst h; intro n e; cases e
 | .pt _,_,_,⟨_,_,_,_,h,_⟩=>by subst h; intro n e; cases e
 | .pp _,_,_,⟨_,_,_,_,h,_⟩=>by subst h; intro n e; cases e
 | .op _,_,_,⟨_,_,h,_⟩=>by subst h; intro n e; cases e
 | .oq _,_,_,⟨_,_,_,h,_⟩=>by subst h; intro n e; cases e
 | .ba _ _,_,_,⟨_,_,h⟩=>by subst h; intro n e; cases e
 | .ln _,_,_,⟨_,_,h⟩=>by subst h; intro n e; cases e
 | .pl _ _,_,_,⟨_,_,_,_,h,_⟩=>by subst h; intro n e; cases e
 | .I _,_,_,h=>h.elim
 | .R _,_,_,h=>h.elim
theorem flat_soft:∀ {x:AC},x.soft=true->∀ y ∈ x.flat,y.soft=true
 | .v x,h,y,hy=>by simp only [AC.flat,List.mem_singleton] at hy; subst hy; exact h
 | .sl _,_,y,hy=>by simp only [AC.flat,List.mem_singleton] at hy; subst hy; rfl
 | .bx _ _,_,y,hy=>by simp only [AC.flat,List.mem_singleton] at hy; subst hy; rfl
 | .sp _,_,y,hy | .pt _,_,y,hy | .pp _,_,y,hy | .op _,_,y,hy | .oq _,_,y,hy | .ba _ _,_,y,hy | .ln _,_,y,hy | .pl _ _,_,y,hy=>by simp only [AC.flat,List.mem_singleton] at hy; subst hy; rfl
 | .I _,_,y,hy=>by simp only [AC.flat,List.mem_cons,List.not_mem_nil,or_false] at hy; rcases hy with rfl | rfl <;> rfl
 | .R _,_,y,hy=>by simp only [AC.flat,List.mem_cons,List.not_mem_nil,or_false] at hy; rcases hy with rfl | rfl | rfl | rfl <;> rfl
theorem softs_flat:∀ {l:List AC},softs l=true->∀ y ∈ flats l,y.soft=true
 | [],_,y,hy=>by simp [flats] at hy
 | x :: l,h,y,hy=>by
   simp only [softs,Bool.and_eq_true] at h
   simp only [flats,List.mem_append] at hy
   rcases hy with hy | hy
   ·exact flat_soft h.1 y hy
   ·exact softs_flat h.2 y hy
theorem softs_rel {bs:Bs} {w:World}:∀ {l:List AC} {us:List Value},(∀ y ∈ l,y.soft=true)->relL bs w l us->∀ u ∈ us,notU u
 | [],[],_,_,_,hu=>by cases hu
 | x :: _,_ :: _,hs,h,u,hu=>by
   rcases List.mem_cons.1 hu with rfl | hu
   ·exact soft_rel (hs x (List.mem_cons_self ..)) h.1
   ·exact softs_rel (fun y hy=>hs y (List.mem_cons_of_mem _ hy)) h.2 u hu
 | [],_ :: _,_,h,_,_=>h.elim
 | _ :: _,[],_,h,_,_=>h.elim
theorem cell_apart {w w':World} {b o x B:Nat} {vs:Array Value} {T:TypeId} {fz:Nat × Nat} (h:w.cell? ⟨b,o,none⟩=some (.int .u32 (x:Int))) (hB:w.heap[B]?=some (.cells vs T fz)) (hn:∀ u ∈ vs,notU u)
    (hk:∀ k,k ≠ B->w'.heap[k]?=w.heap[k]?):w'.cell? ⟨b,o,none⟩=some (.int .u32 (x:Int)):=by
 have hne:b ≠ B:=by
  rintro rfl
  rw [Lib.cell_of_heap hB] at h
  exact hn _ (Array.mem_of_getElem? h) _ rfl
 have:w'.cell? ⟨b,o,none⟩=w.cell? ⟨b,o,none⟩:=by
  unfold World.cell?
  rw [hk b hne]
 rw [this]; exact h
theorem slU_apart {w w':World} {s:Value} {l:List Nat} {B:Nat} {vs:Array Value} {T:TypeId} {fz:Nat × Nat} (h:SlU w s l) (hB:w.heap[B]?=some (.cells vs T fz)) (hn:∀ u ∈ vs,notU u)
    (hs:w'.heap.size=w.heap.size) (hk:∀ k,k ≠ B->w'.heap[k]?=w.heap[k]?):SlU w' s l:=by
 obtain ⟨a,n,cap,g,off,rfl,h2,h3,h4,h5,h6⟩:=h
 refine ⟨a,n,cap,g,off,rfl,h2,h3,h4,h5,fun j x hx=>?_⟩
 obtain ⟨p,q⟩:=h6 j x hx
 refine ⟨by rw [hs]; exact p,fun r u hu=>?_⟩
 have hq:=q r u hu
 have hne:g ≠ B:=by
  rintro rfl
  have hr:r=0:=by
   cases r with
   | zero=>rfl
   | succ r=>simp [uC] at hu
  subst hr
  have:u=.int .u32 x:=by simpa [uC] using hu.symm
  subst this
  rw [Lib.cell_of_heap hB] at hq
  exact hn _ (Array.mem_of_getElem? hq) _ rfl
 have:w'.cell? ⟨g,off+j*1+r,none⟩=w.cell? ⟨g,off+j*1+r,none⟩:=by
  unfold World.cell?
  rw [hk g hne]
 rw [this]; exact hq
end Vc
end Go.Proofs.YtkdjilgddbjcaaaGreat
namespace Go.Proofs.YtkdjilgddbjcaaaGreat
open Go.RowKit
namespace Vc
structure Lay where
 t:Nat
 size:Nat
 agg:Bool
 kd:Nat
 el:Nat
 zero:List AC
 flds:List (Nat × Nat)
def getLay:List Lay->Nat->Option Lay
 | [],_=>none
 | l :: r,t=>bif Nat.beq l.t t then some l else getLay r t
theorem getLay_spec:∀ {L:List Lay} {t:Nat} {l:Lay},getLay L t=some l->l ∈ L/\l.t=t
 | [],_,_,h=>by simp [getLay] at h
 | x :: r,t,l,h=>by
   unfold getLay at h
   cases hx:Nat.beq x.t t with
   | true =>
     rw [hx] at h
     simp only [cond_true,Option.some.injEq] at h
     subst h
     exact ⟨List.mem_cons_self ..,by simpa using hx⟩
   | false =>
     rw [hx] at h
     obtain ⟨h1,h2⟩:=getLay_spec (L:=r) h
     exact ⟨List.mem_cons_of_mem _ h1,h2⟩
def zeroB:List AC->List Value->Bool
 | [],[]=>true
 | .v (.bool a) :: l,.bool b :: us=>(a == b) && zeroB l us
 | .v (.int k n) :: l,.int k' n' :: us=>decide (k=k') && decide (n=n') && zeroB l us
 | .v (.slice none 0 0) :: l,.slice none 0 0 :: us=>zeroB l us
 | .sl [] :: l,.slice none 0 0 :: us=>zeroB l us
 | _,_=>false
theorem zeroB_rel (bs:Bs) (w:World) (l:List AC) (us:List Value) (h:zeroB l us=true):relL bs w l us:=by
 fun_induction zeroB l us with
 | case1=>trivial
 | case2 a l b us ih =>
   simp only [Bool.and_eq_true,beq_iff_eq] at h
   obtain ⟨rfl,h⟩:=h
   exact ⟨⟨rfl,rfl⟩,ih h⟩
 | case3 k n l k' n' us ih =>
   simp only [Bool.and_eq_true,decide_eq_true_eq] at h
   obtain ⟨⟨rfl,rfl⟩,h⟩:=h
   exact ⟨⟨rfl,rfl⟩,ih h⟩
 | case4 l us ih=>exact ⟨⟨rfl,rfl⟩,ih h⟩
 | case5 l us ih=>exact ⟨⟨SlU.nil w,fun g hg=>by cases hg⟩,ih h⟩
 | case6=>cases h
def u0:Option Value->Bool
 | some (.int .u32 z)=>decide (z=0)
 | _=>false
theorem u0_eq {z:Option Value} (h:u0 z=true):z=some (.int .u32 0):=by
 unfold u0 at h
 split at h
 ·rw [of_decide_eq_true h]
 ·cases h
def kindB (P:Program) (el:Nat):Nat->TypeDesc->Bool
 | 1,.bool=>true
 | 2,.slice e=>match P.info? e,P.underlying e with
   | some i,some (.int .u32)=>decide (i.size=1) && decide (i.zero.map (·.cells.size)=some 1) && decide (i.bytes=4) && u0 i.zero
   | _,_=>false
 | 3,.int .i64=>true
 | 4,.int .u64=>true
 | 5,.int .u32=>true
 | 6,.int .i32=>true
 | 7,.int .u8=>true
 | 8,.slice e=>Nat.beq e el && decide ((P.info? el).map (·.size)=some 2)
 | 9,.slice e=>Nat.beq e el && decide ((P.info? el).map (·.size)=some 1)
 | 10,.slice e=>Nat.beq e el
 | 11,.struct _=>true
 | n+100,.slice e=>Nat.beq e el && decide ((P.info? el).map (·.size)=some n)
 | 0,_=>true
 | _,_=>false
def kdInt:Nat->Option IntKind
 | 3=>some .i64
 | 4=>some .u64
 | 5=>some .u32
 | 6=>some .i32
 | 7=>some .u8
 | _=>none
theorem kindB_int {P:Program} {el n:Nat} {d:TypeDesc} {k:IntKind} (h:kindB P el n d=true) (hk:kdInt n=some k):d=.int k:=by
 unfold kdInt at hk
 split at hk <;> (try (cases hk; done)) <;> (simp only [Option.some.injEq] at hk; subst hk) <;> cases d <;> (try (simp [kindB] at h; done)) <;> (rename_i k'; cases k' <;> first | rfl | (simp [kindB] at h; done))
def eq2B (P:Program) (t:TypeId):Bool :=
 match P.underlying t with
 | some (.struct fs) =>
   (match fs.toList with
    | [f, g] => decide (f.name ≠ "_") && decide (g.name ≠ "_") && decide (f.offset = 0) && decide (g.offset = 1) &&
      (match P.underlying f.type,P.underlying g.type with
       | some (.int .i64),some (.int .i64)=>true
       | _,_=>false)
    | _=>false) && !P.stoodInHeld t && !P.eqGuardType P.depth t
 | _=>false
theorem run_part_int {P:Program} {t:TypeId} {k:IntKind} (h:P.underlying t=some (.int k)) (cs:Array Value) (off:Nat) (v:Value) (hv:cs[off]?=some v) (w:World):(part t cs off).run P w=.ok v w:=by
 simp [part,isAgg,run_underlying h,hv]
theorem eq2B_run {P:Program} {t:TypeId} (h:eq2B P t=true) (a b c d:Int) (x y:Operand) (w:World) :
    (do eqGuard .eql t x y (.agg #[.int .i64 a,.int .i64 b]) (.agg #[.int .i64 c,.int .i64 d]); binOp .eql t (.agg #[.int .i64 a,.int .i64 b]) (.agg #[.int .i64 c,.int .i64 d]):Sem Value).run P w=.ok (.bool (decide (a=c/\b=d))) w:=by
 unfold eq2B at h
 split at h
 ·rename_i fs hu
  simp only [Bool.and_eq_true,Bool.not_eq_true'] at h
  obtain ⟨⟨h1,h2⟩,h3⟩:=h
  split at h1
  ·rename_i f g hl
   simp only [Bool.and_eq_true,decide_eq_true_eq] at h1
   obtain ⟨⟨⟨⟨n1,n2⟩,o1⟩,o2⟩,h1⟩:=h1
   split at h1
   ·rename_i u1 u2
    have hf:P.fieldsOf t=fs:=by simp [Program.fieldsOf,hu]
    have e:(Op.equalIn 10000 t (.agg #[.int .i64 a,.int .i64 b]) (.agg #[.int .i64 c,.int .i64 d])).run P w=.ok (decide (a=c/\b=d)) w:=by
     have hs:P.underlying t=some (.struct (P.fieldsOf t)):=by rw [hf]; exact hu
     have p0:(part f.type #[.int .i64 a,.int .i64 b] f.offset).run P w=.ok (.int .i64 a) w:=run_part_int u1 _ _ _ (by rw [o1]; rfl) w
     have p1:(part g.type #[.int .i64 a,.int .i64 b] g.offset).run P w=.ok (.int .i64 b) w:=run_part_int u2 _ _ _ (by rw [o2]; rfl) w
     have q0:(part f.type #[.int .i64 c,.int .i64 d] f.offset).run P w=.ok (.int .i64 c) w:=run_part_int u1 _ _ _ (by rw [o1]; rfl) w
     have q1:(part g.type #[.int .i64 c,.int .i64 d] g.offset).run P w=.ok (.int .i64 d) w:=run_part_int u2 _ _ _ (by rw [o2]; rfl) w
     have r0:=run_equalIn_int w 9998 f.type .i64 .i64 a c u1
     have r1:=run_equalIn_int w 9998 g.type .i64 .i64 b d u2
     rw [run_equalIn_agg w 9999 t _ _ hs h2,hf,hl]
     unfold Op.eqFields
     rw [if_pos n1]
     simp only [Sem.run_bind,p0,q0,r0,Result.andThen_ok]
     by_cases ac:a=c
     ·subst ac
      unfold Op.eqFields
      rw [if_pos n2]
      simp only [beq_self_eq_true,Bool.not_true,Bool.false_eq_true,if_false,Sem.run_bind,p1,q1,r1,Result.andThen_ok]
      by_cases bd:b=d <;> simp [bd,Op.eqFields]
     ·simp [ac]
    simp [run_eqGuard_agg _ _ _ _ _ _ _ h3,run_eql_struct,e]
   ·cases h1
  ·cases h1
 ·cases h
def layB (P:Program) (l:Lay):Bool :=
 match P.info? l.t,P.underlying l.t with
 | some i,some d =>
   decide (i.size=l.size) && (d.isRow == l.agg) && kindB P l.el l.kd d && (l.agg || decide (l.size=1)) &&
   (match i.zero with | some z=>zeroB (flats l.zero) z.cells.toList | none=>false) && decide ((flats l.zero).length=l.size) && (softs l.zero || Nat.beq l.kd 5) &&
   (match d with
    | .struct fields=>decide (fields.toList.mapM (fun f=>(P.info? f.type).map fun i=>(f.offset,i.size))=some l.flds) && l.flds.all (fun p=>decide (p.2 ≠ 0))
    | _=>l.flds.isEmpty) && (!Nat.beq l.kd 11 || eq2B P l.t)
 | _,_=>false
structure LayOK (P:Program) (l:Lay):Prop where
 size:(P.info? l.t).map (·.size)=some l.size
 desc:∃ d,P.underlying l.t=some d/\d.isRow=l.agg
 one:l.agg=false->l.size=1
 bool:l.kd=1->P.underlying l.t=some .bool
 slice:l.kd=2->∃ e i z,P.underlying l.t=some (.slice e)/\P.info? e=some i/\i.size=1/\i.zero=some z/\z.cells.size=1/\i.bytes=4
 zero2:l.kd=2->∀ e i,P.underlying l.t=some (.slice e)->P.info? e=some i->i.zero=some (.int .u32 0)
 sl8:l.kd=8->P.underlying l.t=some (.slice l.el)/\(P.info? l.el).map (·.size)=some 2
 sl9:l.kd=9->P.underlying l.t=some (.slice l.el)/\(P.info? l.el).map (·.size)=some 1
 sl10:l.kd=10->P.underlying l.t=some (.slice l.el)
 eq2:l.kd=11->eq2B P l.t=true
 slk:∀ k,l.kd=k+100->P.underlying l.t=some (.slice l.el)/\(P.info? l.el).map (·.size)=some k
 int:∀ k,kdInt l.kd=some k->P.underlying l.t=some (.int k)
 zero:∃ i z,P.info? l.t=some i/\i.zero=some z/\∀ bs w,relL bs w (flats l.zero) z.cells.toList
 zlen:(flats l.zero).length=l.size
 zsoft:Nat.beq l.kd 5=false->softs l.zero=true
 flds:l.flds ≠ []->∃ fields,P.underlying l.t=some (.struct fields)/\fields.toList.mapM (fun f=>(P.info? f.type).map fun i=>(f.offset,i.size))=some l.flds
 fpos:∀ p ∈ l.flds,p.2 ≠ 0
theorem layB_ok {P:Program} {l:Lay} (h:layB P l=true):LayOK P l:=by
 unfold layB at h
 split at h
 ·rename_i i d hi hd
  simp only [Bool.and_eq_true,decide_eq_true_eq,Bool.or_eq_true,beq_iff_eq] at h
  obtain ⟨⟨⟨⟨⟨⟨⟨⟨h1,h2⟩,h0⟩,h3⟩,h4⟩,h5⟩,h6⟩,h7⟩,h8⟩:=h
  refine ⟨by rw [hi]; simp [h1],⟨d,hd,h2⟩,fun ha=>h3.resolve_left (by simp [ha]),fun hb=>?_,fun hb=>?_,fun hb=>?_,fun hb=>?_,fun hb=>?_,fun hb=>?_,fun hb=>h8.resolve_left (by simp [hb]),fun k hb=>?_,fun k hb=>?_,?_,h5,fun h=>h6.resolve_right (by rw [h]; decide),fun hf=>?_,fun p hp=>?_⟩
  ·rw [hb] at h0
   cases d <;> simp [kindB] at h0
   exact hd
  ·rw [hb] at h0
   cases d <;> simp only [kindB] at h0 <;> try (cases h0; done)
   rename_i e
   split at h0
   ·rename_i i' hi' hu'
    simp only [Bool.and_eq_true,decide_eq_true_eq,Option.map_eq_some_iff] at h0
    obtain ⟨⟨⟨g1,z,g2,g3⟩,g4⟩,_⟩:=h0
    exact ⟨e,i',z,hd,hi',g1,g2,g3,g4⟩
   ·cases h0
  ·rw [hb] at h0
   cases d <;> simp only [kindB] at h0 <;> try (cases h0; done)
   rename_i e
   split at h0
   ·rename_i i' hi' hu'
    simp only [Bool.and_eq_true] at h0
    intro e2 i2 he2 hi2
    rw [hd] at he2
    cases he2
    rw [hi'] at hi2
    cases hi2
    exact u0_eq h0.2
   ·cases h0
  ·rw [hb] at h0
   cases d <;> simp only [kindB] at h0 <;> try (cases h0; done)
   simp only [Bool.and_eq_true,Nat.beq_eq,decide_eq_true_eq] at h0
   rw [hd,h0.1]
   exact ⟨rfl,h0.2⟩
  ·rw [hb] at h0
   cases d <;> simp only [kindB] at h0 <;> try (cases h0; done)
   simp only [Bool.and_eq_true,Nat.beq_eq,decide_eq_true_eq] at h0
   rw [hd,h0.1]
   exact ⟨rfl,h0.2⟩
  ·rw [hb] at h0
   cases d <;> simp only [kindB] at h0 <;> try (cases h0; done)
   simp only [Nat.beq_eq] at h0
   rw [hd,h0]
  ·rw [hb] at h0
   cases d <;> simp only [kindB] at h0 <;> try (cases h0; done)
   simp only [Bool.and_eq_true,Nat.beq_eq,decide_eq_true_eq] at h0
   rw [hd,h0.1]
   exact ⟨rfl,h0.2⟩
  ·rw [kindB_int h0 hb] at hd
   exact hd
  ·split at h4
   ·rename_i z hz
    exact ⟨i,z,hi,hz,fun bs w=>zeroB_rel bs w _ _ h4⟩
   ·cases h4
  ·split at h7
   ·rename_i fields
    simp only [Bool.and_eq_true,decide_eq_true_eq] at h7
    exact ⟨fields,hd,h7.1⟩
   ·exact absurd (List.isEmpty_iff.1 h7) hf
  ·split at h7
   ·simp only [Bool.and_eq_true,decide_eq_true_eq,List.all_eq_true] at h7
    exact h7.2 p hp
   ·rw [List.isEmpty_iff.1 h7] at hp; cases hp
 ·cases h
structure Bx where
 T:Nat
 cs:List AC
def BoxAt (bs:Bs) (lo:Nat) (w:World) (b:Nat) (x:Bx):Prop :=
 lo <= b/\∃ vs:List Value,w.heap[b]?=some (.cells vs.toArray x.T (0,0))/\relL bs w (flats x.cs) vs/\∀ u ∈ vs,notU u
def BoxesAt (bs:Bs) (lo:Nat) (w:World) (bx:List Bx):Prop:=∀ (i b:Nat) (x:Bx),bs.l[i]?=some b->bx[i]?=some x->BoxAt bs lo w b x
theorem BoxAt.ext {bs:Bs} {lo:Nat} {w w':World} {b:Nat} {x:Bx} (h:BoxAt bs lo w b x) (he:Ext w w'):BoxAt bs lo w' b x:=by
 obtain ⟨h1,vs,h2,h3,h4⟩:=h
 exact ⟨h1,vs,heap_keep h2 he,(Keep.ext he).relL h3,h4⟩
theorem BoxesAt.ext {bs:Bs} {lo:Nat} {w w':World} {bx:List Bx} (h:BoxesAt bs lo w bx) (he:Ext w w'):BoxesAt bs lo w' bx:=fun i b x h1 h2=>(h i b x h1 h2).ext he
def AK.cells:AK->List AC
 | .c x=>[x]
 | .g xs=>xs
theorem cells_rel {bs:Bs} {w:World}:∀ {x:AK} {u:Value},relK bs w x u->relL bs w (flats x.cells) u.cells.toList
 | .c x,u,h=>by
   have h1:=rel1.one (bs:=bs) (w:=w) (x:=x) h
   have e:u.cells=#[u]:=by cases u <;> first | rfl | simp [Value.oneCell'] at h1
   rw [e]
   cases x <;> first | exact ⟨h,trivial⟩ | exact h.elim
 | .g xs,u,⟨us,e,h⟩=>by subst e; simp only [Value.cells]; exact h
def mkK (agg:Bool) (cs:List AC):Option AV :=
 match agg,cs with
 | true,cs=>some (.k (.g cs))
 | false,[.v x]=>some (.k (.c (.v x)))
 | false,[.sl l]=>some (.k (.c (.sl l)))
 | false,[.bx i o]=>some (.k (.c (.bx i o)))
 | false,[.pl k l]=>some (.k (.c (.pl k l)))
 | _,_=>none
theorem run_equalIn_bool {P:Program} (w:World) (d:Nat) (t:TypeId) (a b:Bool) (h:P.underlying t=some .bool):(Op.equalIn (d+1) t (.bool a) (.bool b)).run P w=.ok (a == b) w:=by
 unfold Op.equalIn
 simp only [Sem.run_bind,run_underlying h,Result.andThen_ok,Sem.run_pure]
theorem run_equal_bool {P:Program} (w:World) (t:TypeId) (a b:Bool) (h:P.underlying t=some .bool):(Op.equal t (.bool a) (.bool b)).run P w=.ok (a == b) w:=run_equalIn_bool w 9999 t a b h
def inR:IntKind->Int->Prop
 | .i64,n=>-9223372036854775808 <= n/\n < 9223372036854775808
 | .u64,n=>0 <= n/\n < 18446744073709551616
 | .u32,n=>0 <= n/\n < 4294967296
 | .i32,n=>-2147483648 <= n/\n < 2147483648
 | .u8,n=>0 <= n/\n < 256
 | k,n=>k.wrap n=n
theorem inR_wrap {k:IntKind} {n:Int} (h:inR k n):k.wrap n=n:=by
 cases k
 case i64=>rw [IntKind.wrap_i64]; simp only [inR] at h; omega
 case u64=>rw [IntKind.wrap_u64]; simp only [inR] at h; omega
 case u32=>rw [IntKind.wrap_u32]; simp only [inR] at h; omega
 case i32=>rw [IntKind.wrap_i32]; simp only [inR] at h; omega
 case u8=>rw [IntKind.wrap_u8]; simp only [inR] at h; omega
 all_goals exact h
def due:Option Prop->Prop
 | none=>True
 | some p=>p
def abin (bl:Bool) (op:BinOp):Value->Value->Option (Option Prop × Value)
 | .int k a,.int k' b =>
   bif decide (k=k') then
    match op with
    | .eql=>some (none,.bool (a == b))
    | .neq=>some (none,.bool (a != b))
    | .lss=>some (none,.bool (decide (a < b)))
    | .leq=>some (none,.bool (decide (a <= b)))
    | .gtr=>some (none,.bool (decide (a > b)))
    | .geq=>some (none,.bool (decide (a >= b)))
    | .add=>some (some (inR k (a+b)),.int k (a+b))
    | .sub=>some (some (inR k (a - b)),.int k (a - b))
    | .mul=>some (some (inR k (a*b)),.int k (a*b))
    | .quo=>some (some ((0 <= a/\0 < b)/\inR k (a / b)),.int k (a / b))
    | .rem=>some (some (0 <= a/\0 < b),.int k (a % b))
    | _=>none
   else none
 | .bool a,.bool b =>
   bif bl then
    match op with
    | .eql=>some (none,.bool (a == b))
    | .neq=>some (none,.bool (a != b))
    | _=>none
   else none
 | _,_=>none
theorem abin_run {P:Program} {bl:Bool} {op:BinOp} {a b r:Value} {pre:Option Prop} (h:abin bl op a b=some (pre,r)) (hp:due pre) (T:TypeId) (hb:bl=true->P.underlying T=some .bool) (x y:Operand) (w:World):(do eqGuard op T x y a b; binOp op T a b:Sem Value).run P w=.ok r w:=by
 unfold abin at h
 split at h
 ·rename_i k a k' b
  by_cases hk:k=k'
  ·subst hk
   simp only [decide_true,cond_true] at h
   split at h <;> (try (cases h; done)) <;> simp only [Option.some.injEq,Prod.mk.injEq] at h <;> obtain ⟨rfl,rfl⟩:=h
   ·simp [go_sem]
   ·simp [go_sem]
   ·simp [go_sem]
   ·simp [go_sem]
   ·simp [go_sem]
   ·simp [go_sem]
   ·simp only [due] at hp; simp [go_sem,Op.intArith,inR_wrap hp]
   ·simp only [due] at hp; simp [go_sem,Op.intArith,inR_wrap hp]
   ·simp only [due] at hp; simp [go_sem,Op.intArith,inR_wrap hp]
   ·simp only [due] at hp
    obtain ⟨⟨h1,h2⟩,h3⟩:=hp
    have e:a.tdiv b=a / b:=Int.tdiv_eq_ediv_of_nonneg h1
    have hz:¬ b=0:=by omega
    simp [go_sem,Op.intDiv,hz,e,inR_wrap h3]
   ·simp only [due] at hp
    obtain ⟨h1,h2⟩:=hp
    have e:a.tmod b=a % b:=Int.tmod_eq_emod_of_nonneg h1
    have hz:¬ b=0:=by omega
    simp [go_sem,Op.intDiv,hz,e]
  ·simp [hk] at h
 ·rename_i p q
  cases hbl:bl with
  | false=>simp [hbl] at h
  | true =>
    have hu:=hb hbl
    simp only [hbl,cond_true] at h
    split at h <;> (try (cases h; done)) <;> simp only [Option.some.injEq,Prod.mk.injEq] at h <;> obtain ⟨rfl,rfl⟩:=h <;> (simp [go_sem,binOp,run_equal_bool w T _ _ hu] <;> cases p <;> cases q <;> rfl)
 ·cases h
def afill (ev:Operand->AV) (flds:List (Nat × Nat)) (tot:Nat):List (Nat × Operand)->List AC->Option (List AC)
 | [],cs=>some cs
 | (i,x) :: r,cs =>
   match flds[i]?,ev x with
   | some (off,n),.k y =>
     bif Nat.beq (flats y.cells).length n && Nat.ble (off+n) tot then
      match upd 99 cs off n tot y.cells with
      | some cs'=>afill ev flds tot r cs'
      | none=>none
     else none
   | _,_=>none
def conv64:IntKind->IntKind->Bool
 | .u64,.i64=>true
 | _,_=>false
def apure (L:List Lay) (bx:List Bx) (ev:Operand->AV):Op->Option (Option Prop × AV)
 | .move x=>some (none,ev x)
 | .assign x=>some (none,ev x)
 | .fieldAddr S x f =>
   match ev x,getLay L S with
   | .k (.c (.bx i off)),some l=>(l.flds[f]?).map fun d=>(none,.k (.c (.bx i (off+d.1))))
   | .k (.c (.op cs)),some l=>(l.flds[f]?).map fun d=>(none,.k (.c (.op ((cs.drop d.1).take d.2))))
   | _,_=>none
 | .load T x =>
   match ev x,getLay L T with
   | .k (.c (.bx i off)),some l =>
     match bx[i]? with
     | some b=>((cut 99 b.cs off l.size).bind (mkK l.agg)).map fun r=>(none,r)
     | none=>none
   | .k (.c (.sp x)),some l=>bif Nat.beq l.kd 5 then some (none,.k (.c (.v (.int .u32 (x:Int))))) else none
   | .k (.c (.op cs)),some l=>bif Nat.beq cs.length l.size then (mkK l.agg (cs.map .v)).map fun r=>(none,r) else none
   | .k (.c (.oq x)),some l=>bif Nat.beq l.kd 8 then some (none,.k (.c (.pt x))) else none
   | _,_=>none
 | .indexAddr T x y =>
   match ev x,ev y,getLay L T with
   | .k (.c (.sl l)),.k (.c (.v (.int _ i))),some d=>bif Nat.beq d.kd 2 then some (some (0 <= i/\i < (l.length:Int)),.k (.c (.sp (l.getD i.toNat 0)))) else none
   | .k (.c (.pt l)),.k (.c (.v (.int _ i))),some d=>bif Nat.beq d.kd 8 then some (some (0 <= i/\i < (l.length:Int)),.k (.c (.op [.int .i64 (l.getD i.toNat (0,0)).1,.int .i64 (l.getD i.toNat (0,0)).2]))) else none
   | .k (.c (.pp l)),.k (.c (.v (.int _ i))),some d=>bif Nat.beq d.kd 9 then some (some (0 <= i/\i < (l.length:Int)),.k (.c (.oq (l.getD i.toNat [])))) else none
   | .k (.c (.pl k l)),.k (.c (.v (.int _ i))),some d=>bif Nat.beq d.kd (k+100) then some (some (0 <= i/\i < (l.length:Int)),.k (.c (.op ((List.range k).map fun j=>.int .i64 ((l.getD i.toNat []).getD j 0))))) else none
   | .k (.c (.ba b n)),.k (.c (.v (.int _ (.ofNat i)))),some d=>
     match getLay L d.el with
     | some e=>bif Nat.beq d.kd 10 && Nat.blt i n then some (none,.k (.c (.bx b (i*e.size)))) else none
     | none=>none
   | _,_,_=>none
 | .slice T x none (some y) none =>
   match ev x,ev y,getLay L T with
   | .k (.c (.sl l)),.k (.c (.v (.int _ i))),some d=>bif Nat.beq d.kd 2 then some (some (0 <= i/\i <= (l.length:Int)),.k (.c (.sl (l.take i.toNat)))) else none
   | _,_,_=>none
 | .build T parts =>
   match getLay L T with
   | some l=>bif l.flds.isEmpty then none else (afill ev l.flds l.size parts.toList l.zero).map fun cs=>(none,.k (.g cs))
   | none=>none
 | .extract x i =>
   match ev x with
   | .t xs=>(xs[i]?).map fun r=>(none,.k r)
   | _=>none
 | .binOp op T x y _ =>
   match ev x,ev y with
   | .k (.g [.v (.int .i64 a),.v (.int .i64 b)]),.k (.g [.v (.int .i64 c),.v (.int .i64 d)]) =>
     (match op,getLay L T with
      | .eql,some l=>bif Nat.beq l.kd 11 then some (none,.k (.c (.v (.bool (decide (a=c/\b=d)))))) else none
      | _,_=>none)
   | .k (.c (.v a)),.k (.c (.v b))=>(abin (match getLay L T with | some l=>Nat.beq l.kd 1 | none=>false) op a b).map fun r=>(r.1,.k (.c (.v r.2)))
   | _,_=>none
 | .unOp .not _ x =>
   match ev x with
   | .k (.c (.v (.bool b)))=>some (none,.k (.c (.v (.bool (!b)))))
   | _=>none
 | .unOp .neg _ x =>
   match ev x with
   | .k (.c (.v (.int .i64 n)))=>some (some (inR .i64 (0 - n)),.k (.c (.v (.int .i64 (0 - n)))))
   | .k (.c (.v (.int .u64 n)))=>some (none,.k (.c (.v (.int .u64 (IntKind.wrap .u64 (0 - n))))))
   | _=>none
 | .convert S D x =>
   match ev x,getLay L S,getLay L D with
   | .k (.c (.v (.int k' n))),some _,some d =>
     match kdInt d.kd with
     | some k=>bif conv64 k' k then some (none,.k (.c (.v (.int k (IntKind.wrap k n))))) else some (some (inR k n),.k (.c (.v (.int k n))))
     | none=>none
   | _,_,_=>none
 | .call c =>
   match c.callee,c.args.toList,c.argTypes.toList with
   | .builtin .len,[x],[T] =>
     match ev x,getLay L T with
     | .k (.c (.sl l)),some y=>bif Nat.beq y.kd 2 then some (none,.k (.c (.v (.int .i64 (l.length:Int))))) else none
     | .k (.c (.pt l)),some y=>bif Nat.beq y.kd 8 then some (none,.k (.c (.v (.int .i64 (l.length:Int))))) else none
     | .k (.c (.pp l)),some y=>bif Nat.beq y.kd 9 then some (none,.k (.c (.v (.int .i64 (l.length:Int))))) else none
     | .k (.c (.ba _ n)),some y=>bif Nat.beq y.kd 10 then some (none,.k (.c (.v (.int .i64 (n:Int))))) else none
     | .k (.c (.ln n)),some y=>bif Nat.beq y.kd 10 then some (none,.k (.c (.v (.int .i64 (n:Int))))) else none
     | .k (.c (.pl k l)),some y=>bif Nat.beq y.kd (k+100) then some (none,.k (.c (.v (.int .i64 (l.length:Int))))) else none
     | _,_=>none
   | .builtin .min,[x,y],_ =>
     match ev x,ev y with
     | .k (.c (.v (.int .i64 a))),.k (.c (.v (.int .i64 b)))=>some (none,.k (.c (.v (.int .i64 (if b < a then b else a)))))
     | _,_=>none
   | _,_,_=>none
 | _=>none
theorem abin_one {bl:Bool} {op:BinOp} {a b r:Value} {pre:Option Prop} (h:abin bl op a b=some (pre,r)):r.oneCell'=true:=by
 unfold abin at h
 split at h
 ·rename_i k a k' b
  by_cases hk:k=k'
  ·simp only [hk,decide_true,cond_true] at h
   split at h <;> (try (cases h; done)) <;> simp only [Option.some.injEq,Prod.mk.injEq] at h <;> obtain ⟨_,rfl⟩:=h <;> rfl
  ·simp [hk] at h
 ·cases bl with
  | false=>simp at h
  | true =>
    simp only [cond_true] at h
    split at h <;> (try (cases h; done)) <;> simp only [Option.some.injEq,Prod.mk.injEq] at h <;> obtain ⟨_,rfl⟩:=h <;> rfl
 ·cases h
theorem mkK_rel {bs:Bs} {w:World} {agg:Bool} {cs:List AC} {r:AV} {us:List Value} (h:mkK agg cs=some r) (k:relL bs w (flats cs) us):relV bs w r (if agg then .agg us.toArray else us.getD 0 undef):=by
 unfold mkK at h
 split at h <;> first | (cases h; done) | skip
 ·simp only [Option.some.injEq] at h; subst h; exact ⟨us,rfl,k⟩
 all_goals
  simp only [Option.some.injEq] at h
  subst h
  match us,k with
  | [u],k=>exact k.1
end Vc
end Go.Proofs.YtkdjilgddbjcaaaGreat
