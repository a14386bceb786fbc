import Derived.Test.YtbohkigffejhoaaGreatR05
import Derived.Test.YtbohkigffejhoaaGreatR09
import Derived.Great.BuildSlice
import Derived.Laws.Tables
import Derived.Deep.CutBlock
import Derived.Deep.DeepCutAuto
import Derived.Deep.MidRow
open Bool (and_eq_true)
open List (all_eq_true drop_zero length_cons mem_append mem_cons mem_cons_self mem_singleton not_mem_nil)
open Nat (beq_eq ble_eq lt_or_ge)
open Option.some (injEq)
open Go.World (cell?)
namespace Go.Proofs.YtbohkigffejhoaaGreat
open Go.RowKit
namespace Vc
inductive AC
 | v (x:Value)
 | sl (l:List Nat)
 | I (z:Int)
 | R (q:Rat)
 | Z (b:Bool) (q:Rat)
 | bx (i off:Nat)
 | sp (x:Nat)
 | pt (l:List (Int × Int))
 | pp (l:List (List (Int × Int)))
 | op (cs:List Value)
 | oq (l:List (Int × Int))
 | ba (i n:Nat)
 | ln (n:Nat)
 | pl (k:Nat) (l:List (List Int))
 | rd (s:Sc) (f:Bool) (l:List s.T)
 | rc (cs:List AC)
 | ow (n T:Nat) (s:Sc) (l:List s.T)
 | os (n:Nat) (s:Sc) (l:List s.T)
 | oe (n T:Nat) (s:Sc) (l:List s.T) (i:Nat)
 | oc (n:Nat) (cs:List AC)
inductive AK
 | c (x:AC)
 | g (xs:List AC)
inductive AV
 | u
 | k (x:AK)
 | t (xs:List AK)
def AC.width:AC->Nat
 | .I _=>2
 | .R _=>4
 | .Z _ _=>4
 | _=>1
def AC.split:AC->List AC
 | .I z=>[.v (.bool (decide (z < 0))),.sl (Lb.limbs z.natAbs)]
 | .R q=>[.I q.num,.I (q.den:Int)]
 | .Z b q=>bif b then [.I q.num,.I (q.den:Int)] else [.v (.bool false),.sl [],.v (.bool false),.sl []]
 | x=>[x]
def AC.flat:AC->List AC
 | .I z=>[.v (.bool (decide (z < 0))),.sl (Lb.limbs z.natAbs)]
 | .R q=>[.v (.bool (decide (q.num < 0))),.sl (Lb.limbs q.num.natAbs),.v (.bool (decide ((q.den:Int) < 0))),.sl (Lb.limbs (q.den:Int).natAbs)]
 | .Z b q=>bif b then [.v (.bool (decide (q.num < 0))),.sl (Lb.limbs q.num.natAbs),.v (.bool (decide ((q.den:Int) < 0))),.sl (Lb.limbs (q.den:Int).natAbs)] else [.v (.bool false),.sl [],.v (.bool false),.sl []]
 | x=>[x]
def a0d:List AC->List AC
 | []=>[]
 | x :: l=>x.flat ++ a0d l
theorem a0I:∀ a b,a0d (a ++ b)=a0d a ++ a0d b
 | [],_=>rfl
 | x :: a,b=>by rw [List.cons_append,a0d,a0d,a0I a b,List.append_assoc]
theorem a2v (x:AC):x.flat.length=x.width:=by
 cases x with
 | Z b q=>cases b <;> rfl
 | _=>rfl
theorem aIv (x:AC):a0d x.split=x.flat:=by
 cases x with
 | Z b q=>cases b <;> rfl
 | _=>rfl
def Sc.enc:(s:Sc)->s.T->List AC
 | .P,p=>[.R p.a,.R p.b,.R p.c,.R p.d,.R p.e]
 | .U,u=>[.v (.bool u.arc),.Z (!u.arc) u.l.la,.Z (!u.arc) u.l.lb,.Z (!u.arc) u.l.lc,.Z u.arc u.k.kx,.Z u.arc u.k.ky,.Z u.arc u.k.kq,.v (.bool u.cw),.R u.f.a,.R u.f.b,.R u.f.c,.R u.f.d,.R u.f.e,.R u.t.a,.R u.t.b,.R u.t.c,.R u.t.d,.R u.t.e]
 | .V,v=>[.R v.vx,.R v.vy]
 | .C,p=>[.v (.int .i8 p.1),.v (.int .i8 p.2)]
 | .F,f=>[.v (.int .u8 f.fk),.v (.int .u8 f.fu),.v (.int .i8 f.fa),.v (.int .i8 f.fb),.v (.int .i8 f.fc),.v (.int .i8 f.fd),.rd .C false f.fl]
theorem a2Z (s:Sc) (x:s.T):(a0d (s.enc x)).length=s.k:=by
 cases s with
 | U=>cases x with | mk arc l k cw f t=>cases arc <;> rfl
 | P=>rfl
 | V=>rfl
 | C=>rfl
 | F=>rfl
structure Bs where
 lo:Nat
 l:List Nat
 ow:List (Option Nat)
 fb:List (Option Nat)
abbrev Bs.more (b:Bs) (l:List Nat):Bs:=⟨b.lo,b.l ++ l,b.ow,b.fb⟩
def Bs.away (_:Bs) (_:Nat):Prop:=True
def Away (_:Bs) (_:Value) (_:List Nat):Prop:=True
def okB (bs:Bs) (w:World):Bool:=bs.l.all (fun b=>Nat.blt b w.heap.size) && bs.ow.all (fun o=>match o with | some b=>Nat.blt b w.heap.size | none=>true)
def okF (bs:Bs) (w:World):Bool:=bs.fb.all (fun o=>match o with | some b=>Nat.blt b w.heap.size | none=>false)
theorem Away.any (bs:Bs) (u:Value) (l:List Nat):Away bs u l:=trivial
theorem Away.none {bs:Bs} {w:World} (_:okB bs w=true) (_:okF bs w=true) (u:Value) (l:List Nat):Away bs u l:=trivial
def Fz (bs:Bs) (w:World) (b:Nat):Prop:=b < w.heap.size/\b ∉ bs.l/\some b ∉ bs.ow/\some b ∉ bs.fb/\none ∉ bs.fb
def SlO {α:Type} (k lo:Nat) (w:World) (u:Value) (l:List α) (f:Nat->Nat->α->Prop):Prop :=
 ∃ (a:Option Addr) (cap b off:Nat),u=.slice a l.length cap/\(l.length=0 \/ a=some ⟨b,off,none⟩)/\(a=none->cap=0)/\l.length <= cap /\
   ∀ i x,l[i]?=some x->b < lo/\b < w.heap.size/\f b (off+i*k) x
def SlP (lo:Nat) (w:World) (u:Value) (l:List (Int × Int)):Prop :=
 SlO 2 lo w u l fun b o p=>w.cell? ⟨b,o,none⟩=some (.int .i64 p.1)/\w.cell? ⟨b,o+1,none⟩=some (.int .i64 p.2)
def SlQ (lo:Nat) (w:World) (u:Value) (l:List (List (Int × Int))):Prop :=
 SlO 1 lo w u l fun b o p=>∃ v,w.cell? ⟨b,o,none⟩=some v/\SlP lo w v p
def SlV (lo:Nat) (w:World) (u:Value) (k:Nat) (l:List (List Int)):Prop :=
 SlO k lo w u l fun b o r=>r.length=k/\∀ j x,r[j]?=some x->w.cell? ⟨b,o+j,none⟩=some (.int .i64 x)
def Old (lo lo':Nat) (w w':World):Prop:=∀ b,b < lo->b < w.heap.size->b < lo'/\b < w'.heap.size/\∀ o,w'.cell? ⟨b,o,none⟩=w.cell? ⟨b,o,none⟩
theorem SlO.keep {α:Type} {k lo lo':Nat} {w w':World} {u:Value} {l:List α} {f g:Nat->Nat->α->Prop} (h:SlO k lo w u l f) (ho:Old lo lo' w w') (hf:∀ b o x,b < lo->b < w.heap.size->f b o x->g b o x):SlO k lo' w' u l g:=by
 obtain ⟨a,cap,b,off,h1,h2,h3,h4,h5⟩:=h;refine ⟨a,cap,b,off,h1,h2,h3,h4,fun i x hx=>?_⟩;obtain ⟨p,q,r⟩:=h5 i x hx;obtain ⟨p',q',_⟩:=ho b p q;exact ⟨p',q',hf _ _ _ p q r⟩
theorem SlP.keep {lo lo':Nat} {w w':World} {u:Value} {l:List (Int × Int)} (h:SlP lo w u l) (ho:Old lo lo' w w'):SlP lo' w' u l :=
 SlO.keep h ho fun b o x p q r=>by
  obtain ⟨_,_,e⟩:=ho b p q;rw [e,e]; exact r
theorem SlV.keep {lo lo':Nat} {w w':World} {u:Value} {k:Nat} {l:List (List Int)} (h:SlV lo w u k l) (ho:Old lo lo' w w'):SlV lo' w' u k l :=
 SlO.keep h ho fun b o x p q r=>by
  obtain ⟨_,_,e⟩:=ho b p q;exact ⟨r.1,fun j y hj=>by rw [e]; exact r.2 j y hj⟩
theorem SlQ.keep {lo lo':Nat} {w w':World} {u:Value} {l:List (List (Int × Int))} (h:SlQ lo w u l) (ho:Old lo lo' w w'):SlQ lo' w' u l :=
 SlO.keep h ho fun b o x p q ⟨v,r1,r2⟩=>by
  obtain ⟨_,_,e⟩:=ho b p q;exact ⟨v,by rw [e]; exact r1,r2.keep ho⟩
def a9n (u:Value):Prop:=∀ n,u ≠ .int .u32 n
def relR (R:AC->Value->Prop):List AC->List Value->Prop
 | [],[]=>True
 | x :: l,u :: us=>R x u/\relR R l us
 | _,_=>False
def ElR (R:AC->Value->Prop) (w:World) (b o:Nat) (cs:List AC):Prop:=∃ us:List Value,w.rangeAt b o us/\relR R (a0d cs) us
def RdR (R:AC->Value->Prop) (B:Nat->Prop) (w:World) (u:Value) (s:Sc) (f:Bool) (l:List s.T):Prop :=
 ∃ (a:Option Addr) (cap b off:Nat),u=.slice a l.length cap/\(f=true->cap=l.length)/\(l.length=0 \/ a=some ⟨b,off,none⟩)/\(a=none->cap=0)/\l.length <= cap /\
   ∀ i x,l[i]?=some x->B b/\ElR R w b (off+i*s.k) (s.enc x)
def OwB (R:AC->Value->Prop) (lo:Nat) (w:World) (b T:Nat) (s:Sc) (l:List s.T) (cap:Nat):Prop :=
 lo <= b/\l.length <= cap/\cap <= maxLen/\∃ cur:Array Value,w.heap[b]?=some (.cells cur T (0,0))/\cur.size=cap*s.k/\relR R (a0d (l.flatMap s.enc)) (cur.toList.take (l.length*s.k))/\∀ v ∈ cur,a9n v
def OwR (R:AC->Value->Prop) (lo:Nat) (w:World) (u:Value) (T:Nat) (s:Sc) (l:List s.T) (ob:Option Nat):Prop :=
 (ob=none/\u=.slice none 0 0/\l=[]) \/ ∃ b cap,ob=some b/\u=.slice (some ⟨b,0,none⟩) l.length cap/\OwB R lo w b T s l cap
def rel0 (w:World):AC->Value->Prop
 | .v x,u=>u=x/\x.oneCell'=true/\a9n u
 | .sl l,u=>SlU w u l
 | _,_=>False
def relE (bs:Bs) (w:World):AC->Value->Prop
 | .rd s f l,u=>RdR (rel0 w) (Fz bs w) w u s f l
 | x,u=>rel0 w x u
def rel1 (bs:Bs) (w:World):AC->Value->Prop
 | .v x,u=>u=x/\x.oneCell'=true
 | .sl l,u=>SlU w u l/\Away bs u l
 | .bx i off,u=>∃ b,bs.l[i]?=some b/\u=.pointer (some ⟨b,off,none⟩)
 | .sp x,u=>∃ b o,u=.pointer (some ⟨b,o,none⟩)/\w.cell? ⟨b,o,none⟩=some (.int .u32 (x:Int))/\bs.away b
 | .pt l,u=>SlP bs.lo w u l
 | .pp l,u=>SlQ bs.lo w u l
 | .op cs,u=>∃ b o,u=.pointer (some ⟨b,o,none⟩)/\b < bs.lo/\b < w.heap.size/\∀ j v,cs[j]?=some v->w.cell? ⟨b,o+j,none⟩=some v/\v.oneCell'=true
 | .oq l,u=>∃ b o v,u=.pointer (some ⟨b,o,none⟩)/\b < bs.lo/\b < w.heap.size/\w.cell? ⟨b,o,none⟩=some v/\SlP bs.lo w v l
 | .ba i n,u=>∃ b,bs.l[i]?=some b/\u=.slice (some ⟨b,0,none⟩) n n
 | .ln n,u=>∃ a c,u=.slice a n c
 | .pl k l,u=>SlV bs.lo w u k l
 | .rd s f l,u=>RdR (relE bs w) (Fz bs w) w u s f l
 | .rc cs,u=>∃ b o,u=.pointer (some ⟨b,o,none⟩)/\Fz bs w b/\ElR (relE bs w) w b o cs
 | .ow n T s l,u=>∃ ob,bs.ow[n]?=some ob/\OwR (relE bs w) bs.lo w u T s l ob
 | .os n s l,u=>RdR (relE bs w) (fun b=>bs.ow[n]?=some (some b)) w u s false l
 | .oe n T s l i,u=>∃ b cap,bs.ow[n]?=some (some b)/\u=.pointer (some ⟨b,i*s.k,none⟩)/\i < l.length/\OwB (relE bs w) bs.lo w b T s l cap
 | .oc n cs,u=>∃ b o,bs.ow[n]?=some (some b)/\u=.pointer (some ⟨b,o,none⟩)/\ElR (relE bs w) w b o cs
 | .I _,_=>False
 | .R _,_=>False
 | .Z _ _,_=>False
def relL (bs:Bs) (w:World):List AC->List Value->Prop
 | [],[]=>True
 | x :: l,u :: us=>rel1 bs w x u/\relL bs w l us
 | _,_=>False
def relK (bs:Bs) (w:World):AK->Value->Prop
 | .c x,u=>rel1 bs w x u
 | .g xs,u=>∃ us:List Value,u=.agg us.toArray/\relL bs w (a0d xs) us
def relKs (bs:Bs) (w:World):List AK->List Value->Prop
 | [],[]=>True
 | x :: l,u :: us=>relK bs w x u/\relKs bs w l us
 | _,_=>False
def relV (bs:Bs) (w:World):AV->Value->Prop
 | .u,_=>True
 | .k x,u=>relK bs w x u
 | .t xs,u=>∃ us:List Value,u=.tuple us.toArray/\relKs bs w xs us
section
variable {bs:Bs} {w w':World}
theorem rel1.one {x:AC} {u:Value} (h:rel1 bs w x u):u.oneCell'=true:=by
 cases x with
 | v x=>obtain ⟨rfl,h⟩:=h; exact h
 | sl l=>obtain ⟨a,c,rfl⟩:=SlU.form h.1; rfl
 | bx i off=>obtain ⟨b,_,rfl⟩:=h; rfl
 | sp x=>obtain ⟨b,o,rfl,_⟩:=h; rfl
 | pt l=>obtain ⟨a,c,b,o,rfl,_⟩:=h; rfl
 | pp l=>obtain ⟨a,c,b,o,rfl,_⟩:=h; rfl
 | op cs=>obtain ⟨b,o,rfl,_⟩:=h; rfl
 | oq l=>obtain ⟨b,o,v,rfl,_⟩:=h; rfl
 | ba i n=>obtain ⟨b,_,rfl⟩:=h; rfl
 | ln n=>obtain ⟨a,c,rfl⟩:=h; rfl
 | pl k l=>obtain ⟨a,c,b,o,rfl,_⟩:=h; rfl
 | rd s f l=>obtain ⟨a,c,b,o,rfl,_⟩:=h; rfl
 | rc cs=>obtain ⟨b,o,rfl,_⟩:=h; rfl
 | ow n T s l =>
   obtain ⟨ob,_,h⟩:=h
   rcases h with ⟨_,rfl,_⟩ | ⟨b,cap,_,rfl,_⟩ <;> rfl
 | os n s l=>obtain ⟨a,c,b,o,rfl,_⟩:=h; rfl
 | oe n T s l i=>obtain ⟨b,o,_,rfl,_⟩:=h; rfl
 | oc n cs=>obtain ⟨b,o,_,rfl,_⟩:=h; rfl
 | I z=>exact h.elim
 | R q=>exact h.elim
 | Z b q=>exact h.elim
theorem relL.len:∀ {l:List AC} {us:List Value},relL bs w l us->l.length=us.length
 | [],[],_=>rfl
 | _ :: _,_ :: _,h=>by rw [length_cons,length_cons,relL.len h.2]
 | [],_ :: _,h=>h.elim
 | _ :: _,[],h=>h.elim
theorem relKs.len:∀ {l:List AK} {us:List Value},relKs bs w l us->l.length=us.length
 | [],[],_=>rfl
 | _ :: _,_ :: _,h=>by rw [length_cons,length_cons,relKs.len h.2]
 | [],_ :: _,h=>h.elim
 | _ :: _,[],h=>h.elim
theorem relL.append:∀ {a b:List AC} {us vs:List Value},relL bs w a us->relL bs w b vs->relL bs w (a ++ b) (us ++ vs)
 | [],_,[],_,_,h=>h
 | _ :: _,_,_ :: _,_,h,k=>⟨h.1,relL.append h.2 k⟩
 | [],_,_ :: _,_,h,_=>h.elim
 | _ :: _,_,[],_,h,_=>h.elim
theorem relL.drop:∀ {a:List AC} {us:List Value} (n:Nat),relL bs w a us->relL bs w (a.drop n) (us.drop n)
 | _,_,0,h=>h
 | [],[],_+1,_=>trivial
 | _ :: _,_ :: _,n+1,h=>relL.drop n h.2
 | [],_ :: _,_+1,h=>h.elim
 | _ :: _,[],_+1,h=>h.elim
theorem relL.take:∀ {a:List AC} {us:List Value} (n:Nat),relL bs w a us->relL bs w (a.take n) (us.take n)
 | _,_,0,_=>by simp [relL]
 | [],[],_+1,_=>trivial
 | _ :: _,_ :: _,n+1,h=>⟨h.1,relL.take n h.2⟩
 | [],_ :: _,_+1,h=>h.elim
 | _ :: _,[],_+1,h=>h.elim
theorem relL.one:∀ {a:List AC} {us:List Value},relL bs w a us->∀ u ∈ us,u.oneCell'=true
 | [],[],_,_,hu=>by cases hu
 | _ :: _,_ :: _,h,u,hu=>by
   rcases mem_cons.1 hu with rfl | hu
   ·exact rel1.one h.1
   ·exact relL.one h.2 u hu
 | [],_ :: _,h,_,_=>h.elim
 | _ :: _,[],h,_,_=>h.elim
theorem relL.get:∀ {a:List AC} {us:List Value} {i:Nat} {x:AC},relL bs w a us->a[i]?=some x->∃ u,us[i]?=some u/\rel1 bs w x u
 | [],[],_,_,_,hi=>by simp at hi
 | y :: _,v :: _,0,x,h,hi=>⟨v,rfl,by have e:y=x:=(by simpa using hi); subst e; exact h.1⟩
 | _ :: _,_ :: _,i+1,_,h,hi=>by
   obtain ⟨u,h1,h2⟩:=relL.get h.2 (by simpa using hi)
   exact ⟨u,by simpa using h1,h2⟩
 | [],_ :: _,_,_,h,_=>h.elim
 | _ :: _,[],_,_,h,_=>h.elim
theorem relKs.get:∀ {a:List AK} {us:List Value} {i:Nat} {x:AK},relKs bs w a us->a[i]?=some x->∃ u,us[i]?=some u/\relK bs w x u
 | [],[],_,_,_,hi=>by simp at hi
 | y :: _,v :: _,0,x,h,hi=>⟨v,rfl,by have e:y=x:=(by simpa using hi); subst e; exact h.1⟩
 | _ :: _,_ :: _,i+1,_,h,hi=>by
   obtain ⟨u,h1,h2⟩:=relKs.get h.2 (by simpa using hi)
   exact ⟨u,by simpa using h1,h2⟩
 | [],_ :: _,_,_,h,_=>h.elim
 | _ :: _,[],_,_,h,_=>h.elim
def aBg (d:Nat->Bool):AC->Bool
 | .ow n _ _ _=>d n
 | .os n _ _=>d n
 | .oe n _ _ _ _=>d n
 | .oc n _=>d n
 | _=>true
structure KeepD (d:Nat->Bool) (bs bs':Bs) (w w':World):Prop where
 sl:∀ u l,SlU w u l->SlU w' u l
 cp:∀ (b o x:Nat),w.cell? ⟨b,o,none⟩=some (.int .u32 (x:Int))->w'.cell? ⟨b,o,none⟩=some (.int .u32 (x:Int))
 bx:∀ (i b:Nat),bs.l[i]?=some b->bs'.l[i]?=some b
 old:Old bs.lo bs'.lo w w'
 fz:∀ b,Fz bs w b->Fz bs' w' b/\∀ o,w'.cell? ⟨b,o,none⟩=w.cell? ⟨b,o,none⟩
 ow:∀ n ob,d n=true->bs.ow[n]?=some ob->bs'.ow[n]?=some ob/\∀ b,ob=some b->w'.heap[b]?=w.heap[b]?
 lo:bs'.lo=bs.lo
def aNE:Nat->Bool:=fun _=>true
abbrev Keep:=KeepD aNE
theorem Keep.ext {bs:Bs} {w w':World} (h:Ext w w') (hb:okB bs w=true):Keep bs bs w w':=⟨fun _ _ k=>k.later h,fun _ _ _ k=>Later.cell k (Later.mk w' h),fun _ _ k=>k,fun _ h1 h2=>⟨h1,Nat.lt_of_lt_of_le h2 h.size,fun _=>h.cell (by exact h2)⟩,
 fun b hf=>⟨⟨Nat.lt_of_lt_of_le hf.1 h.size,hf.2⟩,fun _=>h.cell (by exact hf.1)⟩,fun n ob _ e=>⟨e,fun b he=>by
  subst he;simp only [okB,and_eq_true,all_eq_true] at hb;have:=hb.2 _ (List.mem_of_getElem? e)
  exact h.block b (by simpa using this)⟩,rfl⟩
theorem Keep.more (bs:Bs) (w:World) (l:List Nat) (hl:∀ b ∈ l,¬ Fz bs w b):Keep bs (bs.more l) w w:=⟨fun _ _ k=>k,fun _ _ _ k=>k,fun i b k=>by
 have hi:i < bs.l.length:=by
  rcases lt_or_ge i bs.l.length with h | h
  ·exact h
  ·rw [List.getElem?_eq_none h] at k; cases k
 show (bs.l ++ l)[i]?=some b
 rw [List.getElem?_append_left hi]; exact k,fun _ h1 h2=>⟨h1,h2,fun _=>rfl⟩,fun b hf=>⟨⟨hf.1,fun hm=>by
  rcases mem_append.1 hm with hm | hm
  ·exact hf.2.1 hm
  ·exact hl b hm hf,hf.2.2⟩,fun _=>rfl⟩,fun _ _ _ e=>⟨e,fun _ _=>rfl⟩,rfl⟩
theorem Keep.moreE {bs:Bs} {w w':World} (h:Ext w w') (hb:okB bs w=true) (l:List Nat) (hl:∀ b ∈ l,w.heap.size <= b):Keep bs (bs.more l) w w':=by
 have k:=Keep.ext h hb;refine ⟨k.sl,k.cp,fun i b e=>?_,k.old,fun b hf=>⟨⟨(k.fz b hf).1.1,fun hm=>?_,hf.2.2⟩,(k.fz b hf).2⟩,k.ow,rfl⟩
 ·have hi:i < bs.l.length:=by
   rcases lt_or_ge i bs.l.length with h | h
   ·exact h
   ·rw [List.getElem?_eq_none h] at e; cases e
  show (bs.l ++ l)[i]?=some b;rw [List.getElem?_append_left hi]; exact e
 ·rcases mem_append.1 hm with hm | hm
  ·exact hf.2.1 hm
  ·have:=hl b hm;have:=hf.1;omega
theorem KeepD.trans {d:Nat->Bool} {a b c:Bs} {x y z:World} (h:KeepD d a b x y) (g:KeepD d b c y z):KeepD d a c x z:=⟨fun u l e=>g.sl u l (h.sl u l e),fun b o x e=>g.cp b o x (h.cp b o x e),fun i e' e=>g.bx i e' (h.bx i e' e),fun c' h1 h2=>by
 obtain ⟨p,q,r⟩:=h.old c' h1 h2;obtain ⟨p',q',r'⟩:=g.old c' p q
 exact ⟨p',q',fun o=>(r' o).trans (r o)⟩,fun c' hf=>⟨(g.fz c' (h.fz c' hf).1).1,fun o=>((g.fz c' (h.fz c' hf).1).2 o).trans ((h.fz c' hf).2 o)⟩,fun n ob hn e=>⟨(g.ow n ob hn (h.ow n ob hn e).1).1,fun c' hd=>((g.ow n ob hn (h.ow n ob hn e).1).2 c' hd).trans ((h.ow n ob hn e).2 c' hd)⟩,g.lo.trans h.lo⟩
theorem relR.mono {R R':AC->Value->Prop} (h:∀ x u,R x u->R' x u):∀ {l:List AC} {us:List Value},relR R l us->relR R' l us
 | [],[],_=>trivial
 | _ :: _,_ :: _,k=>⟨h _ _ k.1,relR.mono h k.2⟩
 | [],_ :: _,k=>k.elim
 | _ :: _,[],k=>k.elim
theorem ElR.keep {R R':AC->Value->Prop} {b o:Nat} {cs:List AC} (hR:∀ x u,R x u->R' x u) (hc:∀ o,w'.cell? ⟨b,o,none⟩=w.cell? ⟨b,o,none⟩) (h:ElR R w b o cs):ElR R' w' b o cs:=by
 obtain ⟨us,h1,h2⟩:=h;exact ⟨us,fun j v hj=>by rw [hc]; exact h1 j v hj,h2.mono hR⟩
theorem RdR.keep {R R':AC->Value->Prop} {B B':Nat->Prop} {u:Value} {s:Sc} {f:Bool} {l:List s.T} (hR:∀ x u,R x u->R' x u) (hB:∀ b,B b->B' b/\∀ o,w'.cell? ⟨b,o,none⟩=w.cell? ⟨b,o,none⟩) (h:RdR R B w u s f l):RdR R' B' w' u s f l:=by
 obtain ⟨a,cap,b,off,h1,h2,h3,h4,h5,h6⟩:=h;refine ⟨a,cap,b,off,h1,h2,h3,h4,h5,fun i x hx=>?_⟩;obtain ⟨p,q⟩:=h6 i x hx;exact ⟨(hB b p).1,q.keep hR (hB b p).2⟩
theorem OwB.keep {R R':AC->Value->Prop} {lo b T cap:Nat} {s:Sc} {l:List s.T} (hR:∀ x u,R x u->R' x u) (hb:w'.heap[b]?=w.heap[b]?) (h:OwB R lo w b T s l cap):OwB R' lo w' b T s l cap:=by
 obtain ⟨h1,h2,h3,cur,h4,h5,h6,h7⟩:=h;exact ⟨h1,h2,h3,cur,by rw [hb]; exact h4,h5,h6.mono hR,h7⟩
variable {bs':Bs} {d:Nat->Bool}
theorem KeepD.rel0 (h:KeepD d bs bs' w w'):∀ x u,rel0 w x u->rel0 w' x u:=fun x u g=>by
 cases x <;> first | exact g | exact h.sl _ _ g
theorem KeepD.relE (h:KeepD d bs bs' w w'):∀ x u,relE bs w x u->relE bs' w' x u:=fun x u g=>by
 cases x with
 | rd s f l=>exact RdR.keep h.rel0 (fun b hb=>h.fz b hb) g
 | v x=>exact h.rel0 (.v x) u g
 | sl x=>exact h.rel0 (.sl x) u g
 | _=>exact g
theorem a3a {b:Nat} (h:w'.heap[b]?=w.heap[b]?) (o:Nat):w'.cell? ⟨b,o,none⟩=w.cell? ⟨b,o,none⟩:=by
 unfold cell?;simp only [h]
theorem KeepD.rel1 (h:KeepD d bs bs' w w'):∀ {x:AC} {u:Value},aBg d x=true->rel1 bs w x u->rel1 bs' w' x u
 | .v _,_,_,g=>g
 | .sl _,_,_,g=>⟨h.sl _ _ g.1,trivial⟩
 | .bx _ _,_,_,⟨b,g,e⟩=>⟨b,h.bx _ _ g,e⟩
 | .sp _,_,_,⟨b,o,e,g,_⟩=>⟨b,o,e,h.cp _ _ _ g,trivial⟩
 | .pt _,_,_,g=>SlP.keep g h.old
 | .pp _,_,_,g=>SlQ.keep g h.old
 | .op _,_,_,⟨b,o,e,k1,k2,k3⟩=>by
   obtain ⟨p,q,r⟩:=h.old b k1 k2
   exact ⟨b,o,e,p,q,fun j v hj=>by rw [r]; exact k3 j v hj⟩
 | .oq _,_,_,⟨b,o,v,e,k1,k2,k3,k4⟩=>by
   obtain ⟨p,q,r⟩:=h.old b k1 k2
   exact ⟨b,o,v,e,p,q,by rw [r]; exact k3,k4.keep h.old⟩
 | .ba _ _,_,_,⟨b,g,e⟩=>⟨b,h.bx _ _ g,e⟩
 | .ln _,_,_,g=>g
 | .pl _ _,_,_,g=>SlV.keep g h.old
 | .rd _ _ _,_,_,g=>RdR.keep h.relE (fun b hb=>h.fz b hb) g
 | .rc _,_,_,⟨b,o,e,g1,g2⟩=>⟨b,o,e,(h.fz b g1).1,g2.keep h.relE (h.fz b g1).2⟩
 | .ow n T s l,_,hn,⟨ob,e,g⟩=>by
   obtain ⟨p,q⟩:=h.ow n ob hn e;refine ⟨ob,p,?_⟩
   rcases g with g | ⟨b,cap,e1,e2,g⟩
   ·exact .inl g
   ·exact .inr ⟨b,cap,e1,e2,by rw [h.lo]; exact g.keep h.relE (q b e1)⟩
 | .os n s l,_,hn,g=>RdR.keep h.relE (fun b hb=>⟨(h.ow n _ hn hb).1,a3a ((h.ow n _ hn hb).2 b rfl)⟩) g
 | .oe n T s l i,_,hn,⟨b,cap,e,e2,e3,g⟩=>by
   obtain ⟨p,q⟩:=h.ow n _ hn e
   exact ⟨b,cap,p,e2,e3,by rw [h.lo]; exact g.keep h.relE (q b rfl)⟩
 | .oc n cs,_,hn,⟨b,o,e,e2,g⟩=>by
   obtain ⟨p,q⟩:=h.ow n _ hn e
   exact ⟨b,o,p,e2,g.keep h.relE (a3a (q b rfl))⟩
 | .I _,_,_,g=>g
 | .R _,_,_,g=>g
 | .Z _ _,_,_,g=>g
theorem a9R (x:AC):aBg aNE x=true:=by cases x <;> rfl
def a2r (d:Nat->Bool):List AC->Bool
 | []=>true
 | x :: l=>aBg d x && a2r d l
def aE7 (d:Nat->Bool):AK->Bool
 | .c x=>aBg d x
 | .g xs=>a2r d xs
def a4E (d:Nat->Bool):List AK->Bool
 | []=>true
 | x :: l=>aE7 d x && a4E d l
def a8V (d:Nat->Bool):AV->Bool
 | .u=>true
 | .k x=>aE7 d x
 | .t xs=>a4E d xs
theorem aPj {x:AC} (h:aBg d x=true):∀ y ∈ x.flat,aBg d y=true:=by
 intro y hy;cases x <;> simp only [AC.flat,mem_cons,not_mem_nil,or_false] at hy
 case Z b q=>cases b <;> simp only [cond_true,cond_false,mem_cons,not_mem_nil,or_false] at hy <;> rcases hy with rfl | rfl | rfl | rfl <;> rfl
 case I=>rcases hy with rfl | rfl <;> rfl
 case R=>rcases hy with rfl | rfl | rfl | rfl <;> rfl
 all_goals (subst hy; exact h)
theorem a7Y:∀ {l:List AC},a2r d l=true->∀ y ∈ a0d l,aBg d y=true
 | [],_,y,hy=>by simp [a0d] at hy
 | x :: l,h,y,hy=>by
   simp only [a2r,and_eq_true] at h;simp only [a0d,mem_append] at hy;rcases hy with hy | hy
   ·exact aPj h.1 y hy
   ·exact a7Y h.2 y hy
theorem KeepD.relL0 (h:KeepD d bs bs' w w'):∀ {x:List AC} {u:List Value},(∀ y ∈ x,aBg d y=true)->relL bs w x u->relL bs' w' x u
 | [],[],_,_=>trivial
 | _ :: _,_ :: _,hn,g=>⟨h.rel1 (hn _ (mem_cons_self ..)) g.1,h.relL0 (fun y hy=>hn y (List.mem_cons_of_mem _ hy)) g.2⟩
 | [],_ :: _,_,g=>g.elim
 | _ :: _,[],_,g=>g.elim
theorem KeepD.relK (h:KeepD d bs bs' w w'):∀ {x:AK} {u:Value},aE7 d x=true->relK bs w x u->relK bs' w' x u
 | .c _,_,hn,g=>h.rel1 hn g
 | .g _,_,hn,⟨us,e,g⟩=>⟨us,e,h.relL0 (a7Y hn) g⟩
theorem KeepD.relKs (h:KeepD d bs bs' w w'):∀ {x:List AK} {u:List Value},a4E d x=true->relKs bs w x u->relKs bs' w' x u
 | [],[],_,_=>trivial
 | _ :: _,_ :: _,hn,g=>by
   simp only [a4E,and_eq_true] at hn
   exact ⟨h.relK hn.1 g.1,h.relKs hn.2 g.2⟩
 | [],_ :: _,_,g=>g.elim
 | _ :: _,[],_,g=>g.elim
theorem KeepD.relV (h:KeepD d bs bs' w w'):∀ {x:AV} {u:Value},a8V d x=true->relV bs w x u->relV bs' w' x u
 | .u,_,_,_=>trivial
 | .k _,_,hn,g=>h.relK hn g
 | .t _,_,hn,⟨us,e,g⟩=>⟨us,e,h.relKs hn g⟩
theorem aB0:∀ l,a2r aNE l=true
 | []=>rfl
 | x :: l=>by rw [a2r,a9R,aB0 l]; rfl
theorem aB2 (x:AK):aE7 aNE x=true:=by
 cases x with
 | c x=>exact a9R x
 | g l=>exact aB0 l
theorem a9S:∀ l,a4E aNE l=true
 | []=>rfl
 | x :: l=>by rw [a4E,aB2,a9S l]; rfl
theorem aMq (x:AV):a8V aNE x=true:=by
 cases x with
 | u=>rfl
 | k x=>exact aB2 x
 | t l=>exact a9S l
theorem Keep.rel1 (h:Keep bs bs' w w') {x:AC} {u:Value} (g:rel1 bs w x u):rel1 bs' w' x u:=KeepD.rel1 h (a9R x) g
theorem Keep.relL (h:Keep bs bs' w w'):∀ {x:List AC} {u:List Value},relL bs w x u->relL bs' w' x u
 | [],[],_=>trivial
 | _ :: _,_ :: _,k=>⟨Keep.rel1 h k.1,Keep.relL h k.2⟩
 | [],_ :: _,k=>k.elim
 | _ :: _,[],k=>k.elim
theorem Keep.relK (h:Keep bs bs' w w'):∀ {x:AK} {u:Value},relK bs w x u->relK bs' w' x u
 | .c _,_,k=>Keep.rel1 h k
 | .g _,_,⟨us,e,k⟩=>⟨us,e,Keep.relL h k⟩
theorem Keep.relKs (h:Keep bs bs' w w'):∀ {x:List AK} {u:List Value},relKs bs w x u->relKs bs' w' x u
 | [],[],_=>trivial
 | _ :: _,_ :: _,k=>⟨Keep.relK h k.1,Keep.relKs h k.2⟩
 | [],_ :: _,k=>k.elim
 | _ :: _,[],k=>k.elim
theorem Keep.relV (h:Keep bs bs' w w'):∀ {x:AV} {u:Value},relV bs w x u->relV bs' w' x u
 | .u,_,_=>trivial
 | .k _,_,k=>Keep.relK h k
 | .t _,_,⟨us,e,k⟩=>⟨us,e,Keep.relKs h k⟩
end
def cut:Nat->List AC->Nat->Nat->Option (List AC)
 | 0,_,_,_=>none
 | f+1,xs,off,n =>
   match n with
   | 0=>some []
   | n+1 =>
     match xs with
     | []=>none
     | x :: r =>
       bif Nat.ble x.width off then cut f r (off - x.width) (n+1)
       else bif Nat.beq off 0 && Nat.ble x.width (n+1) then (cut f r 0 (n+1 - x.width)).map (x :: ·)
       else bif Nat.beq x.width 1 then none
       else cut f (x.split ++ r) off (n+1)
theorem a4o:∀ (f:Nat) (xs:List AC) (off n:Nat) (ys:List AC),cut f xs off n=some ys->a0d ys=((a0d xs).drop off).take n/\(a0d ys).length=n
 | 0,_,_,_,_,h=>by simp [cut] at h
 | f+1,xs,off,0,ys,h=>by
   simp only [cut,injEq] at h;subst h
   simp [a0d]
 | f+1,[],off,n+1,ys,h=>by simp [cut] at h
 | f+1,x :: r,off,n+1,ys,h=>by
   simp only [cut] at h;have hl:=a2v x
   cases h1:Nat.ble x.width off with
   | true =>
     rw [h1] at h;simp only [cond_true] at h
     have h1':x.width <= off:=by simpa using h1
     obtain ⟨e1,e2⟩:=a4o f r _ _ ys h;refine ⟨?_,e2⟩
     rw [e1,a0d,List.drop_append,List.drop_of_length_le (l:=x.flat) (by omega),List.nil_append,hl]
   | false =>
     rw [h1] at h;simp only [cond_false] at h
     cases h2:(Nat.beq off 0 && Nat.ble x.width (n+1)) with
     | true =>
       rw [h2] at h;simp only [cond_true] at h;simp only [and_eq_true,beq_eq,ble_eq] at h2;obtain ⟨rfl,h3⟩:=h2;simp only [Option.map_eq_some_iff] at h;obtain ⟨zs,h4,rfl⟩:=h;obtain ⟨e1,e2⟩:=a4o f r _ _ zs h4;rw [a0d,a0d,drop_zero,List.take_append,hl,List.take_of_length_le (by omega),e1,drop_zero];refine ⟨rfl,?_⟩;rw [List.length_append,hl];rw [e1,drop_zero] at e2;rw [e2]
       omega
     | false =>
       rw [h2] at h;simp only [cond_false] at h
       cases h3:Nat.beq x.width 1 with
       | true=>rw [h3] at h; simp at h
       | false =>
         rw [h3] at h;simp only [cond_false] at h;obtain ⟨e1,e2⟩:=a4o f _ _ _ ys h;refine ⟨?_,e2⟩;rw [e1,a0I,aIv,a0d]
def upd (f:Nat) (xs:List AC) (off:Nat) (n:Nat) (tot:Nat) (ys:List AC):Option (List AC) :=
 match cut f xs 0 off,cut f xs (off+n) (tot - off - n) with
 | some a,some b=>some (a ++ ys ++ b)
 | _,_=>none
theorem aCC {f:Nat} {xs ys zs:List AC} {off n tot:Nat} (h:upd f xs off n tot ys=some zs):a0d zs=(a0d xs).take off ++ a0d ys ++ ((a0d xs).drop (off+n)).take (tot - off - n):=by
 unfold upd at h;split at h
 ·rename_i a b h1 h2;simp only [injEq] at h;subst h;obtain ⟨e1,_⟩:=a4o _ _ _ _ _ h1;obtain ⟨e2,_⟩:=a4o _ _ _ _ _ h2;rw [a0I,a0I,e1,e2,drop_zero]
 ·cases h
def AC.soft:AC->Bool
 | .v (.int .u32 _)=>false
 | .ow _ _ _ _=>false
 | .os _ _ _=>false
 | .oe _ _ _ _ _=>false
 | .oc _ _=>false
 | _=>true
def a3x:List AC->Bool
 | []=>true
 | x :: l=>x.soft && a3x l
theorem aTe {bs:Bs} {w:World}:∀ {x:AC} {u:Value},x.soft=true->rel1 bs w x u->a9n u
 | .v x,u,hs,h=>by
   obtain ⟨rfl,_⟩:=h;intro n e;subst e
   simp [AC.soft] at hs
 | .sl _,_,_,h=>by obtain ⟨a,c,rfl⟩:=SlU.form h.1; intro n e; cases e
 | .bx _ _,_,_,⟨_,_,h⟩=>by subst h; intro n e; cases e
 | .sp _,_,_,⟨_,_,h,_⟩=>by subst h; intro n e; cases e
 | .pt _,_,_,⟨_,_,_,_,h,_⟩=>by subst h; intro n e; cases e
 | .pp _,_,_,⟨_,_,_,_,h,_⟩=>by subst h; intro n e; cases e
 | .op _,_,_,⟨_,_,h,_⟩=>by subst h; intro n e; cases e
 | .oq _,_,_,⟨_,_,_,h,_⟩=>by subst h; intro n e; cases e
 | .ba _ _,_,_,⟨_,_,h⟩=>by subst h; intro n e; cases e
 | .ln _,_,_,⟨_,_,h⟩=>by subst h; intro n e; cases e
 | .pl _ _,_,_,⟨_,_,_,_,h,_⟩=>by subst h; intro n e; cases e
 | .rd _ _ _,_,_,⟨_,_,_,_,h,_⟩=>by subst h; intro n e; cases e
 | .rc _,_,_,⟨_,_,h,_⟩=>by subst h; intro n e; cases e
 | .ow _ _ _ _,_,hs,_=>by cases hs
 | .os _ _ _,_,hs,_=>by cases hs
 | .oe _ _ _ _ _,_,hs,_=>by cases hs
 | .oc _ _,_,hs,_=>by cases hs
 | .I _,_,_,h=>h.elim
 | .R _,_,_,h=>h.elim
 | .Z _ _,_,_,h=>h.elim
theorem aQG:∀ {x:AC},x.soft=true->∀ y ∈ x.flat,y.soft=true
 | .v x,h,y,hy=>by simp only [AC.flat,mem_singleton] at hy; subst hy; exact h
 | .sl _,_,y,hy=>by simp only [AC.flat,mem_singleton] at hy; subst hy; rfl
 | .bx _ _,_,y,hy=>by simp only [AC.flat,mem_singleton] at hy; subst hy; rfl
 | .sp _,_,y,hy | .pt _,_,y,hy | .pp _,_,y,hy | .op _,_,y,hy | .oq _,_,y,hy | .ba _ _,_,y,hy | .ln _,_,y,hy | .pl _ _,_,y,hy | .rd _ _ _,_,y,hy | .rc _,_,y,hy=>by simp only [AC.flat,mem_singleton] at hy; subst hy; rfl
 | .ow _ _ _ _,h,_,_ | .os _ _ _,h,_,_ | .oe _ _ _ _ _,h,_,_ | .oc _ _,h,_,_=>by cases h
 | .I _,_,y,hy=>by simp only [AC.flat,mem_cons,not_mem_nil,or_false] at hy; rcases hy with rfl | rfl <;> rfl
 | .R _,_,y,hy=>by simp only [AC.flat,mem_cons,not_mem_nil,or_false] at hy; rcases hy with rfl | rfl | rfl | rfl <;> rfl
 | .Z true _,_,y,hy=>by simp only [AC.flat,cond_true,mem_cons,not_mem_nil,or_false] at hy; rcases hy with rfl | rfl | rfl | rfl <;> rfl
 | .Z false _,_,y,hy=>by simp only [AC.flat,cond_false,mem_cons,not_mem_nil,or_false] at hy; rcases hy with rfl | rfl | rfl | rfl <;> rfl
theorem a3K:∀ {l:List AC},a3x l=true->∀ y ∈ a0d l,y.soft=true
 | [],_,y,hy=>by simp [a0d] at hy
 | x :: l,h,y,hy=>by
   simp only [a3x,and_eq_true] at h;simp only [a0d,mem_append] at hy;rcases hy with hy | hy
   ·exact aQG h.1 y hy
   ·exact a3K h.2 y hy
theorem a4B {bs:Bs} {w:World}:∀ {l:List AC} {us:List Value},(∀ y ∈ l,y.soft=true)->relL bs w l us->∀ u ∈ us,a9n u
 | [],[],_,_,_,hu=>by cases hu
 | x :: _,_ :: _,hs,h,u,hu=>by
   rcases mem_cons.1 hu with rfl | hu
   ·exact aTe (hs x (mem_cons_self ..)) h.1
   ·exact a4B (fun y hy=>hs y (List.mem_cons_of_mem _ hy)) h.2 u hu
 | [],_ :: _,_,h,_,_=>h.elim
 | _ :: _,[],_,h,_,_=>h.elim
def aTG:Nat->Bool:=fun _=>false
theorem aOx {x:AC} (h:x.soft=true) (d:Nat->Bool):aBg d x=true:=by cases x <;> first | rfl | cases h
theorem a3J (d:Nat->Bool):∀ {l:List AC},a3x l=true->a2r d l=true
 | [],_=>rfl
 | x :: l,h=>by
   simp only [a3x,and_eq_true] at h;rw [a2r,aOx h.1 d,a3J d h.2]; rfl
theorem aPi {x:AC} (h:aBg aTG x=true) (d:Nat->Bool):aBg d x=true:=by cases x <;> first | rfl | cases h
theorem aBZ (d:Nat->Bool):∀ {l:List AC},a2r aTG l=true->a2r d l=true
 | [],_=>rfl
 | x :: l,h=>by
   simp only [a2r,and_eq_true] at h;rw [a2r,aPi h.1 d,aBZ d h.2]; rfl
theorem a4j {d:Nat->Bool}:∀ {a b:List AC},a2r d a=true->a2r d b=true->a2r d (a ++ b)=true
 | [],_,_,h=>h
 | x :: a,b,h,g=>by
   simp only [a2r,and_eq_true] at h;rw [List.cons_append,a2r,h.1,a4j h.2 g]; rfl
theorem aMg {d:Nat->Bool} {x:AC} (h:aBg d x=true):a2r d x.split=true:=by
 cases x with
 | Z b q=>cases b <;> rfl
 | _=>first | rfl | (simp only [AC.split,a2r,h]; rfl)
theorem a7u {d:Nat->Bool}:∀ (f:Nat) (xs:List AC) (off n:Nat) (ys:List AC),a2r d xs=true->cut f xs off n=some ys->a2r d ys=true
 | 0,_,_,_,_,_,h=>by simp [cut] at h
 | f+1,xs,off,0,ys,_,h=>by
   simp only [cut,injEq] at h
   subst h; rfl
 | f+1,[],off,n+1,ys,_,h=>by simp [cut] at h
 | f+1,x :: r,off,n+1,ys,hn,h=>by
   simp only [cut] at h;simp only [a2r,and_eq_true] at hn
   cases h1:Nat.ble x.width off with
   | true =>
     rw [h1] at h
     exact a7u f r _ _ ys hn.2 h
   | false =>
     rw [h1] at h;simp only [cond_false] at h
     cases h2:(Nat.beq off 0 && Nat.ble x.width (n+1)) with
     | true =>
       rw [h2] at h;simp only [cond_true,Option.map_eq_some_iff] at h;obtain ⟨zs,h4,rfl⟩:=h
       rw [a2r,hn.1,a7u f r _ _ zs hn.2 h4]; rfl
     | false =>
       rw [h2] at h;simp only [cond_false] at h
       cases h3:Nat.beq x.width 1 with
       | true=>rw [h3] at h; simp at h
       | false =>
         rw [h3] at h;simp only [cond_false] at h;exact a7u f _ _ _ ys (a4j (aMg hn.1) hn.2) h
theorem aJ4 {d:Nat->Bool} {f:Nat} {xs ys zs:List AC} {off n tot:Nat} (h:upd f xs off n tot ys=some zs) (hx:a2r d xs=true) (hy:a2r d ys=true):a2r d zs=true:=by
 unfold upd at h;split at h
 ·rename_i a b h1 h2;simp only [injEq] at h;subst h;exact a4j (a4j (a7u _ _ _ _ _ hx h1) hy) (a7u _ _ _ _ _ hx h2)
 ·cases h
theorem a6a {w w':World} {b o x B:Nat} {vs:Array Value} {T:TypeId} {fz:Nat × Nat} (h:w.cell? ⟨b,o,none⟩=some (.int .u32 (x:Int))) (hB:w.heap[B]?=some (.cells vs T fz)) (hn:∀ u ∈ vs,a9n u)
    (hk:∀ k,k < w.heap.size->k ≠ B->w'.heap[k]?=w.heap[k]?):w'.cell? ⟨b,o,none⟩=some (.int .u32 (x:Int)):=by
 have hne:b ≠ B:=by
  rintro rfl;rw [Lib.cell_of_heap hB] at h;exact hn _ (Array.mem_of_getElem? h) _ rfl
 have hlt:b < w.heap.size:=by
  rcases lt_or_ge b w.heap.size with g | g
  ·exact g
  ·unfold cell? at h;rw [Array.getElem?_eq_none (by exact g)] at h;simp at h
 have:w'.cell? ⟨b,o,none⟩=w.cell? ⟨b,o,none⟩:=by
  unfold cell?;rw [hk b hlt hne]
 rw [this]; exact h
theorem a6U {w w':World} {s:Value} {l:List Nat} {B:Nat} {vs:Array Value} {T:TypeId} {fz:Nat × Nat} (h:SlU w s l) (hB:w.heap[B]?=some (.cells vs T fz)) (hn:∀ u ∈ vs,a9n u)
    (hs:w.heap.size <= w'.heap.size) (hk:∀ k,k < w.heap.size->k ≠ B->w'.heap[k]?=w.heap[k]?):SlU w' s l:=by
 obtain ⟨a,n,cap,g,off,rfl,h2,h3,h4,h5,h6⟩:=h;refine ⟨a,n,cap,g,off,rfl,h2,h3,h4,h5,fun j x hx=>?_⟩;obtain ⟨p,q⟩:=h6 j x hx;refine ⟨Nat.lt_of_lt_of_le p hs,fun r u hu=>?_⟩;have hq:=q r u hu
 have hne:g ≠ B:=by
  rintro rfl
  have hr:r=0:=by
   cases r with
   | zero=>rfl
   | succ r=>simp [uC] at hu
  subst hr
  have:u=.int .u32 x:=by simpa [uC] using hu.symm
  subst this;rw [Lib.cell_of_heap hB] at hq;exact hn _ (Array.mem_of_getElem? hq) _ rfl
 have:w'.cell? ⟨g,off+j*1+r,none⟩=w.cell? ⟨g,off+j*1+r,none⟩:=by
  unfold cell?;rw [hk g p hne]
 rw [this]; exact hq
structure Lay where
 t:Nat
 size:Nat
 agg:Bool
 kd:Nat
 el:Nat
 zero:List AC
 flds:List (Nat × Nat)
def a09:List Lay->Nat->Option Lay
 | [],_=>none
 | l :: r,t=>bif Nat.beq l.t t then some l else a09 r t
theorem a0c:∀ {L:List Lay} {t:Nat} {l:Lay},a09 L t=some l->l ∈ L/\l.t=t
 | [],_,_,h=>by simp [a09] at h
 | x :: r,t,l,h=>by
   unfold a09 at h
   cases hx:Nat.beq x.t t with
   | true =>
     rw [hx] at h;simp only [cond_true,injEq] at h;subst h
     exact ⟨mem_cons_self ..,by simpa using hx⟩
   | false =>
     rw [hx] at h;obtain ⟨h1,h2⟩:=a0c (L:=r) h;exact ⟨List.mem_cons_of_mem _ h1,h2⟩
def a4N:List AC->List Value->Bool
 | [],[]=>true
 | .v (.bool a) :: l,.bool b :: us=>(a == b) && a4N l us
 | .v (.int k n) :: l,.int k' n' :: us=>decide (k=k') && decide (n=n') && a4N l us
 | .v (.slice none 0 0) :: l,.slice none 0 0 :: us=>a4N l us
 | .sl [] :: l,.slice none 0 0 :: us=>a4N l us
 | _,_=>false
theorem a6M (bs:Bs) (w:World) (l:List AC) (us:List Value) (h:a4N l us=true):relL bs w l us:=by
 fun_induction a4N l us with
 | case1=>trivial
 | case2 a l b us ih =>
   simp only [and_eq_true,beq_iff_eq] at h;obtain ⟨rfl,h⟩:=h
   exact ⟨⟨rfl,rfl⟩,ih h⟩
 | case3 k n l k' n' us ih =>
   simp only [and_eq_true,decide_eq_true_eq] at h;obtain ⟨⟨rfl,rfl⟩,h⟩:=h
   exact ⟨⟨rfl,rfl⟩,ih h⟩
 | case4 l us ih=>exact ⟨⟨rfl,rfl⟩,ih h⟩
 | case5 l us ih=>exact ⟨⟨SlU.nil w,trivial⟩,ih h⟩
 | case6=>cases h
def u0:Option Value->Bool
 | some (.int .u32 z)=>decide (z=0)
 | _=>false
theorem b4s {z:Option Value} (h:u0 z=true):z=some (.int .u32 0):=by
 unfold u0 at h;split at h
 ·rw [of_decide_eq_true h]
 ·cases h
def nuB:Value->Bool
 | .int .u32 _=>false
 | _=>true
theorem aTF {u:Value} (h:nuB u=true):a9n u:=by
 intro n e;subst e;cases h
def aTj:Nat->Option Sc
 | 20=>some .P
 | 21=>some .U
 | 22=>some .V
 | 23=>some .C
 | 24=>some .F
 | _=>none
def b5K:Sc->Sc->Bool
 | .P,.P=>true
 | .U,.U=>true
 | .V,.V=>true
 | .C,.C=>true
 | .F,.F=>true
 | _,_=>false
theorem aXn {a b:Sc} (h:b5K a b=true):a=b:=by cases a <;> cases b <;> first | rfl | cases h
def scB (kd:Nat) (s:Sc):Bool:=match aTj kd with | some s'=>b5K s' s | none=>false
theorem a4e {kd:Nat} {s:Sc} (h:scB kd s=true):aTj kd=some s:=by
 unfold scB at h;split at h
 ·rename_i s' e;rw [e,aXn h]
 ·cases h
def aIc (P:Program) (e el k:Nat):Bool:=Nat.beq e el &&
 match P.info? el with
 | some i=>Nat.beq i.size k && Nat.ble i.bytes 2000 && (match i.zero with | some z=>Nat.beq z.cells.size k && z.cells.toList.all nuB | none=>false)
 | none=>false
def a4G (P:Program) (el:Nat):Nat->TypeDesc->Bool
 | 1,.bool=>true
 | 2,.slice e=>match P.info? e,P.underlying e with
   | some i,some (.int .u32)=>decide (i.size=1) && decide (i.zero.map (·.cells.size)=some 1) && decide (i.bytes=4) && u0 i.zero
   | _,_=>false
 | 3,.int .i64=>true
 | 4,.int .u64=>true
 | 5,.int .u32=>true
 | 6,.int .i32=>true
 | 7,.int .u8=>true
 | 8,.slice e=>Nat.beq e el && decide ((P.info? el).map (·.size)=some 2)
 | 9,.slice e=>Nat.beq e el && decide ((P.info? el).map (·.size)=some 1)
 | 10,.slice e=>Nat.beq e el
 | 11,.struct _=>true
 | 20,.slice e=>aIc P e el 20
 | 21,.slice e=>aIc P e el 66
 | 22,.slice e=>aIc P e el 8
 | 23,.slice e=>aIc P e el 2
 | 24,.slice e=>aIc P e el 7
 | 30,.array _ e=>Nat.beq e el
 | n+100,.slice e=>Nat.beq e el && decide ((P.info? el).map (·.size)=some n)
 | 0,_=>true
 | _,_=>false
def a6f:Nat->Option IntKind
 | 3=>some .i64
 | 4=>some .u64
 | 5=>some .u32
 | 6=>some .i32
 | 7=>some .u8
 | _=>none
theorem a95 {P:Program} {el n:Nat} {d:TypeDesc} {k:IntKind} (h:a4G P el n d=true) (hk:a6f n=some k):d=.int k:=by
 unfold a6f at hk;split at hk <;> (try (cases hk; done)) <;> (simp only [injEq] at hk; subst hk) <;> cases d <;> (try (simp [a4G] at h; done)) <;> (rename_i k'; cases k' <;> first | rfl | (simp [a4G] at h; done))
def b3Y (P:Program) (t:TypeId):Bool :=
 match P.underlying t with
 | some (.struct fs) =>
   (match fs.toList with
    | [f, g] => decide (f.name ≠ "_") && decide (g.name ≠ "_") && decide (f.offset = 0) && decide (g.offset = 1) &&
      (match P.underlying f.type,P.underlying g.type with
       | some (.int .i64),some (.int .i64)=>true
       | _,_=>false)
    | _=>false) && !P.stoodInHeld t && !P.eqGuardType P.depth t
 | _=>false
theorem a4g {P:Program} {t:TypeId} {k:IntKind} (h:P.underlying t=some (.int k)) (cs:Array Value) (off:Nat) (v:Value) (hv:cs[off]?=some v) (w:World):(part t cs off).run P w=.ok v w:=by
 simp [part,isAgg,run_underlying h,hv]
theorem aUb {P:Program} {t:TypeId} (h:b3Y P t=true) (a b c d:Int) (x y:Operand) (w:World) :
    (do eqGuard .eql t x y (.agg #[.int .i64 a,.int .i64 b]) (.agg #[.int .i64 c,.int .i64 d]); binOp .eql t (.agg #[.int .i64 a,.int .i64 b]) (.agg #[.int .i64 c,.int .i64 d]):Sem Value).run P w=.ok (.bool (decide (a=c/\b=d))) w:=by
 unfold b3Y at h;split at h
 ·rename_i fs hu;simp only [and_eq_true,Bool.not_eq_true'] at h;obtain ⟨⟨h1,h2⟩,h3⟩:=h;split at h1
  ·rename_i f g hl;simp only [and_eq_true,decide_eq_true_eq] at h1;obtain ⟨⟨⟨⟨n1,n2⟩,o1⟩,o2⟩,h1⟩:=h1;split at h1
   ·rename_i u1 u2
    have hf:P.fieldsOf t=fs:=by simp [Program.fieldsOf,hu]
    have e:(Op.equalIn 10000 t (.agg #[.int .i64 a,.int .i64 b]) (.agg #[.int .i64 c,.int .i64 d])).run P w=.ok (decide (a=c/\b=d)) w:=by
     have hs:P.underlying t=some (.struct (P.fieldsOf t)):=by rw [hf]; exact hu
     have p0:(part f.type #[.int .i64 a,.int .i64 b] f.offset).run P w=.ok (.int .i64 a) w:=a4g u1 _ _ _ (by rw [o1]; rfl) w;have p1:(part g.type #[.int .i64 a,.int .i64 b] g.offset).run P w=.ok (.int .i64 b) w:=a4g u2 _ _ _ (by rw [o2]; rfl) w;have q0:(part f.type #[.int .i64 c,.int .i64 d] f.offset).run P w=.ok (.int .i64 c) w:=a4g u1 _ _ _ (by rw [o1]; rfl) w;have q1:(part g.type #[.int .i64 c,.int .i64 d] g.offset).run P w=.ok (.int .i64 d) w:=a4g u2 _ _ _ (by rw [o2]; rfl) w;have r0:=run_equalIn_int w 9998 f.type .i64 .i64 a c u1;have r1:=run_equalIn_int w 9998 g.type .i64 .i64 b d u2;rw [run_equalIn_agg w 9999 t _ _ hs h2,hf,hl];unfold Op.eqFields;rw [if_pos n1];simp only [Sem.run_bind,p0,q0,r0,Result.andThen_ok];by_cases ac:a=c
     ·subst ac;unfold Op.eqFields;rw [if_pos n2];simp only [beq_self_eq_true,Bool.not_true,Bool.false_eq_true,if_false,Sem.run_bind,p1,q1,r1,Result.andThen_ok];by_cases bd:b=d <;> simp [bd,Op.eqFields]
     ·simp [ac]
    simp [run_eqGuard_agg _ _ _ _ _ _ _ h3,run_eql_struct,e]
   ·cases h1
  ·cases h1
 ·cases h
def b6z (P:Program) (l:Lay):Bool :=
 match P.underlying l.t,P.info? l.el with
 | some (.array n _),some i=>Nat.beq l.size (n*i.size) && Nat.ble 1 i.size
 | _,_=>false
def aYE (P:Program) (l:Lay):Bool :=
 match P.info? l.t,P.underlying l.t with
 | some i,some d =>
   decide (i.size=l.size) && (d.isRow == l.agg) && a4G P l.el l.kd d && (l.agg || decide (l.size=1)) &&
   (match i.zero with | some z=>a4N (a0d l.zero) z.cells.toList | none=>false) && decide ((a0d l.zero).length=l.size) && (a3x l.zero || Nat.beq l.kd 5) &&
   (match d with
    | .struct fields=>decide (fields.toList.mapM (fun f=>(P.info? f.type).map fun i=>(f.offset,i.size))=some l.flds) && l.flds.all (fun p=>decide (p.2 ≠ 0))
    | _=>l.flds.isEmpty) && (!Nat.beq l.kd 11 || b3Y P l.t) && (!Nat.beq l.kd 30 || b6z P l)
 | _,_=>false
structure a1I (P:Program) (l:Lay):Prop where
 size:(P.info? l.t).map (·.size)=some l.size
 desc:∃ d,P.underlying l.t=some d/\d.isRow=l.agg
 one:l.agg=false->l.size=1
 bool:l.kd=1->P.underlying l.t=some .bool
 slice:l.kd=2->∃ e i z,P.underlying l.t=some (.slice e)/\P.info? e=some i/\i.size=1/\i.zero=some z/\z.cells.size=1/\i.bytes=4
 zero2:l.kd=2->∀ e i,P.underlying l.t=some (.slice e)->P.info? e=some i->i.zero=some (.int .u32 0)
 sl8:l.kd=8->P.underlying l.t=some (.slice l.el)/\(P.info? l.el).map (·.size)=some 2
 sl9:l.kd=9->P.underlying l.t=some (.slice l.el)/\(P.info? l.el).map (·.size)=some 1
 sl10:l.kd=10->P.underlying l.t=some (.slice l.el)
 eq2:l.kd=11->b3Y P l.t=true
 slk:∀ k,l.kd=k+100->P.underlying l.t=some (.slice l.el)/\(P.info? l.el).map (·.size)=some k
 sc:∀ s,aTj l.kd=some s->∃ i z,P.underlying l.t=some (.slice l.el)/\P.info? l.el=some i/\i.size=s.k/\i.bytes <= 2000/\i.zero=some z/\z.cells.size=s.k/\∀ v ∈ z.cells,a9n v
 arr:l.kd=30->∃ n i,P.underlying l.t=some (.array n l.el)/\P.info? l.el=some i/\l.size=n*i.size/\1 <= i.size
 int:∀ k,a6f l.kd=some k->P.underlying l.t=some (.int k)
 zero:∃ i z,P.info? l.t=some i/\i.zero=some z/\∀ bs w,relL bs w (a0d l.zero) z.cells.toList
 zlen:(a0d l.zero).length=l.size
 zsoft:Nat.beq l.kd 5=false->a3x l.zero=true
 flds:l.flds ≠ []->∃ fields,P.underlying l.t=some (.struct fields)/\fields.toList.mapM (fun f=>(P.info? f.type).map fun i=>(f.offset,i.size))=some l.flds
 fpos:∀ p ∈ l.flds,p.2 ≠ 0
theorem aMr {P:Program} {e el k:Nat} (h:aIc P e el k=true):e=el/\∃ i z,P.info? el=some i/\i.size=k/\i.bytes <= 2000/\i.zero=some z/\z.cells.size=k/\∀ v ∈ z.cells,a9n v:=by
 unfold aIc at h;simp only [and_eq_true,beq_eq] at h;obtain ⟨h1,h2⟩:=h;refine ⟨h1,?_⟩;split at h2
 ·rename_i i hi;simp only [and_eq_true,beq_eq,ble_eq] at h2;obtain ⟨⟨h3,h4⟩,h5⟩:=h2;split at h5
  ·rename_i z hz;simp only [and_eq_true,beq_eq,all_eq_true] at h5;exact ⟨i,z,hi,h3,h4,hz,h5.1,fun v hv=>aTF (h5.2 v (by simpa using hv))⟩
  ·cases h5
 ·cases h2
theorem aMt {P:Program} {el n:Nat} {d:TypeDesc} {s:Sc} (h:a4G P el n d=true) (hs:aTj n=some s):d=.slice el/\∃ i z,P.info? el=some i/\i.size=s.k/\i.bytes <= 2000/\i.zero=some z/\z.cells.size=s.k/\∀ v ∈ z.cells,a9n v:=by
 unfold aTj at hs;split at hs <;> (try (cases hs; done)) <;> (simp only [injEq] at hs; subst hs) <;> cases d <;> (try (simp [a4G] at h; done)) <;> (simp only [a4G] at h; obtain ⟨rfl,h⟩:=aMr h; exact ⟨rfl,h⟩)
theorem a90 {P:Program} {l:Lay} (h:aYE P l=true):a1I P l:=by
 unfold aYE at h;split at h
 ·rename_i i d hi hd;simp only [and_eq_true,decide_eq_true_eq,Bool.or_eq_true,beq_iff_eq] at h;obtain ⟨⟨⟨⟨⟨⟨⟨⟨⟨h1,h2⟩,h0⟩,h3⟩,h4⟩,h5⟩,h6⟩,h7⟩,h8⟩,h9⟩:=h;refine ⟨by rw [hi]; simp [h1],⟨d,hd,h2⟩,fun ha=>h3.resolve_left (by simp [ha]),fun hb=>?_,fun hb=>?_,fun hb=>?_,fun hb=>?_,fun hb=>?_,fun hb=>?_,fun hb=>h8.resolve_left (by simp [hb]),fun k hb=>?_,fun s hs=>?_,fun hb=>?_,fun k hb=>?_,?_,h5,fun h=>h6.resolve_right (by rw [h]; decide),fun hf=>?_,fun p hp=>?_⟩
  ·rw [hb] at h0;cases d <;> simp [a4G] at h0;exact hd
  ·rw [hb] at h0
   cases d <;> simp only [a4G] at h0 <;> try (cases h0; done)
   rename_i e;split at h0
   ·rename_i i' hi' hu';simp only [and_eq_true,decide_eq_true_eq,Option.map_eq_some_iff] at h0;obtain ⟨⟨⟨g1,z,g2,g3⟩,g4⟩,_⟩:=h0;exact ⟨e,i',z,hd,hi',g1,g2,g3,g4⟩
   ·cases h0
  ·rw [hb] at h0
   cases d <;> simp only [a4G] at h0 <;> try (cases h0; done)
   rename_i e;split at h0
   ·rename_i i' hi' hu';simp only [and_eq_true] at h0;intro e2 i2 he2 hi2;rw [hd] at he2;cases he2;rw [hi'] at hi2;cases hi2;exact b4s h0.2
   ·cases h0
  ·rw [hb] at h0
   cases d <;> simp only [a4G] at h0 <;> try (cases h0; done)
   simp only [and_eq_true,beq_eq,decide_eq_true_eq] at h0;rw [hd,h0.1];exact ⟨rfl,h0.2⟩
  ·rw [hb] at h0
   cases d <;> simp only [a4G] at h0 <;> try (cases h0; done)
   simp only [and_eq_true,beq_eq,decide_eq_true_eq] at h0;rw [hd,h0.1];exact ⟨rfl,h0.2⟩
  ·rw [hb] at h0
   cases d <;> simp only [a4G] at h0 <;> try (cases h0; done)
   simp only [beq_eq] at h0;rw [hd,h0]
  ·rw [hb] at h0
   cases d <;> simp only [a4G] at h0 <;> try (cases h0; done)
   simp only [and_eq_true,beq_eq,decide_eq_true_eq] at h0;rw [hd,h0.1];exact ⟨rfl,h0.2⟩
  ·obtain ⟨e,i',z,h⟩:=aMt h0 hs;exact ⟨i',z,by rw [hd,e],h⟩
  ·have h9:=h9.resolve_left (by simp [hb]);rw [hb] at h0
   cases d <;> simp only [a4G] at h0 <;> try (cases h0; done)
   simp only [beq_eq] at h0;unfold b6z at h9;rw [hd] at h9;split at h9
   ·rename_i n _ i' hn hi';cases hn;simp only [and_eq_true,beq_eq,ble_eq] at h9;exact ⟨_,i',by rw [hd,h0],hi',h9.1,h9.2⟩
   ·cases h9
  ·rw [a95 h0 hb] at hd;exact hd
  ·split at h4
   ·rename_i z hz;exact ⟨i,z,hi,hz,fun bs w=>a6M bs w _ _ h4⟩
   ·cases h4
  ·split at h7
   ·rename_i fields;simp only [and_eq_true,decide_eq_true_eq] at h7;exact ⟨fields,hd,h7.1⟩
   ·exact absurd (List.isEmpty_iff.1 h7) hf
  ·split at h7
   ·simp only [and_eq_true,decide_eq_true_eq,all_eq_true] at h7;exact h7.2 p hp
   ·rw [List.isEmpty_iff.1 h7] at hp; cases hp
 ·cases h
structure Bx where
 T:Nat
 cs:List AC
def BoxAt (bs:Bs) (lo:Nat) (w:World) (b:Nat) (x:Bx):Prop :=
 lo <= b/\∃ vs:List Value,w.heap[b]?=some (.cells vs.toArray x.T (0,0))/\relL bs w (a0d x.cs) vs/\(∀ u ∈ vs,a9n u)/\a2r aTG x.cs=true
def BoxesAt (bs:Bs) (lo:Nat) (w:World) (bx:List Bx):Prop:=∀ (i b:Nat) (x:Bx),bs.l[i]?=some b->bx[i]?=some x->BoxAt bs lo w b x
theorem BoxAt.ext {bs:Bs} {lo:Nat} {w w':World} {b:Nat} {x:Bx} (h:BoxAt bs lo w b x) (he:Ext w w') (ho:okB bs w=true):BoxAt bs lo w' b x:=by
 obtain ⟨h1,vs,h2,h3,h4⟩:=h;exact ⟨h1,vs,a3t h2 he,Keep.relL (Keep.ext he ho) h3,h4⟩
theorem BoxesAt.ext {bs:Bs} {lo:Nat} {w w':World} {bx:List Bx} (h:BoxesAt bs lo w bx) (he:Ext w w') (ho:okB bs w=true):BoxesAt bs lo w' bx:=fun i b x h1 h2=>(h i b x h1 h2).ext he ho
def AK.cells:AK->List AC
 | .c x=>[x]
 | .g xs=>xs
theorem a2J {bs:Bs} {w:World}:∀ {x:AK} {u:Value},relK bs w x u->relL bs w (a0d x.cells) u.cells.toList
 | .c x,u,h=>by
   have h1:=rel1.one (bs:=bs) (w:=w) (x:=x) h
   have e:u.cells=#[u]:=by cases u <;> first | rfl | simp [Value.oneCell'] at h1
   rw [e]
   cases x <;> first | exact ⟨h,trivial⟩ | exact h.elim
 | .g xs,u,⟨us,e,h⟩=>by subst e; simp only [Value.cells]; exact h
def mkK (agg:Bool) (cs:List AC):Option AV :=
 match agg,cs with
 | true,cs=>some (.k (.g cs))
 | false,[.v x]=>some (.k (.c (.v x)))
 | false,[.sl l]=>some (.k (.c (.sl l)))
 | false,[.bx i o]=>some (.k (.c (.bx i o)))
 | false,[.pl k l]=>some (.k (.c (.pl k l)))
 | false,[.rd s f l]=>some (.k (.c (.rd s f l)))
 | _,_=>none
def wid:List AC->Nat
 | []=>0
 | x :: l=>x.width+wid l
theorem a2E:∀ l,(a0d l).length=wid l
 | []=>rfl
 | x :: l=>by rw [a0d,List.length_append,a2v,a2E l,wid]
theorem run_equalIn_bool {P:Program} (w:World) (d:Nat) (t:TypeId) (a b:Bool) (h:P.underlying t=some .bool):(Op.equalIn (d+1) t (.bool a) (.bool b)).run P w=.ok (a == b) w:=by
 unfold Op.equalIn;simp only [Sem.run_bind,run_underlying h,Result.andThen_ok,Sem.run_pure]
theorem run_equal_bool {P:Program} (w:World) (t:TypeId) (a b:Bool) (h:P.underlying t=some .bool):(Op.equal t (.bool a) (.bool b)).run P w=.ok (a == b) w:=run_equalIn_bool w 9999 t a b h
def inR:IntKind->Int->Prop
 | .i64,n=>-9223372036854775808 <= n/\n < 9223372036854775808
 | .u64,n=>0 <= n/\n < 18446744073709551616
 | .u32,n=>0 <= n/\n < 4294967296
 | .i32,n=>-2147483648 <= n/\n < 2147483648
 | .u8,n=>0 <= n/\n < 256
 | k,n=>k.wrap n=n
theorem a3G {k:IntKind} {n:Int} (h:inR k n):k.wrap n=n:=by
 cases k
 case i64=>rw [IntKind.wrap_i64]; simp only [inR] at h; omega
 case u64=>rw [IntKind.wrap_u64]; simp only [inR] at h; omega
 case u32=>rw [IntKind.wrap_u32]; simp only [inR] at h; omega
 case i32=>rw [IntKind.wrap_i32]; simp only [inR] at h; omega
 case u8=>rw [IntKind.wrap_u8]; simp only [inR] at h; omega
 all_goals exact h
def due:Option Prop->Prop
 | none=>True
 | some p=>p
def b2N (bl:Bool) (op:BinOp):Value->Value->Option (Option Prop × Value)
 | .int k a,.int k' b =>
   bif decide (k=k') then
    match op with
    | .eql=>some (none,.bool (a == b))
    | .neq=>some (none,.bool (a != b))
    | .lss=>some (none,.bool (decide (a < b)))
    | .leq=>some (none,.bool (decide (a <= b)))
    | .gtr=>some (none,.bool (decide (a > b)))
    | .geq=>some (none,.bool (decide (a >= b)))
    | .add=>some (some (inR k (a+b)),.int k (a+b))
    | .sub=>some (some (inR k (a - b)),.int k (a - b))
    | .mul=>some (some (inR k (a*b)),.int k (a*b))
    | .quo=>some (some ((0 <= a/\0 < b)/\inR k (a / b)),.int k (a / b))
    | .rem=>some (some (0 <= a/\0 < b),.int k (a % b))
    | _=>none
   else none
 | .bool a,.bool b =>
   bif bl then
    match op with
    | .eql=>some (none,.bool (a == b))
    | .neq=>some (none,.bool (a != b))
    | _=>none
   else none
 | _,_=>none
theorem aL1 {P:Program} {bl:Bool} {op:BinOp} {a b r:Value} {pre:Option Prop} (h:b2N bl op a b=some (pre,r)) (hp:due pre) (T:TypeId) (hb:bl=true->P.underlying T=some .bool) (x y:Operand) (w:World):(do eqGuard op T x y a b; binOp op T a b:Sem Value).run P w=.ok r w:=by
 unfold b2N at h;split at h
 ·rename_i k a k' b;by_cases hk:k=k'
  ·subst hk;simp only [decide_true,cond_true] at h;split at h <;> (try (cases h; done)) <;> simp only [injEq,Prod.mk.injEq] at h <;> obtain ⟨rfl,rfl⟩:=h
   ·simp [go_sem]
   ·simp [go_sem]
   ·simp [go_sem]
   ·simp [go_sem]
   ·simp [go_sem]
   ·simp [go_sem]
   ·simp only [due] at hp; simp [go_sem,Op.intArith,a3G hp]
   ·simp only [due] at hp; simp [go_sem,Op.intArith,a3G hp]
   ·simp only [due] at hp; simp [go_sem,Op.intArith,a3G hp]
   ·simp only [due] at hp;obtain ⟨⟨h1,h2⟩,h3⟩:=hp;have e:a.tdiv b=a / b:=Int.tdiv_eq_ediv_of_nonneg h1
    have hz:¬ b=0:=by omega
    simp [go_sem,Op.intDiv,hz,e,a3G h3]
   ·simp only [due] at hp;obtain ⟨h1,h2⟩:=hp;have e:a.tmod b=a % b:=Int.tmod_eq_emod_of_nonneg h1
    have hz:¬ b=0:=by omega
    simp [go_sem,Op.intDiv,hz,e]
  ·simp [hk] at h
 ·rename_i p q
  cases hbl:bl with
  | false=>simp [hbl] at h
  | true =>
    have hu:=hb hbl;simp only [hbl,cond_true] at h;split at h <;> (try (cases h; done)) <;> simp only [injEq,Prod.mk.injEq] at h <;> obtain ⟨rfl,rfl⟩:=h <;> (simp [go_sem,binOp,run_equal_bool w T _ _ hu] <;> cases p <;> cases q <;> rfl)
 ·cases h
def aNG (ev:Operand->AV) (flds:List (Nat × Nat)) (tot:Nat):List (Nat × Operand)->List AC->Option (List AC)
 | [],cs=>some cs
 | (i,x) :: r,cs =>
   match flds[i]?,ev x with
   | some (off,n),.k y =>
     bif Nat.beq (a0d y.cells).length n && Nat.ble (off+n) tot then
      match upd 99 cs off n tot y.cells with
      | some cs'=>aNG ev flds tot r cs'
      | none=>none
     else none
   | _,_=>none
def aVI:IntKind->IntKind->Bool
 | .u64,.i64=>true
 | _,_=>false
def a2g (L:List Lay) (bx:List Bx) (ev:Operand->AV):Op->Option (Option Prop × AV)
 | .move x=>some (none,ev x)
 | .assign x=>some (none,ev x)
 | .fieldAddr S x f =>
   match ev x,a09 L S with
   | .k (.c (.bx i off)),some l=>(l.flds[f]?).map fun d=>(none,.k (.c (.bx i (off+d.1))))
   | .k (.c (.op cs)),some l=>(l.flds[f]?).map fun d=>(none,.k (.c (.op ((cs.drop d.1).take d.2))))
   | .k (.c (.rc cs)),some l=>(l.flds[f]?).bind fun d=>(cut 99 cs d.1 d.2).map fun r=>(none,.k (.c (.rc r)))
   | .k (.c (.oc n cs)),some l=>(l.flds[f]?).bind fun d=>(cut 99 cs d.1 d.2).map fun r=>(none,.k (.c (.oc n r)))
   | .k (.c (.oe n _ s xs i)),some l=>(l.flds[f]?).bind fun d=>(cut 99 (s.enc (xs.getD i s.d)) d.1 d.2).map fun r=>(none,.k (.c (.oc n r)))
   | _,_=>none
 | .load T x =>
   match ev x,a09 L T with
   | .k (.c (.bx i off)),some l =>
     match bx[i]? with
     | some b=>((cut 99 b.cs off l.size).bind (mkK l.agg)).map fun r=>(none,r)
     | none=>none
   | .k (.c (.sp x)),some l=>bif Nat.beq l.kd 5 then some (none,.k (.c (.v (.int .u32 (x:Int))))) else none
   | .k (.c (.op cs)),some l=>bif Nat.beq cs.length l.size then (mkK l.agg (cs.map .v)).map fun r=>(none,r) else none
   | .k (.c (.oq x)),some l=>bif Nat.beq l.kd 8 then some (none,.k (.c (.pt x))) else none
   | .k (.c (.rc cs)),some l=>bif Nat.beq (wid cs) l.size then (mkK l.agg cs).map fun r=>(none,r) else none
   | .k (.c (.oc _ cs)),some l=>bif Nat.beq (wid cs) l.size then (mkK l.agg cs).map fun r=>(none,r) else none
   | .k (.c (.oe _ _ s xs i)),some l=>bif Nat.beq (wid (s.enc (xs.getD i s.d))) l.size then (mkK l.agg (s.enc (xs.getD i s.d))).map fun r=>(none,r) else none
   | _,_=>none
 | .indexAddr T x y =>
   match ev x,ev y,a09 L T with
   | .k (.c (.sl l)),.k (.c (.v (.int _ i))),some d=>bif Nat.beq d.kd 2 then some (some (0 <= i/\i < (l.length:Int)),.k (.c (.sp (l.getD i.toNat 0)))) else none
   | .k (.c (.pt l)),.k (.c (.v (.int _ i))),some d=>bif Nat.beq d.kd 8 then some (some (0 <= i/\i < (l.length:Int)),.k (.c (.op [.int .i64 (l.getD i.toNat (0,0)).1,.int .i64 (l.getD i.toNat (0,0)).2]))) else none
   | .k (.c (.pp l)),.k (.c (.v (.int _ i))),some d=>bif Nat.beq d.kd 9 then some (some (0 <= i/\i < (l.length:Int)),.k (.c (.oq (l.getD i.toNat [])))) else none
   | .k (.c (.pl k l)),.k (.c (.v (.int _ i))),some d=>bif Nat.beq d.kd (k+100) then some (some (0 <= i/\i < (l.length:Int)),.k (.c (.op ((List.range k).map fun j=>.int .i64 ((l.getD i.toNat []).getD j 0))))) else none
   | .k (.c (.ba b n)),.k (.c (.v (.int _ (.ofNat i)))),some d=>
     match a09 L d.el with
     | some e=>bif Nat.beq d.kd 10 && Nat.blt i n then some (none,.k (.c (.bx b (i*e.size)))) else none
     | none=>none
   | .k (.c (.rd s _ xs)),.k (.c (.v (.int _ i))),some d=>bif scB d.kd s then some (some (0 <= i/\i < (xs.length:Int)),.k (.c (.rc (s.enc (xs.getD i.toNat s.d))))) else none
   | .k (.c (.os n s xs)),.k (.c (.v (.int _ i))),some d=>bif scB d.kd s then some (some (0 <= i/\i < (xs.length:Int)),.k (.c (.oc n (s.enc (xs.getD i.toNat s.d))))) else none
   | .k (.c (.ow n t s xs)),.k (.c (.v (.int _ i))),some d=>bif scB d.kd s then some (some (0 <= i/\i < (xs.length:Int)),.k (.c (.oe n t s xs i.toNat))) else none
   | .k (.c (.bx b off)),.k (.c (.v (.int _ (.ofNat i)))),some d =>
     match a09 L d.el with
     | some e=>bif Nat.beq d.kd 30 && Nat.ble ((i+1)*e.size) d.size then some (none,.k (.c (.bx b (off+i*e.size)))) else none
     | none=>none
   | .k (.c (.rc cs)),.k (.c (.v (.int _ (.ofNat i)))),some d =>
     match a09 L d.el with
     | some e=>bif Nat.beq d.kd 30 && Nat.ble ((i+1)*e.size) d.size then (cut 99 cs (i*e.size) e.size).map fun r=>(none,.k (.c (.rc r))) else none
     | none=>none
   | _,_,_=>none
 | .slice T x none (some y) none =>
   match ev x,ev y,a09 L T with
   | .k (.c (.sl l)),.k (.c (.v (.int _ i))),some d=>bif Nat.beq d.kd 2 then some (some (0 <= i/\i <= (l.length:Int)),.k (.c (.sl (l.take i.toNat)))) else none
   | .k (.c (.rd s _ xs)),.k (.c (.v (.int _ i))),some d=>bif scB d.kd s then some (some (0 <= i/\i <= (xs.length:Int)),.k (.c (.rd s false (xs.take i.toNat)))) else none
   | .k (.c (.ow n t s xs)),.k (.c (.v (.int _ i))),some d=>bif scB d.kd s then some (some (0 <= i/\i <= (xs.length:Int)),.k (.c (.ow n t s (xs.take i.toNat)))) else none
   | _,_,_=>none
 | .slice T x (some y) none none =>
   match ev x,ev y,a09 L T with
   | .k (.c (.rd s _ xs)),.k (.c (.v (.int _ i))),some d=>bif scB d.kd s then some (some (0 <= i/\i <= (xs.length:Int)),.k (.c (.rd s false (xs.drop i.toNat)))) else none
   | .k (.c (.ow n _ s xs)),.k (.c (.v (.int _ i))),some d=>bif scB d.kd s then some (some (0 <= i/\i <= (xs.length:Int)),.k (.c (.os n s (xs.drop i.toNat)))) else none
   | _,_,_=>none
 | .build T parts =>
   match a09 L T with
   | some l=>bif l.flds.isEmpty then none else (aNG ev l.flds l.size parts.toList l.zero).map fun cs=>(none,.k (.g cs))
   | none=>none
 | .extract x i =>
   match ev x with
   | .t xs=>(xs[i]?).map fun r=>(none,.k r)
   | _=>none
 | .binOp op T x y _ =>
   match ev x,ev y with
   | .k (.g [.v (.int .i64 a),.v (.int .i64 b)]),.k (.g [.v (.int .i64 c),.v (.int .i64 d)]) =>
     (match op,a09 L T with
      | .eql,some l=>bif Nat.beq l.kd 11 then some (none,.k (.c (.v (.bool (decide (a=c/\b=d)))))) else none
      | _,_=>none)
   | .k (.c (.v a)),.k (.c (.v b))=>(b2N (match a09 L T with | some l=>Nat.beq l.kd 1 | none=>false) op a b).map fun r=>(r.1,.k (.c (.v r.2)))
   | _,_=>none
 | .unOp .not _ x =>
   match ev x with
   | .k (.c (.v (.bool b)))=>some (none,.k (.c (.v (.bool (!b)))))
   | _=>none
 | .unOp .neg _ x =>
   match ev x with
   | .k (.c (.v (.int .i64 n)))=>some (some (inR .i64 (0 - n)),.k (.c (.v (.int .i64 (0 - n)))))
   | .k (.c (.v (.int .u64 n)))=>some (none,.k (.c (.v (.int .u64 (IntKind.wrap .u64 (0 - n))))))
   | _=>none
 | .convert S D x =>
   match ev x,a09 L S,a09 L D with
   | .k (.c (.v (.int k' n))),some _,some d =>
     match a6f d.kd with
     | some k=>bif aVI k' k then some (none,.k (.c (.v (.int k (IntKind.wrap k n))))) else some (some (inR k n),.k (.c (.v (.int k n))))
     | none=>none
   | _,_,_=>none
 | .call c =>
   match c.callee,c.args.toList,c.argTypes.toList with
   | .builtin .len,[x],[T] =>
     match ev x,a09 L T with
     | .k (.c (.sl l)),some y=>bif Nat.beq y.kd 2 then some (none,.k (.c (.v (.int .i64 (l.length:Int))))) else none
     | .k (.c (.pt l)),some y=>bif Nat.beq y.kd 8 then some (none,.k (.c (.v (.int .i64 (l.length:Int))))) else none
     | .k (.c (.pp l)),some y=>bif Nat.beq y.kd 9 then some (none,.k (.c (.v (.int .i64 (l.length:Int))))) else none
     | .k (.c (.ba _ n)),some y=>bif Nat.beq y.kd 10 then some (none,.k (.c (.v (.int .i64 (n:Int))))) else none
     | .k (.c (.ln n)),some y=>bif Nat.beq y.kd 10 then some (none,.k (.c (.v (.int .i64 (n:Int))))) else none
     | .k (.c (.pl k l)),some y=>bif Nat.beq y.kd (k+100) then some (none,.k (.c (.v (.int .i64 (l.length:Int))))) else none
     | .k (.c (.rd s _ xs)),some y=>bif scB y.kd s then some (none,.k (.c (.v (.int .i64 (xs.length:Int))))) else none
     | .k (.c (.ow _ _ s xs)),some y=>bif scB y.kd s then some (none,.k (.c (.v (.int .i64 (xs.length:Int))))) else none
     | .k (.c (.os _ s xs)),some y=>bif scB y.kd s then some (none,.k (.c (.v (.int .i64 (xs.length:Int))))) else none
     | .k (.c (.v (.slice none 0 0))),some y=>bif (aTj y.kd).isSome then some (none,.k (.c (.v (.int .i64 0)))) else none
     | _,_=>none
   | .builtin .min,[x,y],_ =>
     match ev x,ev y with
     | .k (.c (.v (.int .i64 a))),.k (.c (.v (.int .i64 b)))=>some (none,.k (.c (.v (.int .i64 (if b < a then b else a)))))
     | _,_=>none
   | _,_,_=>none
 | _=>none
theorem aUJ {bl:Bool} {op:BinOp} {a b r:Value} {pre:Option Prop} (h:b2N bl op a b=some (pre,r)):r.oneCell'=true:=by
 unfold b2N at h;split at h
 ·rename_i k a k' b;by_cases hk:k=k'
  ·simp only [hk,decide_true,cond_true] at h;split at h <;> (try (cases h; done)) <;> simp only [injEq,Prod.mk.injEq] at h <;> obtain ⟨_,rfl⟩:=h <;> rfl
  ·simp [hk] at h
 ·cases bl with
  | false=>simp at h
  | true =>
    simp only [cond_true] at h;split at h <;> (try (cases h; done)) <;> simp only [injEq,Prod.mk.injEq] at h <;> obtain ⟨_,rfl⟩:=h <;> rfl
 ·cases h
theorem a3A {bs:Bs} {w:World} {agg:Bool} {cs:List AC} {r:AV} {us:List Value} (h:mkK agg cs=some r) (k:relL bs w (a0d cs) us):relV bs w r (if agg then .agg us.toArray else us.getD 0 undef):=by
 unfold mkK at h
 split at h <;> first | (cases h; done) | skip
 ·simp only [injEq] at h; subst h; exact ⟨us,rfl,k⟩
 all_goals
  simp only [injEq] at h;subst h
  match us,k with
  | [u],k=>exact k.1
