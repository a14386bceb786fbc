import Derived.Test.YtbohkigffejhoaaGreatR24
import Derived.Maps.AppendAt
import Derived.Test.YtbohkigffejhoaaGreatR14
open Array (ext' toList_inj)
open Bool (and_eq_true)
open Go.Instr (fieldAt fill loadAt sliceAt sliceBound sureAddr)
open List (length_append length_drop mem_cons_of_mem mem_cons_self)
open Nat (beq_eq ble_eq le_refl lt_of_lt_of_le)
open Option (getD_some map_some)
open Option.some (injEq)
noncomputable section
namespace Go.Proofs.YtbohkigffejhoaaGreat
open Go.RowKit
namespace Zc
theorem a7Z {a b:Nat} (h:Nat.beq a b=false):¬ a=b:=by
 rintro rfl;rw [aE9] at h;cases h
theorem a0l {a b:Nat} (h:Nat.beq a b=true):a=b:=Nat.eq_of_beq_eq_true h
theorem aPl {a b:Nat} (h:Nat.ble a b=false):¬ a <= b:=fun h'=>by
 rw [Nat.ble_eq_true_of_le h'] at h;cases h
theorem a0R {a b:Nat} (h:Nat.ble a b=true):a <= b:=Nat.le_of_ble_eq_true h
def aYA (n:Nat):List Nat:=Nat.rec (motive:=fun _=>Nat->List Nat) (fun _=>[]) (fun _ ih m=>Bool.rec (motive:=fun _=>List Nat) (Nat.mod m 1000000000 :: ih (Nat.div m 1000000000)) [] (Nat.beq m 0)) n n
theorem aPy (n:Nat):aYA n=Lb.limbs n:=by
 have key:∀ f m,m <= f->(Nat.rec (motive:=fun _=>Nat->List Nat) (fun _=>[]) (fun _ ih m=>Bool.rec (motive:=fun _=>List Nat) (Nat.mod m 1000000000 :: ih (Nat.div m 1000000000)) [] (Nat.beq m 0)) f m:List Nat)=Lb.limbs m:=by
  intro f
  induction f with
  | zero =>
    intro m hm
    obtain rfl:m=0:=by omega
    exact Lb.a1h.symm
  | succ f ih =>
    intro m hm;by_cases h:m=0
    ·subst h;exact Lb.a1h.symm
    ·rw [Lb.a2i h,Lb.a9f,<- ih (m / 1000000000) (by omega)];show Bool.rec (motive:=fun _=>List Nat) _ _ (Nat.beq m 0)=_;rw [a5x h];rfl
 exact key n n (le_refl n)
def aIz (l:List LF):Nat->Option (List LF) :=
 List.rec (fun n=>bif Nat.beq n 0 then some [] else none)
  (fun x r ih n=>bif Nat.beq n 0 then some (x :: r) else bif Nat.ble x.width n then ih (Nat.sub n x.width) else
   LF.rec (fun _=>none) (fun _=>none) (fun z=>some (.sl (aYA z.natAbs) :: r)) (fun _ _=>none) (fun _ _ _ _ _=>none) none (fun _ _=>none) (fun _=>none) x) l
def aBb (l:List LF):Nat->Option (List LF) :=
 List.rec (fun n=>bif Nat.beq n 0 then some [] else none)
  (fun x _ ih n=>bif Nat.beq n 0 then some [] else bif Nat.ble x.width n then Option.rec none (fun ys=>some (x :: ys)) (ih (Nat.sub n x.width)) else
   LF.rec (fun _=>none) (fun _=>none) (fun z=>some [.v (.bool (decide (z < 0)))]) (fun _ _=>none) (fun _ _ _ _ _=>none) none (fun _ _=>none) (fun _=>none) x) l
theorem aMK (x:LF) (r:List LF) (n:Nat):aIz (x :: r) n=bif Nat.beq n 0 then some (x :: r) else bif Nat.ble x.width n then aIz r (Nat.sub n x.width) else
      LF.rec (fun _=>none) (fun _=>none) (fun z=>some (.sl (aYA z.natAbs) :: r)) (fun _ _=>none) (fun _ _ _ _ _=>none) none (fun _ _=>none) (fun _=>none) x:=rfl
theorem aMe (x:LF) (r:List LF) (n:Nat):aBb (x :: r) n=bif Nat.beq n 0 then some [] else bif Nat.ble x.width n then Option.rec none (fun ys=>some (x :: ys)) (aBb r (Nat.sub n x.width)) else
      LF.rec (fun _=>none) (fun _=>none) (fun z=>some [.v (.bool (decide (z < 0)))]) (fun _ _=>none) (fun _ _ _ _ _=>none) none (fun _ _=>none) (fun _=>none) x:=rfl
theorem a8j:∀ (l:List LF) (n:Nat) (ys:List LF),aIz l n=some ys->a0d ys=(a0d l).drop n/\n <= (a0d l).length
 | [],n,ys,h=>by
   have h':(bif Nat.beq n 0 then some [] else none)=some ys:=h
   cases hb:Nat.beq n 0 with
   | true =>
     rw [hb] at h'
     have e:n=0:=by simpa using hb
     have e2:([]:List LF)=ys:=by simpa using h'
     subst e e2
     simp [a7q]
   | false=>rw [hb] at h'; cases h'
 | x :: r,n,ys,h=>by
   rw [aMK] at h;have hl:=a2v x
   cases hb:Nat.beq n 0 with
   | true =>
     rw [hb] at h
     have e:n=0:=by simpa using hb
     have e2:x :: r=ys:=by simpa using h
     subst e e2
     simp
   | false =>
     rw [hb] at h;simp only [cond_false] at h
     cases h1:Nat.ble x.width n with
     | true =>
       rw [h1] at h;simp only [cond_true] at h
       have h1':x.width <= n:=by simpa using h1
       obtain ⟨e1,e2⟩:=a8j r _ ys h;have e3:Nat.sub n x.width=n - x.width:=rfl;rw [e3] at e1 e2;rw [a1a];refine ⟨?_,by rw [length_append,hl]; omega⟩
       rw [e1,List.drop_append,List.drop_of_length_le (l:=x.flat) (by omega),List.nil_append,hl]
     | false =>
       rw [h1] at h;simp only [cond_false] at h;have h0:¬ n=0:=a7Z hb;have h2:¬ x.width <= n:=aPl h1
       cases x with
       | I z =>
         simp only [LF.width] at h2
         obtain rfl:n=1:=by omega
         have e2:LF.sl (aYA z.natAbs) :: r=ys:=by simpa using h
         rw [aPy] at e2;subst e2;refine ⟨?_,?_⟩
         ·rw [a1a,a1a]; rfl
         ·rw [a1a,length_append,a2v]; simp only [LF.width]; omega
       | v _=>cases h
       | sl _=>cases h
       | p _ _=>cases h
       | s _ _ _ _ _=>cases h
       | e0=>cases h
       | fn _ _=>cases h
       | q _=>cases h
theorem a4z:∀ (l:List LF) (n:Nat) (ys:List LF),aBb l n=some ys->a0d ys=(a0d l).take n/\n <= (a0d l).length
 | [],n,ys,h=>by
   have h':(bif Nat.beq n 0 then some [] else none)=some ys:=h
   cases hb:Nat.beq n 0 with
   | true =>
     rw [hb] at h'
     have e:n=0:=by simpa using hb
     have e2:([]:List LF)=ys:=by simpa using h'
     subst e e2
     simp [a7q]
   | false=>rw [hb] at h'; cases h'
 | x :: r,n,ys,h=>by
   rw [aMe] at h;have hl:=a2v x
   cases hb:Nat.beq n 0 with
   | true =>
     rw [hb] at h
     have e:n=0:=by simpa using hb
     have e2:([]:List LF)=ys:=by simpa using h
     subst e e2
     simp [a7q]
   | false =>
     rw [hb] at h;simp only [cond_false] at h
     cases h1:Nat.ble x.width n with
     | true =>
       rw [h1] at h;simp only [cond_true] at h
       have h1':x.width <= n:=by simpa using h1
       have e3:Nat.sub n x.width=n - x.width:=rfl;rw [e3] at h
       cases ht:aBb r (n - x.width) with
       | none=>rw [ht] at h; cases h
       | some zs =>
         rw [ht] at h
         have e2:x :: zs=ys:=by simpa using h
         subst e2;obtain ⟨e1,e2⟩:=a4z r _ zs ht;rw [a1a,a1a];refine ⟨?_,by rw [length_append,hl]; omega⟩
         rw [e1,List.take_append,hl,List.take_of_length_le (l:=x.flat) (by omega)]
     | false =>
       rw [h1] at h;simp only [cond_false] at h;have h0:¬ n=0:=a7Z hb;have h2:¬ x.width <= n:=aPl h1
       cases x with
       | I z =>
         simp only [LF.width] at h2
         obtain rfl:n=1:=by omega
         have e2:[LF.v (.bool (decide (z < 0)))]=ys:=by simpa using h
         subst e2;refine ⟨?_,?_⟩
         ·rw [a1a,a1a]; rfl
         ·rw [a1a,length_append,a2v]; simp only [LF.width]; omega
       | v _=>cases h
       | sl _=>cases h
       | p _ _=>cases h
       | s _ _ _ _ _=>cases h
       | e0=>cases h
       | fn _ _=>cases h
       | q _=>cases h
def app (a b:List LF):List LF:=List.rec b (fun x _ ih=>x :: ih) a
theorem aCq (a b:List LF):app a b=a ++ b:=by
 induction a with
 | nil=>rfl
 | cons x r ih=>show x :: app r b=_; rw [ih]; rfl
def len {α:Type} (l:List α):Nat:=List.rec 0 (fun _ _ ih=>Nat.succ ih) l
theorem a8H {α:Type} (l:List α):len l=l.length:=by
 induction l with
 | nil=>rfl
 | cons x r ih=>show Nat.succ (len r)=_; rw [ih]; rfl
def aUe (l:List LF) (off n:Nat):Option (List LF):=Option.rec none (fun r=>aBb r n) (aIz l off)
theorem a4I {l:List LF} {off n:Nat} {ys:List LF} (h:aUe l off n=some ys):a0d ys=((a0d l).drop off).take n/\off+n <= (a0d l).length/\(a0d ys).length=n:=by
 unfold aUe at h
 cases hd:aIz l off with
 | none=>rw [hd] at h; cases h
 | some r =>
   rw [hd] at h;obtain ⟨e1,e2⟩:=a8j _ _ _ hd;obtain ⟨e3,e4⟩:=a4z _ _ _ h;rw [e1] at e3 e4;rw [length_drop] at e4;refine ⟨e3,by omega,?_⟩;rw [e3,List.length_take,length_drop];omega
def aTa (l:List LF) (off:Nat) (ys:List LF):Option (List LF) :=
 Option.rec none (fun a=>Option.rec none (fun b=>some (app a (app ys b))) (aIz l (Nat.add off (wid ys)))) (aBb l off)
theorem aEI {l:List LF} {off:Nat} {ys zs:List LF} (h:aTa l off ys=some zs):a0d zs=(a0d l).take off ++ a0d ys ++ (a0d l).drop (off+wid ys)/\off+wid ys <= (a0d l).length:=by
 unfold aTa at h
 cases ht:aBb l off with
 | none=>rw [ht] at h; cases h
 | some a =>
   rw [ht] at h;have e0:Nat.add off (wid ys)=off+wid ys:=rfl;rw [e0] at h
   cases hd:aIz l (off+wid ys) with
   | none=>simp only [hd] at h; cases h
   | some b =>
     simp only [hd] at h
     have e:app a (app ys b)=zs:=by simpa using h
     subst e;obtain ⟨e1,_⟩:=a4z _ _ _ ht;obtain ⟨e2,e3⟩:=a8j _ _ _ hd;rw [aCq,aCq,a0I,a0I,e1,e2,List.append_assoc];exact ⟨rfl,e3⟩
section
variable {P:Program} {w w':World} {bm:BM} {H:Hp Bx} {m n:Nat}
theorem heap_alloc_new (w:World) (o:Obj):(w.alloc o).heap[w.heap.size]?=some o:=by unfold World.alloc; simp
def a4J (bm:BM) (n b:Nat):BM:=⟨fun k=>if k=n then some b else bm k,bm.z⟩
theorem a1r (bm:BM) (n b:Nat):a4J bm n b n=some b:=by simp [a4J]
theorem a1W (bm:BM) {n b k:Nat} (h:k ≠ n):a4J bm n b k=bm k:=by simp [a4J,h]
theorem Grow.new (bm:BM) {n b:Nat} {w:World} (h:w.heap.size <= b):Grow m n (n+1) w bm (a4J bm n b) :=
 ⟨by omega,fun k hk=>a1W bm (by omega),fun k c h1 h2 hc=>by
  obtain rfl:k=n:=by omega
  rw [a1r] at hc
  obtain rfl:b=c:=by simpa using hc
  exact .inl h,fun _ h=>h,fun _ h=>.inl h⟩
theorem BoxAt.keep {bm':BM} {b:Nat} {x:Bx} (h:BoxAt bm w b x) (k:Keep bm bm' w w') (e:w'.heap[b]?=w.heap[b]?):BoxAt bm' w' b x:=by
 obtain ⟨vs,rs,h1,h2⟩:=h;exact ⟨vs,rs,by rw [e]; exact h1,k.relL h2⟩
theorem Ok.new (ok:Ok H bm w) (hn:bm n=none) {x:Bx} {vs rs:List Value} (hr:relL bm w (a0d x.cs) vs) (he:Ext w w') (hb:w'.heap[w.heap.size]?=some (.cells (vs ++ rs).toArray x.T (0,0))) :
    Ok (H.put n (some x)) (a4J bm n w.heap.size) w'/\Grow m n (n+1) w bm (a4J bm n w.heap.size)/\Frame m n bm w w':=by
 have hg:=Grow.new (m:=m) bm (n:=n) (le_refl w.heap.size);have hf:Frame m n bm w w':=Frame.of_ext he;have hk:Keep bm (a4J bm n w.heap.size) w w':=Keep.of ok hg (fun k h1 h2=>(show k=n by omega) ▸ hn) hf;have hlt:=ok.lt
 have get:∀ k b,a4J bm n w.heap.size k=some b->(k=n/\b=w.heap.size) \/ (k ≠ n/\bm k=some b):=fun k b h=>by
  by_cases hkn:k=n
  ·subst hkn;rw [a1r] at h;exact .inl ⟨rfl,by simpa using h.symm⟩
  ·rw [a1W bm hkn] at h;exact .inr ⟨hkn,h⟩
 refine ⟨⟨fun k b y h1 h2=>?_,fun k b h1=>?_,fun k b h1 hz=>?_,fun k j b y z h1 h2 h3 h4=>?_,fun b hz=>lt_of_lt_of_le (ok.zlt b hz) he.size⟩,hg,hf⟩
 ·rcases get k b h1 with ⟨rfl,rfl⟩ | ⟨hkn,h1⟩
  ·have e:=Hp.put_eq _ _ _ _ h2
   obtain rfl:x=y:=by simpa using e
   exact ⟨vs,rs,hb,hk.relL hr⟩
  ·rw [Hp.put_ne _ _ _ _ hkn] at h2;have hb':=hlt k b h1;refine (ok.box k b y h1 h2).keep hk ?_
   have hx:w.heap[b]?=some w.heap[b]:=by simp [hb']
   rw [hx];exact a3t hx he
 ·rcases get k b h1 with ⟨_,rfl⟩ | ⟨_,h1⟩
  ·exact (Array.getElem?_eq_some_iff.1 hb).1
  ·exact lt_of_lt_of_le (hlt k b h1) he.size
 ·rcases get k b h1 with ⟨_,rfl⟩ | ⟨_,h1⟩
  ·exact Nat.lt_irrefl _ (ok.zlt _ hz)
  ·exact ok.nz k b h1 hz
 ·rcases get k b h1 with ⟨hkn,e1⟩ | ⟨hkn,h1⟩ <;> rcases get j b h2 with ⟨hjn,e2⟩ | ⟨hjn,h2⟩
  ·rw [hkn,hjn]
  ·exact absurd (hlt j _ h2) (by omega)
  ·exact absurd (hlt k _ h1) (by omega)
  ·rw [Hp.put_ne _ _ _ _ hkn] at h3;rw [Hp.put_ne _ _ _ _ hjn] at h4;exact ok.inj k j b y z h1 h2 h3 h4
theorem a8A {b:Nat}:∀ (us:List Value) (o:Nat) (w:World),(w.setCells b o us).os=w.os/\(w.setCells b o us).tape=w.tape/\(w.setCells b o us).output=w.output
 | [],_,_=>⟨rfl,rfl,rfl⟩
 | _ :: l,o,w=>a8A l (o+1) (w.setCell ⟨b,o,none⟩ _)
theorem aFR {b o:Nat} {us:List Value} {cur:List Value} {T:TypeId} {k:Nat} (hbm:bm k=some b) (hmk:m <= k) (hk:k < n) (hb:w.heap[b]?=some (.cells cur.toArray T (0,0))) (hl:o+us.length <= cur.length):Frame m n bm w (w.setCells b o us):=by
 obtain ⟨g1,g2,g3⟩:=Vc.a1R b us o w cur T hb hl;refine ⟨Nat.le_of_eq g2.symm,fun c _ hn=>g3 c fun e=>hn k hmk hk (by rw [e]; exact hbm),fun c N h=>?_,a8A us o w⟩;by_cases hc:c=b
 ·subst hc;obtain ⟨vs,T',e1,e2⟩:=h;rw [hb] at e1
  obtain ⟨rfl,rfl⟩:cur.toArray=vs/\T=T':=by simpa using e1
  refine ⟨_,_,g1,?_⟩;simp at e2 ⊢;omega
 ·obtain ⟨vs,T',e1,e2⟩:=h;exact ⟨vs,T',by rw [g3 c hc]; exact e1,e2⟩
theorem Ok.set (ok:Ok H bm w) {k b off:Nat} {x:Bx} {ys cs:List LF} {us:List Value} (hbm:bm k=some b) (hmk:m <= k) (hk:k < n) (hx:H.get k=some x) (hu:aTa x.cs off ys=some cs) (hr:relL bm w (a0d ys) us) :
    Ok (H.put k (some ⟨x.T,cs⟩)) bm (w.setCells b off us)/\Frame m n bm w (w.setCells b off us)/\Grow m n n w bm bm/\∃ cur:List Value,w.heap[b]?=some (.cells cur.toArray x.T (0,0))/\off+us.length <= cur.length:=by
 obtain ⟨vs,rs,h1,h2⟩:=ok.box k b x hbm hx;obtain ⟨e1,e2⟩:=aEI hu
 have hul:us.length=wid ys:=by rw [<- hr.len,a2E]
 have hvl:=h2.len
 have hle:off+us.length <= (vs ++ rs).length:=by rw [length_append]; omega
 obtain ⟨g1,g2,g3⟩:=Vc.a1R b us off w (vs ++ rs) x.T h1 hle;have hf:Frame m n bm w (w.setCells b off us):=aFR hbm hmk hk h1 hle;have hkp:Keep bm bm w (w.setCells b off us):=Keep.of ok (Grow.refl m n w bm) (fun k h1 h2=>by omega) hf;refine ⟨⟨fun j c y hj hy=>?_,fun j c hj=>lt_of_lt_of_le (ok.lt j c hj) hf.le,ok.nz,fun i j c y z hi hj hy hz=>?_,fun c hz=>lt_of_lt_of_le (ok.zlt c hz) hf.le⟩,hf,Grow.refl m n w bm,_,h1,hle⟩
 ·by_cases hjk:j=k
  ·subst hjk;have e:=Hp.put_eq _ _ _ _ hy
   obtain rfl:(⟨x.T,cs⟩:Bx)=y:=by simpa using e
   obtain rfl:b=c:=by rw [hbm] at hj; simpa using hj
   refine ⟨vs.take off ++ us ++ vs.drop (off+us.length),rs,?_,?_⟩
   ·rw [g1];congr 3;rw [List.take_append_of_le_length (by omega),List.drop_append_of_le_length (by omega)];simp
   ·rw [e1,hul];exact hkp.relL (relL.append (relL.append (h2.take off) hr) (h2.drop _))
  ·rw [Hp.put_ne _ _ _ _ hjk] at hy;refine (ok.box j c y hj hy).keep hkp (g3 c ?_);rintro rfl;exact hjk (ok.inj j k c y x hj hbm hy hx)
 ·have get:∀ i y,(H.put k (some ⟨x.T,cs⟩)).get i=some y->∃ z,H.get i=some z:=fun i y hi=>by
   by_cases hik:i=k
   ·subst hik; exact ⟨x,hx⟩
   ·rw [Hp.put_ne _ _ _ _ hik] at hi; exact ⟨y,hi⟩
  obtain ⟨y',hy'⟩:=get i y hy;obtain ⟨z',hz'⟩:=get j z hz;exact ok.inj i j c y' z' hi hj hy' hz'
theorem Ok.kill (ok:Ok H bm w) (k:Nat):Ok (H.put k none) bm w:=by
 have get:∀ i y,(H.put k none).get i=some y->H.get i=some y:=fun i y hi=>by
  by_cases hik:i=k
  ·subst hik;have:=Hp.put_eq _ _ _ _ hi;cases this
  ·rwa [Hp.put_ne _ _ _ _ hik] at hi
 exact ⟨fun i b y h1 h2=>ok.box i b y h1 (get i y h2),ok.lt,ok.nz,fun i j b y z h1 h2 h3 h4=>ok.inj i j b y z h1 h2 (get i y h3) (get j z h4),ok.zlt⟩
end
end Zc
end Go.Proofs.YtbohkigffejhoaaGreat
namespace Go.Proofs.YtbohkigffejhoaaGreat
end Go.Proofs.YtbohkigffejhoaaGreat
namespace Go.Proofs.YtbohkigffejhoaaGreat
open Go.RowKit
namespace Zc
open Vc (a0O a7Q a2A a4G a6f a95 a2M a0B a3V a1v run_equal_bool)
structure ZL where
 size:Nat
 agg:Bool
 kd:Nat
 el:Nat
 esz:Nat
 eby:Nat
 ezero:List LF
 zero:List LF
 flds:List (Nat × Nat)
 ftys:List Nat
def a4N:List LF->List Value->Bool
 | [],[]=>true
 | .v (.bool a) :: l,.bool b :: us=>(a == b) && a4N l us
 | .v (.int k n) :: l,.int k' n' :: us=>decide (k=k') && decide (n=n') && a4N l us
 | .v (.slice none 0 0) :: l,.slice none 0 0 :: us=>a4N l us
 | .v (.pointer none) :: l,.pointer none :: us=>a4N l us
 | .v .nilFunc :: l,.nilFunc :: us=>a4N l us
 | .v (.string a) :: l,.string b :: us=>decide (a=b) && a4N l us
 | .sl [] :: l,.slice none 0 0 :: us=>a4N l us
 | _,_=>false
theorem a6M (bm:BM) (w:World) (l:List LF) (us:List Value) (h:a4N l us=true):relL bm w l us:=by
 fun_induction a4N l us with
 | case1=>trivial
 | case2 a l b us ih =>
   simp only [and_eq_true,beq_iff_eq] at h;obtain ⟨rfl,h⟩:=h
   exact ⟨⟨rfl,rfl⟩,ih h⟩
 | case3 k n l k' n' us ih =>
   simp only [and_eq_true,decide_eq_true_eq] at h;obtain ⟨⟨rfl,rfl⟩,h⟩:=h
   exact ⟨⟨rfl,rfl⟩,ih h⟩
 | case4 l us ih=>exact ⟨⟨rfl,rfl⟩,ih h⟩
 | case5 l us ih=>exact ⟨⟨rfl,rfl⟩,ih h⟩
 | case6 l us ih=>exact ⟨⟨rfl,rfl⟩,ih h⟩
 | case7 a l b us ih =>
   simp only [and_eq_true,decide_eq_true_eq] at h;obtain ⟨rfl,h⟩:=h
   exact ⟨⟨rfl,rfl⟩,ih h⟩
 | case8 l us ih=>exact ⟨⟨SlU.nil w,.inl rfl⟩,ih h⟩
 | case9=>cases h
def elB (P:Program) (l:ZL):Bool :=
 match P.info? l.el with
 | some i=>Nat.beq i.size l.esz && Nat.beq i.bytes l.eby && Nat.ble 1 l.esz && Nat.ble l.esz 1000 && Nat.ble l.eby 1000000 && Nat.beq (wid l.ezero) l.esz &&
   (match i.zero with | some z=>a4N (a0d l.ezero) z.cells.toList | none=>false)
 | none=>false
def zlB (P:Program) (t:Nat) (l:ZL):Bool :=
 match P.info? t,P.underlying t with
 | some i,some d =>
   decide (i.size=l.size) && (d.isRow == l.agg) && (bif Nat.beq l.kd 11 then (match d with | .string=>true | _=>false) else a4G P l.el l.kd d) && (l.agg || decide (l.size=1)) &&
   (match i.zero with | some z=>a4N (a0d l.zero) z.cells.toList | none=>false) && (bif Nat.beq l.kd 10 then elB P l else true) &&
   (match d with
    | .struct fields=>decide (fields.toList.mapM (fun f=>(P.info? f.type).map fun i=>(f.offset,i.size))=some l.flds) && l.flds.all (fun p=>decide (p.2 ≠ 0)) && decide (fields.toList.map (·.type)=l.ftys)
    | _=>l.flds.isEmpty)
 | _,_=>false
structure ZEl (P:Program) (l:ZL):Prop where
 info:∃ i z,P.info? l.el=some i/\i.size=l.esz/\i.bytes=l.eby/\i.zero=some z/\∀ bm w,relL bm w (a0d l.ezero) z.cells.toList
 pos:1 <= l.esz
 le:l.esz <= 1000
 by_:l.eby <= 1000000
 zw:wid l.ezero=l.esz
structure ZOK (P:Program) (t:Nat) (l:ZL):Prop where
 size:(P.info? t).map (·.size)=some l.size
 desc:∃ d,P.underlying t=some d/\d.isRow=l.agg
 one:l.agg=false->l.size=1
 bool:l.kd=1->P.underlying t=some .bool
 slice:l.kd=10->P.underlying t=some (.slice l.el)/\ZEl P l
 str:l.kd=11->P.underlying t=some .string
 int:∀ k,a6f l.kd=some k->P.underlying t=some (.int k)
 zero:∃ i z,P.info? t=some i/\i.zero=some z/\∀ bm w,relL bm w (a0d l.zero) z.cells.toList
 flds:l.flds ≠ []->∃ fields,P.underlying t=some (.struct fields)/\fields.toList.mapM (fun f=>(P.info? f.type).map fun i=>(f.offset,i.size))=some l.flds/\fields.toList.map (·.type)=l.ftys
 fpos:∀ p ∈ l.flds,p.2 ≠ 0
theorem b2p {P:Program} {l:ZL} (h:elB P l=true):ZEl P l:=by
 unfold elB at h;split at h
 ·rename_i i hi;simp only [and_eq_true] at h;obtain ⟨⟨⟨⟨⟨⟨h1,h2⟩,h3⟩,h4⟩,h5⟩,h8⟩,h7⟩:=h;split at h7
  ·rename_i z hz;exact ⟨⟨i,z,hi,a0l h1,a0l h2,hz,fun bm w=>a6M bm w _ _ h7⟩,a0R h3,a0R h4,a0R h5,a0l h8⟩
  ·cases h7
 ·cases h
theorem b0z {P:Program} {t:Nat} {l:ZL} (h:zlB P t l=true):ZOK P t l:=by
 unfold zlB at h;split at h
 ·rename_i i d hi hd;simp only [and_eq_true,decide_eq_true_eq,Bool.or_eq_true,beq_iff_eq] at h;obtain ⟨⟨⟨⟨⟨⟨h1,h2⟩,h0⟩,h3⟩,h4⟩,h8⟩,h7⟩:=h
  have hk:∀ n,l.kd=n->n ≠ 11->a4G P l.el n d=true:=fun n hn h11=>by
   subst hn;rw [a5x h11] at h0;exact h0
  refine ⟨by rw [hi]; simp [h1],⟨d,hd,h2⟩,fun ha=>h3.resolve_left (by simp [ha]),fun hb=>?_,fun hb=>?_,fun hb=>?_,fun k hb=>?_,?_,fun hf=>?_,fun p hp=>?_⟩
  ·have:=hk 1 hb (by decide);cases d <;> simp [a4G] at this;exact hd
  ·have:=hk 10 hb (by decide);rw [hb] at h8;refine ⟨?_,b2p h8⟩
   cases d <;> simp only [a4G] at this <;> try (cases this; done)
   simp only [beq_eq] at this;rw [hd,this]
  ·rw [hb] at h0;simp only [aE9,cond_true] at h0
   cases d <;> first | exact hd | (cases h0; done)
  ·refine (a95 (hk _ rfl fun e=>?_) hb) ▸ hd;rw [e] at hb;cases hb
  ·split at h4
   ·rename_i z hz;exact ⟨i,z,hi,hz,fun bm w=>a6M bm w _ _ h4⟩
   ·cases h4
  ·split at h7
   ·rename_i fields;simp only [and_eq_true,decide_eq_true_eq] at h7;exact ⟨fields,hd,h7.1.1,h7.2⟩
   ·exact absurd (List.isEmpty_iff.1 h7) hf
  ·split at h7
   ·simp only [and_eq_true,decide_eq_true_eq,List.all_eq_true] at h7;exact h7.1.2 p hp
   ·rw [List.isEmpty_iff.1 h7] at hp; cases hp
 ·cases h
def a5q (P:Program) (L:Tr ZL):Prop:=∀ t l,L.get t=some l->ZOK P t l
def upB (n:Nat) (z:Int):Bool:=Int.rec (motive:=fun _=>Bool) (fun a=>Nat.ble a n) (fun _=>false) z
def inK (k:IntKind) (z:Int):Bool:=IntKind.rec (motive:=fun _=>Int->Bool) (fun _=>false) (fun _=>false) (fun _=>false)
 (fun z=>Int.rec (motive:=fun _=>Bool) (fun n=>Nat.ble n 9223372036854775807) (fun n=>Nat.ble n 9223372036854775807) z) (fun _=>false) (fun _=>false) (fun z=>upB 4294967295 z) (fun z=>upB 18446744073709551615 z) k z
theorem b1X {k:IntKind} {z:Int} (h:inK k z=true):k.wrap z=z:=by
 have up:∀ n,upB n z=true->0 <= z/\z <= n:=fun n h=>by
  cases z with
  | ofNat a=>have:=a0R (show Nat.ble a n=true from h); constructor <;> simp <;> omega
  | negSucc a=>cases h
 cases k with
 | i64 =>
   refine Vc.a3G (k:=.i64) ?_
   cases z with
   | ofNat n=>have:=a0R (show Nat.ble n 9223372036854775807=true from h); simp only [Vc.inR]; constructor <;> simp <;> omega
   | negSucc n=>have:=a0R (show Nat.ble n 9223372036854775807=true from h); simp only [Vc.inR]; constructor <;> omega
 | u32=>refine Vc.a3G (k:=.u32) ?_; have:=up _ h; simp only [Vc.inR]; omega
 | u64=>refine Vc.a3G (k:=.u64) ?_; have:=up _ h; simp only [Vc.inR]; omega
 | _=>cases h
def wrF (k:IntKind) (z:Int):Int:=Bool.rec (motive:=fun _=>Int) (k.wrap z) z (inK k z)
theorem aBJ (k:IntKind) (z:Int):wrF k z=k.wrap z:=by
 unfold wrF
 cases h:inK k z with
 | false=>rfl
 | true=>exact (b1X h).symm
def b4p (op:BinOp) (k:IntKind) (a b:Int):Option Value :=
 match op with
 | .eql=>some (.bool (a == b))
 | .neq=>some (.bool (a != b))
 | .lss=>some (.bool (decide (a < b)))
 | .leq=>some (.bool (decide (a <= b)))
 | .gtr=>some (.bool (decide (a > b)))
 | .geq=>some (.bool (decide (a >= b)))
 | .add=>some (.int k (wrF k (a+b)))
 | .sub=>some (.int k (wrF k (a - b)))
 | .mul=>some (.int k (wrF k (a*b)))
 | .quo=>bif decide (b=0) then none else some (.int k (wrF k (a.tdiv b)))
 | .rem=>bif decide (b=0) then none else some (.int k (a.tmod b))
 | .and=>some (.int k (wrF k (BitVec.ofInt k.bits a &&& BitVec.ofInt k.bits b).toNat))
 | .or=>some (.int k (wrF k (BitVec.ofInt k.bits a ||| BitVec.ofInt k.bits b).toNat))
 | .xor=>some (.int k (wrF k (BitVec.ofInt k.bits a ^^^ BitVec.ofInt k.bits b).toNat))
 | _=>none
def lB (l:List UInt8):List UInt8->Bool:=List.rec (fun r=>List.rec true (fun _ _ _=>false) r) (fun x _ ih r=>List.rec false (fun y s _=>bif Nat.beq x.toNat y.toNat then ih s else false) r) l
theorem b1R:∀ l r,lB l r=(l == r)
 | [],[]=>rfl
 | [],_ :: _=>rfl
 | _ :: _,[]=>rfl
 | x :: l,y :: r=>by
   show (bif Nat.beq x.toNat y.toNat then lB l r else false)=_;rw [b1R l r,List.cons_beq_cons];by_cases h:x=y
   ·subst h;rw [aE9];simp
   ·have h2:¬ x.toNat=y.toNat:=fun e=>h (UInt8.toNat_inj.1 e);rw [a5x h2];simp [h]
def b3H (bl:Bool) (op:BinOp) (x y:Value):Option Value :=
 match x with
 | .int k a =>
   match y with
   | .int k' b =>
     match op with
     | .shl=>bif decide (b < 0) then none else some (.int k (wrF k (a*2 ^ (min b.toNat k.bits))))
     | .shr=>bif decide (b < 0) then none else some (.int k (a.fdiv (2 ^ (min b.toNat k.bits))))
     | op=>bif decide (k=k') then b4p op k a b else none
   | _=>none
 | .string a =>
   match y with
   | .string b =>
     match op with
     | .eql=>some (.bool (lB a.data.toList b.data.toList))
     | .neq=>some (.bool (!(lB a.data.toList b.data.toList)))
     | _=>none
   | _=>none
 | .bool a =>
   match y with
   | .bool b =>
     bif bl then
      match op with
      | .eql=>some (.bool (a == b))
      | .neq=>some (.bool (a != b))
      | _=>none
     else none
   | _=>none
 | _=>none
theorem aSZ {P:Program} {bl:Bool} {op:BinOp} {a b r:Value} (h:b3H bl op a b=some r) (T:TypeId) (hb:bl=true->∀ p,a=.bool p->P.underlying T=some .bool) (x y:Operand) (w:World):(do eqGuard op T x y a b; binOp op T a b:Sem Value).run P w=.ok r w/\r.oneCell'=true:=by
 unfold b3H at h;split at h
 ·rename_i k a;split at h
  ·rename_i k' b;split at h
   ·cases hd:decide (b < 0) with
    | true=>rw [hd] at h; cases h
    | false =>
      rw [hd] at h;simp only [decide_eq_false_iff_not] at hd;simp only [cond_false,injEq] at h;subst h;refine ⟨?_,rfl⟩;simp [go_sem,Op.shift,hd,aBJ]
   ·cases hd:decide (b < 0) with
    | true=>rw [hd] at h; cases h
    | false =>
      rw [hd] at h;simp only [decide_eq_false_iff_not] at hd;simp only [cond_false,injEq] at h;subst h;refine ⟨?_,rfl⟩;simp [go_sem,Op.shift,hd]
   ·by_cases hk:k=k'
    ·subst hk;simp only [decide_true,cond_true] at h;unfold b4p at h;split at h <;> (try (cases h; done))
     all_goals first
      | (simp only [injEq] at h; subst h; refine ⟨?_,rfl⟩; simp [go_sem,Op.intArith,Op.intBits,aBJ]; done)
      | (cases hd:decide (b=0) with
         | true=>rw [hd] at h; cases h
         | false =>
           rw [hd] at h;simp only [decide_eq_false_iff_not] at hd;simp only [cond_false,injEq] at h;subst h;refine ⟨?_,rfl⟩
           simp [go_sem,Op.intDiv,hd,aBJ])
    ·simp [hk] at h
  ·cases h
 ·rename_i p;split at h
  ·rename_i q;split at h <;> (try (cases h; done)) <;> simp only [injEq] at h <;> subst h <;> refine ⟨?_,rfl⟩ <;> simp [go_sem,b1R,ByteArray.toList_eq]
  ·cases h
 ·rename_i p;split at h
  ·rename_i q
   cases hbl:bl with
   | false=>simp [hbl] at h
   | true =>
     have hu:=hb hbl _ rfl;simp only [hbl,cond_true] at h;split at h <;> (try (cases h; done)) <;> simp only [injEq] at h <;> subst h <;> refine ⟨?_,rfl⟩ <;> (simp [go_sem,binOp,run_equal_bool w T _ _ hu] <;> cases p <;> cases q <;> rfl)
  ·cases h
 ·cases h
def evC:Value->KV
 | .int k n=>.k (.c (.v (.int k n)))
 | .bool b=>.k (.c (.v (.bool b)))
 | .string s=>.k (.c (.v (.string s)))
 | .slice none 0 0=>.k (.c (.v (.slice none 0 0)))
 | .pointer none=>.k (.c (.v (.pointer none)))
 | .nilFunc=>.k (.c (.v .nilFunc))
 | _=>.u
def evO (tm:Fr KV):Operand->KV
 | .tmp t=>Option.rec .u (fun x=>x) (tm.get t)
 | .const v=>evC v
 | .func f=>.k (.c (.fn f []))
 | .global _=>.u
theorem aQK (bm:BM) (w:World) (v:Value):relV bm w (evC v) v:=by
 unfold evC
 split <;> first | trivial | exact ⟨rfl,rfl⟩
def KK.cells:KK->List LF
 | .c x=>[x]
 | .g xs=>xs
theorem a2J {bm:BM} {w:World}:∀ {x:KK} {u:Value},relK bm w x u->relL bm w (a0d x.cells) u.cells.toList
 | .c x,u,h=>by
   have h1:=rel1.one (bm:=bm) (w:=w) (x:=x) h
   have e:u.cells=#[u]:=by cases u <;> first | rfl | simp [Value.oneCell'] at h1
   rw [e]
   cases x <;> first | exact ⟨h,trivial⟩ | exact h.elim
 | .g xs,u,⟨us,e,h⟩=>by subst e; simp only [Value.cells]; exact h
def mkK (agg:Bool) (cs:List LF):Option KV :=
 match agg with
 | true=>some (.k (.g cs))
 | false =>
   match cs with
   | [x] =>
     match x with
     | .I _=>none
     | x=>some (.k (.c x))
   | _=>none
theorem a3A {bm:BM} {w:World} {agg:Bool} {cs:List LF} {r:KV} {us:List Value} (h:mkK agg cs=some r) (k:relL bm w (a0d cs) us):relV bm w r (if agg then .agg us.toArray else us.getD 0 undef):=by
 unfold mkK at h;split at h
 ·simp only [injEq] at h; subst h; exact ⟨us,rfl,k⟩
 ·split at h
  ·split at h
   ·cases h
   ·rename_i y _ hx;simp only [injEq] at h;subst h
    have e:a0d [y]=[y]:=by
     cases y <;> first | rfl | exact (hx _ rfl).elim
    rw [e] at k
    match us,k with
    | [u],k=>exact k.1
  ·cases h
def aNL:KV->Option Nat
 | .k (.c (.v (.int _ (.ofNat n))))=>some n
 | _=>none
theorem a4P {bm:BM} {w:World} {x:KV} {n:Nat} {u:Value} (h:aNL x=some n) (k:relV bm w x u):∃ κ,u=.int κ (n:Int):=by
 unfold aNL at h;split at h
 ·simp only [injEq] at h;subst h;obtain ⟨rfl,_⟩:=k;exact ⟨_,rfl⟩
 ·cases h
def aNM (ev:Operand->KV):Option Operand->Option (Option Nat)
 | none=>some none
 | some x=>(aNL (ev x)).map some
def a9A (L:Tr ZL) (H:Hp Bx) (T:Nat) (x:KV):Option KV :=
 match x with
 | .k (.c (.p k off)) =>
   match L.get T with
   | some l =>
     match H.get k with
     | some b =>
       match aUe b.cs off l.size with
       | some cs=>mkK l.agg cs
       | none=>none
     | none=>none
   | none=>none
 | .k (.c (.q v)) =>
   match L.get T with
   | some l=>bif Nat.beq l.size 1 then mkK l.agg [.v (.int .u32 (.ofNat v))] else none
   | none=>none
 | _=>none
def aL8 (c a b:KV):Option KV :=
 match c with
 | .k (.c (.v (.bool p)))=>some (bif p then a else b)
 | _=>none
def nth {α:Type} (l:List α):Nat->Option α:=List.rec (fun _=>none) (fun x _ ih n=>bif Nat.beq n 0 then some x else ih (Nat.sub n 1)) l
theorem aBY {α:Type}:∀ (l:List α) (n:Nat),nth l n=l[n]?
 | [],n=>by simp [nth]
 | x :: l,n=>by
   show (bif Nat.beq n 0 then some x else nth l (Nat.sub n 1))=_
   cases n with
   | zero=>rfl
   | succ n =>
     rw [a5x (by omega)];simp only [cond_false,List.getElem?_cons_succ];exact aBY l n
def aBI (L:Tr ZL) (S f:Nat) (x:KV):Option KV :=
 match x with
 | .k (.c (.p k off)) =>
   match L.get S with
   | some l =>
     match nth l.flds f with
     | some d=>some (.k (.c (.p k (Nat.add off d.1))))
     | none=>none
   | none=>none
 | _=>none
def b0b (L:Tr ZL) (T:Nat) (x y:KV):Option KV :=
 match x with
 | .k (.c (.s k off n _ sz)) =>
   match aNL y with
   | some i =>
     match L.get T with
     | some d=>bif Nat.ble (Nat.succ i) n && Nat.beq d.kd 10 && Nat.beq d.esz sz then some (.k (.c (.p k (Nat.add off (Nat.mul i sz))))) else none
     | none=>none
   | none=>none
 | .k (.c (.sl l)) =>
   match aNL y with
   | some i =>
     match L.get T with
     | some d =>
       match nth l i with
       | some v=>bif Nat.beq d.kd 10 && Nat.beq d.esz 1 then some (.k (.c (.q v))) else none
       | none=>none
     | none=>none
   | none=>none
 | _=>none
def aWP (i:Nat) (x:KV):Option KV :=
 match x with
 | .t xs =>
   match xs[i]? with
   | some y=>some (.k y)
   | none=>none
 | _=>none
def aSQ (L:Tr ZL) (op:BinOp) (T:Nat) (c:Bool) (y:KV):Option KV :=
 match y with
 | .k (.c (.v (.slice none 0 0))) =>
   match L.get T with
   | some l =>
     bif Nat.beq l.kd 10 then
      match op with
      | .eql=>some (.k (.c (.v (.bool c))))
      | .neq=>some (.k (.c (.v (.bool (!c)))))
      | _=>none
     else none
   | none=>none
 | _=>none
def a2R (L:Tr ZL) (op:BinOp) (T:Nat) (x y:KV):Option KV :=
 match x with
 | .k (.c (.s _ _ _ c _))=>bif Nat.ble 1 c then aSQ L op T false y else none
 | .k (.c (.v (.slice none 0 0)))=>aSQ L op T true y
 | .k (.c (.v a)) =>
   match y with
   | .k (.c (.v b)) =>
     match b3H (match a with | .bool _=>(match L.get T with | some l=>Nat.beq l.kd 1 | none=>false) | _=>false) op a b with
     | some r=>some (.k (.c (.v r)))
     | none=>none
   | _=>none
 | _=>none
def zun (op:UnOp) (x:KV):Option KV :=
 match x with
 | .k (.c (.v (.bool b)))=>match op with | .not=>some (.k (.c (.v (.bool (!b))))) | _=>none
 | .k (.c (.v (.int k n)))=>match op with | .neg=>some (.k (.c (.v (.int k (wrF k (0 - n)))))) | _=>none
 | _=>none
def aSU (ev:Operand->KV) (flds:List (Nat × Nat)) (ps:List (Nat × Operand)):List LF->Option (List LF) :=
 List.rec (fun cs=>some cs) (fun p _ ih cs =>
  match nth flds p.1 with
  | some d =>
    match ev p.2 with
    | .k y =>
      bif Nat.beq (wid y.cells) d.2 then
       match aTa cs d.1 y.cells with
       | some cs'=>ih cs'
       | none=>none
      else none
    | _=>none
  | none=>none) ps
def aJY (L:Tr ZL) (ev:Operand->KV) (T:Nat) (parts:Array (Nat × Operand)):Option KV :=
 match L.get T with
 | some l =>
   match l.flds with
   | []=>none
   | _ :: _ =>
     match aSU ev l.flds parts.toList l.zero with
     | some cs=>some (.k (.g cs))
     | none=>none
 | none=>none
def aSV (L:Tr ZL) (S D:Nat) (x:KV):Option KV :=
 match x with
 | .k (.c (.v (.int _ n))) =>
   match L.get S with
   | some _ =>
     match L.get D with
     | some d =>
       match Vc.a6f d.kd with
       | some k=>some (.k (.c (.v (.int k (wrF k n)))))
       | none=>none
     | none=>none
   | none=>none
 | _=>none
def b3D (x:KV):Option KV :=
 match x with
 | .k (.c (.p k off))=>some (.k (.c (.p k off)))
 | _=>none
def aNX (ev:Operand->KV):List Operand->Option (List (Nat × Nat))
 | []=>some []
 | x :: r =>
   match ev x with
   | .k (.c (.p k off)) =>
     match aNX ev r with
     | some l=>some ((k,off) :: l)
     | none=>none
   | _=>none
def b3E (ev:Operand->KV) (fn:Fn) (first captured:Array Operand):Option KV :=
 match fn with
 | .func f =>
   match first.toList with
   | [] =>
     match aNX ev captured.toList with
     | some ks=>some (.k (.c (.fn f ks)))
     | none=>none
   | _ :: _=>none
 | _=>none
def aJW (L:Tr ZL) (T:Nat) (x y:KV):Option KV :=
 match x with
 | .k (.c (.v (.string s))) =>
   match aNL y with
   | some i =>
     match L.get T with
     | some d =>
       match s[i]? with
       | some b=>bif Nat.beq d.kd 11 then some (.k (.c (.v (.int .u8 b.toNat)))) else none
       | none=>none
     | none=>none
   | none=>none
 | _=>none
def aJX (L:Tr ZL) (T f:Nat) (x:KV):Option KV :=
 match x with
 | .k (.g xs) =>
   match L.get T with
   | some l =>
     match nth l.flds f with
     | some d =>
       match nth l.ftys f with
       | some U =>
         match L.get U with
         | some u =>
           bif Nat.beq u.size d.2 then
            match aUe xs d.1 d.2 with
            | some cs=>mkK u.agg cs
            | none=>none
           else none
         | none=>none
       | none=>none
     | none=>none
   | none=>none
 | _=>none
def mxB (hi mx:Option Nat) (h n:Nat):Bool :=
 match mx with
 | none=>true
 | some m=>hi.isSome && Nat.ble h m && Nat.ble m n
def b3C (L:Tr ZL) (T:Nat) (lo hi mx:Option (Option Nat)):Option KV :=
 match L.get T with
 | some d =>
   match lo with
   | some lo =>
     match hi with
     | some hi =>
       match mx with
       | some mx=>bif Nat.beq d.kd 10 && Nat.beq (lo.getD 0) 0 && Nat.beq (hi.getD 0) 0 && mxB hi mx 0 0 then some (.k (.c .e0)) else none
       | none=>none
     | none=>none
   | none=>none
 | none=>none
def tkN {α:Type} (l:List α):Nat->List α:=List.rec (fun _=>[]) (fun x _ ih n=>bif Nat.beq n 0 then [] else x :: ih (Nat.sub n 1)) l
def dpN {α:Type} (l:List α):Nat->List α:=List.rec (fun _=>[]) (fun x r ih n=>bif Nat.beq n 0 then x :: r else ih (Nat.sub n 1)) l
theorem aU3 {α:Type}:∀ (l:List α) (n:Nat),tkN l n=l.take n
 | [],n=>by simp [tkN]
 | x :: l,n=>by
   show (bif Nat.beq n 0 then [] else x :: tkN l (Nat.sub n 1))=_
   cases n with
   | zero=>rfl
   | succ n=>rw [a5x (by omega),aU3 l]; rfl
theorem aVG {α:Type}:∀ (l:List α) (n:Nat),dpN l n=l.drop n
 | [],n=>by simp [dpN]
 | x :: l,n=>by
   show (bif Nat.beq n 0 then x :: l else dpN l (Nat.sub n 1))=_
   cases n with
   | zero=>rfl
   | succ n=>rw [a5x (by omega),aVG l]; rfl
def b4l (L:Tr ZL) (T:Nat) (s:List Nat) (lo hi mx:Option (Option Nat)):Option KV :=
 match L.get T with
 | some d =>
   match lo with
   | some lo =>
     match hi with
     | some hi =>
       match mx with
       | some mx=>(fun (h l:Nat)=>bif Nat.beq d.kd 10 && Nat.beq d.esz 1 && Nat.ble l h && Nat.ble h (len s) && mxB hi mx h (len s) then some (.k (.c (.sl (tkN (dpN s l) (Nat.sub h l))))) else none) (hi.getD (len s)) (lo.getD 0)
       | none=>none
     | none=>none
   | none=>none
 | none=>none
def zsl (L:Tr ZL) (T:Nat) (x:KV) (lo hi mx:Option (Option Nat)):Option KV :=
 match x with
 | .k (.c .e0)=>b3C L T lo hi mx
 | .k (.c (.v (.slice none 0 0)))=>b3C L T lo hi mx
 | .k (.c (.sl l))=>b4l L T l lo hi mx
 | .k (.c (.s k off n c sz)) =>
   match L.get T with
   | some d =>
     match lo with
     | some lo =>
       match hi with
       | some hi =>
         match mx with
         | some mx =>
           bif Nat.beq d.kd 10 && Nat.beq d.esz sz then
            (fun (h l:Nat) =>
             bif Nat.ble l h then
              match mx with
              | none=>bif Nat.ble h n || Nat.ble h c then some (.k (.c (.s k (Nat.add off (Nat.mul l sz)) (Nat.sub h l) (Nat.sub c l) sz))) else none
              | some m=>bif hi.isSome && Nat.ble h m && Nat.ble m c then (bif Nat.beq m l then some (.k (.c .e0)) else some (.k (.c (.s k (Nat.add off (Nat.mul l sz)) (Nat.sub h l) (Nat.sub m l) sz)))) else none
             else none) (hi.getD n) (lo.getD 0)
           else none
         | none=>none
       | none=>none
     | none=>none
   | none=>none
 | _=>none
def zlen (L:Tr ZL) (T:Nat) (x:KV):Option KV :=
 match L.get T with
 | some d =>
   match x with
   | .k (.c (.s _ _ n _ _))=>bif Nat.beq d.kd 10 then some (.k (.c (.v (.int .i64 (.ofNat n))))) else none
   | .k (.c .e0)=>bif Nat.beq d.kd 10 then some (.k (.c (.v (.int .i64 (.ofNat 0))))) else none
   | .k (.c (.v (.slice none 0 0)))=>bif Nat.beq d.kd 10 then some (.k (.c (.v (.int .i64 (.ofNat 0))))) else none
   | .k (.c (.v (.string s)))=>bif Nat.beq d.kd 11 then some (.k (.c (.v (.int .i64 (.ofNat s.size))))) else none
   | .k (.c (.sl l))=>bif Nat.beq d.kd 10 then some (.k (.c (.v (.int .i64 (.ofNat (len l)))))) else none
   | _=>none
 | none=>none
def b5F (L:Tr ZL) (T:Nat) (x:KV):Option KV :=
 match L.get T with
 | some d =>
   match x with
   | .k (.c .e0)=>bif Nat.beq d.kd 10 then some (.k (.c (.v (.int .i64 (.ofNat 0))))) else none
   | .k (.c (.v (.slice none 0 0)))=>bif Nat.beq d.kd 10 then some (.k (.c (.v (.int .i64 (.ofNat 0))))) else none
   | _=>none
 | none=>none
def aZ9 (x y:KV):Option KV :=
 match x with
 | .k (.c (.v (.int k a))) =>
   match y with
   | .k (.c (.v (.int _ b)))=>some (.k (.c (.v (.int k (bif decide (b < a) then b else a)))))
   | _=>none
 | _=>none
def b0a (x y:KV):Option KV :=
 match x with
 | .k (.c (.v (.int k a))) =>
   match y with
   | .k (.c (.v (.int _ b)))=>some (.k (.c (.v (.int k (bif decide (b > a) then b else a)))))
   | _=>none
 | _=>none
def aEx (g:KV->KV->Option KV) (ev:Operand->KV) (l:List Operand):KV->Option KV:=List.rec (fun a=>some a) (fun x _ ih a=>match g a (ev x) with | some b=>ih b | none=>none) l
def aN6 (L:Tr ZL) (ev:Operand->KV) (b:Builtin) (args:List Operand) (tys:List Nat):Option KV :=
 match b with
 | .len=>match args with | [x]=>(match tys with | [T]=>zlen L T (ev x) | _=>none) | _=>none
 | .cap=>match args with | [x]=>(match tys with | [T]=>b5F L T (ev x) | _=>none) | _=>none
 | .min=>match args with | x :: l=>aEx aZ9 ev l (ev x) | []=>none
 | .max=>match args with | x :: l=>aEx b0a ev l (ev x) | []=>none
 | _=>none
def aN3 (L:Tr ZL) (ev:Operand->KV) (c:Call):Option KV :=
 match c.callee with
 | .builtin b=>aN6 L ev b c.args.toList c.argTypes.toList
 | _=>none
def a2w (L:Tr ZL) (H:Hp Bx) (ev:Operand->KV) (op:Op):Option KV :=
 match op with
 | .move x=>some (ev x)
 | .assign x=>some (ev x)
 | .pick c a b=>aL8 (ev c) (ev a) (ev b)
 | .load T x=>a9A L H T (ev x)
 | .fieldAddr S x f=>aBI L S f (ev x)
 | .indexAddr T x y=>b0b L T (ev x) (ev y)
 | .slice T x lo hi mx=>zsl L T (ev x) (aNM ev lo) (aNM ev hi) (aNM ev mx)
 | .extract x i=>aWP i (ev x)
 | .binOp op T x y _=>a2R L op T (ev x) (ev y)
 | .unOp op _ x=>zun op (ev x)
 | .build T parts=>aJY L ev T parts
 | .convert S D x=>aSV L S D (ev x)
 | .nilCheck x=>b3D (ev x)
 | .makeFunc fn first captured=>b3E ev fn first captured
 | .index T x y=>aJW L T (ev x) (ev y)
 | .field T x f=>aJX L T f (ev x)
 | .call c=>aN3 L ev c
 | _=>none
open Vc (a0O a7Q a2A a6f a0B a3V a1v a2p)
section
variable {P:Program} {L:Tr ZL} {H:Hp Bx} {bm:BM} {w:World}
theorem aEs {t:Nat} {l:ZL} (hl:ZOK P t l) {f:Nat} {d:Nat × Nat} (hd:l.flds[f]?=some d) (b off:Nat) (w:World) :
    (fieldAt t (.pointer (some ⟨b,off,none⟩)) f).run P w=.ok (.pointer (some ⟨b,off+d.1,none⟩)) w:=by
 have hne:l.flds ≠ []:=by intro e; rw [e] at hd; simp at hd
 obtain ⟨fields,hu,hm,_⟩:=hl.flds hne;obtain ⟨x,hx,hfx⟩:=a2A hm f d hd
 have hx':fields[f]?=some x:=by simpa using hx
 cases hi:P.info? x.type with
 | none=>simp [hi] at hfx
 | some i =>
   simp only [hi,map_some,injEq] at hfx;subst hfx;have hp:=hl.fpos _ (List.mem_of_getElem? hd)
   have hs:(sizeOf x.type).run P w=.ok i.size w:=by simp [sizeOf,typeInfo,hi]
   have hfp:(fieldPlace ⟨b,off,none⟩ x).run P w=.ok ⟨b,off+x.offset,none⟩ w:=by
    unfold fieldPlace;rw [Sem.run_bind,hs];simp only [Result.andThen_ok];rw [if_neg hp,Sem.run_pure,a1b]
   simp [fieldAt,run_underlying hu,hx',sureAddr,hfp]
theorem b5G {t:Nat} {l:ZL} (hl:ZOK P t l) (w:World):(isAgg t).run P w=.ok l.agg w:=by
 obtain ⟨d,hu,hd⟩:=hl.desc;unfold isAgg;rw [Sem.run_bind,run_underlying hu w];cases d <;> simp_all [TypeDesc.isRow]
theorem a6L {t:Nat} {l:ZL} (hl:ZOK P t l) (b off:Nat) (w:World) (us:List Value) (hlen:us.length=l.size) (h:w.rangeAt b off us) :
    (loadAt t (.pointer (some ⟨b,off,none⟩))).run P w=.ok (if l.agg then .agg us.toArray else us.getD 0 undef) w:=by
 obtain ⟨d,hu,hd⟩:=hl.desc
 cases ha:l.agg with
 | true =>
   rw [if_pos rfl]
   exact run_loadAt_mid w b off t us d h hu (by rw [hd,ha]) (by rw [hlen]; exact hl.size)
 | false =>
   rw [if_neg (by decide)];have h1:=hl.one ha;rw [h1] at hlen
   match us,hlen with
   | [u],_ =>
     have hc:=h 0 u rfl;rw [Nat.add_zero] at hc;have hagg:=b5G hl w;rw [ha] at hagg;simp [loadAt,sureAddr,loadVar,hagg,hc]
theorem aNT {t:Nat} {l:ZL} (hl:ZOK P t l) (cs:List Value) (off:Nat) (w:World) (us:List Value) (hlen:us.length=l.size) (h:us=(cs.drop off).take l.size) :
    (part t cs.toArray off).run P w=.ok (if l.agg then .agg us.toArray else us.getD 0 undef) w:=by
 have hagg:=b5G hl w
 have hsz:(sizeOf t).run P w=.ok l.size w:=by
  have:=hl.size;simp only [Option.map_eq_some_iff] at this;obtain ⟨i,hi,e⟩:=this;simp [sizeOf,typeInfo,hi,e]
 cases ha:l.agg with
 | true =>
   rw [ha] at hagg
   simp [part,hagg,hsz,h]
 | false =>
   rw [ha] at hagg;have h1:=hl.one ha;rw [h1] at hlen h
   match us,hlen with
   | [u],_ =>
     have hu:cs[off]?=some u:=by
      have e:((cs.drop off).take 1)[0]?=some u:=by rw [<- h]; rfl
      rw [List.getElem?_take_of_lt (by omega),List.getElem?_drop] at e;simpa using e
     simp [part,hagg,hu]
theorem aEy {ev:Operand->KV} {ρ:Operand->Value} (flds:List (Nat × Nat)) :
    ∀ (parts:List (Nat × Operand)) (cs r:List LF) (us:List Value),(∀ p ∈ parts,relV bm w (ev p.2) (ρ p.2))->aSU ev flds parts cs=some r->relL bm w (a0d cs) us ->
      ∃ vs:List Value,fill (flds.toArray[·]?) us.toArray (parts.map fun (i,x)=>(i,ρ x))=some vs.toArray/\relL bm w (a0d r) vs
 | [],cs,r,us,_,h,k=>by
   have e:cs=r:=by simpa [aSU] using h
   subst e
   exact ⟨us,rfl,k⟩
 | (i,x) :: parts,cs,r,us,hev,h,k=>by
   have h':(match nth flds i with
    | some d =>
      match ev x with
      | .k y =>
        bif Nat.beq (wid y.cells) d.2 then
         match aTa cs d.1 y.cells with
         | some cs'=>aSU ev flds parts cs'
         | none=>none
        else none
      | _=>none
    | none=>none)=some r:=h
   rw [aBY] at h'
   split at h' <;> try (cases h'; done)
   rename_i d hf
   split at h' <;> try (cases h'; done)
   rename_i y hx
   cases hc:Nat.beq (wid y.cells) d.2 with
   | false=>rw [hc] at h'; simp at h'
   | true =>
     rw [hc] at h';simp only [cond_true] at h';have hn:=a0l hc
     split at h' <;> try (cases h'; done)
     rename_i cs' hu;obtain ⟨off,n⟩:=d;simp only at hn hu;have hr:=hev (i,x) (mem_cons_self ..);simp only at hr;rw [hx] at hr;have hy:=a2J hr;have hyl:=hy.len;obtain ⟨he,hle⟩:=aEI hu;rw [hn] at he hle;have kl:=k.len
     have k2:relL bm w (a0d cs') (us.take off ++ (ρ x).cells.toList ++ us.drop (off+n)):=by
      rw [he];exact relL.append (relL.append (k.take off) hy) (k.drop (off+n))
     have hsz:(ρ x).cells.size=n:=by
      rw [<- hn,<- a2E,hyl]; simp
     obtain ⟨vs,h1,h2⟩:=aEy flds parts cs' r _ (fun p hp=>hev p (mem_cons_of_mem _ hp)) h' k2;refine ⟨vs,?_,h2⟩;simp only [List.map_cons];unfold fill
     have hp:flds.toArray[i]?=some (off,n):=by simpa using hf
     simp only [hp]
     have hcnd:((decide ((ρ x).cells.size ≠ n) || decide (off+(ρ x).cells.size > us.toArray.size)):Bool)=false:=by
      simp [hsz]; omega
     simp only [hcnd];have hput:=a3V (ρ x).cells.toList off 0 us (by simp [hsz]; omega);simp only [Nat.add_zero,Array.length_toList,hsz] at hput
     have hz:(ρ x).cells.zipIdx.foldl (fun (cs:Array Value) (p:Value × Nat)=>cs.setIfInBounds (off+p.2) p.1) us.toArray=(us.take off ++ (ρ x).cells.toList ++ us.drop (off+n)).toArray:=by
      rw [<- toList_inj];rw [<- hput];rw [<- Array.foldl_toList];simp
     simp only [Bool.false_eq_true,if_false];rw [<- h1];congr 1
theorem aEv {ev:Operand->KV} {ρ:Operand->Value}:∀ {l:List Operand} {ks:List (Nat × Nat)},(∀ x ∈ l,relV bm w (ev x) (ρ x))->aNX ev l=some ks->relP bm ks (l.map ρ)
 | [],ks,_,h=>by
   simp only [aNX,injEq] at h;subst h
   trivial
 | x :: l,ks,hev,h=>by
   unfold aNX at h
   split at h <;> try (cases h; done)
   rename_i k off hx
   split at h <;> try (cases h; done)
   rename_i r hr;simp only [injEq] at h;subst h;have h1:=hev x (mem_cons_self ..);rw [hx] at h1;exact ⟨h1,aEv (fun y hy=>hev y (mem_cons_of_mem _ hy)) hr⟩
end
open Vc (a0O a7Q a2A a6f a0B a3V a1v a2p)
section
variable {P:Program} {L:Tr ZL} {H:Hp Bx} {bm:BM} {w:World}
theorem aL5 (y n:Nat) (κ:IntKind) (code:BoundsCode) (h:n <= y):(sliceBound (.int κ (n:Int)) y code).run P w=.ok n w:=by
 have h1:(0:Int) <= (n:Int)/\(n:Int) <= (y:Int):=⟨by omega,by omega⟩
 simp [sliceBound,asIntOf,h]
theorem aHv {len cap:Nat} {lo hi mx:Option Value} {l h m:Nat} (hm:mx=none/\m=cap \/ ∃ κ,mx=some (.int κ (m:Int))/\m <= cap) (hh:hi=none/\mx=none/\h=len \/ ∃ κ,hi=some (.int κ (h:Int))/\h <= m) (hl:lo=none/\l=0 \/ ∃ κ,lo=some (.int κ (l:Int))/\l <= h) :
    (Instr.sliceBounds true len cap lo hi mx).run P w=.ok (l,h,m) w:=by
 rcases hm with ⟨rfl,rfl⟩ | ⟨κ,rfl,hm⟩ <;> rcases hh with ⟨rfl,hn,rfl⟩ | ⟨κ',rfl,hh⟩ <;> (try (cases hn; done)) <;> rcases hl with ⟨rfl,rfl⟩ | ⟨κ'',rfl,hl⟩ <;> simp [Instr.sliceBounds,aL5, *]
theorem a5Q {T e:Nat} {ie:TypeInfo} (hu:P.underlying T=some (.slice e)) (hi':P.info? e=some ie) {len cap:Nat} {lo hi mx:Option Value} {l h m:Nat} (hm:mx=none/\m=cap \/ ∃ κ,mx=some (.int κ (m:Int))/\m <= cap) (hh:hi=none/\mx=none/\h=len \/ ∃ κ,hi=some (.int κ (h:Int))/\h <= m) (hl:lo=none/\l=0 \/ ∃ κ,lo=some (.int κ (l:Int))/\l <= h) (a:Option Addr) :
    (sliceAt T (.slice a len cap) lo hi mx).run P w=.ok (.slice (if m=l then a else a.map (·.add (l*ie.size))) (h - l) (m - l)) w:=by
 have hb:=aHv (P:=P) (w:=w) (len:=len) hm hh hl
 have hsize:(sizeOf e).run P w=.ok ie.size w:=by simp [sizeOf,typeInfo,hi']
 simp [sliceAt,run_underlying hu,Instr.slice,hb,hsize]
theorem aCx {ev:Operand->KV} {ρ:Operand->Value} {x:Option Operand} {r:Option Nat} (hev:∀ y,x=some y->relV bm w (ev y) (ρ y)) (h:aNM ev x=some r):(x.map ρ=none/\r=none) \/ ∃ κ,∃ n:Nat,x.map ρ=some (.int κ (n:Int))/\r=some n:=by
 cases x with
 | none=>simp only [aNM,injEq] at h; exact .inl ⟨rfl,h.symm⟩
 | some y =>
   simp only [aNM,Option.map_eq_some_iff] at h;obtain ⟨n,hn,rfl⟩:=h;obtain ⟨κ,e⟩:=a4P hn (hev y rfl);exact .inr ⟨κ,n,by simp [e],rfl⟩
theorem SzAt.mono {b N M:Nat} (h:SzAt w b N) (hle:M <= N):SzAt w b M:=by
 obtain ⟨vs,T,h1,h2⟩:=h;exact ⟨vs,T,h1,Nat.le_trans hle h2⟩
theorem aJS (hL:a5q P L) {T:Nat} {a:Option Addr} {lo hi mx:Option (Option Nat)} {r:KV} {vlo vhi vmx:Option Value} (h:b3C L T lo hi mx=some r)
    (hlo:∀ q,lo=some q->(vlo=none/\q=none) \/ ∃ κ,∃ n:Nat,vlo=some (.int κ (n:Int))/\q=some n) (hhi:∀ q,hi=some q->(vhi=none/\q=none) \/ ∃ κ,∃ n:Nat,vhi=some (.int κ (n:Int))/\q=some n) (hmx:∀ q,mx=some q->(vmx=none/\q=none) \/ ∃ κ,∃ n:Nat,vmx=some (.int κ (n:Int))/\q=some n) :
    ∃ v,(sliceAt T (.slice a 0 0) vlo vhi vmx).run P w=.ok v w/\relV bm w r v:=by
 unfold b3C at h
 split at h <;> try (cases h; done)
 rename_i d hd
 split at h <;> try (cases h; done)
 rename_i lo
 split at h <;> try (cases h; done)
 rename_i hi
 split at h <;> try (cases h; done)
 rename_i mx
 cases hc:(Nat.beq d.kd 10 && Nat.beq (lo.getD 0) 0 && Nat.beq (hi.getD 0) 0 && mxB hi mx 0 0) with
 | false=>rw [hc] at h; simp at h
 | true =>
   rw [hc] at h;simp only [cond_true,injEq] at h;subst h;simp only [and_eq_true] at hc;obtain ⟨hu,he⟩:=(hL T d hd).slice (a0l hc.1.1.1);obtain ⟨ie,z,hie,hies,_⟩:=he.info;have e1:=a0l hc.1.1.2;have e2:=a0l hc.1.2
   have hm':vmx=none/\(0:Nat)=0 \/ ∃ κ,vmx=some (.int κ ((0:Nat):Int))/\(0:Nat) <= 0:=by
    rcases hmx mx rfl with ⟨e,_⟩ | ⟨κ,m,e,rfl⟩
    ·exact .inl ⟨e,rfl⟩
    ·simp only [mxB,and_eq_true,ble_eq] at hc
     obtain rfl:m=0:=by omega
     exact .inr ⟨κ,e,le_refl _⟩
   have hl':vlo=none/\(0:Nat)=0 \/ ∃ κ,vlo=some (.int κ ((0:Nat):Int))/\(0:Nat) <= 0:=by
    rcases hlo lo rfl with ⟨e,_⟩ | ⟨κ,m,e,rfl⟩
    ·exact .inl ⟨e,rfl⟩
    ·simp only [getD_some] at e1;subst e1;exact .inr ⟨κ,e,le_refl _⟩
   have hh':vhi=none/\vmx=none/\(0:Nat)=0 \/ ∃ κ,vhi=some (.int κ ((0:Nat):Int))/\(0:Nat) <= 0:=by
    rcases hhi hi rfl with ⟨e,rfl⟩ | ⟨κ,m,e,rfl⟩
    ·refine .inl ⟨e,?_,rfl⟩
     rcases hmx mx rfl with ⟨e,_⟩ | ⟨κ,m,e,rfl⟩
     ·exact e
     ·simp [mxB] at hc
    ·simp only [getD_some] at e2;subst e2;exact .inr ⟨κ,e,le_refl _⟩
   exact ⟨_,a5Q hu hie (cap:=0) (m:=0) hm' hh' hl' a,_,rfl⟩
theorem SlZ.sub {l:List Nat} {a:Option Addr} {n c lo h m:Nat} (hs:SlZ bm w l (.slice a n c)) (h1:lo <= h) (h2:h <= l.length) (h3:h <= m) (h4:m <= c) :
    SlZ bm w ((l.drop lo).take (h - lo)) (.slice (if m=lo then a else a.map (·.add (lo*1))) (h - lo) (m - lo)):=by
 rcases hs.cases with ⟨rfl,a',cap,e,hc⟩ | ⟨h0,b,off,cap,e,hcap,hlt,k,hcell⟩
 ·cases e
  obtain rfl:h=0:=by simpa using h2
  obtain rfl:lo=0:=by omega
  refine ⟨by
   simp only [List.drop_zero,List.take_nil];refine SlU.empty fun hn=>?_;by_cases hm:m=0
   ·omega
   ·rw [if_neg hm] at hn
    have:a=none:=by cases a with | none=>rfl | some _=>cases hn
    have:=hc this
    omega,.inl (by simp)⟩
 ·cases e;by_cases hlh:h=lo
  ·subst hlh;rw [Nat.sub_self,List.take_zero];refine ⟨SlU.empty fun hn=>?_,.inl rfl⟩;by_cases hm:m=h
   ·omega
   ·rw [if_neg hm] at hn; cases hn
  ·have hm:¬ m=lo:=by omega
   rw [if_neg hm]
   have e1:(Option.map (fun x:Addr=>x.add (lo*1)) (some ⟨b,off,none⟩))=some ⟨b,off+lo,none⟩:=by simp [a1b]
   rw [e1];refine ⟨SlU.mk (by simp; omega) (by omega) (fun _=>hlt) fun i hi=>?_,.inr ⟨b,rfl,k⟩⟩
   have hi':i < h - lo/\lo+i < l.length:=by simp at hi; omega
   have:=hcell (lo+i) hi'.2;rw [show off+(lo+i)=off+lo+i by omega] at this;rw [this];simp
theorem aSL (hL:a5q P L) {T:Nat} {s:List Nat} {u:Value} {lo hi mx:Option (Option Nat)} {r:KV} {vlo vhi vmx:Option Value} (h:b4l L T s lo hi mx=some r) (hx:SlZ bm w s u)
    (hlo:∀ q,lo=some q->(vlo=none/\q=none) \/ ∃ κ,∃ n:Nat,vlo=some (.int κ (n:Int))/\q=some n) (hhi:∀ q,hi=some q->(vhi=none/\q=none) \/ ∃ κ,∃ n:Nat,vhi=some (.int κ (n:Int))/\q=some n) (hmx:∀ q,mx=some q->(vmx=none/\q=none) \/ ∃ κ,∃ n:Nat,vmx=some (.int κ (n:Int))/\q=some n) :
    ∃ v,(sliceAt T u vlo vhi vmx).run P w=.ok v w/\relV bm w r v:=by
 unfold b4l at h
 split at h <;> try (cases h; done)
 rename_i d hd
 split at h <;> try (cases h; done)
 rename_i lo
 split at h <;> try (cases h; done)
 rename_i hi
 split at h <;> try (cases h; done)
 rename_i mx;simp only [a8H,aU3,aVG] at h;generalize hh:hi.getD s.length=h' at h;generalize hl:lo.getD 0=l' at h
 cases hc:(Nat.beq d.kd 10 && Nat.beq d.esz 1 && Nat.ble l' h' && Nat.ble h' s.length && mxB hi mx h' s.length) with
 | false=>rw [hc] at h; simp at h
 | true =>
   rw [hc] at h;simp only [cond_true,injEq] at h;subst h;simp only [and_eq_true,beq_eq,ble_eq] at hc;obtain ⟨⟨⟨⟨hk,he1⟩,hlh⟩,hhs⟩,hm⟩:=hc;obtain ⟨hu,he⟩:=(hL T d hd).slice hk;obtain ⟨ie,z,hie,hies,_⟩:=he.info;obtain ⟨a,c,rfl⟩:=SlU.form hx.1
   have hnc:s.length <= c:=by
    rcases hx.cases with ⟨rfl,a',cap,e,_⟩ | ⟨_,b,off,cap,e,h2,_⟩
    ·simp
    ·cases e; exact h2
   have hl':vlo=none/\l'=0 \/ ∃ κ,vlo=some (.int κ (l':Int))/\l' <= h':=by
    rcases hlo lo rfl with ⟨e1,rfl⟩ | ⟨κ,m,e1,rfl⟩
    ·exact .inl ⟨e1,hl.symm⟩
    ·simp only [getD_some] at hl;subst hl;exact .inr ⟨κ,e1,hlh⟩
   have fin:∀ m,h' <= m->m <= c->(vmx=none/\m=c \/ ∃ κ,vmx=some (.int κ (m:Int))/\m <= c)->(vhi=none/\vmx=none/\h'=s.length \/ ∃ κ,vhi=some (.int κ (h':Int))/\h' <= m)->∃ v,(sliceAt T (.slice a s.length c) vlo vhi vmx).run P w=.ok v w/\relV bm w (.k (.c (.sl ((s.drop l').take (h' - l'))))) v:=fun m m1 m2 hm hh=>by
    have hrun:=a5Q (P:=P) (w:=w) hu hie hm hh hl' a;rw [hies,he1] at hrun;exact ⟨_,hrun,hx.sub hlh hhs m1 m2⟩
   cases mx with
   | none =>
     have hvm:vmx=none:=by
      rcases hmx none rfl with ⟨e1,_⟩ | ⟨κ,m,_,e2⟩
      ·exact e1
      ·cases e2
     refine fin c (by omega) (le_refl _) (.inl ⟨hvm,rfl⟩) ?_
     rcases hhi hi rfl with ⟨e1,rfl⟩ | ⟨κ,m,e1,rfl⟩
     ·exact .inl ⟨e1,hvm,hh.symm⟩
     ·simp only [getD_some] at hh;subst hh
      exact .inr ⟨κ,e1,by omega⟩
   | some m =>
     simp only [mxB,and_eq_true,ble_eq] at hm
     obtain ⟨κm,hvm⟩:∃ κ,vmx=some (.int κ (m:Int)):=by
      rcases hmx (some m) rfl with ⟨_,e2⟩ | ⟨κ,m',e1,e2⟩
      ·cases e2
      ·simp only [injEq] at e2;subst e2;exact ⟨κ,e1⟩
     refine fin m hm.1.2 (by omega) (.inr ⟨κm,hvm,by omega⟩) ?_
     rcases hhi hi rfl with ⟨e1,rfl⟩ | ⟨κ,m',e1,rfl⟩
     ·cases hm.1.1
     ·simp only [getD_some] at hh;subst hh;exact .inr ⟨κ,e1,hm.1.2⟩
theorem aWI (hL:a5q P L) {T:Nat} {x:KV} {u:Value} {lo hi mx:Option (Option Nat)} {r:KV} {vlo vhi vmx:Option Value} (h:zsl L T x lo hi mx=some r) (hx:relV bm w x u)
    (hlo:∀ q,lo=some q->(vlo=none/\q=none) \/ ∃ κ,∃ n:Nat,vlo=some (.int κ (n:Int))/\q=some n) (hhi:∀ q,hi=some q->(vhi=none/\q=none) \/ ∃ κ,∃ n:Nat,vhi=some (.int κ (n:Int))/\q=some n) (hmx:∀ q,mx=some q->(vmx=none/\q=none) \/ ∃ κ,∃ n:Nat,vmx=some (.int κ (n:Int))/\q=some n) :
    ∃ v,(sliceAt T u vlo vhi vmx).run P w=.ok v w/\relV bm w r v:=by
 unfold zsl at h
 split at h <;> try (cases h; done)
 ·obtain ⟨a,rfl⟩:=hx;exact aJS hL h hlo hhi hmx
 ·obtain ⟨rfl,_⟩:=hx;exact aJS hL h hlo hhi hmx
 ·exact aSL hL h hx hlo hhi hmx
 rename_i k off n c sz
 split at h <;> try (cases h; done)
 rename_i d hd
 split at h <;> try (cases h; done)
 rename_i lo
 split at h <;> try (cases h; done)
 rename_i hi
 split at h <;> try (cases h; done)
 rename_i mx
 cases hc:(Nat.beq d.kd 10 && Nat.beq d.esz sz) with
 | false=>rw [hc] at h; simp at h
 | true =>
   rw [hc] at h;simp only [cond_true] at h;simp only [and_eq_true] at hc;obtain ⟨hu,he⟩:=(hL T d hd).slice (a0l hc.1);have hsz:=a0l hc.2;obtain ⟨ie,z,hie,hies,_⟩:=he.info;obtain ⟨b,c',a,hb,rfl,hcc,hnc,ha⟩:=hx;have hlo':=hlo lo rfl;have hhi':=hhi hi rfl;have hmx':=hmx mx rfl;generalize hh:hi.getD n=h' at h;generalize hl:lo.getD 0=l' at h
   cases hlh:Nat.ble l' h' with
   | false=>rw [hlh] at h; simp at h
   | true =>
     rw [hlh] at h;simp only [cond_true] at h;have hlh':=a0R hlh
     have hl':vlo=none/\l'=0 \/ ∃ κ,vlo=some (.int κ (l':Int))/\l' <= h':=by
      rcases hlo' with ⟨e1,rfl⟩ | ⟨κ,m,e1,rfl⟩
      ·exact .inl ⟨e1,hl.symm⟩
      ·simp only [getD_some] at hl;subst hl;exact .inr ⟨κ,e1,hlh'⟩
     cases mx with
     | none =>
       simp only at h
       have hvm:vmx=none:=by
        rcases hmx' with ⟨e1,_⟩ | ⟨κ,m,_,e2⟩
        ·exact e1
        ·cases e2
       cases hq:(Nat.ble h' n || Nat.ble h' c) with
       | false=>rw [hq] at h; simp at h
       | true =>
         rw [hq] at h;simp only [cond_true,injEq] at h;subst h
         have hle:h' <= c':=by
          simp only [Bool.or_eq_true] at hq;rcases hq with e | e <;> have:=a0R e <;> omega
         have hh':vhi=none/\vmx=none/\h'=n \/ ∃ κ,vhi=some (.int κ (h':Int))/\h' <= c':=by
          rcases hhi' with ⟨e1,rfl⟩ | ⟨κ,m,e1,rfl⟩
          ·exact .inl ⟨e1,hvm,hh.symm⟩
          ·simp only [getD_some] at hh;subst hh;exact .inr ⟨κ,e1,hle⟩
         refine ⟨_,a5Q hu hie (m:=c') (.inl ⟨hvm,rfl⟩) hh' hl' a,b,c' - l',_,hb,rfl,?_,?_,fun h0=>?_⟩
         ·show c - l' <= c' - l'; omega
         ·show h' - l' <= c' - l'; omega
         ·have hne:c' ≠ l':=by omega
          obtain ⟨ea,es⟩:=ha (by omega);subst ea;refine ⟨by simp [hne,hies,hsz,a1b],?_⟩
          have e1:off+c'*sz=Nat.add off (Nat.mul l' sz)+(c' - l')*sz:=by
           show off+c'*sz=off+l'*sz+(c' - l')*sz
           have e2:l'*sz+(c' - l')*sz=c'*sz:=by
            rw [<- Nat.add_mul];congr 1;omega
           omega
          rw [<- e1]
          exact es
     | some m =>
       simp only at h
       obtain ⟨κm,hvm⟩:∃ κ,vmx=some (.int κ (m:Int)):=by
        rcases hmx' with ⟨_,e2⟩ | ⟨κ,m',e1,e2⟩
        ·cases e2
        ·simp only [injEq] at e2;subst e2;exact ⟨κ,e1⟩
       cases hq:(hi.isSome && Nat.ble h' m && Nat.ble m c) with
       | false=>rw [hq] at h; simp at h
       | true =>
         rw [hq] at h;simp only [cond_true] at h;simp only [and_eq_true] at hq;have hhm:=a0R hq.1.2;have hmc:=a0R hq.2
         have hh':vhi=none/\vmx=none/\h'=n \/ ∃ κ,vhi=some (.int κ (h':Int))/\h' <= m:=by
          rcases hhi' with ⟨e1,rfl⟩ | ⟨κ,m,e1,rfl⟩
          ·cases hq.1.1
          ·simp only [getD_some] at hh;subst hh;exact .inr ⟨κ,e1,hhm⟩
         have hrun:=a5Q (P:=P) (w:=w) hu hie (cap:=c') (.inr ⟨κm,hvm,by omega⟩) hh' hl' a
         cases hml:Nat.beq m l' with
         | true =>
           rw [hml] at h;simp only [cond_true,injEq] at h;subst h;have e:=a0l hml
           have e1:h' - l'=0:=by omega
           have e2:m - l'=0:=by omega
           refine ⟨_,hrun,?_⟩;rw [e1,e2]
           exact ⟨_,rfl⟩
         | false =>
           rw [hml] at h;simp only [cond_false,injEq] at h;subst h;have hne:m ≠ l':=a7Z hml;refine ⟨_,hrun,b,m - l',_,hb,rfl,le_refl _,?_,fun h0=>?_⟩
           ·show h' - l' <= m - l'; omega
           ·obtain ⟨ea,es⟩:=ha (by omega);subst ea;refine ⟨by simp [hne,hies,hsz,a1b],es.mono ?_⟩;show off+l'*sz+(m - l')*sz <= off+c'*sz
            have e2:l'*sz+(m - l')*sz=m*sz:=by
             rw [<- Nat.add_mul];congr 1;omega
            have e3:m*sz <= c'*sz:=Nat.mul_le_mul_right _ (by omega);omega
theorem aEr {T:TypeId} (hu:P.underlying T=some .string) {c:Call} {o:Oper} (hop:o.op=.call c) {x:Operand} (hcal:c.callee=.builtin .len) (hargs:c.args.toList=[x]) (htys:c.argTypes.toList=[T]) {ρ:Operand->Value} {s:ByteArray} (he:ρ x=.string s) (w:World) :
    (execOp ρ o).run P w=.ok (.value (.int .i64 (s.size:Int))) w:=by
 have hargs':c.args=#[x]:=by rw [<- toList_inj]; simpa using hargs
 have htys':c.argTypes=#[T]:=by rw [<- toList_inj]; simpa using htys
 simp [execOp,hop,go_sem,hcal,hargs',htys',he,Builtin.len_,run_underlying hu,goInt]
theorem aJU {T:TypeId} {e:TypeId} (hu:P.underlying T=some (.slice e)) {c:Call} {o:Oper} (hop:o.op=.call c) {x:Operand} (hcal:c.callee=.builtin .cap) (hargs:c.args.toList=[x]) (htys:c.argTypes.toList=[T]) {ρ:Operand->Value} {a:Option Addr} {n cap:Nat} (he:ρ x=.slice a n cap) (w:World) :
    (execOp ρ o).run P w=.ok (.value (.int .i64 (cap:Int))) w:=by
 have hargs':c.args=#[x]:=by rw [<- toList_inj]; simpa using hargs
 have htys':c.argTypes=#[T]:=by rw [<- toList_inj]; simpa using htys
 simp [execOp,hop,go_sem,hcal,hargs',htys',he,Builtin.cap_,run_underlying hu,goInt]
theorem b4m {x y r:KV} {u v:Value} (hx:relV bm w x u) (hy:relV bm w y v) (h:aZ9 x y=some r):∃ z,(Builtin.min2 u v).run P w=.ok z w/\relV bm w r z:=by
 unfold aZ9 at h
 split at h <;> try (cases h; done)
 rename_i k a
 split at h <;> try (cases h; done)
 rename_i k' b;simp only [injEq] at h;subst h;obtain ⟨rfl,_⟩:=hx;obtain ⟨rfl,_⟩:=hy;refine ⟨.int k (bif decide (b < a) then b else a),?_,rfl,rfl⟩;by_cases h:b < a <;> simp [Builtin.min2,h]
theorem b0w {ev:Operand->KV} {ρ:Operand->Value}:∀ {l:List Operand} {a r:KV} {u:Value},relV bm w a u->(∀ x ∈ l,relV bm w (ev x) (ρ x))->aEx aZ9 ev l a=some r->∃ z,((l.map ρ).foldlM Builtin.min2 u).run P w=.ok z w/\relV bm w r z
 | [],a,r,u,ha,_,h=>by
   have e:a=r:=by simpa [aEx] using h
   subst e
   exact ⟨u,by simp,ha⟩
 | x :: l,a,r,u,ha,hl,h=>by
   have h':(match aZ9 a (ev x) with | some b=>aEx aZ9 ev l b | none=>none)=some r:=h
   split at h' <;> try (cases h'; done)
   rename_i b hb;obtain ⟨z,h1,h2⟩:=b4m (P:=P) ha (hl x (mem_cons_self ..)) hb;obtain ⟨z',h3,h4⟩:=b0w h2 (fun y hy=>hl y (mem_cons_of_mem _ hy)) h';exact ⟨z',by simp [h1,h3],h4⟩
theorem aSM {c:Call} {o:Oper} (hop:o.op=.call c) {x:Operand} {l:List Operand} (hcal:c.callee=.builtin .min) (hargs:c.args.toList=x :: l) {ρ:Operand->Value} {z:Value} (h:((l.map ρ).foldlM Builtin.min2 (ρ x)).run P w=.ok z w) :
    (execOp ρ o).run P w=.ok (.value z) w:=by
 have hm:List.map ρ c.args.toList=ρ x :: l.map ρ:=by rw [hargs]; rfl
 simp [execOp,hop,go_sem,hcal,Builtin.min_,hm,h]
theorem b4n {x y r:KV} {u v:Value} (hx:relV bm w x u) (hy:relV bm w y v) (h:b0a x y=some r):∃ z,(Builtin.max2 u v).run P w=.ok z w/\relV bm w r z:=by
 unfold b0a at h
 split at h <;> try (cases h; done)
 rename_i k a
 split at h <;> try (cases h; done)
 rename_i k' b;simp only [injEq] at h;subst h;obtain ⟨rfl,_⟩:=hx;obtain ⟨rfl,_⟩:=hy;refine ⟨.int k (bif decide (b > a) then b else a),?_,rfl,rfl⟩;by_cases h:b > a <;> simp [Builtin.max2,h]
theorem b0x {ev:Operand->KV} {ρ:Operand->Value}:∀ {l:List Operand} {a r:KV} {u:Value},relV bm w a u->(∀ x ∈ l,relV bm w (ev x) (ρ x))->aEx b0a ev l a=some r->∃ z,((l.map ρ).foldlM Builtin.max2 u).run P w=.ok z w/\relV bm w r z
 | [],a,r,u,ha,_,h=>by
   have e:a=r:=by simpa [aEx] using h
   subst e
   exact ⟨u,by simp,ha⟩
 | x :: l,a,r,u,ha,hl,h=>by
   have h':(match b0a a (ev x) with | some b=>aEx b0a ev l b | none=>none)=some r:=h
   split at h' <;> try (cases h'; done)
   rename_i b hb;obtain ⟨z,h1,h2⟩:=b4n (P:=P) ha (hl x (mem_cons_self ..)) hb;obtain ⟨z',h3,h4⟩:=b0x h2 (fun y hy=>hl y (mem_cons_of_mem _ hy)) h';exact ⟨z',by simp [h1,h3],h4⟩
theorem aSN {c:Call} {o:Oper} (hop:o.op=.call c) {x:Operand} {l:List Operand} (hcal:c.callee=.builtin .max) (hargs:c.args.toList=x :: l) {ρ:Operand->Value} {z:Value} (h:((l.map ρ).foldlM Builtin.max2 (ρ x)).run P w=.ok z w) :
    (execOp ρ o).run P w=.ok (.value z) w:=by
 have hm:List.map ρ c.args.toList=ρ x :: l.map ρ:=by rw [hargs]; rfl
 simp [execOp,hop,go_sem,hcal,Builtin.max_,hm,h]
theorem aHy (hL:a5q P L) {ev:Operand->KV} {ρ:Operand->Value} {o:Oper} {c:Call} (hop:o.op=.call c) {b:Builtin} (hcal:c.callee=.builtin b) (hev:∀ x ∈ c.args.toList,relV bm w (ev x) (ρ x)) {r:KV} (h:aN6 L ev b c.args.toList c.argTypes.toList=some r) :
    ∃ v,(execOp ρ o).run P w=.ok (.value v) w/\relV bm w r v:=by
 generalize ha:c.args.toList=args at h hev;generalize ht:c.argTypes.toList=tys at h;unfold aN6 at h;split at h
 ·split at h <;> try (cases h; done)
  rename_i x
  split at h <;> try (cases h; done)
  rename_i T;unfold zlen at h
  split at h <;> try (cases h; done)
  rename_i d hd;have hx:=hev x (List.mem_singleton_self _);split at h
  ·rename_i k off n c' sz hk;rw [hk] at hx
   cases hc:Nat.beq d.kd 10 with
   | false=>rw [hc] at h; simp at h
   | true =>
     rw [hc] at h;simp only [cond_true,injEq] at h;subst h;obtain ⟨b',c'',a,_,e,_⟩:=hx;exact ⟨_,a2p ((hL T d hd).slice (a0l hc)).1 hop hcal ha ht e w,rfl,rfl⟩
  ·rename_i hk;rw [hk] at hx
   cases hc:Nat.beq d.kd 10 with
   | false=>rw [hc] at h; simp at h
   | true =>
     rw [hc] at h;simp only [cond_true,injEq] at h;subst h;obtain ⟨a,e⟩:=hx;exact ⟨_,a2p ((hL T d hd).slice (a0l hc)).1 hop hcal ha ht e w,rfl,rfl⟩
  ·rename_i hk;rw [hk] at hx
   cases hc:Nat.beq d.kd 10 with
   | false=>rw [hc] at h; simp at h
   | true =>
     rw [hc] at h;simp only [cond_true,injEq] at h;subst h;obtain ⟨e,_⟩:=hx;exact ⟨_,a2p ((hL T d hd).slice (a0l hc)).1 hop hcal ha ht e w,rfl,rfl⟩
  ·rename_i s hk;rw [hk] at hx
   cases hc:Nat.beq d.kd 11 with
   | false=>rw [hc] at h; simp at h
   | true =>
     rw [hc] at h;simp only [cond_true,injEq] at h;subst h;obtain ⟨e,_⟩:=hx;exact ⟨_,aEr ((hL T d hd).str (a0l hc)) hop hcal ha ht e w,rfl,rfl⟩
  ·rename_i l hk;rw [hk] at hx
   cases hc:Nat.beq d.kd 10 with
   | false=>rw [hc] at h; simp at h
   | true =>
     rw [hc] at h;simp only [cond_true,injEq] at h;subst h;obtain ⟨a,c',e⟩:=SlU.form hx.1;rw [a8H];exact ⟨_,a2p ((hL T d hd).slice (a0l hc)).1 hop hcal ha ht e w,rfl,rfl⟩
  ·cases h
 ·split at h <;> try (cases h; done)
  rename_i x
  split at h <;> try (cases h; done)
  rename_i T;unfold b5F at h
  split at h <;> try (cases h; done)
  rename_i d hd;have hx:=hev x (List.mem_singleton_self _);split at h
  ·rename_i hk;rw [hk] at hx
   cases hc:Nat.beq d.kd 10 with
   | false=>rw [hc] at h; simp at h
   | true =>
     rw [hc] at h;simp only [cond_true,injEq] at h;subst h;obtain ⟨a,e⟩:=hx;exact ⟨_,aJU ((hL T d hd).slice (a0l hc)).1 hop hcal ha ht e w,rfl,rfl⟩
  ·rename_i hk;rw [hk] at hx
   cases hc:Nat.beq d.kd 10 with
   | false=>rw [hc] at h; simp at h
   | true =>
     rw [hc] at h;simp only [cond_true,injEq] at h;subst h;obtain ⟨e,_⟩:=hx;exact ⟨_,aJU ((hL T d hd).slice (a0l hc)).1 hop hcal ha ht e w,rfl,rfl⟩
  ·cases h
 ·split at h <;> try (cases h; done)
  rename_i x l;obtain ⟨z,h1,h2⟩:=b0w (P:=P) (hev x (mem_cons_self ..)) (fun y hy=>hev y (mem_cons_of_mem _ hy)) h;exact ⟨z,aSM hop hcal ha h1,h2⟩
 ·split at h <;> try (cases h; done)
  rename_i x l;obtain ⟨z,h1,h2⟩:=b0x (P:=P) (hev x (mem_cons_self ..)) (fun y hy=>hev y (mem_cons_of_mem _ hy)) h;exact ⟨z,aSN hop hcal ha h1,h2⟩
 ·cases h
end
open Vc (a0O a7Q a2A a6f a0B a3V a1v a2p)
section
variable {P:Program} {L:Tr ZL} {H:Hp Bx} {bm:BM} {w:World}
theorem a6x (hL:a5q P L) (ok:Ok H bm w) {ev:Operand->KV} {ρ:Operand->Value} {o:Oper} (hev:∀ x ∈ o.op.operands,relV bm w (ev x) (ρ x)) {r:KV} (h:a2w L H ev o.op=some r) :
    ∃ v,(execOp ρ o).run P w=.ok (.value v) w/\relV bm w r v:=by
 cases hop:o.op with
 | move x =>
   rw [hop] at h hev;simp only [a2w,injEq] at h;subst h
   exact ⟨ρ x,by simp only [execOp,hop]; rfl,hev x (by simp [Op.operands])⟩
 | assign x =>
   rw [hop] at h hev;simp only [a2w,injEq] at h;subst h
   exact ⟨ρ x,by simp only [execOp,hop]; rfl,hev x (by simp [Op.operands])⟩
 | pick c a b =>
   rw [hop] at h hev;simp only [a2w,aL8] at h;have hc:=hev c (by simp [Op.operands]);have ha:=hev a (by simp [Op.operands]);have hb:=hev b (by simp [Op.operands])
   split at h <;> try (cases h; done)
   rename_i p hk;rw [hk] at hc;obtain ⟨e,_⟩:=hc;simp only [injEq] at h;subst h
   cases p with
   | true=>exact ⟨ρ a,by simp [execOp,hop,e,asBool],ha⟩
   | false=>exact ⟨ρ b,by simp [execOp,hop,e,asBool],hb⟩
 | load T x =>
   rw [hop] at h hev;have hx:=hev x (by simp [Op.operands]);simp only [a2w,a9A] at h
   split at h <;> try (cases h; done)
   rotate_left
   ·rename_i v hk
    split at h <;> try (cases h; done)
    rename_i l hl
    cases hc:Nat.beq l.size 1 with
    | false=>rw [hc] at h; cases h
    | true =>
      rw [hc] at h;rw [hk] at hx;obtain ⟨b,off,hv,_,hcell⟩:=hx;refine ⟨_,?_,a3A (us:=[.int .u32 (v:Int)]) h ⟨⟨rfl,rfl⟩,trivial⟩⟩;simp only [execOp,hop,hv];refine a0O (a6L (hL T l hl) b off w [.int .u32 (v:Int)] (by rw [a0l hc]; rfl) fun j u hj=>?_)
      cases j with
      | zero=>cases hj; simpa using hcell
      | succ j=>simp at hj
   rename_i k off hk
   split at h <;> try (cases h; done)
   rename_i l hl
   split at h <;> try (cases h; done)
   rename_i b hb
   split at h <;> try (cases h; done)
   rename_i cs hc;rw [hk] at hx;obtain ⟨g,hg,hv⟩:=hx;obtain ⟨vs,rs,h1,h2⟩:=ok.box k g b hg hb;obtain ⟨e1,e2,e3⟩:=a4I hc;have hvl:=h2.len
   have hrel:relL bm w (a0d cs) ((vs.drop off).take l.size):=by rw [e1]; exact (h2.drop off).take _
   have hrange:w.rangeAt g off ((vs.drop off).take l.size):=by
    have:=a0B (w:=w) (b:=g) (vs:=vs ++ rs) (T:=b.T) (fz:=(0,0)) h1 off l.size;rw [List.drop_append_of_le_length (by omega),List.take_append_of_le_length (by rw [length_drop]; omega)] at this;exact this
   refine ⟨_,?_,a3A h hrel⟩;simp only [execOp,hop,hv]
   exact a0O (a6L (hL T l hl) g off w _ (by rw [<- hrel.len,e3]) hrange)
 | fieldAddr S x f =>
   rw [hop] at h hev;have hx:=hev x (by simp [Op.operands]);simp only [a2w,aBI] at h
   split at h <;> try (cases h; done)
   rename_i k off hk
   split at h <;> try (cases h; done)
   rename_i l hl
   split at h <;> try (cases h; done)
   rename_i d hd;rw [aBY] at hd;simp only [injEq] at h;subst h;rw [hk] at hx;obtain ⟨b,hb,hv⟩:=hx;refine ⟨.pointer (some ⟨b,off+d.1,none⟩),?_,b,hb,rfl⟩;simp only [execOp,hop,hv]
   exact a0O (aEs (hL S l hl) hd b off w)
 | indexAddr T x y =>
   rw [hop] at h hev;have hx:=hev x (by simp [Op.operands]);have hy:=hev y (by simp [Op.operands]);simp only [a2w,b0b] at h
   split at h <;> try (cases h; done)
   rotate_left
   ·rename_i l hk
    split at h <;> try (cases h; done)
    rename_i i hi
    split at h <;> try (cases h; done)
    rename_i d hd
    split at h <;> try (cases h; done)
    rename_i v hv;rw [aBY] at hv
    cases hc:(Nat.beq d.kd 10 && Nat.beq d.esz 1) with
    | false=>rw [hc] at h; simp at h
    | true =>
      rw [hc] at h;simp only [cond_true,injEq] at h;subst h;simp only [and_eq_true] at hc;obtain ⟨hu,he⟩:=(hL T d hd).slice (a0l hc.1);obtain ⟨ie,z,hie,hies,_⟩:=he.info;rw [hk] at hx;obtain ⟨κ,e⟩:=a4P hi hy;obtain ⟨hil,hlv⟩:=List.getElem?_eq_some_iff.1 hv
      rcases hx.cases with ⟨rfl,_⟩ | ⟨h0,b,off,cap,hv',hcap,hlt,k,hcell⟩
      ·simp at hil
      ·refine ⟨_,?_,b,off+i,rfl,k,?_⟩
       ·simp only [execOp,hop,hv',e];have:=a1v hu hie b off l.length cap κ (i:Int) (by omega) (by omega) w;rw [hies,a0l hc.2,Int.toNat_natCast,Nat.mul_one] at this;exact a0O this
       ·rw [hcell i hil,hlv]
   rename_i k off n c sz hk
   split at h <;> try (cases h; done)
   rename_i i hi
   split at h <;> try (cases h; done)
   rename_i d hd
   cases hc:(Nat.ble (Nat.succ i) n && Nat.beq d.kd 10 && Nat.beq d.esz sz) with
   | false=>rw [hc] at h; simp at h
   | true =>
     rw [hc] at h;simp only [cond_true,injEq] at h;subst h;simp only [and_eq_true] at hc;have hin:=a0R hc.1.1;obtain ⟨hu,he⟩:=(hL T d hd).slice (a0l hc.1.2);have hsz:=a0l hc.2;obtain ⟨ie,z,hie,hies,_⟩:=he.info;rw [hk] at hx;obtain ⟨b,c',a,hb,hv,hcc,hnc,ha⟩:=hx;obtain ⟨κ,e⟩:=a4P hi hy;obtain ⟨rfl,_⟩:=ha (by omega);refine ⟨_,?_,b,hb,rfl⟩;simp only [execOp,hop,hv,e];have:=a1v hu hie b off n c' κ (i:Int) (by omega) (by omega) w;rw [hies,hsz] at this
     exact a0O this
 | slice T x lo hi mx =>
   rw [hop] at h hev;have hx:=hev x (by simp [Op.operands]);simp only [a2w] at h;obtain ⟨v,h1,h2⟩:=aWI (P:=P) hL (vlo:=lo.map ρ) (vhi:=hi.map ρ) (vmx:=mx.map ρ) h hx (fun q hq=>aCx (fun y hy=>hev y (by simp [Op.operands,hy])) hq) (fun q hq=>aCx (fun y hy=>hev y (by simp [Op.operands,hy])) hq) (fun q hq=>aCx (fun y hy=>hev y (by simp [Op.operands,hy])) hq);refine ⟨v,?_,h2⟩;simp only [execOp,hop]
   exact a0O h1
 | extract x i =>
   rw [hop] at h hev;have hx:=hev x (by simp [Op.operands]);simp only [a2w,aWP] at h
   split at h <;> try (cases h; done)
   rename_i xs hk
   split at h <;> try (cases h; done)
   rename_i y hy;simp only [injEq] at h;subst h;rw [hk] at hx;obtain ⟨us,hu,hks⟩:=hx;obtain ⟨u,h1,h2⟩:=hks.get hy;refine ⟨u,?_,h2⟩;simp only [execOp,hop,hu];refine a0O ?_
   simp [Instr.extract,h1]
 | binOp op T x y yT =>
   rw [hop] at h hev;have hx:=hev x (by simp [Op.operands]);have hy:=hev y (by simp [Op.operands])
   have nil_case:∀ (c:Bool) (a:Option Addr) (n c':Nat),ρ x=.slice a n c'->a.isNone=c->aSQ L op T c (ev y)=some r->∃ v,(execOp ρ o).run P w=.ok (.value v) w/\relV bm w r v:=fun c a n c' e1 ea h=>by
    unfold aSQ at h
    split at h <;> try (cases h; done)
    rename_i hb
    split at h <;> try (cases h; done)
    rename_i l hl
    cases hk:Nat.beq l.kd 10 with
    | false=>rw [hk] at h; cases h
    | true =>
      rw [hk] at h;simp only [cond_true] at h;have hu:=((hL T l hl).slice (a0l hk)).1;rw [hb] at hy;obtain ⟨e2,_⟩:=hy
      split at h <;> try (cases h; done)
      all_goals
       simp only [injEq] at h;subst h;refine ⟨_,?_,rfl,rfl⟩;simp only [execOp,hop,e1,e2];subst ea;exact a0O (by simp [go_sem,eqGuard,binOp,run_equal_slice_nil w T _ a n c' hu])
   simp only [a2w,a2R] at h;split at h
   ·rename_i k off n c sz ha
    cases hc:Nat.ble 1 c with
    | false=>rw [hc] at h; cases h
    | true =>
      rw [hc] at h;simp only [cond_true] at h;rw [ha] at hx;obtain ⟨b,c',a,_,e1,h2,_,h4⟩:=hx;have:=a0R hc;obtain ⟨ea,_⟩:=h4 (by omega);exact nil_case false a n c' e1 (by rw [ea]; rfl) h
   ·rename_i ha;rw [ha] at hx;exact nil_case true none 0 0 hx.1 rfl h
   ·rename_i a hna ha
    split at h <;> try (cases h; done)
    rename_i b hb
    split at h <;> try (cases h; done)
    rename_i v hv;simp only [injEq] at h;subst h;rw [ha] at hx;rw [hb] at hy;obtain ⟨e1,_⟩:=hx;obtain ⟨e2,_⟩:=hy
    obtain ⟨g1,g2⟩:=aSZ (P:=P) hv T (fun hbl p hp=>by
     subst hp;simp only at hbl;split at hbl
     ·rename_i l hl;exact (hL T l hl).bool (a0l hbl)
     ·cases hbl) x y w
    refine ⟨v,?_,rfl,g2⟩;simp only [execOp,hop,e1,e2];exact a0O g1
   ·cases h
 | unOp op T x =>
   rw [hop] at h hev;have hx:=hev x (by simp [Op.operands]);simp only [a2w,zun] at h
   split at h <;> try (cases h; done)
   ·rename_i b hk;rw [hk] at hx;obtain ⟨e,_⟩:=hx
    split at h <;> try (cases h; done)
    simp only [injEq] at h;subst h;refine ⟨.bool (!b),?_,rfl,rfl⟩;simp only [execOp,hop,e];exact a0O (by simp [Op.unary])
   ·rename_i k n hk;rw [hk] at hx;obtain ⟨e,_⟩:=hx
    split at h <;> try (cases h; done)
    simp only [injEq] at h;subst h;refine ⟨.int k (wrF k (0 - n)),?_,rfl,rfl⟩;simp only [execOp,hop,e]
    exact a0O (by simp only [Op.unary]; simp [go_sem,Op.intArith,aBJ])
 | build T parts =>
   rw [hop] at h hev;simp only [a2w,aJY] at h
   split at h <;> try (cases h; done)
   rename_i l hl
   split at h <;> try (cases h; done)
   rename_i f1 f2 hf
   split at h <;> try (cases h; done)
   rename_i cs hc;simp only [injEq] at h;subst h;have hz:=hL T l hl
   have hne:l.flds ≠ []:=by rw [hf]; simp
   obtain ⟨fields,hu,hm,_⟩:=hz.flds hne;obtain ⟨i,z,hi,hzz,hzr⟩:=hz.zero
   obtain ⟨vs,h1,h2⟩:=aEy (bm:=bm) (w:=w) (ρ:=ρ) l.flds parts.toList l.zero cs z.cells.toList (fun p hp=>hev p.2 (by
    simp only [Op.operands,List.mem_toArray,List.mem_map]
    exact ⟨p,hp,rfl⟩)) hc (hzr bm w)
   have hbuilt:P.built T (parts.toList.map fun (i,x)=>(i,ρ x))=some vs.toArray:=by
    unfold Program.built;simp only [hi,hu,hzz,hm];exact h1
   refine ⟨.agg vs.toArray,?_,vs,rfl,h2⟩;simp only [execOp,hop];refine a0O (run_build w _ _ _ ?_)
   simpa using hbuilt
 | convert S D x =>
   rw [hop] at h hev;have hx:=hev x (by simp [Op.operands]);simp only [a2w,aSV] at h
   split at h <;> try (cases h; done)
   rename_i k' n hk
   split at h <;> try (cases h; done)
   rename_i lS hS
   split at h <;> try (cases h; done)
   rename_i d hD
   split at h <;> try (cases h; done)
   rename_i k hkd;simp only [injEq] at h;subst h;rw [hk] at hx;obtain ⟨e,_⟩:=hx;refine ⟨.int k (wrF k n),?_,rfl,rfl⟩;simp only [execOp,hop,e,aBJ];refine a0O ?_;obtain ⟨dS,hdS,_⟩:=(hL S lS hS).desc;have hdD:=(hL D d hD).int k hkd;unfold convert;rw [Sem.run_bind,run_underlying hdS,Result.andThen_ok,Sem.run_bind,run_underlying hdD,Result.andThen_ok]
   cases dS <;> simp [Conv.intToInt]
 | nilCheck x =>
   rw [hop] at h hev;have hx:=hev x (by simp [Op.operands]);simp only [a2w,b3D] at h
   split at h <;> try (cases h; done)
   rename_i k off hk;simp only [injEq] at h;subst h;rw [hk] at hx;obtain ⟨b,hb,e⟩:=hx;refine ⟨.pointer (some ⟨b,off,none⟩),?_,b,hb,rfl⟩;simp only [execOp,hop,e]
   rfl
 | makeFunc fn first captured =>
   rw [hop] at h hev;simp only [a2w,b3E] at h
   split at h <;> try (cases h; done)
   rename_i f
   split at h <;> try (cases h; done)
   rename_i hf
   split at h <;> try (cases h; done)
   rename_i ks hks;simp only [injEq] at h;subst h;have hr:=aEv (bm:=bm) (w:=w) (ρ:=ρ) (fun x hx=>hev x (by simp only [Op.operands,Array.mem_append]; exact .inr (by simpa using hx))) hks
   have hfe:first=#[]:=by rw [<- toList_inj]; simpa using hf
   refine ⟨.func (.func f) #[] (captured.toList.map ρ).toArray,?_,_,hr,rfl⟩;simp only [execOp,hop,hfe];refine a0O ?_
   have e:captured.map ρ=(captured.toList.map ρ).toArray:=by
    apply ext';simp
   rw [e]
   simp [Instr.makeFunc]
 | index T x y =>
   rw [hop] at h hev;have hx:=hev x (by simp [Op.operands]);have hy:=hev y (by simp [Op.operands]);simp only [a2w,aJW] at h
   split at h <;> try (cases h; done)
   rename_i s hk
   split at h <;> try (cases h; done)
   rename_i i hi
   split at h <;> try (cases h; done)
   rename_i d hd
   split at h <;> try (cases h; done)
   rename_i b hb
   cases hc:Nat.beq d.kd 11 with
   | false=>rw [hc] at h; simp at h
   | true =>
     rw [hc] at h;simp only [cond_true,injEq] at h;subst h;rw [hk] at hx;obtain ⟨e,_⟩:=hx;obtain ⟨κ,e2⟩:=a4P hi hy;have hu:=(hL T d hd).str (a0l hc);refine ⟨.int .u8 b.toNat,?_,rfl,rfl⟩;simp only [execOp,hop,e,e2];refine a0O ?_
     have h0:(0:Int) <= (i:Int):=by omega
     simp [Instr.index,asIntOf,run_underlying hu,hb]
 | field T x f =>
   rw [hop] at h hev;have hx:=hev x (by simp [Op.operands]);simp only [a2w,aJX] at h
   split at h <;> try (cases h; done)
   rename_i xs hk
   split at h <;> try (cases h; done)
   rename_i l hl
   split at h <;> try (cases h; done)
   rename_i d hd
   split at h <;> try (cases h; done)
   rename_i U hU
   split at h <;> try (cases h; done)
   rename_i u hu
   cases hc:Nat.beq u.size d.2 with
   | false=>rw [hc] at h; simp at h
   | true =>
     rw [hc] at h;simp only [cond_true] at h
     split at h <;> try (cases h; done)
     rename_i cs hcs;rw [aBY] at hd hU;have hsz:=a0l hc;have hz:=hL T l hl
     have hne:l.flds ≠ []:=by intro e; rw [e] at hd; simp at hd
     obtain ⟨fields,hfu,hm,hty⟩:=hz.flds hne;obtain ⟨y,hy,hfy⟩:=a2A hm f d hd
     have hyU:y.type=U:=by
      rw [<- hty,List.getElem?_map,hy] at hU;simpa using hU
     rw [hk] at hx;obtain ⟨us,hv,hrl⟩:=hx;obtain ⟨e1,e2,e3⟩:=a4I hcs
     have hrel:relL bm w (a0d cs) ((us.drop d.1).take d.2):=by rw [e1]; exact (hrl.drop _).take _
     have hoff:y.offset=d.1:=by
      cases hi:P.info? y.type with
      | none=>simp [hi] at hfy
      | some i=>simp only [hi,map_some,injEq] at hfy; subst hfy; rfl
     refine ⟨_,?_,a3A h hrel⟩;simp only [execOp,hop,hv];refine a0O ?_
     have hy':fields[f]?=some y:=by simpa using hy
     have hp:=aNT (hL U u hu) us d.1 w ((us.drop d.1).take d.2) (by rw [<- hrel.len,e3,hsz]) (by rw [hsz])
     simp [Instr.field,run_underlying hfu,hy',asAgg,hyU,hoff,hp]
 | call c =>
   rw [hop] at h hev;simp only [a2w,aN3] at h
   split at h <;> try (cases h; done)
   rename_i b hb
   exact aHy hL hop hb (fun x hx=>hev x (by simp only [Op.operands,Call.operands,hb]; simpa using hx)) h
 | _=>rw [hop] at h; simp [a2w] at h
