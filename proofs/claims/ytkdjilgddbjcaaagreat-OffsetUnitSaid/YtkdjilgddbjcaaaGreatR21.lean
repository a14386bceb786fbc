import Derived.Test.YtkdjilgddbjcaaaGreatR20
import Derived.Maps.AppendAt
import Derived.Test.YtkdjilgddbjcaaaGreatR11
namespace Go.Proofs.YtkdjilgddbjcaaaGreat
open Go.RowKit
namespace Zc
theorem nbeq_no {a b:Nat} (h:Nat.beq a b=false):¬ a=b:=by
 rintro rfl
 rw [nbeq_t] at h
 cases h
theorem nbeq_yes {a b:Nat} (h:Nat.beq a b=true):a=b:=Nat.eq_of_beq_eq_true h
theorem nble_no {a b:Nat} (h:Nat.ble a b=false):¬ a <= b:=fun h'=>by
 rw [Nat.ble_eq_true_of_le h'] at h
 cases h
theorem nble_yes {a b:Nat} (h:Nat.ble a b=true):a <= b:=Nat.le_of_ble_eq_true h
noncomputable def limF (n:Nat):List Nat:=Nat.rec (motive:=fun _=>Nat->List Nat) (fun _=>[]) (fun _ ih m=>Bool.rec (motive:=fun _=>List Nat) (Nat.mod m 1000000000 :: ih (Nat.div m 1000000000)) [] (Nat.beq m 0)) n n
theorem limF_eq (n:Nat):limF n=Lb.limbs n:=by
 have key:∀ f m,m <= f->(Nat.rec (motive:=fun _=>Nat->List Nat) (fun _=>[]) (fun _ ih m=>Bool.rec (motive:=fun _=>List Nat) (Nat.mod m 1000000000 :: ih (Nat.div m 1000000000)) [] (Nat.beq m 0)) f m:List Nat)=Lb.limbs m:=by
  intro f
  induction f with
  | zero =>
    intro m hm
    obtain rfl:m=0:=by omega
    exact Lb.limbs_zero.symm
  | succ f ih =>
    intro m hm
    by_cases h:m=0
    ·subst h
     exact Lb.limbs_zero.symm
    ·rw [Lb.limbs_pos h,Lb.B_eq,<- ih (m / 1000000000) (by omega)]
     show Bool.rec (motive:=fun _=>List Nat) _ _ (Nat.beq m 0)=_
     rw [nbeq_f h]
     rfl
 exact key n n (Nat.le_refl n)
noncomputable def dropW (l:List LF):Nat->Option (List LF) :=
 List.rec (fun n=>bif Nat.beq n 0 then some [] else none)
  (fun x r ih n=>bif Nat.beq n 0 then some (x :: r) else bif Nat.ble x.width n then ih (Nat.sub n x.width) else
   LF.rec (fun _=>none) (fun _=>none) (fun z=>some (.sl (limF z.natAbs) :: r)) (fun _ _=>none) (fun _ _ _ _ _=>none) none (fun _ _=>none) x) l
noncomputable def takeW (l:List LF):Nat->Option (List LF) :=
 List.rec (fun n=>bif Nat.beq n 0 then some [] else none)
  (fun x _ ih n=>bif Nat.beq n 0 then some [] else bif Nat.ble x.width n then Option.rec none (fun ys=>some (x :: ys)) (ih (Nat.sub n x.width)) else
   LF.rec (fun _=>none) (fun _=>none) (fun z=>some [.v (.bool (decide (z < 0)))]) (fun _ _=>none) (fun _ _ _ _ _=>none) none (fun _ _=>none) x) l
theorem dropW_cons (x:LF) (r:List LF) (n:Nat):dropW (x :: r) n=bif Nat.beq n 0 then some (x :: r) else bif Nat.ble x.width n then dropW r (Nat.sub n x.width) else
      LF.rec (fun _=>none) (fun _=>none) (fun z=>some (.sl (limF z.natAbs) :: r)) (fun _ _=>none) (fun _ _ _ _ _=>none) none (fun _ _=>none) x:=rfl
theorem takeW_cons (x:LF) (r:List LF) (n:Nat):takeW (x :: r) n=bif Nat.beq n 0 then some [] else bif Nat.ble x.width n then Option.rec none (fun ys=>some (x :: ys)) (takeW r (Nat.sub n x.width)) else
      LF.rec (fun _=>none) (fun _=>none) (fun z=>some [.v (.bool (decide (z < 0)))]) (fun _ _=>none) (fun _ _ _ _ _=>none) none (fun _ _=>none) x:=rfl
theorem dropW_spec:∀ (l:List LF) (n:Nat) (ys:List LF),dropW l n=some ys->flats ys=(flats l).drop n/\n <= (flats l).length
 | [],n,ys,h=>by
   have h':(bif Nat.beq n 0 then some [] else none)=some ys:=h
   cases hb:Nat.beq n 0 with
   | true =>
     rw [hb] at h'
     have e:n=0:=by simpa using hb
     have e2:([]:List LF)=ys:=by simpa using h'
     subst e e2
     simp [flats_nil]
   | false=>rw [hb] at h'; cases h'
 | x :: r,n,ys,h=>by
   rw [dropW_cons] at h
   have hl:=flat_length x
   cases hb:Nat.beq n 0 with
   | true =>
     rw [hb] at h
     have e:n=0:=by simpa using hb
     have e2:x :: r=ys:=by simpa using h
     subst e e2
     simp
   | false =>
     rw [hb] at h
     simp only [cond_false] at h
     cases h1:Nat.ble x.width n with
     | true =>
       rw [h1] at h
       simp only [cond_true] at h
       have h1':x.width <= n:=by simpa using h1
       obtain ⟨e1,e2⟩:=dropW_spec r _ ys h
       have e3:Nat.sub n x.width=n - x.width:=rfl
       rw [e3] at e1 e2
       rw [flats_cons]
       refine ⟨?_,by rw [List.length_append,hl]; omega⟩
       rw [e1,List.drop_append,List.drop_of_length_le (l:=x.flat) (by omega),List.nil_append,hl]
     | false =>
       rw [h1] at h
       simp only [cond_false] at h
       have h0:¬ n=0:=nbeq_no hb
       have h2:¬ x.width <= n:=nble_no h1
       cases x with
       | I z =>
         simp only [LF.width] at h2
         obtain rfl:n=1:=by omega
         have e2:LF.sl (limF z.natAbs) :: r=ys:=by simpa using h
         rw [limF_eq] at e2
         subst e2
         refine ⟨?_,?_⟩
         ·rw [flats_cons,flats_cons]; rfl
         ·rw [flats_cons,List.length_append,flat_length]; simp only [LF.width]; omega
       | v _=>cases h
       | sl _=>cases h
       | p _ _=>cases h
       | s _ _ _ _ _=>cases h
       | e0=>cases h
       | fn _ _=>cases h
theorem takeW_spec:∀ (l:List LF) (n:Nat) (ys:List LF),takeW l n=some ys->flats ys=(flats l).take n/\n <= (flats l).length
 | [],n,ys,h=>by
   have h':(bif Nat.beq n 0 then some [] else none)=some ys:=h
   cases hb:Nat.beq n 0 with
   | true =>
     rw [hb] at h'
     have e:n=0:=by simpa using hb
     have e2:([]:List LF)=ys:=by simpa using h'
     subst e e2
     simp [flats_nil]
   | false=>rw [hb] at h'; cases h'
 | x :: r,n,ys,h=>by
   rw [takeW_cons] at h
   have hl:=flat_length x
   cases hb:Nat.beq n 0 with
   | true =>
     rw [hb] at h
     have e:n=0:=by simpa using hb
     have e2:([]:List LF)=ys:=by simpa using h
     subst e e2
     simp [flats_nil]
   | false =>
     rw [hb] at h
     simp only [cond_false] at h
     cases h1:Nat.ble x.width n with
     | true =>
       rw [h1] at h
       simp only [cond_true] at h
       have h1':x.width <= n:=by simpa using h1
       have e3:Nat.sub n x.width=n - x.width:=rfl
       rw [e3] at h
       cases ht:takeW r (n - x.width) with
       | none=>rw [ht] at h; cases h
       | some zs =>
         rw [ht] at h
         have e2:x :: zs=ys:=by simpa using h
         subst e2
         obtain ⟨e1,e2⟩:=takeW_spec r _ zs ht
         rw [flats_cons,flats_cons]
         refine ⟨?_,by rw [List.length_append,hl]; omega⟩
         rw [e1,List.take_append,hl,List.take_of_length_le (l:=x.flat) (by omega)]
     | false =>
       rw [h1] at h
       simp only [cond_false] at h
       have h0:¬ n=0:=nbeq_no hb
       have h2:¬ x.width <= n:=nble_no h1
       cases x with
       | I z =>
         simp only [LF.width] at h2
         obtain rfl:n=1:=by omega
         have e2:[LF.v (.bool (decide (z < 0)))]=ys:=by simpa using h
         subst e2
         refine ⟨?_,?_⟩
         ·rw [flats_cons,flats_cons]; rfl
         ·rw [flats_cons,List.length_append,flat_length]; simp only [LF.width]; omega
       | v _=>cases h
       | sl _=>cases h
       | p _ _=>cases h
       | s _ _ _ _ _=>cases h
       | e0=>cases h
       | fn _ _=>cases h
noncomputable def app (a b:List LF):List LF:=List.rec b (fun x _ ih=>x :: ih) a
theorem app_eq (a b:List LF):app a b=a ++ b:=by
 induction a with
 | nil=>rfl
 | cons x r ih=>show x :: app r b=_; rw [ih]; rfl
noncomputable def len {α:Type} (l:List α):Nat:=List.rec 0 (fun _ _ ih=>Nat.succ ih) l
theorem len_eq {α:Type} (l:List α):len l=l.length:=by
 induction l with
 | nil=>rfl
 | cons x r ih=>show Nat.succ (len r)=_; rw [ih]; rfl
noncomputable def cutW (l:List LF) (off n:Nat):Option (List LF):=Option.rec none (fun r=>takeW r n) (dropW l off)
theorem cutW_spec {l:List LF} {off n:Nat} {ys:List LF} (h:cutW l off n=some ys):flats ys=((flats l).drop off).take n/\off+n <= (flats l).length/\(flats ys).length=n:=by
 unfold cutW at h
 cases hd:dropW l off with
 | none=>rw [hd] at h; cases h
 | some r =>
   rw [hd] at h
   obtain ⟨e1,e2⟩:=dropW_spec _ _ _ hd
   obtain ⟨e3,e4⟩:=takeW_spec _ _ _ h
   rw [e1] at e3 e4
   rw [List.length_drop] at e4
   refine ⟨e3,by omega,?_⟩
   rw [e3,List.length_take,List.length_drop]
   omega
noncomputable def updW (l:List LF) (off:Nat) (ys:List LF):Option (List LF) :=
 Option.rec none (fun a=>Option.rec none (fun b=>some (app a (app ys b))) (dropW l (Nat.add off (wid ys)))) (takeW l off)
theorem updW_spec {l:List LF} {off:Nat} {ys zs:List LF} (h:updW l off ys=some zs):flats zs=(flats l).take off ++ flats ys ++ (flats l).drop (off+wid ys)/\off+wid ys <= (flats l).length:=by
 unfold updW at h
 cases ht:takeW l off with
 | none=>rw [ht] at h; cases h
 | some a =>
   rw [ht] at h
   have e0:Nat.add off (wid ys)=off+wid ys:=rfl
   rw [e0] at h
   cases hd:dropW l (off+wid ys) with
   | none=>simp only [hd] at h; cases h
   | some b =>
     simp only [hd] at h
     have e:app a (app ys b)=zs:=by simpa using h
     subst e
     obtain ⟨e1,_⟩:=takeW_spec _ _ _ ht
     obtain ⟨e2,e3⟩:=dropW_spec _ _ _ hd
     rw [app_eq,app_eq,flats_append,flats_append,e1,e2,List.append_assoc]
     exact ⟨rfl,e3⟩
section
variable {P:Program} {w w':World} {bm:BM} {H:Hp Bx} {m n:Nat}
theorem heap_alloc_new (w:World) (o:Obj):(w.alloc o).heap[w.heap.size]?=some o:=by unfold World.alloc; simp
def bmNew (bm:BM) (n b:Nat):BM:=fun k=>if k=n then some b else bm k
theorem bmNew_same (bm:BM) (n b:Nat):bmNew bm n b n=some b:=by simp [bmNew]
theorem bmNew_ne (bm:BM) {n b k:Nat} (h:k ≠ n):bmNew bm n b k=bm k:=by simp [bmNew,h]
theorem Grow.new (bm:BM) {n b:Nat} {w:World} (h:w.heap.size <= b):Grow m n (n+1) w bm (bmNew bm n b) :=
 ⟨by omega,fun k hk=>bmNew_ne bm (by omega),fun k c h1 h2 hc=>by
  obtain rfl:k=n:=by omega
  rw [bmNew_same] at hc
  obtain rfl:b=c:=by simpa using hc
  exact .inl h⟩
theorem BoxAt.keep {bm':BM} {b:Nat} {x:Bx} (h:BoxAt bm w b x) (k:Keep bm bm' w w') (e:w'.heap[b]?=w.heap[b]?):BoxAt bm' w' b x:=by
 obtain ⟨vs,rs,h1,h2,h3⟩:=h
 exact ⟨vs,rs,by rw [e]; exact h1,k.relL h2,h3⟩
theorem Ok.new (ok:Ok H bm w) (hn:bm n=none) {x:Bx} {vs rs:List Value} (hr:relL bm w (flats x.cs) vs) (hs:∀ u ∈ vs ++ rs,notU u) (he:Ext w w') (hb:w'.heap[w.heap.size]?=some (.cells (vs ++ rs).toArray x.T (0,0))) :
    Ok (H.put n (some x)) (bmNew bm n w.heap.size) w'/\Grow m n (n+1) w bm (bmNew bm n w.heap.size)/\Frame m n bm w w':=by
 have hg:=Grow.new (m:=m) bm (n:=n) (Nat.le_refl w.heap.size)
 have hf:Frame m n bm w w':=Frame.of_ext he
 have hk:Keep bm (bmNew bm n w.heap.size) w w':=Keep.of ok hg (fun k h1 h2=>(show k=n by omega) ▸ hn) hf
 have hlt:∀ k b,bm k=some b->b < w.heap.size:=fun k b h=>(ok.soft k b h).lt
 refine ⟨⟨fun k b y h1 h2=>?_,fun k b h1=>?_,fun k j b y z h1 h2 h3 h4=>?_⟩,hg,hf⟩
 ·by_cases hkn:k=n
  ·subst hkn
   rw [bmNew_same] at h1
   obtain rfl:w.heap.size=b:=by simpa using h1
   have e:=Hp.put_eq _ _ _ _ h2
   obtain rfl:x=y:=by simpa using e
   exact ⟨vs,rs,hb,hk.relL hr,hs⟩
  ·rw [bmNew_ne bm hkn] at h1
   rw [Hp.put_ne _ _ _ _ hkn] at h2
   have hb':=hlt k b h1
   refine (ok.box k b y h1 h2).keep hk ?_
   have hx:w.heap[b]?=some w.heap[b]:=by simp [hb']
   rw [hx]
   exact heap_keep hx he
 ·by_cases hkn:k=n
  ·subst hkn
   rw [bmNew_same] at h1
   obtain rfl:w.heap.size=b:=by simpa using h1
   exact ⟨_,_,hb,fun u hu=>hs u (by simpa using hu)⟩
  ·rw [bmNew_ne bm hkn] at h1
   exact hf.soft b (ok.soft k b h1)
 ·by_cases hkn:k=n <;> by_cases hjn:j=n
  ·rw [hkn,hjn]
  ·exfalso
   subst hkn
   rw [bmNew_same] at h1
   rw [bmNew_ne bm hjn] at h2
   obtain rfl:w.heap.size=b:=by simpa using h1
   exact Nat.lt_irrefl _ (hlt j _ h2)
  ·exfalso
   subst hjn
   rw [bmNew_same] at h2
   rw [bmNew_ne bm hkn] at h1
   obtain rfl:w.heap.size=b:=by simpa using h2
   exact Nat.lt_irrefl _ (hlt k _ h1)
  ·rw [bmNew_ne bm hkn] at h1
   rw [bmNew_ne bm hjn] at h2
   rw [Hp.put_ne _ _ _ _ hkn] at h3
   rw [Hp.put_ne _ _ _ _ hjn] at h4
   exact ok.inj k j b y z h1 h2 h3 h4
theorem setCells_env {b:Nat}:∀ (us:List Value) (o:Nat) (w:World),(w.setCells b o us).os=w.os/\(w.setCells b o us).tape=w.tape/\(w.setCells b o us).output=w.output
 | [],_,_=>⟨rfl,rfl,rfl⟩
 | _ :: l,o,w=>setCells_env l (o+1) (w.setCell ⟨b,o,none⟩ _)
theorem frame_set {b o:Nat} {us:List Value} {cur:List Value} {T:TypeId} {k:Nat} (hbm:bm k=some b) (hmk:m <= k) (hk:k < n) (hb:w.heap[b]?=some (.cells cur.toArray T (0,0))) (hl:o+us.length <= cur.length) (hu:∀ u ∈ us,notU u):Frame m n bm w (w.setCells b o us):=by
 obtain ⟨g1,g2,g3⟩:=Vc.heap_setCells b us o w cur T hb hl
 refine ⟨Nat.le_of_eq g2.symm,fun c _ hn=>g3 c fun e=>hn k hmk hk (by rw [e]; exact hbm),fun c N h=>?_,fun c h=>?_,setCells_env us o w⟩
 ·by_cases hc:c=b
  ·subst hc
   obtain ⟨vs,T',e1,e2⟩:=h
   rw [hb] at e1
   obtain ⟨rfl,rfl⟩:cur.toArray=vs/\T=T':=by simpa using e1
   refine ⟨_,_,g1,?_⟩
   simp at e2 ⊢
   omega
  ·obtain ⟨vs,T',e1,e2⟩:=h
   exact ⟨vs,T',by rw [g3 c hc]; exact e1,e2⟩
 ·by_cases hc:c=b
  ·subst hc
   obtain ⟨vs,T',e1,e2⟩:=h
   rw [hb] at e1
   obtain ⟨rfl,rfl⟩:cur.toArray=vs/\T=T':=by simpa using e1
   refine ⟨_,_,g1,fun u hu'=>?_⟩
   simp only [List.mem_toArray,List.mem_append] at hu'
   rcases hu' with (h | h) | h
   ·exact e2 u (by simpa using List.mem_of_mem_take h)
   ·exact hu u h
   ·exact e2 u (by simpa using List.mem_of_mem_drop h)
  ·obtain ⟨vs,T',e1,e2⟩:=h
   exact ⟨vs,T',by rw [g3 c hc]; exact e1,e2⟩
theorem Ok.set (ok:Ok H bm w) {k b off:Nat} {x:Bx} {ys cs:List LF} {us:List Value} (hbm:bm k=some b) (hmk:m <= k) (hk:k < n) (hx:H.get k=some x) (hu:updW x.cs off ys=some cs) (hsu:∀ u ∈ us,notU u) (hr:relL bm w (flats ys) us) :
    Ok (H.put k (some ⟨x.T,cs⟩)) bm (w.setCells b off us)/\Frame m n bm w (w.setCells b off us)/\Grow m n n w bm bm/\∃ cur:List Value,w.heap[b]?=some (.cells cur.toArray x.T (0,0))/\off+us.length <= cur.length:=by
 obtain ⟨vs,rs,h1,h2,h3⟩:=ok.box k b x hbm hx
 obtain ⟨e1,e2⟩:=updW_spec hu
 have hul:us.length=wid ys:=by rw [<- hr.len,wid_eq]
 have hvl:=h2.len
 have hle:off+us.length <= (vs ++ rs).length:=by rw [List.length_append]; omega
 obtain ⟨g1,g2,g3⟩:=Vc.heap_setCells b us off w (vs ++ rs) x.T h1 hle
 have hf:Frame m n bm w (w.setCells b off us):=frame_set hbm hmk hk h1 hle hsu
 have hkp:Keep bm bm w (w.setCells b off us):=Keep.of ok (Grow.refl m n w bm) (fun k h1 h2=>by omega) hf
 refine ⟨⟨fun j c y hj hy=>?_,fun j c hj=>hf.soft c (ok.soft j c hj),fun i j c y z hi hj hy hz=>?_⟩,hf,Grow.refl m n w bm,_,h1,hle⟩
 ·by_cases hjk:j=k
  ·subst hjk
   have e:=Hp.put_eq _ _ _ _ hy
   obtain rfl:(⟨x.T,cs⟩:Bx)=y:=by simpa using e
   obtain rfl:b=c:=by rw [hbm] at hj; simpa using hj
   refine ⟨vs.take off ++ us ++ vs.drop (off+us.length),rs,?_,?_,fun u hu=>?_⟩
   ·rw [g1]
    congr 3
    rw [List.take_append_of_le_length (by omega),List.drop_append_of_le_length (by omega)]
    simp
   ·rw [e1,hul]
    exact hkp.relL (relL.append (relL.append (h2.take off) hr) (h2.drop _))
   ·simp only [List.mem_append] at hu
    rcases hu with ((h | h) | h) | h
    ·exact h3 u (List.mem_append_left _ (List.mem_of_mem_take h))
    ·exact hsu u h
    ·exact h3 u (List.mem_append_left _ (List.mem_of_mem_drop h))
    ·exact h3 u (List.mem_append_right _ h)
  ·rw [Hp.put_ne _ _ _ _ hjk] at hy
   refine (ok.box j c y hj hy).keep hkp (g3 c ?_)
   rintro rfl
   exact hjk (ok.inj j k c y x hj hbm hy hx)
 ·have get:∀ i y,(H.put k (some ⟨x.T,cs⟩)).get i=some y->∃ z,H.get i=some z:=fun i y hi=>by
   by_cases hik:i=k
   ·subst hik; exact ⟨x,hx⟩
   ·rw [Hp.put_ne _ _ _ _ hik] at hi; exact ⟨y,hi⟩
  obtain ⟨y',hy'⟩:=get i y hy
  obtain ⟨z',hz'⟩:=get j z hz
  exact ok.inj i j c y' z' hi hj hy' hz'
theorem Ok.kill (ok:Ok H bm w) (k:Nat):Ok (H.put k none) bm w:=by
 have get:∀ i y,(H.put k none).get i=some y->H.get i=some y:=fun i y hi=>by
  by_cases hik:i=k
  ·subst hik
   have:=Hp.put_eq _ _ _ _ hi
   cases this
  ·rwa [Hp.put_ne _ _ _ _ hik] at hi
 exact ⟨fun i b y h1 h2=>ok.box i b y h1 (get i y h2),ok.soft,fun i j b y z h1 h2 h3 h4=>ok.inj i j b y z h1 h2 (get i y h3) (get j z h4)⟩
end
end Zc
end Go.Proofs.YtkdjilgddbjcaaaGreat
namespace Go.Proofs.YtkdjilgddbjcaaaGreat
open Go.RowKit
namespace Zc
open Vc
section
variable {P:Program} {Q:Exit->Act->World->Prop} {l:List Oper} {w0:World} {a0:Act} {I:Array Bool->(Nat->Value)->World->Prop}
def FlowStep3 (P:Program) (Q:Exit->Act->World->Prop) (l:List Oper) (a0:Act) (I:Array Bool->(Nat->Value)->World->Prop) (i:Nat) (o:Oper):Prop :=
 ∀ (ls:Array Bool) (vals:Nat->Value) (w:World),ls.size=l.length->ls.getD i true=false->(∀ e ∈ o.after,Region.binds .any e=true->ls.getD e.on true=true)->I ls vals w->Fresh l vals a0 (fun _ oj=>∃ e ∈ oj.after,Region.binds .any e=true/\e.on=i) ->
   wpOp P l.toArray Q i (fun a' w'=>∃ v,a'=(putAll l vals 0 a0).put o.dst v/\I (ls.setIfInBounds i true) (Go.Proofs.YtkdjilgddbjcaaaGreat.upd vals i v) w') (putAll l vals 0 a0) w
theorem flow_sound3 (hA:apartB l=true) (hL:lowB l=true)
    (hS:∀ i o,l[i]?=some o->FlowStep3 P Q l a0 I i o)
    (hQ:∀ ls vals w,ls.size=l.length->(∀ i,i < l.length->ls.getD i true=true)->I ls vals w->Q .normal (putAll l vals 0 a0) w) :
    ∀ (d:Nat) (ls:Array Bool) (vals:Nat->Value) (w:World),ls.size=l.length->(∃ rem:List Nat,rem.length=d/\rem.Nodup/\∀ i,i < l.length->(ls.getD i true=false ↔ i ∈ rem)) ->
      I ls vals w->Fresh l vals a0 (fun j _=>ls.getD j true=false)->(∀ j oj,l[j]?=some oj->ls.getD j true=true->∀ e ∈ oj.after,Region.binds .any e=true->ls.getD e.on true=true) ->
      wpAny P .any l.toArray Q d ls (putAll l vals 0 a0) w:=by
 have hlow:∀ i o,l[i]?=some o->∀ e ∈ o.after,Region.binds .any e=true->e.on < i:=fun i o ho e he hb=>by
  have hi:i < l.length:=by
   rcases Nat.lt_or_ge i l.length with h | h
   ·exact h
   ·rw [List.getElem?_eq_none h] at ho; cases ho
  simp only [lowB,List.all_eq_true,List.mem_range] at hL
  have:=hL i hi
  rw [ho] at this
  simp only [Option.map_some,Option.getD_some,Array.all_eq_true'] at this
  have h4:=this e he
  simpa [hb] using h4
 have hend:∀ ls:Array Bool,ls.size=l.length->Region.ready .any l.toArray ls=[]->∀ i,i < l.length->ls.getD i true=true:=fun ls hs hr i hi=>by
  induction i using Nat.strongRecOn with
  | _ i ih =>
    rcases hb:ls.getD i true with _ | _
    ·exfalso
     have ho:l.toArray[i]?=some (l[i]):=by simp [hi]
     have:i ∈ Region.ready .any l.toArray ls:=mem_ready.2 ⟨hb,_,ho,fun e he hbd=>by
      have h1:=hlow i _ (by simp [hi]) e he hbd
      have h2:=ih e.on h1 (by omega)
      have h3:e.on < ls.size:=by omega
      simp [h3] at h2 ⊢
      exact h2⟩
     rw [hr] at this
     cases this
    ·rfl
 intro d
 induction d with
 | zero =>
   intro ls vals w hs hrem hI _ _
   obtain ⟨rem,h1,h2,h3⟩:=hrem
   have hall:∀ i,i < l.length->ls.getD i true=true:=fun i hi=>by
    rcases hb:ls.getD i true with _ | _
    ·have:=(h3 i hi).1 hb
     rw [List.length_eq_zero_iff.1 h1] at this
     cases this
    ·rfl
   refine ⟨List.eq_nil_iff_forall_not_mem.2 fun i hi=>?_,hQ ls vals w hs hall hI⟩
   obtain ⟨hu,o,ho,_⟩:=mem_ready.1 hi
   have hil:i < l.length:=by have:i < l.toArray.size:=(Array.getElem?_eq_some_iff.1 ho).1; simpa using this
   rw [hall i hil] at hu
   cases hu
 | succ d ih =>
   intro ls vals w hs hrem hI hW hK
   refine ⟨fun hr=>hQ ls vals w hs (hend ls hs hr) hI,fun i hi=>?_⟩
   obtain ⟨hu,o,ho,hall⟩:=mem_ready.1 hi
   have hil:i < l.length:=by have:i < l.toArray.size:=(Array.getElem?_eq_some_iff.1 ho).1; simpa using this
   have hol:l[i]?=some o:=by simpa using ho
   have hdeps:∀ e ∈ o.after,Region.binds .any e=true->ls.getD e.on true=true:=fun e he hb=>by
    have h1:=hlow i o hol e he hb
    have h2:=hall e he hb
    have h3:e.on < ls.size:=by omega
    simp [h3] at h2 ⊢
    exact h2
   refine wpOp_mono ?_ (hS i o hol ls vals w hs hu hdeps hI fun j oj t hj hp hd=>hW j oj t hj (by
    obtain ⟨e,he,hb,hei⟩:=hp
    cases hls:ls.getD j true with
    | false=>rfl
    | true =>
      have:=hK j oj hj hls e he hb
      rw [hei,hu] at this
      cases this) hd)
   rintro a' w' ⟨v,rfl,hI'⟩
   rw [putAll_upd l 0 i a0 vals v o hA hol,Nat.zero_add]
   obtain ⟨rem,h1,h2,h3⟩:=hrem
   have him:i ∈ rem:=(h3 i hil).1 hu
   refine ih _ _ _ (by simpa using hs) ⟨rem.erase i,by rw [List.length_erase_of_mem him]; omega,h2.erase i,fun k hk=>?_⟩ hI' (hW.step hA hol v fun j oj hj hp=>by
       by_cases hji:j=i
       ·exfalso
        subst hji
        have h4:j < ls.size:=by omega
        simp [h4] at hp
       ·exact ⟨hji,by rwa [getD_set_ne true (by omega)] at hp⟩) (fun j oj hj hp e he hb=>by
       by_cases hei:e.on=i
       ·rw [hei]
        have h4:i < ls.size:=by omega
        simp [h4]
       ·rw [getD_set_ne true (by omega)]
        by_cases hji:j=i
        ·subst hji
         obtain rfl:o=oj:=by rw [hol] at hj; simpa using hj
         exact hdeps e he hb
        ·rw [getD_set_ne true (by omega)] at hp
         exact hK j oj hj hp e he hb)
   by_cases hki:k=i
   ·subst hki
    have h4:k < ls.size:=by omega
    rw [h2.mem_erase_iff]
    simp [h4]
   ·rw [getD_set_ne true (by omega),h3 k hk,h2.mem_erase_iff]
    simp [hki]
theorem wp_region_flow3 {id:Nat} (n:Nat) (hm:P.follows .mixedOrders=true) (hA:apartB (l.take n)=true) (hL:lowB (l.take n)=true) (hT:tail2B l n=true)
    (hI:∀ vals,putAll (l.take n) vals 0 a0=a0->I (Array.replicate n false) vals w0.drew)
    (hS:∀ i o,(l.take n)[i]?=some o->FlowStep3 P (tailPost P l n Q) (l.take n) a0 I i o)
    (hQ:∀ ls vals w,ls.size=(l.take n).length->(∀ i,i < (l.take n).length->ls.getD i true=true)->I ls vals w->wpList P l.toArray Q (l.drop n) (putAll (l.take n) vals 0 a0) w) :
    (Code.region id l.toArray true).wp P Q a0 w0:=by
 have ok:=tailOk2_of hT
 have le:=ok.le
 have htl:(l.take n).length=n:=by simp; omega
 refine wp_region_any hm ?_
 obtain ⟨f,hf⟩:=putAll_start (l.take n) 0 a0
 have hq:=flow_sound3 (P:=P) (Q:=tailPost P l n Q) (a0:=a0) hA hL hS (fun ls vals w h1 h2 h3=>hQ ls vals w h1 h2 h3) (l.take n).length (Array.replicate n false) f { w0 with drawn:=w0.drawn+1 } (by simp; omega)
  ⟨List.range n,by simp; omega,List.nodup_range,fun i hi=>by
   have:i < n:=by omega
   simp [this]⟩ (hI f hf) (fun j oj t _ _ _=>by rw [hf]) (fun j oj hj h=>by
   have:j < n:=by rw [<- htl]; exact (List.getElem?_eq_some_iff.1 hj).1
   simp [this] at h)
 rw [hf,htl] at hq
 have:=wpAny_of_first2 (P:=P) (Q:=Q) ok n (List.range n) (Array.replicate l.toArray.size false) (Array.replicate n false) a0 w0.drew (by simp) List.nodup_range (by simp) (by simp) (fun i hi=>?_) (fun i hi=>?_) (fun i hi hi'=>?_) (fun i hi=>by simpa using hi) (fun j oj hj hjl=>by
  have:j < l.length:=by have:j < l.toArray.size:=(Array.getElem?_eq_some_iff.1 hj).1; simpa using this
  simp [this] at hjl) hq
 ·have hsz:n+(l.length - n)=l.toArray.size:=by simp; omega
  rw [hsz] at this
  exact this
 ·have h1:i < l.length:=by omega
  simp only [Array.getD,Array.size_replicate,List.size_toArray,h1,hi,dif_pos]
  simp
 ·have h1:i < l.length:=by omega
  simp [h1,hi]
 ·simp [hi']
end
end Zc
end Go.Proofs.YtkdjilgddbjcaaaGreat
namespace Go.Proofs.YtkdjilgddbjcaaaGreat
open Go.RowKit
namespace Zc
open Vc (run_v run_u mapM_get kindB kdInt kindB_int run_loadBox rangeAt_of_heap foldl_put run_indexAny run_equal_bool)
structure ZL where
 size:Nat
 agg:Bool
 kd:Nat
 el:Nat
 esz:Nat
 eby:Nat
 ezero:List LF
 zero:List LF
 flds:List (Nat × Nat)
 ftys:List Nat
def zeroB:List LF->List Value->Bool
 | [],[]=>true
 | .v (.bool a) :: l,.bool b :: us=>(a == b) && zeroB l us
 | .v (.int k n) :: l,.int k' n' :: us=>decide (k=k') && decide (n=n') && zeroB l us
 | .v (.slice none 0 0) :: l,.slice none 0 0 :: us=>zeroB l us
 | .v (.pointer none) :: l,.pointer none :: us=>zeroB l us
 | .v .nilFunc :: l,.nilFunc :: us=>zeroB l us
 | .v (.string a) :: l,.string b :: us=>decide (a=b) && zeroB l us
 | .sl [] :: l,.slice none 0 0 :: us=>zeroB l us
 | _,_=>false
theorem zeroB_rel (bm:BM) (w:World) (l:List LF) (us:List Value) (h:zeroB l us=true):relL bm w l us:=by
 fun_induction zeroB l us with
 | case1=>trivial
 | case2 a l b us ih =>
   simp only [Bool.and_eq_true,beq_iff_eq] at h
   obtain ⟨rfl,h⟩:=h
   exact ⟨⟨rfl,rfl⟩,ih h⟩
 | case3 k n l k' n' us ih =>
   simp only [Bool.and_eq_true,decide_eq_true_eq] at h
   obtain ⟨⟨rfl,rfl⟩,h⟩:=h
   exact ⟨⟨rfl,rfl⟩,ih h⟩
 | case4 l us ih=>exact ⟨⟨rfl,rfl⟩,ih h⟩
 | case5 l us ih=>exact ⟨⟨rfl,rfl⟩,ih h⟩
 | case6 l us ih=>exact ⟨⟨rfl,rfl⟩,ih h⟩
 | case7 a l b us ih =>
   simp only [Bool.and_eq_true,decide_eq_true_eq] at h
   obtain ⟨rfl,h⟩:=h
   exact ⟨⟨rfl,rfl⟩,ih h⟩
 | case8 l us ih=>exact ⟨SlU.nil w,ih h⟩
 | case9=>cases h
noncomputable def elB (P:Program) (l:ZL):Bool :=
 match P.info? l.el with
 | some i=>Nat.beq i.size l.esz && Nat.beq i.bytes l.eby && Nat.ble 1 l.esz && Nat.ble l.esz 1000 && Nat.ble l.eby 1000000 && softs l.ezero && Nat.beq (wid l.ezero) l.esz &&
   (match i.zero with | some z=>zeroB (flats l.ezero) z.cells.toList | none=>false)
 | none=>false
noncomputable def zlB (P:Program) (t:Nat) (l:ZL):Bool :=
 match P.info? t,P.underlying t with
 | some i,some d =>
   decide (i.size=l.size) && (d.isRow == l.agg) && (bif Nat.beq l.kd 11 then (match d with | .string=>true | _=>false) else kindB P l.el l.kd d) && (l.agg || decide (l.size=1)) &&
   (match i.zero with | some z=>zeroB (flats l.zero) z.cells.toList | none=>false) && softs l.zero && (bif Nat.beq l.kd 10 then elB P l else true) &&
   (match d with
    | .struct fields=>decide (fields.toList.mapM (fun f=>(P.info? f.type).map fun i=>(f.offset,i.size))=some l.flds) && l.flds.all (fun p=>decide (p.2 ≠ 0)) && decide (fields.toList.map (·.type)=l.ftys)
    | _=>l.flds.isEmpty)
 | _,_=>false
structure ZEl (P:Program) (l:ZL):Prop where
 info:∃ i z,P.info? l.el=some i/\i.size=l.esz/\i.bytes=l.eby/\i.zero=some z/\∀ bm w,relL bm w (flats l.ezero) z.cells.toList
 pos:1 <= l.esz
 le:l.esz <= 1000
 by_:l.eby <= 1000000
 soft:softs l.ezero=true
 zw:wid l.ezero=l.esz
structure ZOK (P:Program) (t:Nat) (l:ZL):Prop where
 size:(P.info? t).map (·.size)=some l.size
 desc:∃ d,P.underlying t=some d/\d.isRow=l.agg
 one:l.agg=false->l.size=1
 bool:l.kd=1->P.underlying t=some .bool
 limbs:l.kd=2->∃ e,P.underlying t=some (.slice e)
 zero2:l.kd=2->∃ e i,P.underlying t=some (.slice e)/\P.info? e=some i/\i.size=1/\i.bytes=4/\i.zero=some (.int .u32 0)
 slice:l.kd=10->P.underlying t=some (.slice l.el)/\ZEl P l
 str:l.kd=11->P.underlying t=some .string
 int:∀ k,kdInt l.kd=some k->P.underlying t=some (.int k)
 zero:∃ i z,P.info? t=some i/\i.zero=some z/\∀ bm w,relL bm w (flats l.zero) z.cells.toList
 zsoft:softs l.zero=true
 flds:l.flds ≠ []->∃ fields,P.underlying t=some (.struct fields)/\fields.toList.mapM (fun f=>(P.info? f.type).map fun i=>(f.offset,i.size))=some l.flds/\fields.toList.map (·.type)=l.ftys
 fpos:∀ p ∈ l.flds,p.2 ≠ 0
theorem elB_ok {P:Program} {l:ZL} (h:elB P l=true):ZEl P l:=by
 unfold elB at h
 split at h
 ·rename_i i hi
  simp only [Bool.and_eq_true] at h
  obtain ⟨⟨⟨⟨⟨⟨⟨h1,h2⟩,h3⟩,h4⟩,h5⟩,h6⟩,h8⟩,h7⟩:=h
  split at h7
  ·rename_i z hz
   exact ⟨⟨i,z,hi,nbeq_yes h1,nbeq_yes h2,hz,fun bm w=>zeroB_rel bm w _ _ h7⟩,nble_yes h3,nble_yes h4,nble_yes h5,h6,nbeq_yes h8⟩
  ·cases h7
 ·cases h
theorem zlB_ok {P:Program} {t:Nat} {l:ZL} (h:zlB P t l=true):ZOK P t l:=by
 unfold zlB at h
 split at h
 ·rename_i i d hi hd
  simp only [Bool.and_eq_true,decide_eq_true_eq,Bool.or_eq_true,beq_iff_eq] at h
  obtain ⟨⟨⟨⟨⟨⟨⟨h1,h2⟩,h0⟩,h3⟩,h4⟩,h6⟩,h8⟩,h7⟩:=h
  have hk:∀ n,l.kd=n->n ≠ 11->kindB P l.el n d=true:=fun n hn h11=>by
   subst hn
   rw [nbeq_f h11] at h0
   exact h0
  refine ⟨by rw [hi]; simp [h1],⟨d,hd,h2⟩,fun ha=>h3.resolve_left (by simp [ha]),fun hb=>?_,fun hb=>?_,fun hb=>?_,fun hb=>?_,fun hb=>?_,fun k hb=>?_,?_,h6,fun hf=>?_,fun p hp=>?_⟩
  ·have:=hk 1 hb (by decide)
   cases d <;> simp [kindB] at this
   exact hd
  ·have:=hk 2 hb (by decide)
   cases d <;> simp only [kindB] at this <;> try (cases this; done)
   rename_i e
   exact ⟨e,hd⟩
  ·have:=hk 2 hb (by decide)
   cases d <;> simp only [kindB] at this <;> try (cases this; done)
   rename_i e
   split at this
   ·rename_i i' hi' _
    simp only [Bool.and_eq_true,decide_eq_true_eq] at this
    exact ⟨e,i',hd,hi',this.1.1.1,this.1.2,Vc.u0_eq this.2⟩
   ·cases this
  ·have:=hk 10 hb (by decide)
   rw [hb] at h8
   refine ⟨?_,elB_ok h8⟩
   cases d <;> simp only [kindB] at this <;> try (cases this; done)
   simp only [Nat.beq_eq] at this
   rw [hd,this]
  ·rw [hb] at h0
   simp only [nbeq_t,cond_true] at h0
   cases d <;> first | exact hd | (cases h0; done)
  ·refine (kindB_int (hk _ rfl fun e=>?_) hb) ▸ hd
   rw [e] at hb
   cases hb
  ·split at h4
   ·rename_i z hz
    exact ⟨i,z,hi,hz,fun bm w=>zeroB_rel bm w _ _ h4⟩
   ·cases h4
  ·split at h7
   ·rename_i fields
    simp only [Bool.and_eq_true,decide_eq_true_eq] at h7
    exact ⟨fields,hd,h7.1.1,h7.2⟩
   ·exact absurd (List.isEmpty_iff.1 h7) hf
  ·split at h7
   ·simp only [Bool.and_eq_true,decide_eq_true_eq,List.all_eq_true] at h7
    exact h7.1.2 p hp
   ·rw [List.isEmpty_iff.1 h7] at hp; cases hp
 ·cases h
def TyOK (P:Program) (L:Tr ZL):Prop:=∀ t l,L.get t=some l->ZOK P t l
def zint (op:BinOp) (k:IntKind) (a b:Int):Option Value :=
 match op with
 | .eql=>some (.bool (a == b))
 | .neq=>some (.bool (a != b))
 | .lss=>some (.bool (decide (a < b)))
 | .leq=>some (.bool (decide (a <= b)))
 | .gtr=>some (.bool (decide (a > b)))
 | .geq=>some (.bool (decide (a >= b)))
 | .add=>some (.int k (k.wrap (a+b)))
 | .sub=>some (.int k (k.wrap (a - b)))
 | .mul=>some (.int k (k.wrap (a*b)))
 | .quo=>bif decide (b=0) then none else some (.int k (k.wrap (a.tdiv b)))
 | .rem=>bif decide (b=0) then none else some (.int k (a.tmod b))
 | .and=>some (.int k (k.wrap (BitVec.ofInt k.bits a &&& BitVec.ofInt k.bits b).toNat))
 | .or=>some (.int k (k.wrap (BitVec.ofInt k.bits a ||| BitVec.ofInt k.bits b).toNat))
 | .xor=>some (.int k (k.wrap (BitVec.ofInt k.bits a ^^^ BitVec.ofInt k.bits b).toNat))
 | _=>none
noncomputable def lB (l:List UInt8):List UInt8->Bool:=List.rec (fun r=>List.rec true (fun _ _ _=>false) r) (fun x _ ih r=>List.rec false (fun y s _=>bif Nat.beq x.toNat y.toNat then ih s else false) r) l
theorem lB_eq:∀ l r,lB l r=(l == r)
 | [],[]=>rfl
 | [],_ :: _=>rfl
 | _ :: _,[]=>rfl
 | x :: l,y :: r=>by
   show (bif Nat.beq x.toNat y.toNat then lB l r else false)=_
   rw [lB_eq l r,List.cons_beq_cons]
   by_cases h:x=y
   ·subst h
    rw [nbeq_t]
    simp
   ·have h2:¬ x.toNat=y.toNat:=fun e=>h (UInt8.toNat_inj.1 e)
    rw [nbeq_f h2]
    simp [h]
noncomputable def zbin (bl:Bool) (op:BinOp) (x y:Value):Option Value :=
 match x with
 | .int k a =>
   match y with
   | .int k' b =>
     match op with
     | .shl=>bif decide (b < 0) then none else some (.int k (k.wrap (a*2 ^ (min b.toNat k.bits))))
     | .shr=>bif decide (b < 0) then none else some (.int k (a.fdiv (2 ^ (min b.toNat k.bits))))
     | op=>bif decide (k=k') then zint op k a b else none
   | _=>none
 | .string a =>
   match y with
   | .string b =>
     match op with
     | .eql=>some (.bool (lB a.data.toList b.data.toList))
     | .neq=>some (.bool (!(lB a.data.toList b.data.toList)))
     | _=>none
   | _=>none
 | .bool a =>
   match y with
   | .bool b =>
     bif bl then
      match op with
      | .eql=>some (.bool (a == b))
      | .neq=>some (.bool (a != b))
      | _=>none
     else none
   | _=>none
 | _=>none
theorem zbin_run {P:Program} {bl:Bool} {op:BinOp} {a b r:Value} (h:zbin bl op a b=some r) (T:TypeId) (hb:bl=true->∀ p,a=.bool p->P.underlying T=some .bool) (x y:Operand) (w:World):(do eqGuard op T x y a b; binOp op T a b:Sem Value).run P w=.ok r w/\r.oneCell'=true:=by
 unfold zbin at h
 split at h
 ·rename_i k a
  split at h
  ·rename_i k' b
   split at h
   ·cases hd:decide (b < 0) with
    | true=>rw [hd] at h; cases h
    | false =>
      rw [hd] at h
      simp only [decide_eq_false_iff_not] at hd
      simp only [cond_false,Option.some.injEq] at h
      subst h
      refine ⟨?_,rfl⟩
      simp [go_sem,Op.shift,hd]
   ·cases hd:decide (b < 0) with
    | true=>rw [hd] at h; cases h
    | false =>
      rw [hd] at h
      simp only [decide_eq_false_iff_not] at hd
      simp only [cond_false,Option.some.injEq] at h
      subst h
      refine ⟨?_,rfl⟩
      simp [go_sem,Op.shift,hd]
   ·by_cases hk:k=k'
    ·subst hk
     simp only [decide_true,cond_true] at h
     unfold zint at h
     split at h <;> (try (cases h; done))
     all_goals first
      | (simp only [Option.some.injEq] at h; subst h; refine ⟨?_,rfl⟩; simp [go_sem,Op.intArith,Op.intBits]; done)
      | (cases hd:decide (b=0) with
         | true=>rw [hd] at h; cases h
         | false =>
           rw [hd] at h
           simp only [decide_eq_false_iff_not] at hd
           simp only [cond_false,Option.some.injEq] at h
           subst h
           refine ⟨?_,rfl⟩
           simp [go_sem,Op.intDiv,hd])
    ·simp [hk] at h
  ·cases h
 ·rename_i p
  split at h
  ·rename_i q
   split at h <;> (try (cases h; done)) <;> simp only [Option.some.injEq] at h <;> subst h <;> refine ⟨?_,rfl⟩ <;> simp [go_sem,lB_eq,ByteArray.toList_eq]
  ·cases h
 ·rename_i p
  split at h
  ·rename_i q
   cases hbl:bl with
   | false=>simp [hbl] at h
   | true =>
     have hu:=hb hbl _ rfl
     simp only [hbl,cond_true] at h
     split at h <;> (try (cases h; done)) <;> simp only [Option.some.injEq] at h <;> subst h <;> refine ⟨?_,rfl⟩ <;> (simp [go_sem,binOp,run_equal_bool w T _ _ hu] <;> cases p <;> cases q <;> rfl)
  ·cases h
 ·cases h
end Zc
end Go.Proofs.YtkdjilgddbjcaaaGreat
namespace Go.Proofs.YtkdjilgddbjcaaaGreat
open Go.RowKit
namespace Zc
def evC:Value->KV
 | .int k n=>.k (.c (.v (.int k n)))
 | .bool b=>.k (.c (.v (.bool b)))
 | .string s=>.k (.c (.v (.string s)))
 | .slice none 0 0=>.k (.c (.v (.slice none 0 0)))
 | .pointer none=>.k (.c (.v (.pointer none)))
 | .nilFunc=>.k (.c (.v .nilFunc))
 | _=>.u
noncomputable def evO (tm:Fr KV):Operand->KV
 | .tmp t=>Option.rec .u (fun x=>x) (tm.get t)
 | .const v=>evC v
 | .func f=>.k (.c (.fn f []))
 | .global _=>.u
theorem evC_rel (bm:BM) (w:World) (v:Value):relV bm w (evC v) v:=by
 unfold evC
 split <;> first | trivial | exact ⟨rfl,rfl⟩
def KK.cells:KK->List LF
 | .c x=>[x]
 | .g xs=>xs
theorem cells_rel {bm:BM} {w:World}:∀ {x:KK} {u:Value},relK bm w x u->relL bm w (flats x.cells) u.cells.toList
 | .c x,u,h=>by
   have h1:=rel1.one (bm:=bm) (w:=w) (x:=x) h
   have e:u.cells=#[u]:=by cases u <;> first | rfl | simp [Value.oneCell'] at h1
   rw [e]
   cases x <;> first | exact ⟨h,trivial⟩ | exact h.elim
 | .g xs,u,⟨us,e,h⟩=>by subst e; simp only [Value.cells]; exact h
def mkK (agg:Bool) (cs:List LF):Option KV :=
 match agg with
 | true=>some (.k (.g cs))
 | false =>
   match cs with
   | [x] =>
     match x with
     | .I _=>none
     | x=>some (.k (.c x))
   | _=>none
theorem mkK_rel {bm:BM} {w:World} {agg:Bool} {cs:List LF} {r:KV} {us:List Value} (h:mkK agg cs=some r) (k:relL bm w (flats cs) us):relV bm w r (if agg then .agg us.toArray else us.getD 0 undef):=by
 unfold mkK at h
 split at h
 ·simp only [Option.some.injEq] at h; subst h; exact ⟨us,rfl,k⟩
 ·split at h
  ·split at h
   ·cases h
   ·rename_i y _ hx
    simp only [Option.some.injEq] at h
    subst h
    have e:flats [y]=[y]:=by
     cases y <;> first | rfl | exact (hx _ rfl).elim
    rw [e] at k
    match us,k with
    | [u],k=>exact k.1
  ·cases h
def zNat:KV->Option Nat
 | .k (.c (.v (.int _ (.ofNat n))))=>some n
 | _=>none
theorem zNat_rel {bm:BM} {w:World} {x:KV} {n:Nat} {u:Value} (h:zNat x=some n) (k:relV bm w x u):∃ κ,u=.int κ (n:Int):=by
 unfold zNat at h
 split at h
 ·simp only [Option.some.injEq] at h
  subst h
  obtain ⟨rfl,_⟩:=k
  exact ⟨_,rfl⟩
 ·cases h
def zBnd (ev:Operand->KV):Option Operand->Option (Option Nat)
 | none=>some none
 | some x=>(zNat (ev x)).map some
noncomputable def zload (L:Tr ZL) (H:Hp Bx) (T:Nat) (x:KV):Option KV :=
 match x with
 | .k (.c (.p k off)) =>
   match L.get T with
   | some l =>
     match H.get k with
     | some b =>
       match cutW b.cs off l.size with
       | some cs=>mkK l.agg cs
       | none=>none
     | none=>none
   | none=>none
 | _=>none
def zpick (c a b:KV):Option KV :=
 match c with
 | .k (.c (.v (.bool p)))=>some (bif p then a else b)
 | _=>none
noncomputable def nth {α:Type} (l:List α):Nat->Option α:=List.rec (fun _=>none) (fun x _ ih n=>bif Nat.beq n 0 then some x else ih (Nat.sub n 1)) l
theorem nth_eq {α:Type}:∀ (l:List α) (n:Nat),nth l n=l[n]?
 | [],n=>by simp [nth]
 | x :: l,n=>by
   show (bif Nat.beq n 0 then some x else nth l (Nat.sub n 1))=_
   cases n with
   | zero=>rfl
   | succ n =>
     rw [nbeq_f (by omega)]
     simp only [cond_false,List.getElem?_cons_succ]
     exact nth_eq l n
noncomputable def zfaddr (L:Tr ZL) (S f:Nat) (x:KV):Option KV :=
 match x with
 | .k (.c (.p k off)) =>
   match L.get S with
   | some l =>
     match nth l.flds f with
     | some d=>some (.k (.c (.p k (Nat.add off d.1))))
     | none=>none
   | none=>none
 | _=>none
noncomputable def zidx (L:Tr ZL) (T:Nat) (x y:KV):Option KV :=
 match x with
 | .k (.c (.s k off n _ sz)) =>
   match zNat y with
   | some i =>
     match L.get T with
     | some d=>bif Nat.ble (Nat.succ i) n && Nat.beq d.kd 10 && Nat.beq d.esz sz then some (.k (.c (.p k (Nat.add off (Nat.mul i sz))))) else none
     | none=>none
   | none=>none
 | _=>none
def zext (i:Nat) (x:KV):Option KV :=
 match x with
 | .t xs =>
   match xs[i]? with
   | some y=>some (.k y)
   | none=>none
 | _=>none
noncomputable def znils (L:Tr ZL) (op:BinOp) (T:Nat) (c:Bool) (y:KV):Option KV :=
 match y with
 | .k (.c (.v (.slice none 0 0))) =>
   match L.get T with
   | some l =>
     bif Nat.beq l.kd 10 then
      match op with
      | .eql=>some (.k (.c (.v (.bool c))))
      | .neq=>some (.k (.c (.v (.bool (!c)))))
      | _=>none
     else none
   | none=>none
 | _=>none
noncomputable def zbinop (L:Tr ZL) (op:BinOp) (T:Nat) (x y:KV):Option KV :=
 match x with
 | .k (.c (.s _ _ _ c _))=>bif Nat.ble 1 c then znils L op T false y else none
 | .k (.c (.v (.slice none 0 0)))=>znils L op T true y
 | .k (.c (.v a)) =>
   match y with
   | .k (.c (.v b)) =>
     match zbin (match a with | .bool _=>(match L.get T with | some l=>Nat.beq l.kd 1 | none=>false) | _=>false) op a b with
     | some r=>some (.k (.c (.v r)))
     | none=>none
   | _=>none
 | _=>none
def zun (op:UnOp) (x:KV):Option KV :=
 match x with
 | .k (.c (.v (.bool b)))=>match op with | .not=>some (.k (.c (.v (.bool (!b))))) | _=>none
 | .k (.c (.v (.int k n)))=>match op with | .neg=>some (.k (.c (.v (.int k (k.wrap (0 - n)))))) | _=>none
 | _=>none
noncomputable def zfill (ev:Operand->KV) (flds:List (Nat × Nat)) (ps:List (Nat × Operand)):List LF->Option (List LF) :=
 List.rec (fun cs=>some cs) (fun p _ ih cs =>
  match nth flds p.1 with
  | some d =>
    match ev p.2 with
    | .k y =>
      bif Nat.beq (wid y.cells) d.2 then
       match updW cs d.1 y.cells with
       | some cs'=>ih cs'
       | none=>none
      else none
    | _=>none
  | none=>none) ps
noncomputable def zbuild (L:Tr ZL) (ev:Operand->KV) (T:Nat) (parts:Array (Nat × Operand)):Option KV :=
 match L.get T with
 | some l =>
   match l.flds with
   | []=>none
   | _ :: _ =>
     match zfill ev l.flds parts.toList l.zero with
     | some cs=>some (.k (.g cs))
     | none=>none
 | none=>none
noncomputable def zconv (L:Tr ZL) (S D:Nat) (x:KV):Option KV :=
 match x with
 | .k (.c (.v (.int _ n))) =>
   match L.get S with
   | some _ =>
     match L.get D with
     | some d =>
       match Vc.kdInt d.kd with
       | some k=>some (.k (.c (.v (.int k (k.wrap n)))))
       | none=>none
     | none=>none
   | none=>none
 | _=>none
def znil (x:KV):Option KV :=
 match x with
 | .k (.c (.p k off))=>some (.k (.c (.p k off)))
 | _=>none
def zptrs (ev:Operand->KV):List Operand->Option (List (Nat × Nat))
 | []=>some []
 | x :: r =>
   match ev x with
   | .k (.c (.p k off)) =>
     match zptrs ev r with
     | some l=>some ((k,off) :: l)
     | none=>none
   | _=>none
def zmkf (ev:Operand->KV) (fn:Fn) (first captured:Array Operand):Option KV :=
 match fn with
 | .func f =>
   match first.toList with
   | [] =>
     match zptrs ev captured.toList with
     | some ks=>some (.k (.c (.fn f ks)))
     | none=>none
   | _ :: _=>none
 | _=>none
noncomputable def zindex (L:Tr ZL) (T:Nat) (x y:KV):Option KV :=
 match x with
 | .k (.c (.v (.string s))) =>
   match zNat y with
   | some i =>
     match L.get T with
     | some d =>
       match s[i]? with
       | some b=>bif Nat.beq d.kd 11 then some (.k (.c (.v (.int .u8 b.toNat)))) else none
       | none=>none
     | none=>none
   | none=>none
 | _=>none
noncomputable def zfield (L:Tr ZL) (T f:Nat) (x:KV):Option KV :=
 match x with
 | .k (.g xs) =>
   match L.get T with
   | some l =>
     match nth l.flds f with
     | some d =>
       match nth l.ftys f with
       | some U =>
         match L.get U with
         | some u =>
           bif Nat.beq u.size d.2 then
            match cutW xs d.1 d.2 with
            | some cs=>mkK u.agg cs
            | none=>none
           else none
         | none=>none
       | none=>none
     | none=>none
   | none=>none
 | _=>none
noncomputable def zsl0 (L:Tr ZL) (T:Nat) (lo hi mx:Option (Option Nat)):Option KV :=
 match L.get T with
 | some d =>
   match lo with
   | some lo =>
     match hi with
     | some hi =>
       match mx with
       | some none=>bif Nat.beq d.kd 10 && Nat.beq (lo.getD 0) 0 && Nat.beq (hi.getD 0) 0 then some (.k (.c .e0)) else none
       | _=>none
     | none=>none
   | none=>none
 | none=>none
noncomputable def zsl (L:Tr ZL) (T:Nat) (x:KV) (lo hi mx:Option (Option Nat)):Option KV :=
 match x with
 | .k (.c .e0)=>zsl0 L T lo hi mx
 | .k (.c (.v (.slice none 0 0)))=>zsl0 L T lo hi mx
 | .k (.c (.s k off n c sz)) =>
   match L.get T with
   | some d =>
     match lo with
     | some lo =>
       match hi with
       | some hi =>
         match mx with
         | some mx =>
           bif Nat.beq d.kd 10 && Nat.beq d.esz sz then
            (fun (h l:Nat) =>
             bif Nat.ble l h then
              match mx with
              | none=>bif Nat.ble h n || Nat.ble h c then some (.k (.c (.s k (Nat.add off (Nat.mul l sz)) (Nat.sub h l) (Nat.sub c l) sz))) else none
              | some m=>bif hi.isSome && Nat.ble h m && Nat.ble m c then (bif Nat.beq m l then some (.k (.c .e0)) else some (.k (.c (.s k (Nat.add off (Nat.mul l sz)) (Nat.sub h l) (Nat.sub m l) sz)))) else none
             else none) (hi.getD n) (lo.getD 0)
           else none
         | none=>none
       | none=>none
     | none=>none
   | none=>none
 | _=>none
noncomputable def zlen (L:Tr ZL) (T:Nat) (x:KV):Option KV :=
 match L.get T with
 | some d =>
   match x with
   | .k (.c (.s _ _ n _ _))=>bif Nat.beq d.kd 10 then some (.k (.c (.v (.int .i64 (.ofNat n))))) else none
   | .k (.c .e0)=>bif Nat.beq d.kd 10 then some (.k (.c (.v (.int .i64 (.ofNat 0))))) else none
   | .k (.c (.v (.slice none 0 0)))=>bif Nat.beq d.kd 10 then some (.k (.c (.v (.int .i64 (.ofNat 0))))) else none
   | .k (.c (.v (.string s)))=>bif Nat.beq d.kd 11 then some (.k (.c (.v (.int .i64 (.ofNat s.size))))) else none
   | .k (.c (.sl l))=>bif Nat.beq d.kd 2 then some (.k (.c (.v (.int .i64 (.ofNat (len l)))))) else none
   | _=>none
 | none=>none
noncomputable def zcap (L:Tr ZL) (T:Nat) (x:KV):Option KV :=
 match L.get T with
 | some d =>
   match x with
   | .k (.c .e0)=>bif Nat.beq d.kd 10 then some (.k (.c (.v (.int .i64 (.ofNat 0))))) else none
   | .k (.c (.v (.slice none 0 0)))=>bif Nat.beq d.kd 10 then some (.k (.c (.v (.int .i64 (.ofNat 0))))) else none
   | _=>none
 | none=>none
def zmin (x y:KV):Option KV :=
 match x with
 | .k (.c (.v (.int k a))) =>
   match y with
   | .k (.c (.v (.int _ b)))=>some (.k (.c (.v (.int k (bif decide (b < a) then b else a)))))
   | _=>none
 | _=>none
def zmax (x y:KV):Option KV :=
 match x with
 | .k (.c (.v (.int k a))) =>
   match y with
   | .k (.c (.v (.int _ b)))=>some (.k (.c (.v (.int k (bif decide (b > a) then b else a)))))
   | _=>none
 | _=>none
noncomputable def zfold (g:KV->KV->Option KV) (ev:Operand->KV) (l:List Operand):KV->Option KV:=List.rec (fun a=>some a) (fun x _ ih a=>match g a (ev x) with | some b=>ih b | none=>none) l
noncomputable def zbuil (L:Tr ZL) (ev:Operand->KV) (b:Builtin) (args:List Operand) (tys:List Nat):Option KV :=
 match b with
 | .len=>match args with | [x]=>(match tys with | [T]=>zlen L T (ev x) | _=>none) | _=>none
 | .cap=>match args with | [x]=>(match tys with | [T]=>zcap L T (ev x) | _=>none) | _=>none
 | .min=>match args with | x :: l=>zfold zmin ev l (ev x) | []=>none
 | .max=>match args with | x :: l=>zfold zmax ev l (ev x) | []=>none
 | _=>none
noncomputable def zcallp (L:Tr ZL) (ev:Operand->KV) (c:Call):Option KV :=
 match c.callee with
 | .builtin b=>zbuil L ev b c.args.toList c.argTypes.toList
 | _=>none
noncomputable def zpure (L:Tr ZL) (H:Hp Bx) (ev:Operand->KV) (op:Op):Option KV :=
 match op with
 | .move x=>some (ev x)
 | .assign x=>some (ev x)
 | .pick c a b=>zpick (ev c) (ev a) (ev b)
 | .load T x=>zload L H T (ev x)
 | .fieldAddr S x f=>zfaddr L S f (ev x)
 | .indexAddr T x y=>zidx L T (ev x) (ev y)
 | .slice T x lo hi mx=>zsl L T (ev x) (zBnd ev lo) (zBnd ev hi) (zBnd ev mx)
 | .extract x i=>zext i (ev x)
 | .binOp op T x y _=>zbinop L op T (ev x) (ev y)
 | .unOp op _ x=>zun op (ev x)
 | .build T parts=>zbuild L ev T parts
 | .convert S D x=>zconv L S D (ev x)
 | .nilCheck x=>znil (ev x)
 | .makeFunc fn first captured=>zmkf ev fn first captured
 | .index T x y=>zindex L T (ev x) (ev y)
 | .field T x f=>zfield L T f (ev x)
 | .call c=>zcallp L ev c
 | _=>none
end Zc
end Go.Proofs.YtkdjilgddbjcaaaGreat
namespace Go.Proofs.YtkdjilgddbjcaaaGreat
open Go.RowKit
namespace Zc
open Vc (run_v run_u mapM_get kdInt rangeAt_of_heap foldl_put run_indexAny run_len)
section
variable {P:Program} {L:Tr ZL} {H:Hp Bx} {bm:BM} {w:World}
theorem zrun_fieldAt {t:Nat} {l:ZL} (hl:ZOK P t l) {f:Nat} {d:Nat × Nat} (hd:l.flds[f]?=some d) (b off:Nat) (w:World) :
    (Instr.fieldAt t (.pointer (some ⟨b,off,none⟩)) f).run P w=.ok (.pointer (some ⟨b,off+d.1,none⟩)) w:=by
 have hne:l.flds ≠ []:=by intro e; rw [e] at hd; simp at hd
 obtain ⟨fields,hu,hm,_⟩:=hl.flds hne
 obtain ⟨x,hx,hfx⟩:=mapM_get hm f d hd
 have hx':fields[f]?=some x:=by simpa using hx
 cases hi:P.info? x.type with
 | none=>simp [hi] at hfx
 | some i =>
   simp only [hi,Option.map_some,Option.some.injEq] at hfx
   subst hfx
   have hp:=hl.fpos _ (List.mem_of_getElem? hd)
   have hs:(sizeOf x.type).run P w=.ok i.size w:=by simp [sizeOf,typeInfo,hi]
   have hfp:(fieldPlace ⟨b,off,none⟩ x).run P w=.ok ⟨b,off+x.offset,none⟩ w:=by
    unfold fieldPlace
    rw [Sem.run_bind,hs]
    simp only [Result.andThen_ok]
    rw [if_neg hp,Sem.run_pure,addr_plain]
   simp [Instr.fieldAt,run_underlying hu,hx',Instr.sureAddr,hfp]
theorem zagg {t:Nat} {l:ZL} (hl:ZOK P t l) (w:World):(isAgg t).run P w=.ok l.agg w:=by
 obtain ⟨d,hu,hd⟩:=hl.desc
 unfold isAgg
 rw [Sem.run_bind,run_underlying hu w]
 cases d <;> simp_all [TypeDesc.isRow]
theorem zrun_load {t:Nat} {l:ZL} (hl:ZOK P t l) (b off:Nat) (w:World) (us:List Value) (hlen:us.length=l.size) (h:w.rangeAt b off us) :
    (Instr.loadAt t (.pointer (some ⟨b,off,none⟩))).run P w=.ok (if l.agg then .agg us.toArray else us.getD 0 undef) w:=by
 obtain ⟨d,hu,hd⟩:=hl.desc
 cases ha:l.agg with
 | true =>
   rw [if_pos rfl]
   exact run_loadAt_mid w b off t us d h hu (by rw [hd,ha]) (by rw [hlen]; exact hl.size)
 | false =>
   rw [if_neg (by decide)]
   have h1:=hl.one ha
   rw [h1] at hlen
   match us,hlen with
   | [u],_ =>
     have hc:=h 0 u rfl
     rw [Nat.add_zero] at hc
     have hagg:=zagg hl w
     rw [ha] at hagg
     simp [Instr.loadAt,Instr.sureAddr,loadVar,hagg,hc]
theorem zrun_part {t:Nat} {l:ZL} (hl:ZOK P t l) (cs:List Value) (off:Nat) (w:World) (us:List Value) (hlen:us.length=l.size) (h:us=(cs.drop off).take l.size) :
    (part t cs.toArray off).run P w=.ok (if l.agg then .agg us.toArray else us.getD 0 undef) w:=by
 have hagg:=zagg hl w
 have hsz:(sizeOf t).run P w=.ok l.size w:=by
  have:=hl.size
  simp only [Option.map_eq_some_iff] at this
  obtain ⟨i,hi,e⟩:=this
  simp [sizeOf,typeInfo,hi,e]
 cases ha:l.agg with
 | true =>
   rw [ha] at hagg
   simp [part,hagg,hsz,h]
 | false =>
   rw [ha] at hagg
   have h1:=hl.one ha
   rw [h1] at hlen h
   match us,hlen with
   | [u],_ =>
     have hu:cs[off]?=some u:=by
      have e:((cs.drop off).take 1)[0]?=some u:=by rw [<- h]; rfl
      rw [List.getElem?_take_of_lt (by omega),List.getElem?_drop] at e
      simpa using e
     simp [part,hagg,hu]
theorem zfill_run {ev:Operand->KV} {ρ:Operand->Value} (flds:List (Nat × Nat)) :
    ∀ (parts:List (Nat × Operand)) (cs r:List LF) (us:List Value),(∀ p ∈ parts,relV bm w (ev p.2) (ρ p.2))->zfill ev flds parts cs=some r->relL bm w (flats cs) us ->
      ∃ vs:List Value,Instr.fill (flds.toArray[·]?) us.toArray (parts.map fun (i,x)=>(i,ρ x))=some vs.toArray/\relL bm w (flats r) vs
 | [],cs,r,us,_,h,k=>by
   have e:cs=r:=by simpa [zfill] using h
   subst e
   exact ⟨us,rfl,k⟩
 | (i,x) :: parts,cs,r,us,hev,h,k=>by
   have h':(match nth flds i with
    | some d =>
      match ev x with
      | .k y =>
        bif Nat.beq (wid y.cells) d.2 then
         match updW cs d.1 y.cells with
         | some cs'=>zfill ev flds parts cs'
         | none=>none
        else none
      | _=>none
    | none=>none)=some r:=h
   rw [nth_eq] at h'
   split at h' <;> try (cases h'; done)
   rename_i d hf
   split at h' <;> try (cases h'; done)
   rename_i y hx
   cases hc:Nat.beq (wid y.cells) d.2 with
   | false=>rw [hc] at h'; simp at h'
   | true =>
     rw [hc] at h'
     simp only [cond_true] at h'
     have hn:=nbeq_yes hc
     split at h' <;> try (cases h'; done)
     rename_i cs' hu
     obtain ⟨off,n⟩:=d
     simp only at hn hu
     have hr:=hev (i,x) (List.mem_cons_self ..)
     simp only at hr
     rw [hx] at hr
     have hy:=cells_rel hr
     have hyl:=hy.len
     obtain ⟨he,hle⟩:=updW_spec hu
     rw [hn] at he hle
     have kl:=k.len
     have k2:relL bm w (flats cs') (us.take off ++ (ρ x).cells.toList ++ us.drop (off+n)):=by
      rw [he]
      exact relL.append (relL.append (k.take off) hy) (k.drop (off+n))
     have hsz:(ρ x).cells.size=n:=by
      rw [<- hn,<- wid_eq,hyl]; simp
     obtain ⟨vs,h1,h2⟩:=zfill_run flds parts cs' r _ (fun p hp=>hev p (List.mem_cons_of_mem _ hp)) h' k2
     refine ⟨vs,?_,h2⟩
     simp only [List.map_cons]
     unfold Instr.fill
     have hp:flds.toArray[i]?=some (off,n):=by simpa using hf
     simp only [hp]
     have hcnd:((decide ((ρ x).cells.size ≠ n) || decide (off+(ρ x).cells.size > us.toArray.size)):Bool)=false:=by
      simp [hsz]; omega
     simp only [hcnd]
     have hput:=foldl_put (ρ x).cells.toList off 0 us (by simp [hsz]; omega)
     simp only [Nat.add_zero,Array.length_toList,hsz] at hput
     have hz:(ρ x).cells.zipIdx.foldl (fun (cs:Array Value) (p:Value × Nat)=>cs.setIfInBounds (off+p.2) p.1) us.toArray=(us.take off ++ (ρ x).cells.toList ++ us.drop (off+n)).toArray:=by
      rw [<- Array.toList_inj]
      rw [<- hput]
      rw [<- Array.foldl_toList]
      simp
     simp only [Bool.false_eq_true,if_false]
     rw [<- h1]
     congr 1
theorem zptrs_rel {ev:Operand->KV} {ρ:Operand->Value}:∀ {l:List Operand} {ks:List (Nat × Nat)},(∀ x ∈ l,relV bm w (ev x) (ρ x))->zptrs ev l=some ks->relP bm ks (l.map ρ)
 | [],ks,_,h=>by
   simp only [zptrs,Option.some.injEq] at h
   subst h
   trivial
 | x :: l,ks,hev,h=>by
   unfold zptrs at h
   split at h <;> try (cases h; done)
   rename_i k off hx
   split at h <;> try (cases h; done)
   rename_i r hr
   simp only [Option.some.injEq] at h
   subst h
   have h1:=hev x (List.mem_cons_self ..)
   rw [hx] at h1
   exact ⟨h1,zptrs_rel (fun y hy=>hev y (List.mem_cons_of_mem _ hy)) hr⟩
end
end Zc
end Go.Proofs.YtkdjilgddbjcaaaGreat
namespace Go.Proofs.YtkdjilgddbjcaaaGreat
open Go.RowKit
namespace Zc
open Vc (run_v run_u mapM_get kdInt rangeAt_of_heap foldl_put run_indexAny run_len)
section
variable {P:Program} {L:Tr ZL} {H:Hp Bx} {bm:BM} {w:World}
theorem zrun_bound (y n:Nat) (κ:IntKind) (code:BoundsCode) (h:n <= y):(Instr.sliceBound (.int κ (n:Int)) y code).run P w=.ok n w:=by
 have h1:(0:Int) <= (n:Int)/\(n:Int) <= (y:Int):=⟨by omega,by omega⟩
 simp [Instr.sliceBound,asIntOf,h]
theorem zrun_bounds {len cap:Nat} {lo hi mx:Option Value} {l h m:Nat} (hm:mx=none/\m=cap \/ ∃ κ,mx=some (.int κ (m:Int))/\m <= cap) (hh:hi=none/\mx=none/\h=len \/ ∃ κ,hi=some (.int κ (h:Int))/\h <= m) (hl:lo=none/\l=0 \/ ∃ κ,lo=some (.int κ (l:Int))/\l <= h) :
    (Instr.sliceBounds true len cap lo hi mx).run P w=.ok (l,h,m) w:=by
 rcases hm with ⟨rfl,rfl⟩ | ⟨κ,rfl,hm⟩ <;> rcases hh with ⟨rfl,hn,rfl⟩ | ⟨κ',rfl,hh⟩ <;> (try (cases hn; done)) <;> rcases hl with ⟨rfl,rfl⟩ | ⟨κ'',rfl,hl⟩ <;> simp [Instr.sliceBounds,zrun_bound, *]
theorem zrun_slice {T e:Nat} {ie:TypeInfo} (hu:P.underlying T=some (.slice e)) (hi':P.info? e=some ie) {len cap:Nat} {lo hi mx:Option Value} {l h m:Nat} (hm:mx=none/\m=cap \/ ∃ κ,mx=some (.int κ (m:Int))/\m <= cap) (hh:hi=none/\mx=none/\h=len \/ ∃ κ,hi=some (.int κ (h:Int))/\h <= m) (hl:lo=none/\l=0 \/ ∃ κ,lo=some (.int κ (l:Int))/\l <= h) (a:Option Addr) :
    (Instr.sliceAt T (.slice a len cap) lo hi mx).run P w=.ok (.slice (if m=l then a else a.map (·.add (l*ie.size))) (h - l) (m - l)) w:=by
 have hb:=zrun_bounds (P:=P) (w:=w) (len:=len) hm hh hl
 have hsize:(sizeOf e).run P w=.ok ie.size w:=by simp [sizeOf,typeInfo,hi']
 simp [Instr.sliceAt,run_underlying hu,Instr.slice,hb,hsize]
theorem zBnd_rel {ev:Operand->KV} {ρ:Operand->Value} {x:Option Operand} {r:Option Nat} (hev:∀ y,x=some y->relV bm w (ev y) (ρ y)) (h:zBnd ev x=some r):(x.map ρ=none/\r=none) \/ ∃ κ,∃ n:Nat,x.map ρ=some (.int κ (n:Int))/\r=some n:=by
 cases x with
 | none=>simp only [zBnd,Option.some.injEq] at h; exact .inl ⟨rfl,h.symm⟩
 | some y =>
   simp only [zBnd,Option.map_eq_some_iff] at h
   obtain ⟨n,hn,rfl⟩:=h
   obtain ⟨κ,e⟩:=zNat_rel hn (hev y rfl)
   exact .inr ⟨κ,n,by simp [e],rfl⟩
theorem SzAt.mono {b N M:Nat} (h:SzAt w b N) (hle:M <= N):SzAt w b M:=by
 obtain ⟨vs,T,h1,h2⟩:=h
 exact ⟨vs,T,h1,Nat.le_trans hle h2⟩
theorem zsl0_run (hL:TyOK P L) {T:Nat} {a:Option Addr} {lo hi mx:Option (Option Nat)} {r:KV} {vlo vhi vmx:Option Value} (h:zsl0 L T lo hi mx=some r)
    (hlo:∀ q,lo=some q->(vlo=none/\q=none) \/ ∃ κ,∃ n:Nat,vlo=some (.int κ (n:Int))/\q=some n) (hhi:∀ q,hi=some q->(vhi=none/\q=none) \/ ∃ κ,∃ n:Nat,vhi=some (.int κ (n:Int))/\q=some n) (hmx:∀ q,mx=some q->(vmx=none/\q=none) \/ ∃ κ,∃ n:Nat,vmx=some (.int κ (n:Int))/\q=some n) :
    ∃ v,(Instr.sliceAt T (.slice a 0 0) vlo vhi vmx).run P w=.ok v w/\relV bm w r v:=by
 unfold zsl0 at h
 split at h <;> try (cases h; done)
 rename_i d hd
 split at h <;> try (cases h; done)
 rename_i lo
 split at h <;> try (cases h; done)
 rename_i hi
 split at h <;> try (cases h; done)
 cases hc:(Nat.beq d.kd 10 && Nat.beq (lo.getD 0) 0 && Nat.beq (hi.getD 0) 0) with
 | false=>rw [hc] at h; simp at h
 | true =>
   rw [hc] at h
   simp only [cond_true,Option.some.injEq] at h
   subst h
   simp only [Bool.and_eq_true] at hc
   obtain ⟨hu,he⟩:=(hL T d hd).slice (nbeq_yes hc.1.1)
   obtain ⟨ie,z,hie,hies,_⟩:=he.info
   have e1:=nbeq_yes hc.1.2
   have e2:=nbeq_yes hc.2
   have hvm:vmx=none:=by
    rcases hmx none rfl with ⟨e,_⟩ | ⟨κ,m,_,e⟩
    ·exact e
    ·cases e
   have hl':vlo=none/\(0:Nat)=0 \/ ∃ κ,vlo=some (.int κ ((0:Nat):Int))/\(0:Nat) <= 0:=by
    rcases hlo lo rfl with ⟨e,_⟩ | ⟨κ,m,e,rfl⟩
    ·exact .inl ⟨e,rfl⟩
    ·simp only [Option.getD_some] at e1
     subst e1
     exact .inr ⟨κ,e,Nat.le_refl _⟩
   have hh':vhi=none/\vmx=none/\(0:Nat)=0 \/ ∃ κ,vhi=some (.int κ ((0:Nat):Int))/\(0:Nat) <= 0:=by
    rcases hhi hi rfl with ⟨e,_⟩ | ⟨κ,m,e,rfl⟩
    ·exact .inl ⟨e,hvm,rfl⟩
    ·simp only [Option.getD_some] at e2
     subst e2
     exact .inr ⟨κ,e,Nat.le_refl _⟩
   exact ⟨_,zrun_slice hu hie (cap:=0) (m:=0) (.inl ⟨hvm,rfl⟩) hh' hl' a,_,rfl⟩
theorem zsl_run (hL:TyOK P L) {T:Nat} {x:KV} {u:Value} {lo hi mx:Option (Option Nat)} {r:KV} {vlo vhi vmx:Option Value} (h:zsl L T x lo hi mx=some r) (hx:relV bm w x u)
    (hlo:∀ q,lo=some q->(vlo=none/\q=none) \/ ∃ κ,∃ n:Nat,vlo=some (.int κ (n:Int))/\q=some n) (hhi:∀ q,hi=some q->(vhi=none/\q=none) \/ ∃ κ,∃ n:Nat,vhi=some (.int κ (n:Int))/\q=some n) (hmx:∀ q,mx=some q->(vmx=none/\q=none) \/ ∃ κ,∃ n:Nat,vmx=some (.int κ (n:Int))/\q=some n) :
    ∃ v,(Instr.sliceAt T u vlo vhi vmx).run P w=.ok v w/\relV bm w r v:=by
 unfold zsl at h
 split at h <;> try (cases h; done)
 ·obtain ⟨a,rfl⟩:=hx
  exact zsl0_run hL h hlo hhi hmx
 ·obtain ⟨rfl,_⟩:=hx
  exact zsl0_run hL h hlo hhi hmx
 rename_i k off n c sz
 split at h <;> try (cases h; done)
 rename_i d hd
 split at h <;> try (cases h; done)
 rename_i lo
 split at h <;> try (cases h; done)
 rename_i hi
 split at h <;> try (cases h; done)
 rename_i mx
 cases hc:(Nat.beq d.kd 10 && Nat.beq d.esz sz) with
 | false=>rw [hc] at h; simp at h
 | true =>
   rw [hc] at h
   simp only [cond_true] at h
   simp only [Bool.and_eq_true] at hc
   obtain ⟨hu,he⟩:=(hL T d hd).slice (nbeq_yes hc.1)
   have hsz:=nbeq_yes hc.2
   obtain ⟨ie,z,hie,hies,_⟩:=he.info
   obtain ⟨b,c',a,hb,rfl,hcc,hnc,ha⟩:=hx
   have hlo':=hlo lo rfl
   have hhi':=hhi hi rfl
   have hmx':=hmx mx rfl
   generalize hh:hi.getD n=h' at h
   generalize hl:lo.getD 0=l' at h
   cases hlh:Nat.ble l' h' with
   | false=>rw [hlh] at h; simp at h
   | true =>
     rw [hlh] at h
     simp only [cond_true] at h
     have hlh':=nble_yes hlh
     have hl':vlo=none/\l'=0 \/ ∃ κ,vlo=some (.int κ (l':Int))/\l' <= h':=by
      rcases hlo' with ⟨e1,rfl⟩ | ⟨κ,m,e1,rfl⟩
      ·exact .inl ⟨e1,hl.symm⟩
      ·simp only [Option.getD_some] at hl
       subst hl
       exact .inr ⟨κ,e1,hlh'⟩
     cases mx with
     | none =>
       simp only at h
       have hvm:vmx=none:=by
        rcases hmx' with ⟨e1,_⟩ | ⟨κ,m,_,e2⟩
        ·exact e1
        ·cases e2
       cases hq:(Nat.ble h' n || Nat.ble h' c) with
       | false=>rw [hq] at h; simp at h
       | true =>
         rw [hq] at h
         simp only [cond_true,Option.some.injEq] at h
         subst h
         have hle:h' <= c':=by
          simp only [Bool.or_eq_true] at hq
          rcases hq with e | e <;> have:=nble_yes e <;> omega
         have hh':vhi=none/\vmx=none/\h'=n \/ ∃ κ,vhi=some (.int κ (h':Int))/\h' <= c':=by
          rcases hhi' with ⟨e1,rfl⟩ | ⟨κ,m,e1,rfl⟩
          ·exact .inl ⟨e1,hvm,hh.symm⟩
          ·simp only [Option.getD_some] at hh
           subst hh
           exact .inr ⟨κ,e1,hle⟩
         refine ⟨_,zrun_slice hu hie (m:=c') (.inl ⟨hvm,rfl⟩) hh' hl' a,b,c' - l',_,hb,rfl,?_,?_,fun h0=>?_⟩
         ·show c - l' <= c' - l'; omega
         ·show h' - l' <= c' - l'; omega
         ·have hne:c' ≠ l':=by omega
          obtain ⟨ea,es⟩:=ha (by omega)
          subst ea
          refine ⟨by simp [hne,hies,hsz,addr_plain],?_⟩
          have e1:off+c'*sz=Nat.add off (Nat.mul l' sz)+(c' - l')*sz:=by
           show off+c'*sz=off+l'*sz+(c' - l')*sz
           have e2:l'*sz+(c' - l')*sz=c'*sz:=by
            rw [<- Nat.add_mul]
            congr 1
            omega
           omega
          rw [<- e1]
          exact es
     | some m =>
       simp only at h
       obtain ⟨κm,hvm⟩:∃ κ,vmx=some (.int κ (m:Int)):=by
        rcases hmx' with ⟨_,e2⟩ | ⟨κ,m',e1,e2⟩
        ·cases e2
        ·simp only [Option.some.injEq] at e2
         subst e2
         exact ⟨κ,e1⟩
       cases hq:(hi.isSome && Nat.ble h' m && Nat.ble m c) with
       | false=>rw [hq] at h; simp at h
       | true =>
         rw [hq] at h
         simp only [cond_true] at h
         simp only [Bool.and_eq_true] at hq
         have hhm:=nble_yes hq.1.2
         have hmc:=nble_yes hq.2
         have hh':vhi=none/\vmx=none/\h'=n \/ ∃ κ,vhi=some (.int κ (h':Int))/\h' <= m:=by
          rcases hhi' with ⟨e1,rfl⟩ | ⟨κ,m,e1,rfl⟩
          ·cases hq.1.1
          ·simp only [Option.getD_some] at hh
           subst hh
           exact .inr ⟨κ,e1,hhm⟩
         have hrun:=zrun_slice (P:=P) (w:=w) hu hie (cap:=c') (.inr ⟨κm,hvm,by omega⟩) hh' hl' a
         cases hml:Nat.beq m l' with
         | true =>
           rw [hml] at h
           simp only [cond_true,Option.some.injEq] at h
           subst h
           have e:=nbeq_yes hml
           have e1:h' - l'=0:=by omega
           have e2:m - l'=0:=by omega
           refine ⟨_,hrun,?_⟩
           rw [e1,e2]
           exact ⟨_,rfl⟩
         | false =>
           rw [hml] at h
           simp only [cond_false,Option.some.injEq] at h
           subst h
           have hne:m ≠ l':=nbeq_no hml
           refine ⟨_,hrun,b,m - l',_,hb,rfl,Nat.le_refl _,?_,fun h0=>?_⟩
           ·show h' - l' <= m - l'; omega
           ·obtain ⟨ea,es⟩:=ha (by omega)
            subst ea
            refine ⟨by simp [hne,hies,hsz,addr_plain],es.mono ?_⟩
            show off+l'*sz+(m - l')*sz <= off+c'*sz
            have e2:l'*sz+(m - l')*sz=m*sz:=by
             rw [<- Nat.add_mul]
             congr 1
             omega
            have e3:m*sz <= c'*sz:=Nat.mul_le_mul_right _ (by omega)
            omega
theorem zrun_len_str {T:TypeId} (hu:P.underlying T=some .string) {c:Call} {o:Oper} (hop:o.op=.call c) {x:Operand} (hcal:c.callee=.builtin .len) (hargs:c.args.toList=[x]) (htys:c.argTypes.toList=[T]) {ρ:Operand->Value} {s:ByteArray} (he:ρ x=.string s) (w:World) :
    (execOp ρ o).run P w=.ok (.value (.int .i64 (s.size:Int))) w:=by
 have hargs':c.args=#[x]:=by rw [<- Array.toList_inj]; simpa using hargs
 have htys':c.argTypes=#[T]:=by rw [<- Array.toList_inj]; simpa using htys
 simp [execOp,hop,go_sem,hcal,hargs',htys',he,Builtin.len_,run_underlying hu,goInt]
theorem zrun_cap {T:TypeId} {e:TypeId} (hu:P.underlying T=some (.slice e)) {c:Call} {o:Oper} (hop:o.op=.call c) {x:Operand} (hcal:c.callee=.builtin .cap) (hargs:c.args.toList=[x]) (htys:c.argTypes.toList=[T]) {ρ:Operand->Value} {a:Option Addr} {n cap:Nat} (he:ρ x=.slice a n cap) (w:World) :
    (execOp ρ o).run P w=.ok (.value (.int .i64 (cap:Int))) w:=by
 have hargs':c.args=#[x]:=by rw [<- Array.toList_inj]; simpa using hargs
 have htys':c.argTypes=#[T]:=by rw [<- Array.toList_inj]; simpa using htys
 simp [execOp,hop,go_sem,hcal,hargs',htys',he,Builtin.cap_,run_underlying hu,goInt]
theorem zmin2 {x y r:KV} {u v:Value} (hx:relV bm w x u) (hy:relV bm w y v) (h:zmin x y=some r):∃ z,(Builtin.min2 u v).run P w=.ok z w/\relV bm w r z:=by
 unfold zmin at h
 split at h <;> try (cases h; done)
 rename_i k a
 split at h <;> try (cases h; done)
 rename_i k' b
 simp only [Option.some.injEq] at h
 subst h
 obtain ⟨rfl,_⟩:=hx
 obtain ⟨rfl,_⟩:=hy
 refine ⟨.int k (bif decide (b < a) then b else a),?_,rfl,rfl⟩
 by_cases h:b < a <;> simp [Builtin.min2,h]
theorem zmins {ev:Operand->KV} {ρ:Operand->Value}:∀ {l:List Operand} {a r:KV} {u:Value},relV bm w a u->(∀ x ∈ l,relV bm w (ev x) (ρ x))->zfold zmin ev l a=some r->∃ z,((l.map ρ).foldlM Builtin.min2 u).run P w=.ok z w/\relV bm w r z
 | [],a,r,u,ha,_,h=>by
   have e:a=r:=by simpa [zfold] using h
   subst e
   exact ⟨u,by simp,ha⟩
 | x :: l,a,r,u,ha,hl,h=>by
   have h':(match zmin a (ev x) with | some b=>zfold zmin ev l b | none=>none)=some r:=h
   split at h' <;> try (cases h'; done)
   rename_i b hb
   obtain ⟨z,h1,h2⟩:=zmin2 (P:=P) ha (hl x (List.mem_cons_self ..)) hb
   obtain ⟨z',h3,h4⟩:=zmins h2 (fun y hy=>hl y (List.mem_cons_of_mem _ hy)) h'
   exact ⟨z',by simp [h1,h3],h4⟩
theorem zrun_min {c:Call} {o:Oper} (hop:o.op=.call c) {x:Operand} {l:List Operand} (hcal:c.callee=.builtin .min) (hargs:c.args.toList=x :: l) {ρ:Operand->Value} {z:Value} (h:((l.map ρ).foldlM Builtin.min2 (ρ x)).run P w=.ok z w) :
    (execOp ρ o).run P w=.ok (.value z) w:=by
 have hm:List.map ρ c.args.toList=ρ x :: l.map ρ:=by rw [hargs]; rfl
 simp [execOp,hop,go_sem,hcal,Builtin.min_,hm,h]
theorem zmax2 {x y r:KV} {u v:Value} (hx:relV bm w x u) (hy:relV bm w y v) (h:zmax x y=some r):∃ z,(Builtin.max2 u v).run P w=.ok z w/\relV bm w r z:=by
 unfold zmax at h
 split at h <;> try (cases h; done)
 rename_i k a
 split at h <;> try (cases h; done)
 rename_i k' b
 simp only [Option.some.injEq] at h
 subst h
 obtain ⟨rfl,_⟩:=hx
 obtain ⟨rfl,_⟩:=hy
 refine ⟨.int k (bif decide (b > a) then b else a),?_,rfl,rfl⟩
 by_cases h:b > a <;> simp [Builtin.max2,h]
theorem zmaxs {ev:Operand->KV} {ρ:Operand->Value}:∀ {l:List Operand} {a r:KV} {u:Value},relV bm w a u->(∀ x ∈ l,relV bm w (ev x) (ρ x))->zfold zmax ev l a=some r->∃ z,((l.map ρ).foldlM Builtin.max2 u).run P w=.ok z w/\relV bm w r z
 | [],a,r,u,ha,_,h=>by
   have e:a=r:=by simpa [zfold] using h
   subst e
   exact ⟨u,by simp,ha⟩
 | x :: l,a,r,u,ha,hl,h=>by
   have h':(match zmax a (ev x) with | some b=>zfold zmax ev l b | none=>none)=some r:=h
   split at h' <;> try (cases h'; done)
   rename_i b hb
   obtain ⟨z,h1,h2⟩:=zmax2 (P:=P) ha (hl x (List.mem_cons_self ..)) hb
   obtain ⟨z',h3,h4⟩:=zmaxs h2 (fun y hy=>hl y (List.mem_cons_of_mem _ hy)) h'
   exact ⟨z',by simp [h1,h3],h4⟩
theorem zrun_max {c:Call} {o:Oper} (hop:o.op=.call c) {x:Operand} {l:List Operand} (hcal:c.callee=.builtin .max) (hargs:c.args.toList=x :: l) {ρ:Operand->Value} {z:Value} (h:((l.map ρ).foldlM Builtin.max2 (ρ x)).run P w=.ok z w) :
    (execOp ρ o).run P w=.ok (.value z) w:=by
 have hm:List.map ρ c.args.toList=ρ x :: l.map ρ:=by rw [hargs]; rfl
 simp [execOp,hop,go_sem,hcal,Builtin.max_,hm,h]
theorem zbuil_sound (hL:TyOK P L) {ev:Operand->KV} {ρ:Operand->Value} {o:Oper} {c:Call} (hop:o.op=.call c) {b:Builtin} (hcal:c.callee=.builtin b) (hev:∀ x ∈ c.args.toList,relV bm w (ev x) (ρ x)) {r:KV} (h:zbuil L ev b c.args.toList c.argTypes.toList=some r) :
    ∃ v,(execOp ρ o).run P w=.ok (.value v) w/\relV bm w r v:=by
 generalize ha:c.args.toList=args at h hev
 generalize ht:c.argTypes.toList=tys at h
 unfold zbuil at h
 split at h
 ·split at h <;> try (cases h; done)
  rename_i x
  split at h <;> try (cases h; done)
  rename_i T
  unfold zlen at h
  split at h <;> try (cases h; done)
  rename_i d hd
  have hx:=hev x (List.mem_singleton_self _)
  split at h
  ·rename_i k off n c' sz hk
   rw [hk] at hx
   cases hc:Nat.beq d.kd 10 with
   | false=>rw [hc] at h; simp at h
   | true =>
     rw [hc] at h
     simp only [cond_true,Option.some.injEq] at h
     subst h
     obtain ⟨b',c'',a,_,e,_⟩:=hx
     exact ⟨_,run_len ((hL T d hd).slice (nbeq_yes hc)).1 hop hcal ha ht e w,rfl,rfl⟩
  ·rename_i hk
   rw [hk] at hx
   cases hc:Nat.beq d.kd 10 with
   | false=>rw [hc] at h; simp at h
   | true =>
     rw [hc] at h
     simp only [cond_true,Option.some.injEq] at h
     subst h
     obtain ⟨a,e⟩:=hx
     exact ⟨_,run_len ((hL T d hd).slice (nbeq_yes hc)).1 hop hcal ha ht e w,rfl,rfl⟩
  ·rename_i hk
   rw [hk] at hx
   cases hc:Nat.beq d.kd 10 with
   | false=>rw [hc] at h; simp at h
   | true =>
     rw [hc] at h
     simp only [cond_true,Option.some.injEq] at h
     subst h
     obtain ⟨e,_⟩:=hx
     exact ⟨_,run_len ((hL T d hd).slice (nbeq_yes hc)).1 hop hcal ha ht e w,rfl,rfl⟩
  ·rename_i s hk
   rw [hk] at hx
   cases hc:Nat.beq d.kd 11 with
   | false=>rw [hc] at h; simp at h
   | true =>
     rw [hc] at h
     simp only [cond_true,Option.some.injEq] at h
     subst h
     obtain ⟨e,_⟩:=hx
     exact ⟨_,zrun_len_str ((hL T d hd).str (nbeq_yes hc)) hop hcal ha ht e w,rfl,rfl⟩
  ·rename_i l hk
   rw [hk] at hx
   cases hc:Nat.beq d.kd 2 with
   | false=>rw [hc] at h; simp at h
   | true =>
     rw [hc] at h
     simp only [cond_true,Option.some.injEq] at h
     subst h
     obtain ⟨e0,he0⟩:=(hL T d hd).limbs (nbeq_yes hc)
     obtain ⟨a,c',e⟩:=SlU.form hx
     rw [len_eq]
     exact ⟨_,run_len he0 hop hcal ha ht e w,rfl,rfl⟩
  ·cases h
 ·split at h <;> try (cases h; done)
  rename_i x
  split at h <;> try (cases h; done)
  rename_i T
  unfold zcap at h
  split at h <;> try (cases h; done)
  rename_i d hd
  have hx:=hev x (List.mem_singleton_self _)
  split at h
  ·rename_i hk
   rw [hk] at hx
   cases hc:Nat.beq d.kd 10 with
   | false=>rw [hc] at h; simp at h
   | true =>
     rw [hc] at h
     simp only [cond_true,Option.some.injEq] at h
     subst h
     obtain ⟨a,e⟩:=hx
     exact ⟨_,zrun_cap ((hL T d hd).slice (nbeq_yes hc)).1 hop hcal ha ht e w,rfl,rfl⟩
  ·rename_i hk
   rw [hk] at hx
   cases hc:Nat.beq d.kd 10 with
   | false=>rw [hc] at h; simp at h
   | true =>
     rw [hc] at h
     simp only [cond_true,Option.some.injEq] at h
     subst h
     obtain ⟨e,_⟩:=hx
     exact ⟨_,zrun_cap ((hL T d hd).slice (nbeq_yes hc)).1 hop hcal ha ht e w,rfl,rfl⟩
  ·cases h
 ·split at h <;> try (cases h; done)
  rename_i x l
  obtain ⟨z,h1,h2⟩:=zmins (P:=P) (hev x (List.mem_cons_self ..)) (fun y hy=>hev y (List.mem_cons_of_mem _ hy)) h
  exact ⟨z,zrun_min hop hcal ha h1,h2⟩
 ·split at h <;> try (cases h; done)
  rename_i x l
  obtain ⟨z,h1,h2⟩:=zmaxs (P:=P) (hev x (List.mem_cons_self ..)) (fun y hy=>hev y (List.mem_cons_of_mem _ hy)) h
  exact ⟨z,zrun_max hop hcal ha h1,h2⟩
 ·cases h
end
end Zc
end Go.Proofs.YtkdjilgddbjcaaaGreat
namespace Go.Proofs.YtkdjilgddbjcaaaGreat
open Go.RowKit
namespace Zc
open Vc (run_v run_u mapM_get kdInt rangeAt_of_heap foldl_put run_indexAny run_len)
section
variable {P:Program} {L:Tr ZL} {H:Hp Bx} {bm:BM} {w:World}
theorem zpure_sound (hL:TyOK P L) (ok:Ok H bm w) {ev:Operand->KV} {ρ:Operand->Value} {o:Oper} (hev:∀ x ∈ o.op.operands,relV bm w (ev x) (ρ x)) {r:KV} (h:zpure L H ev o.op=some r) :
    ∃ v,(execOp ρ o).run P w=.ok (.value v) w/\relV bm w r v:=by
 cases hop:o.op with
 | move x =>
   rw [hop] at h hev
   simp only [zpure,Option.some.injEq] at h
   subst h
   exact ⟨ρ x,by simp only [execOp,hop]; rfl,hev x (by simp [Op.operands])⟩
 | assign x =>
   rw [hop] at h hev
   simp only [zpure,Option.some.injEq] at h
   subst h
   exact ⟨ρ x,by simp only [execOp,hop]; rfl,hev x (by simp [Op.operands])⟩
 | pick c a b =>
   rw [hop] at h hev
   simp only [zpure,zpick] at h
   have hc:=hev c (by simp [Op.operands])
   have ha:=hev a (by simp [Op.operands])
   have hb:=hev b (by simp [Op.operands])
   split at h <;> try (cases h; done)
   rename_i p hk
   rw [hk] at hc
   obtain ⟨e,_⟩:=hc
   simp only [Option.some.injEq] at h
   subst h
   cases p with
   | true=>exact ⟨ρ a,by simp [execOp,hop,e,asBool],ha⟩
   | false=>exact ⟨ρ b,by simp [execOp,hop,e,asBool],hb⟩
 | load T x =>
   rw [hop] at h hev
   have hx:=hev x (by simp [Op.operands])
   simp only [zpure,zload] at h
   split at h <;> try (cases h; done)
   rename_i k off hk
   split at h <;> try (cases h; done)
   rename_i l hl
   split at h <;> try (cases h; done)
   rename_i b hb
   split at h <;> try (cases h; done)
   rename_i cs hc
   rw [hk] at hx
   obtain ⟨g,hg,hv⟩:=hx
   obtain ⟨vs,rs,h1,h2,_⟩:=ok.box k g b hg hb
   obtain ⟨e1,e2,e3⟩:=cutW_spec hc
   have hvl:=h2.len
   have hrel:relL bm w (flats cs) ((vs.drop off).take l.size):=by rw [e1]; exact (h2.drop off).take _
   have hrange:w.rangeAt g off ((vs.drop off).take l.size):=by
    have:=rangeAt_of_heap (w:=w) (b:=g) (vs:=vs ++ rs) (T:=b.T) (fz:=(0,0)) h1 off l.size
    rw [List.drop_append_of_le_length (by omega),List.take_append_of_le_length (by rw [List.length_drop]; omega)] at this
    exact this
   refine ⟨_,?_,mkK_rel h hrel⟩
   simp only [execOp,hop,hv]
   exact run_v (zrun_load (hL T l hl) g off w _ (by rw [<- hrel.len,e3]) hrange)
 | fieldAddr S x f =>
   rw [hop] at h hev
   have hx:=hev x (by simp [Op.operands])
   simp only [zpure,zfaddr] at h
   split at h <;> try (cases h; done)
   rename_i k off hk
   split at h <;> try (cases h; done)
   rename_i l hl
   split at h <;> try (cases h; done)
   rename_i d hd
   rw [nth_eq] at hd
   simp only [Option.some.injEq] at h
   subst h
   rw [hk] at hx
   obtain ⟨b,hb,hv⟩:=hx
   refine ⟨.pointer (some ⟨b,off+d.1,none⟩),?_,b,hb,rfl⟩
   simp only [execOp,hop,hv]
   exact run_v (zrun_fieldAt (hL S l hl) hd b off w)
 | indexAddr T x y =>
   rw [hop] at h hev
   have hx:=hev x (by simp [Op.operands])
   have hy:=hev y (by simp [Op.operands])
   simp only [zpure,zidx] at h
   split at h <;> try (cases h; done)
   rename_i k off n c sz hk
   split at h <;> try (cases h; done)
   rename_i i hi
   split at h <;> try (cases h; done)
   rename_i d hd
   cases hc:(Nat.ble (Nat.succ i) n && Nat.beq d.kd 10 && Nat.beq d.esz sz) with
   | false=>rw [hc] at h; simp at h
   | true =>
     rw [hc] at h
     simp only [cond_true,Option.some.injEq] at h
     subst h
     simp only [Bool.and_eq_true] at hc
     have hin:=nble_yes hc.1.1
     obtain ⟨hu,he⟩:=(hL T d hd).slice (nbeq_yes hc.1.2)
     have hsz:=nbeq_yes hc.2
     obtain ⟨ie,z,hie,hies,_⟩:=he.info
     rw [hk] at hx
     obtain ⟨b,c',a,hb,hv,hcc,hnc,ha⟩:=hx
     obtain ⟨κ,e⟩:=zNat_rel hi hy
     obtain ⟨rfl,_⟩:=ha (by omega)
     refine ⟨_,?_,b,hb,rfl⟩
     simp only [execOp,hop,hv,e]
     have:=run_indexAny hu hie b off n c' κ (i:Int) (by omega) (by omega) w
     rw [hies,hsz] at this
     exact run_v this
 | slice T x lo hi mx =>
   rw [hop] at h hev
   have hx:=hev x (by simp [Op.operands])
   simp only [zpure] at h
   obtain ⟨v,h1,h2⟩:=zsl_run (P:=P) hL (vlo:=lo.map ρ) (vhi:=hi.map ρ) (vmx:=mx.map ρ) h hx (fun q hq=>zBnd_rel (fun y hy=>hev y (by simp [Op.operands,hy])) hq) (fun q hq=>zBnd_rel (fun y hy=>hev y (by simp [Op.operands,hy])) hq) (fun q hq=>zBnd_rel (fun y hy=>hev y (by simp [Op.operands,hy])) hq)
   refine ⟨v,?_,h2⟩
   simp only [execOp,hop]
   exact run_v h1
 | extract x i =>
   rw [hop] at h hev
   have hx:=hev x (by simp [Op.operands])
   simp only [zpure,zext] at h
   split at h <;> try (cases h; done)
   rename_i xs hk
   split at h <;> try (cases h; done)
   rename_i y hy
   simp only [Option.some.injEq] at h
   subst h
   rw [hk] at hx
   obtain ⟨us,hu,hks⟩:=hx
   obtain ⟨u,h1,h2⟩:=hks.get hy
   refine ⟨u,?_,h2⟩
   simp only [execOp,hop,hu]
   refine run_v ?_
   simp [Instr.extract,h1]
 | binOp op T x y yT =>
   rw [hop] at h hev
   have hx:=hev x (by simp [Op.operands])
   have hy:=hev y (by simp [Op.operands])
   have nil_case:∀ (c:Bool) (a:Option Addr) (n c':Nat),ρ x=.slice a n c'->a.isNone=c->znils L op T c (ev y)=some r->∃ v,(execOp ρ o).run P w=.ok (.value v) w/\relV bm w r v:=fun c a n c' e1 ea h=>by
    unfold znils at h
    split at h <;> try (cases h; done)
    rename_i hb
    split at h <;> try (cases h; done)
    rename_i l hl
    cases hk:Nat.beq l.kd 10 with
    | false=>rw [hk] at h; cases h
    | true =>
      rw [hk] at h
      simp only [cond_true] at h
      have hu:=((hL T l hl).slice (nbeq_yes hk)).1
      rw [hb] at hy
      obtain ⟨e2,_⟩:=hy
      split at h <;> try (cases h; done)
      all_goals
       simp only [Option.some.injEq] at h
       subst h
       refine ⟨_,?_,rfl,rfl⟩
       simp only [execOp,hop,e1,e2]
       subst ea
       exact run_v (by simp [go_sem,eqGuard,binOp,run_equal_slice_nil w T _ a n c' hu])
   simp only [zpure,zbinop] at h
   split at h
   ·rename_i k off n c sz ha
    cases hc:Nat.ble 1 c with
    | false=>rw [hc] at h; cases h
    | true =>
      rw [hc] at h
      simp only [cond_true] at h
      rw [ha] at hx
      obtain ⟨b,c',a,_,e1,h2,_,h4⟩:=hx
      have:=nble_yes hc
      obtain ⟨ea,_⟩:=h4 (by omega)
      exact nil_case false a n c' e1 (by rw [ea]; rfl) h
   ·rename_i ha
    rw [ha] at hx
    exact nil_case true none 0 0 hx.1 rfl h
   ·rename_i a hna ha
    split at h <;> try (cases h; done)
    rename_i b hb
    split at h <;> try (cases h; done)
    rename_i v hv
    simp only [Option.some.injEq] at h
    subst h
    rw [ha] at hx
    rw [hb] at hy
    obtain ⟨e1,_⟩:=hx
    obtain ⟨e2,_⟩:=hy
    obtain ⟨g1,g2⟩:=zbin_run (P:=P) hv T (fun hbl p hp=>by
     subst hp
     simp only at hbl
     split at hbl
     ·rename_i l hl
      exact (hL T l hl).bool (nbeq_yes hbl)
     ·cases hbl) x y w
    refine ⟨v,?_,rfl,g2⟩
    simp only [execOp,hop,e1,e2]
    exact run_v g1
   ·cases h
 | unOp op T x =>
   rw [hop] at h hev
   have hx:=hev x (by simp [Op.operands])
   simp only [zpure,zun] at h
   split at h <;> try (cases h; done)
   ·rename_i b hk
    rw [hk] at hx
    obtain ⟨e,_⟩:=hx
    split at h <;> try (cases h; done)
    simp only [Option.some.injEq] at h
    subst h
    refine ⟨.bool (!b),?_,rfl,rfl⟩
    simp only [execOp,hop,e]
    exact run_v (by simp [Op.unary])
   ·rename_i k n hk
    rw [hk] at hx
    obtain ⟨e,_⟩:=hx
    split at h <;> try (cases h; done)
    simp only [Option.some.injEq] at h
    subst h
    refine ⟨.int k (k.wrap (0 - n)),?_,rfl,rfl⟩
    simp only [execOp,hop,e]
    exact run_v (by simp only [Op.unary]; simp [go_sem,Op.intArith])
 | build T parts =>
   rw [hop] at h hev
   simp only [zpure,zbuild] at h
   split at h <;> try (cases h; done)
   rename_i l hl
   split at h <;> try (cases h; done)
   rename_i f1 f2 hf
   split at h <;> try (cases h; done)
   rename_i cs hc
   simp only [Option.some.injEq] at h
   subst h
   have hz:=hL T l hl
   have hne:l.flds ≠ []:=by rw [hf]; simp
   obtain ⟨fields,hu,hm,_⟩:=hz.flds hne
   obtain ⟨i,z,hi,hzz,hzr⟩:=hz.zero
   obtain ⟨vs,h1,h2⟩:=zfill_run (bm:=bm) (w:=w) (ρ:=ρ) l.flds parts.toList l.zero cs z.cells.toList (fun p hp=>hev p.2 (by
    simp only [Op.operands,List.mem_toArray,List.mem_map]
    exact ⟨p,hp,rfl⟩)) hc (hzr bm w)
   have hbuilt:P.built T (parts.toList.map fun (i,x)=>(i,ρ x))=some vs.toArray:=by
    unfold Program.built
    simp only [hi,hu,hzz,hm]
    exact h1
   refine ⟨.agg vs.toArray,?_,vs,rfl,h2⟩
   simp only [execOp,hop]
   refine run_v (run_build w _ _ _ ?_)
   simpa using hbuilt
 | convert S D x =>
   rw [hop] at h hev
   have hx:=hev x (by simp [Op.operands])
   simp only [zpure,zconv] at h
   split at h <;> try (cases h; done)
   rename_i k' n hk
   split at h <;> try (cases h; done)
   rename_i lS hS
   split at h <;> try (cases h; done)
   rename_i d hD
   split at h <;> try (cases h; done)
   rename_i k hkd
   simp only [Option.some.injEq] at h
   subst h
   rw [hk] at hx
   obtain ⟨e,_⟩:=hx
   refine ⟨.int k (k.wrap n),?_,rfl,rfl⟩
   simp only [execOp,hop,e]
   refine run_v ?_
   obtain ⟨dS,hdS,_⟩:=(hL S lS hS).desc
   have hdD:=(hL D d hD).int k hkd
   unfold convert
   rw [Sem.run_bind,run_underlying hdS,Result.andThen_ok,Sem.run_bind,run_underlying hdD,Result.andThen_ok]
   cases dS <;> simp [Conv.intToInt]
 | nilCheck x =>
   rw [hop] at h hev
   have hx:=hev x (by simp [Op.operands])
   simp only [zpure,znil] at h
   split at h <;> try (cases h; done)
   rename_i k off hk
   simp only [Option.some.injEq] at h
   subst h
   rw [hk] at hx
   obtain ⟨b,hb,e⟩:=hx
   refine ⟨.pointer (some ⟨b,off,none⟩),?_,b,hb,rfl⟩
   simp only [execOp,hop,e]
   rfl
 | makeFunc fn first captured =>
   rw [hop] at h hev
   simp only [zpure,zmkf] at h
   split at h <;> try (cases h; done)
   rename_i f
   split at h <;> try (cases h; done)
   rename_i hf
   split at h <;> try (cases h; done)
   rename_i ks hks
   simp only [Option.some.injEq] at h
   subst h
   have hr:=zptrs_rel (bm:=bm) (w:=w) (ρ:=ρ) (fun x hx=>hev x (by simp only [Op.operands,Array.mem_append]; exact .inr (by simpa using hx))) hks
   have hfe:first=#[]:=by rw [<- Array.toList_inj]; simpa using hf
   refine ⟨.func (.func f) #[] (captured.toList.map ρ).toArray,?_,_,hr,rfl⟩
   simp only [execOp,hop,hfe]
   refine run_v ?_
   have e:captured.map ρ=(captured.toList.map ρ).toArray:=by
    apply Array.ext'
    simp
   rw [e]
   simp [Instr.makeFunc]
 | index T x y =>
   rw [hop] at h hev
   have hx:=hev x (by simp [Op.operands])
   have hy:=hev y (by simp [Op.operands])
   simp only [zpure,zindex] at h
   split at h <;> try (cases h; done)
   rename_i s hk
   split at h <;> try (cases h; done)
   rename_i i hi
   split at h <;> try (cases h; done)
   rename_i d hd
   split at h <;> try (cases h; done)
   rename_i b hb
   cases hc:Nat.beq d.kd 11 with
   | false=>rw [hc] at h; simp at h
   | true =>
     rw [hc] at h
     simp only [cond_true,Option.some.injEq] at h
     subst h
     rw [hk] at hx
     obtain ⟨e,_⟩:=hx
     obtain ⟨κ,e2⟩:=zNat_rel hi hy
     have hu:=(hL T d hd).str (nbeq_yes hc)
     refine ⟨.int .u8 b.toNat,?_,rfl,rfl⟩
     simp only [execOp,hop,e,e2]
     refine run_v ?_
     have h0:(0:Int) <= (i:Int):=by omega
     simp [Instr.index,asIntOf,run_underlying hu,hb]
 | field T x f =>
   rw [hop] at h hev
   have hx:=hev x (by simp [Op.operands])
   simp only [zpure,zfield] at h
   split at h <;> try (cases h; done)
   rename_i xs hk
   split at h <;> try (cases h; done)
   rename_i l hl
   split at h <;> try (cases h; done)
   rename_i d hd
   split at h <;> try (cases h; done)
   rename_i U hU
   split at h <;> try (cases h; done)
   rename_i u hu
   cases hc:Nat.beq u.size d.2 with
   | false=>rw [hc] at h; simp at h
   | true =>
     rw [hc] at h
     simp only [cond_true] at h
     split at h <;> try (cases h; done)
     rename_i cs hcs
     rw [nth_eq] at hd hU
     have hsz:=nbeq_yes hc
     have hz:=hL T l hl
     have hne:l.flds ≠ []:=by intro e; rw [e] at hd; simp at hd
     obtain ⟨fields,hfu,hm,hty⟩:=hz.flds hne
     obtain ⟨y,hy,hfy⟩:=mapM_get hm f d hd
     have hyU:y.type=U:=by
      rw [<- hty,List.getElem?_map,hy] at hU
      simpa using hU
     rw [hk] at hx
     obtain ⟨us,hv,hrl⟩:=hx
     obtain ⟨e1,e2,e3⟩:=cutW_spec hcs
     have hrel:relL bm w (flats cs) ((us.drop d.1).take d.2):=by rw [e1]; exact (hrl.drop _).take _
     have hoff:y.offset=d.1:=by
      cases hi:P.info? y.type with
      | none=>simp [hi] at hfy
      | some i=>simp only [hi,Option.map_some,Option.some.injEq] at hfy; subst hfy; rfl
     refine ⟨_,?_,mkK_rel h hrel⟩
     simp only [execOp,hop,hv]
     refine run_v ?_
     have hy':fields[f]?=some y:=by simpa using hy
     have hp:=zrun_part (hL U u hu) us d.1 w ((us.drop d.1).take d.2) (by rw [<- hrel.len,e3,hsz]) (by rw [hsz])
     simp [Instr.field,run_underlying hfu,hy',asAgg,hyU,hoff,hp]
 | call c =>
   rw [hop] at h hev
   simp only [zpure,zcallp] at h
   split at h <;> try (cases h; done)
   rename_i b hb
   exact zbuil_sound hL hop hb (fun x hx=>hev x (by simp only [Op.operands,Call.operands,hb]; simpa using hx)) h
 | _=>rw [hop] at h; simp [zpure] at h
end
end Zc
end Go.Proofs.YtkdjilgddbjcaaaGreat
