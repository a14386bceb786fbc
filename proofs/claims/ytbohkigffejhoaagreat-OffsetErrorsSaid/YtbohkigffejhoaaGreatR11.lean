import Derived.Test.YtbohkigffejhoaaGreatR10
import Derived.Laws.AppendOwn
open Go.Instr (fieldAt fill indexAt loadAt sliceAt sliceBound sliceBounds sureAddr)
open List (flatMap_cons getD_eq_getElem?_getD getElem?_drop getElem?_take length_cons length_drop length_take)
open Nat (beq_eq ble_eq le_refl min_eq_left succ_mul zero_add)
open Option (bind_eq_some_iff map_eq_some_iff map_none map_some)
open Option.some (injEq)
namespace Go.Proofs.YtbohkigffejhoaaGreat
open Go.RowKit
namespace Vc
theorem a0O {P:Program} {s:Sem Value} {u:Value} {w w':World} (h:s.run P w=.ok u w'):(do pure (Next.value (<- s)):Sem Next).run P w=.ok (.value u) w':=by
 rw [Sem.run_bind,h]; rfl
theorem a7Q {P:Program} {s:Sem Unit} {w w':World} (h:s.run P w=.ok () w'):(do s; pure Next.skip:Sem Next).run P w=.ok .skip w':=by
 rw [Sem.run_bind,h]; rfl
theorem a2A {α β:Type} {f:α->Option β}:∀ {l:List α} {r:List β},l.mapM f=some r->∀ (i:Nat) (y:β),r[i]?=some y->∃ x,l[i]?=some x/\f x=some y
 | [],r,h,i,y,hy=>by simp at h; subst h; simp at hy
 | x :: l,r,h,i,y,hy=>by
   simp only [List.mapM_cons,Option.bind_eq_bind,Option.pure_def] at h
   cases hx:f x with
   | none=>simp [hx] at h
   | some z =>
     cases hl:l.mapM f with
     | none=>simp [hx,hl] at h
     | some zs =>
       simp [hx,hl] at h;subst h
       cases i with
       | zero=>exact ⟨x,rfl,by simpa [hx] using hy⟩
       | succ i =>
         obtain ⟨x',h1,h2⟩:=a2A hl i y (by simpa using hy);exact ⟨x',by simpa using h1,h2⟩
theorem a3j {P:Program} {l:Lay} (hl:a1I P l) {f:Nat} {d:Nat × Nat} (hd:l.flds[f]?=some d) (b off:Nat) (w:World) :
    (fieldAt l.t (.pointer (some ⟨b,off,none⟩)) f).run P w=.ok (.pointer (some ⟨b,off+d.1,none⟩)) w:=by
 have hne:l.flds ≠ []:=by intro e; rw [e] at hd; simp at hd
 obtain ⟨fields,hu,hm⟩:=hl.flds hne;obtain ⟨x,hx,hfx⟩:=a2A hm f d hd
 have hx':fields[f]?=some x:=by simpa using hx
 cases hi:P.info? x.type with
 | none=>simp [hi] at hfx
 | some i =>
   simp only [hi,map_some,injEq] at hfx;subst hfx;have hp:=hl.fpos _ (List.mem_of_getElem? hd)
   have hs:(sizeOf x.type).run P w=.ok i.size w:=by simp [sizeOf,typeInfo,hi]
   have hfp:(fieldPlace ⟨b,off,none⟩ x).run P w=.ok ⟨b,off+x.offset,none⟩ w:=by
    unfold fieldPlace;rw [Sem.run_bind,hs];simp only [Result.andThen_ok];rw [if_neg hp,Sem.run_pure,a1b]
   simp [fieldAt,run_underlying hu,hx',sureAddr,hfp]
theorem a2M {P:Program} {l:Lay} (hl:a1I P l) (b off:Nat) (w:World) (us:List Value) (hlen:us.length=l.size) (h:w.rangeAt b off us) :
    (loadAt l.t (.pointer (some ⟨b,off,none⟩))).run P w=.ok (if l.agg then .agg us.toArray else us.getD 0 undef) w:=by
 obtain ⟨d,hu,hd⟩:=hl.desc
 cases ha:l.agg with
 | true =>
   rw [if_pos rfl]
   exact run_loadAt_mid w b off l.t us d h hu (by rw [hd,ha]) (by rw [hlen]; exact hl.size)
 | false =>
   rw [if_neg (by decide)];have h1:=hl.one ha;rw [h1] at hlen
   match us,hlen with
   | [u],_ =>
     have hc:=h 0 u rfl;rw [Nat.add_zero] at hc
     have hagg:(isAgg l.t).run P w=.ok false w:=by
      unfold isAgg;rw [Sem.run_bind,run_underlying hu w];rw [ha] at hd;cases d <;> simp_all
     simp [loadAt,sureAddr,loadVar,hagg,hc]
theorem a0B {w:World} {b:Nat} {vs:List Value} {T:TypeId} {fz:Nat × Nat} (h:w.heap[b]?=some (.cells vs.toArray T fz)) (off n:Nat):w.rangeAt b off ((vs.drop off).take n):=fun j v hv=>by
 rw [Lib.cell_of_heap h];simp only [List.getElem?_toArray];rw [getElem?_take] at hv;split at hv
 ·rwa [getElem?_drop] at hv
 ·cases hv
theorem a3V:∀ (us:List Value) (off k:Nat) (cur:List Value),off+k+us.length <= cur.length ->
    ((us.zipIdx k).foldl (fun (cs:Array Value) (p:Value × Nat)=>cs.setIfInBounds (off+p.2) p.1) cur.toArray).toList=cur.take (off+k) ++ us ++ cur.drop (off+k+us.length)
 | [],off,k,cur,_=>by simp
 | u :: us,off,k,cur,h=>by
   simp only [length_cons] at h;simp only [List.zipIdx_cons,List.foldl_cons]
   have e:cur.toArray.setIfInBounds (off+k) u=(cur.set (off+k) u).toArray:=by simp
   rw [e,a3V us off (k+1) (cur.set (off+k) u) (by simp; omega)]
   have h1:off+k < cur.length:=by omega
   have e1:(cur.set (off+k) u).take (off+(k+1))=cur.take (off+k) ++ [u]:=by
    rw [show off+(k+1)=off+k+1 by omega,List.take_succ_eq_append_getElem (by simpa using h1),List.take_set_of_le (by omega)];simp
   have e2:(cur.set (off+k) u).drop (off+(k+1)+us.length)=cur.drop (off+k+(us.length+1)):=by
    rw [List.drop_set_of_lt (by omega)];congr 1;omega
   rw [e1,e2];simp
theorem aHe {bs:Bs} {w:World} {ev:Operand->AV} {ρ:Operand->Value} (hev:∀ x,relV bs w (ev x) (ρ x)) (flds:List (Nat × Nat)) (tot:Nat) :
    ∀ (parts:List (Nat × Operand)) (cs r:List AC) (us:List Value),aNG ev flds tot parts cs=some r->relL bs w (a0d cs) us->us.length=tot ->
      ∃ vs:List Value,fill (flds.toArray[·]?) us.toArray (parts.map fun (i,x)=>(i,ρ x))=some vs.toArray/\relL bs w (a0d r) vs/\vs.length=tot
 | [],cs,r,us,h,k,hl=>by
   simp only [aNG,injEq] at h;subst h
   exact ⟨us,rfl,k,hl⟩
 | (i,x) :: parts,cs,r,us,h,k,hl=>by
   unfold aNG at h;split at h
   ·rename_i off n y hf hx
    cases hc:(Nat.beq (a0d y.cells).length n && Nat.ble (off+n) tot) with
    | false=>rw [hc] at h; simp at h
    | true =>
      rw [hc] at h;simp only [cond_true] at h;simp only [Bool.and_eq_true,beq_eq,ble_eq] at hc;obtain ⟨hn,hle⟩:=hc;split at h
      ·rename_i cs' hu;have hr:=hev x;rw [hx] at hr;have hy:=a2J hr;have hyl:=hy.len;have he:=aCC hu
       have k2:relL bs w (a0d cs') (us.take off ++ (ρ x).cells.toList ++ us.drop (off+n)):=by
        rw [he];refine relL.append (relL.append (k.take off) hy) ?_;have e:us.drop (off+n)=(us.drop (off+n)).take (tot - off - n):=(List.take_of_length_le (by simp; omega)).symm;rw [e];exact (k.drop (off+n)).take _
       have hsz:(ρ x).cells.size=n:=by
        rw [<- hn,hyl]; simp
       obtain ⟨vs,h1,h2,h3⟩:=aHe hev flds tot parts cs' r _ h k2 (by simp; omega);refine ⟨vs,?_,h2,h3⟩;simp only [List.map_cons];unfold fill
       have hp:flds.toArray[i]?=some (off,n):=by simpa using hf
       simp only [hp]
       have hcnd:((decide ((ρ x).cells.size ≠ n) || decide (off+(ρ x).cells.size > us.toArray.size)):Bool)=false:=by
        simp [hsz]; omega
       simp only [hcnd];have hput:=a3V (ρ x).cells.toList off 0 us (by simp [hsz]; omega);simp only [Nat.add_zero,Array.length_toList,hsz] at hput
       have hz:(ρ x).cells.zipIdx.foldl (fun (cs:Array Value) (p:Value × Nat)=>cs.setIfInBounds (off+p.2) p.1) us.toArray=(us.take off ++ (ρ x).cells.toList ++ us.drop (off+n)).toArray:=by
        rw [<- Array.toList_inj];rw [<- hput];rw [<- Array.foldl_toList];simp
       simp only [Bool.false_eq_true,if_false];rw [<- h1];congr 1
      ·cases h
   ·cases h
theorem aUw {P:Program} {l:Lay} (hl:a1I P l) {bs:Bs} {w:World} {ev:Operand->AV} {ρ:Operand->Value} (hev:∀ x,relV bs w (ev x) (ρ x)) (hne:l.flds ≠ []) {parts:List (Nat × Operand)} {r:List AC}
    (h:aNG ev l.flds l.size parts l.zero=some r):∃ vs:List Value,P.built l.t (parts.map fun (i,x)=>(i,ρ x))=some vs.toArray/\relL bs w (a0d r) vs:=by
 obtain ⟨fields,hu,hm⟩:=hl.flds hne;obtain ⟨i,z,hi,hz,hzr⟩:=hl.zero
 have hlen:z.cells.toList.length=l.size:=by rw [<- (hzr bs w).len,hl.zlen]
 obtain ⟨vs,h1,h2,_⟩:=aHe hev l.flds l.size parts l.zero r z.cells.toList h (hzr bs w) hlen;refine ⟨vs,?_,h2⟩;unfold Program.built;simp only [hi,hu,hz,hm];exact h1
theorem aHQ {P:Program} {y:Lay} (hy:a1I P y) (hk:y.kd=2) {l:List Nat} {w:World} {u:Value} (hs:SlU w u l) (k:IntKind) (i:Int) (h0:0 <= i) (h1:i < (l.length:Int)) :
    ∃ b o,(indexAt y.t u (.int k i)).run P w=.ok (.pointer (some ⟨b,o,none⟩)) w/\w.cell? ⟨b,o,none⟩=some (.int .u32 ((l.getD i.toNat 0:Nat):Int))/\u.ownBlock=some b:=by
 obtain ⟨e,ie,z,hu,hi,hsz,_⟩:=hy.slice hk
 have hlt:i.toNat < l.length:=by omega
 rcases hs.cases with ⟨rfl,_⟩ | ⟨_,b,off,cap,rfl,_,_,hc⟩
 ·simp at hlt
 ·refine ⟨b,off+i.toNat,?_,?_,rfl⟩
  ·have hsize:(sizeOf e).run P w=.ok 1 w:=by simp [sizeOf,typeInfo,hi,hsz]
   have hin:0 <= i/\i < (l.length:Int):=⟨h0,h1⟩
   simp [indexAt,asIntOf,run_underlying hu,hin,hsize,a1b]
  ·rw [hc i.toNat hlt,getD_eq_getElem?_getD,List.getElem?_eq_getElem hlt];rfl
theorem a1v {P:Program} {T e:TypeId} {ie:TypeInfo} (hu:P.underlying T=some (.slice e)) (hi:P.info? e=some ie) (b off n cap:Nat) (k:IntKind) (i:Int) (h0:0 <= i) (h1:i < (n:Int)) (w:World) :
    (indexAt T (.slice (some ⟨b,off,none⟩) n cap) (.int k i)).run P w=.ok (.pointer (some ⟨b,off+i.toNat*ie.size,none⟩)) w:=by
 have hsize:(sizeOf e).run P w=.ok ie.size w:=by simp [sizeOf,typeInfo,hi]
 have hin:0 <= i/\i < (n:Int):=⟨h0,h1⟩
 simp [indexAt,asIntOf,run_underlying hu,hin,hsize,a1b]
theorem a7R {P:Program} {α:Type} {k lo:Nat} {w:World} {u:Value} {l:List α} {f:Nat->Nat->α->Prop} (hs:SlO k lo w u l f) {T e:TypeId} (hu:P.underlying T=some (.slice e)) (hi:(P.info? e).map (·.size)=some k) (κ:IntKind) (i:Int) (h0:0 <= i) (h1:i < (l.length:Int)) (d:α) :
    ∃ b o,(indexAt T u (.int κ i)).run P w=.ok (.pointer (some ⟨b,o,none⟩)) w/\b < lo/\b < w.heap.size/\f b o (l.getD i.toNat d):=by
 obtain ⟨a,cap,b,off,rfl,h2,h3,h4,h5⟩:=hs
 have hlt:i.toNat < l.length:=by omega
 obtain rfl:a=some ⟨b,off,none⟩:=by
  rcases h2 with h | h
  ·omega
  ·exact h
 simp only [map_eq_some_iff] at hi;obtain ⟨ie,hie,rfl⟩:=hi;obtain ⟨p,q,r⟩:=h5 i.toNat l[i.toNat] (by simp [hlt]);refine ⟨b,off+i.toNat*ie.size,a1v hu hie b off l.length cap κ i h0 h1 w,p,q,?_⟩;rw [getD_eq_getElem?_getD,List.getElem?_eq_getElem hlt];exact r
theorem aEV {bs:Bs} {w:World}:∀ {cs:List Value},(∀ v ∈ cs,v.oneCell'=true)->relL bs w (a0d (cs.map .v)) cs
 | [],_=>trivial
 | v :: _,h=>⟨⟨rfl,h v (List.mem_cons_self ..)⟩,aEV fun u hu=>h u (List.mem_cons_of_mem _ hu)⟩
theorem a2p {P:Program} {T:TypeId} {e:TypeId} (hu:P.underlying T=some (.slice e)) {c:Call} {o:Oper} (hop:o.op=.call c) {x:Operand} (hcal:c.callee=.builtin .len) (hargs:c.args.toList=[x]) (htys:c.argTypes.toList=[T]) {ρ:Operand->Value} {a:Option Addr} {n cap:Nat} (he:ρ x=.slice a n cap) (w:World) :
    (execOp ρ o).run P w=.ok (.value (.int .i64 (n:Int))) w:=by
 have hargs':c.args=#[x]:=by rw [<- Array.toList_inj]; simpa using hargs
 have htys':c.argTypes=#[T]:=by rw [<- Array.toList_inj]; simpa using htys
 simp [execOp,hop,go_sem,hcal,hargs',htys',he,Builtin.len_,run_underlying hu,goInt]
theorem aHP {P:Program} {y:Lay} (hy:a1I P y) (hk:y.kd=2) {l:List Nat} {w:World} {u:Value} (hs:SlU w u l) (k:IntKind) (i:Int) (h0:0 <= i) (h1:i <= (l.length:Int)) :
    ∃ v,(sliceAt y.t u none (some (.int k i)) none).run P w=.ok v w/\SlU w v (l.take i.toNat)/\∀ g,v.ownBlock=some g->u.ownBlock=some g:=by
 obtain ⟨e,ie,z,hu,hi,hsz,_⟩:=hy.slice hk;obtain ⟨a,n,cap,b,off,rfl,rfl,h3,h4,h5,h6⟩:=hs
 have hsize:(sizeOf e).run P w=.ok 1 w:=by simp [sizeOf,typeInfo,hi,hsz]
 have hc:i <= (cap:Int):=by omega
 refine ⟨.slice a i.toNat cap,?_,⟨a,i.toNat,cap,b,off,rfl,by simp; omega,?_,h4,by omega,fun j x hx=>?_⟩,fun g hg=>by cases a <;> exact hg⟩
 ·have hin:0 <= i/\i <= (cap:Int):=⟨h0,hc⟩
  simp [sliceAt,run_underlying hu,Instr.slice,sliceBounds,sliceBound,asIntOf,hin,hsize];cases a <;> simp [Addr.add]
 ·rcases h3 with h | h
  ·exact .inl (by omega)
  ·exact .inr h
 ·rw [getElem?_take] at hx;split at hx
  ·exact h6 j x hx
  ·cases hx
theorem aHR {P:Program} {S D:TypeId} {k k':IntKind} {n:Int} (hS:∃ d,P.underlying S=some d) (hD:P.underlying D=some (.int k)) (hr:inR k n) (w:World):(convert S D (.int k' n)).run P w=.ok (.int k n) w:=by
 obtain ⟨d,hd⟩:=hS;unfold convert;rw [Sem.run_bind,run_underlying hd,Result.andThen_ok,Sem.run_bind,run_underlying hD,Result.andThen_ok];cases d <;> simp [Conv.intToInt,a3G hr]
theorem aER {P:Program} {S D:TypeId} {k k':IntKind} {n:Int} (hS:∃ d,P.underlying S=some d) (hD:P.underlying D=some (.int k)) (w:World):(convert S D (.int k' n)).run P w=.ok (.int k (IntKind.wrap k n)) w:=by
 obtain ⟨d,hd⟩:=hS;unfold convert;rw [Sem.run_bind,run_underlying hd,Result.andThen_ok,Sem.run_bind,run_underlying hD,Result.andThen_ok];cases d <;> simp [Conv.intToInt]
theorem aON {bs:Bs} {w:World}:∀ x u,rel0 w x u->relE bs w x u:=fun x u h=>by
 cases x <;> first | exact h | exact h.elim
theorem aEX {bs:Bs} {w:World}:∀ x u,relE bs w x u->rel1 bs w x u:=fun x u h=>by
 cases x with
 | v x=>exact ⟨h.1,h.2.1⟩
 | sl l=>exact ⟨h,trivial⟩
 | rd s f l=>exact RdR.keep (w:=w) (w':=w) aON (fun b hb=>⟨hb,fun _=>rfl⟩) h
 | _=>exact h.elim
theorem a6W {bs:Bs} {w:World}:∀ {l:List AC} {us:List Value},relR (relE bs w) l us->relL bs w l us
 | [],[],_=>trivial
 | _ :: _,_ :: _,h=>⟨aEX _ _ h.1,a6W h.2⟩
 | [],_ :: _,h=>h.elim
 | _ :: _,[],h=>h.elim
section
variable {R:AC->Value->Prop} {w:World}
theorem relR.len:∀ {l:List AC} {us:List Value},relR R l us->l.length=us.length
 | [],[],_=>rfl
 | _ :: _,_ :: _,h=>by rw [length_cons,length_cons,relR.len h.2]
 | [],_ :: _,h=>h.elim
 | _ :: _,[],h=>h.elim
theorem relR.drop:∀ {a:List AC} {us:List Value} (n:Nat),relR R a us->relR R (a.drop n) (us.drop n)
 | _,_,0,h=>h
 | [],[],_+1,_=>trivial
 | _ :: _,_ :: _,n+1,h=>relR.drop n h.2
 | [],_ :: _,_+1,h=>h.elim
 | _ :: _,[],_+1,h=>h.elim
theorem relR.take:∀ {a:List AC} {us:List Value} (n:Nat),relR R a us->relR R (a.take n) (us.take n)
 | _,_,0,_=>by simp [relR]
 | [],[],_+1,_=>trivial
 | _ :: _,_ :: _,n+1,h=>⟨h.1,relR.take n h.2⟩
 | [],_ :: _,_+1,h=>h.elim
 | _ :: _,[],_+1,h=>h.elim
theorem relR.append:∀ {a b:List AC} {us vs:List Value},relR R a us->relR R b vs->relR R (a ++ b) (us ++ vs)
 | [],_,[],_,_,h=>h
 | _ :: _,_,_ :: _,_,h,k=>⟨h.1,relR.append h.2 k⟩
 | [],_,_ :: _,_,h,_=>h.elim
 | _ :: _,_,[],_,h,_=>h.elim
theorem ElR.cut {b o off n:Nat} {cs r:List AC} (h:ElR R w b o cs) (hc:cut 99 cs off n=some r):ElR R w b (o+off) r:=by
 obtain ⟨us,h1,h2⟩:=h;obtain ⟨e1,_⟩:=a4o _ _ _ _ _ hc;refine ⟨(us.drop off).take n,fun j v hj=>?_,by rw [e1]; exact (h2.drop off).take n⟩;rw [getElem?_take] at hj;split at hj
 ·rw [getElem?_drop] at hj;have:=h1 _ _ hj;rwa [<- Nat.add_assoc] at this
 ·cases hj
theorem aDn (s:Sc):∀ (l l':List s.T),a0d ((l ++ l').flatMap s.enc)=a0d (l.flatMap s.enc) ++ a0d (l'.flatMap s.enc):=fun l l'=>by
 rw [List.flatMap_append,a0I]
theorem a5c (s:Sc):∀ (l:List s.T),(a0d (l.flatMap s.enc)).length=l.length*s.k
 | []=>by simp [a0d]
 | x :: l=>by rw [flatMap_cons,a0I,List.length_append,a2Z,a5c s l,length_cons,succ_mul]; omega
theorem flat_get (s:Sc):∀ (l:List s.T) (i:Nat) (x:s.T),l[i]?=some x->((a0d (l.flatMap s.enc)).drop (i*s.k)).take s.k=a0d (s.enc x)
 | [],_,_,h=>by simp at h
 | y :: l,0,x,h=>by
   obtain rfl:y=x:=by simpa using h
   rw [flatMap_cons,a0I,Nat.zero_mul,List.drop_zero,List.take_append_of_le_length (by rw [a2Z]; exact le_refl _),List.take_of_length_le (by rw [a2Z]; exact le_refl _)]
 | y :: l,i+1,x,h=>by
   rw [flatMap_cons,a0I,List.drop_append,List.drop_of_length_le (by rw [a2Z,succ_mul]; omega),List.nil_append,a2Z,show (i+1)*s.k - s.k=i*s.k by rw [succ_mul]; omega];exact flat_get s l i x (by simpa using h)
theorem OwB.el {lo b T cap:Nat} {s:Sc} {l:List s.T} (h:OwB R lo w b T s l cap) {i:Nat} (hi:i < l.length):ElR R w b (i*s.k) (s.enc (l.getD i s.d)):=by
 obtain ⟨_,_,_,cur,h4,_,h6,_⟩:=h
 have hx:l[i]?=some (l.getD i s.d):=by simp [getD_eq_getElem?_getD,hi]
 refine ⟨((cur.toList.take (l.length*s.k)).drop (i*s.k)).take s.k,fun j v hj=>?_,?_⟩
 ·rw [getElem?_take] at hj;split at hj
  ·rw [getElem?_drop,getElem?_take] at hj;split at hj
   ·rw [Lib.cell_of_heap h4];simpa using hj
   ·cases hj
  ·cases hj
 ·have:=(h6.drop (i*s.k)).take s.k;rwa [flat_get s l i _ hx] at this
theorem a9H {P:Program} {B:Nat->Prop} {u:Value} {s:Sc} {f:Bool} {l:List s.T} (h:RdR R B w u s f l) {T e:TypeId} {ie:TypeInfo} (hu:P.underlying T=some (.slice e)) (hi:P.info? e=some ie) (hs:ie.size=s.k) (κ:IntKind) (i:Int) (h0:0 <= i) (h1:i < (l.length:Int)) :
    ∃ b o,(indexAt T u (.int κ i)).run P w=.ok (.pointer (some ⟨b,o,none⟩)) w/\B b/\ElR R w b o (s.enc (l.getD i.toNat s.d)):=by
 obtain ⟨a,cap,b,off,rfl,_,h2,_,_,h5⟩:=h
 have hlt:i.toNat < l.length:=by omega
 obtain rfl:a=some ⟨b,off,none⟩:=by
  rcases h2 with h | h
  ·omega
  ·exact h
 obtain ⟨p,q⟩:=h5 i.toNat l[i.toNat] (by simp [hlt]);refine ⟨b,off+i.toNat*ie.size,a1v hu hi b off l.length cap κ i h0 h1 w,p,?_⟩;rw [getD_eq_getElem?_getD,List.getElem?_eq_getElem hlt,hs];exact q
theorem a4X {P:Program} {T e:TypeId} {ie:TypeInfo} (hu:P.underlying T=some (.slice e)) (hi:P.info? e=some ie) (a:Option Addr) (n cap:Nat) (κ:IntKind) (i:Int) (h0:0 <= i) (h1:i <= (n:Int)) (hc:n <= cap) :
    (sliceAt T (.slice a n cap) none (some (.int κ i)) none).run P w=.ok (.slice (if cap=0 then a else a.map (·.add 0)) i.toNat cap) w:=by
 have hsize:(sizeOf e).run P w=.ok ie.size w:=by simp [sizeOf,typeInfo,hi]
 have hin:0 <= i/\i <= (cap:Int):=⟨h0,by omega⟩
 simp [sliceAt,run_underlying hu,Instr.slice,sliceBounds,sliceBound,asIntOf,hin,hsize]
theorem a4Y {P:Program} {T e:TypeId} {ie:TypeInfo} (hu:P.underlying T=some (.slice e)) (hi:P.info? e=some ie) (a:Option Addr) (n cap:Nat) (κ:IntKind) (i:Int) (h0:0 <= i) (h1:i <= (n:Int)) :
    (sliceAt T (.slice a n cap) (some (.int κ i)) none none).run P w=.ok (.slice (if cap=i.toNat then a else a.map (·.add (i.toNat*ie.size))) (n - i.toNat) (cap - i.toNat)) w:=by
 have hsize:(sizeOf e).run P w=.ok ie.size w:=by simp [sizeOf,typeInfo,hi]
 have hin:0 <= i/\i <= (n:Int):=⟨h0,h1⟩
 simp [sliceAt,run_underlying hu,Instr.slice,sliceBounds,sliceBound,asIntOf,hin,hsize]
theorem b2M (a:Option Addr) (c:Prop) [Decidable c]:(if c then a else a.map (·.add 0))=a:=by
 split
 ·rfl
 ·cases a with
  | none=>rfl
  | some a=>simp [Addr.add]
theorem RdR.take {B:Nat->Prop} {a:Option Addr} {cap:Nat} {s:Sc} {f:Bool} {l:List s.T} (h:RdR R B w (.slice a l.length cap) s f l) {i:Nat} (hi:i <= l.length):RdR R B w (.slice a i cap) s false (l.take i):=by
 obtain ⟨a',cap',b,off,e,_,h2,h3,h4,h5⟩:=h;cases e;refine ⟨a,cap,b,off,by rw [length_take,min_eq_left hi],(by intro h; cases h),?_,h3,by rw [length_take]; omega,fun j x hx=>?_⟩
 ·rcases h2 with h2 | h2
  ·exact .inl (by rw [length_take]; omega)
  ·exact .inr h2
 ·rw [getElem?_take] at hx;split at hx
  ·exact h5 j x hx
  ·cases hx
theorem RdR.from {B:Nat->Prop} {a:Option Addr} {cap:Nat} {s:Sc} {f:Bool} {l:List s.T} (h:RdR R B w (.slice a l.length cap) s f l) {i:Nat} (hi:i <= l.length):RdR R B w (.slice (if cap=i then a else a.map (·.add (i*s.k))) (l.length - i) (cap - i)) s false (l.drop i):=by
 obtain ⟨a',cap',b,off,e,_,h2,h3,h4,h5⟩:=h;cases e;refine ⟨_,cap - i,b,off+i*s.k,by rw [length_drop],(by intro h; cases h),?_,?_,by rw [length_drop]; omega,fun j x hx=>?_⟩
 ·rcases Nat.lt_or_ge i l.length with hlt | hge
  ·right;rcases h2 with h2 | h2
   ·omega
   ·subst h2;rw [if_neg (by omega)];simp [a1b]
  ·exact .inl (by rw [length_drop]; omega)
 ·intro ha;split at ha
  ·omega
  ·cases a with
   | none=>have:=h3 rfl; omega
   | some a=>cases ha
 ·rw [getElem?_drop] at hx;obtain ⟨p,q⟩:=h5 (i+j) x hx;rw [show off+i*s.k+j*s.k=off+(i+j)*s.k by rw [Nat.add_mul]; omega];exact ⟨p,q⟩
theorem OwB.take {lo b T cap:Nat} {s:Sc} {l:List s.T} (h:OwB R lo w b T s l cap) {i:Nat} (hi:i <= l.length):OwB R lo w b T s (l.take i) cap:=by
 obtain ⟨h1,h2,h3,cur,h4,h5,h6,h7⟩:=h;refine ⟨h1,by rw [length_take]; omega,h3,cur,h4,h5,?_,h7⟩
 have e:a0d ((l.take i).flatMap s.enc)=(a0d (l.flatMap s.enc)).take (i*s.k):=by
  have:=aDn s (l.take i) (l.drop i);rw [List.take_append_drop] at this;rw [this];exact (List.take_left' (by rw [a5c,length_take,min_eq_left hi])).symm
 rw [e,length_take,min_eq_left hi];have:=h6.take (i*s.k);rwa [List.take_take,min_eq_left (Nat.mul_le_mul_right _ hi)] at this
theorem OwR.rd {lo T:Nat} {u:Value} {s:Sc} {l:List s.T} {ob:Option Nat} (h:OwR R lo w u T s l ob) {B:Nat->Prop} (hB:∀ b,ob=some b->B b):RdR R B w u s false l:=by
 rcases h with ⟨rfl,rfl,rfl⟩ | ⟨b,cap,rfl,rfl,h⟩
 ·exact ⟨none,0,0,0,rfl,(by intro h; cases h),.inl rfl,fun _=>rfl,le_refl _,fun i x hx=>by simp at hx⟩
 ·refine ⟨_,cap,b,0,rfl,(by intro h; cases h),.inr rfl,(by intro h; cases h),h.2.1,fun i x hx=>⟨hB b rfl,?_⟩⟩;have hi:i < l.length:=(List.getElem?_eq_some_iff.1 hx).1;have:=h.el hi;rw [zero_add];rwa [show l.getD i s.d=x by rw [getD_eq_getElem?_getD,hx]; rfl] at this
end
theorem a8B {P:Program} {T e:TypeId} {ie:TypeInfo} {n:Nat} (hu:P.underlying T=some (.array n e)) (hi:P.info? e=some ie) (b off:Nat) (k:IntKind) (i:Nat) (h1:i < n) (w:World) :
    (indexAt T (.pointer (some ⟨b,off,none⟩)) (.int k (Int.ofNat i))).run P w=.ok (.pointer (some ⟨b,off+i*ie.size,none⟩)) w:=by
 have hsize:(sizeOf e).run P w=.ok ie.size w:=by simp [sizeOf,typeInfo,hi]
 have hin:0 <= Int.ofNat i/\Int.ofNat i < (n:Int):=⟨by simp,by simp; exact h1⟩
 simp [indexAt,sureAddr,asIntOf,run_underlying hu,hsize,a1b,h1]
theorem a3X {P:Program} {L:List Lay} (hL:∀ l ∈ L,a1I P l) {bs:Bs} {lo:Nat} {w:World} {bx:List Bx} {ev:Operand->AV} {ρ:Operand->Value} (hev:∀ x,relV bs w (ev x) (ρ x)) (hbx:BoxesAt bs lo w bx) {o:Oper} {pre:Option Prop} {r:AV}
    (h:a2g L bx ev o.op=some (pre,r)) (hp:due pre):∃ v,(execOp ρ o).run P w=.ok (.value v) w/\relV bs w r v:=by
 cases hop:o.op with
 | move x =>
   rw [hop] at h;simp only [a2g,injEq,Prod.mk.injEq] at h;obtain ⟨_,rfl⟩:=h
   exact ⟨ρ x,by simp only [execOp,hop]; rfl,hev x⟩
 | assign x =>
   rw [hop] at h;simp only [a2g,injEq,Prod.mk.injEq] at h;obtain ⟨_,rfl⟩:=h
   exact ⟨ρ x,by simp only [execOp,hop]; rfl,hev x⟩
 | fieldAddr S x f =>
   rw [hop] at h;simp only [a2g] at h;split at h
   ·rename_i i off l hx hl;simp only [map_eq_some_iff,Prod.mk.injEq] at h;obtain ⟨d,hd,_,rfl⟩:=h;obtain ⟨hm,rfl⟩:=a0c hl;have hr:=hev x;rw [hx] at hr;obtain ⟨b,hb,hv⟩:=hr;refine ⟨.pointer (some ⟨b,off+d.1,none⟩),?_,b,hb,rfl⟩;simp only [execOp,hop,hv];exact a0O (a3j (hL l hm) hd b off w)
   ·rename_i cs l hx hl;simp only [map_eq_some_iff,Prod.mk.injEq] at h;obtain ⟨d,hd,_,rfl⟩:=h;obtain ⟨hm,rfl⟩:=a0c hl;have hr:=hev x;rw [hx] at hr;obtain ⟨b,off,hv,h1,h2,h3⟩:=hr;refine ⟨.pointer (some ⟨b,off+d.1,none⟩),?_,b,_,rfl,h1,h2,fun j v hj=>?_⟩
    ·simp only [execOp,hop,hv];exact a0O (a3j (hL l hm) hd b off w)
    ·rw [getElem?_take] at hj;split at hj
     ·rw [getElem?_drop] at hj;have:=h3 _ _ hj;rwa [<- Nat.add_assoc] at this
     ·cases hj
   ·rename_i cs l hx hl;simp only [bind_eq_some_iff,map_eq_some_iff,Prod.mk.injEq] at h;obtain ⟨d,hd,r',hr',_,rfl⟩:=h;obtain ⟨hm,rfl⟩:=a0c hl;have hr:=hev x;rw [hx] at hr;obtain ⟨b,off,hv,h1,h2⟩:=hr;refine ⟨.pointer (some ⟨b,off+d.1,none⟩),?_,b,_,rfl,h1,h2.cut hr'⟩;simp only [execOp,hop,hv];exact a0O (a3j (hL l hm) hd b off w)
   ·rename_i n cs l hx hl;simp only [bind_eq_some_iff,map_eq_some_iff,Prod.mk.injEq] at h;obtain ⟨d,hd,r',hr',_,rfl⟩:=h;obtain ⟨hm,rfl⟩:=a0c hl;have hr:=hev x;rw [hx] at hr;obtain ⟨b,off,h1,hv,h2⟩:=hr;refine ⟨.pointer (some ⟨b,off+d.1,none⟩),?_,b,_,h1,rfl,h2.cut hr'⟩;simp only [execOp,hop,hv];exact a0O (a3j (hL l hm) hd b off w)
   ·rename_i n t s xs i l hx hl;simp only [bind_eq_some_iff,map_eq_some_iff,Prod.mk.injEq] at h;obtain ⟨d,hd,r',hr',_,rfl⟩:=h;obtain ⟨hm,rfl⟩:=a0c hl;have hr:=hev x;rw [hx] at hr;obtain ⟨b,cap,h1,hv,hi,h2⟩:=hr;refine ⟨.pointer (some ⟨b,i*s.k+d.1,none⟩),?_,b,_,h1,rfl,(h2.el hi).cut hr'⟩;simp only [execOp,hop,hv];exact a0O (a3j (hL l hm) hd b _ w)
   ·cases h
 | load T x =>
   rw [hop] at h;simp only [a2g] at h;split at h
   ·rename_i i off l hx hl;split at h
    ·rename_i b hb;simp only [map_eq_some_iff,bind_eq_some_iff,Prod.mk.injEq] at h;obtain ⟨_,⟨cs,hc,hk⟩,_,rfl⟩:=h;obtain ⟨hm,rfl⟩:=a0c hl;have hr:=hev x;rw [hx] at hr;obtain ⟨g,hg,hv⟩:=hr;obtain ⟨_,vs,h2,h3,_⟩:=hbx i g b hg hb;obtain ⟨e1,e2⟩:=a4o _ _ _ _ _ hc
     have hrel:relL bs w (a0d cs) ((vs.drop off).take l.size):=by rw [e1]; exact (h3.drop off).take _
     refine ⟨_,?_,a3A hk hrel⟩;simp only [execOp,hop,hv];exact a0O (a2M (hL l hm) g off w _ (by rw [<- hrel.len,e2]) (a0B h2 off l.size))
    ·cases h
   ·rename_i c l hx hl
    cases hkd:Nat.beq l.kd 5 with
    | false=>rw [hkd] at h; simp at h
    | true =>
      rw [hkd] at h;simp only [cond_true,injEq,Prod.mk.injEq] at h;obtain ⟨_,rfl⟩:=h;obtain ⟨hm,rfl⟩:=a0c hl;have hr:=hev x;rw [hx] at hr;obtain ⟨b,o',hv,hc,_⟩:=hr
      have hk5:l.kd=5:=by simpa using hkd
      have hu:=(hL l hm).int .u32 (by rw [hk5]; rfl);refine ⟨.int .u32 (c:Int),?_,rfl,rfl⟩;simp only [execOp,hop,hv];refine a0O ?_
      have hagg:(isAgg l.t).run P w=.ok false w:=by
       unfold isAgg;rw [Sem.run_bind,run_underlying hu w];rfl
      simp [loadAt,sureAddr,loadVar,hagg,hc]
   ·rename_i cs l hx hl
    cases hc:Nat.beq cs.length l.size with
    | false=>rw [hc] at h; simp at h
    | true =>
      rw [hc] at h;simp only [cond_true,map_eq_some_iff,Prod.mk.injEq] at h;obtain ⟨_,hk,_,rfl⟩:=h;obtain ⟨hm,rfl⟩:=a0c hl;have hr:=hev x;rw [hx] at hr;obtain ⟨b,off,hv,h1,h2,h3⟩:=hr;refine ⟨_,?_,a3A hk (aEV fun v hv=>?_)⟩
      ·simp only [execOp,hop,hv];exact a0O (a2M (hL l hm) b off w cs (by simpa using hc) fun j v hj=>(h3 j v hj).1)
      ·obtain ⟨j,hj⟩:=List.getElem?_of_mem hv;exact (h3 j v hj).2
   ·rename_i c l hx hl
    cases hkd:Nat.beq l.kd 8 with
    | false=>rw [hkd] at h; simp at h
    | true =>
      rw [hkd] at h;simp only [cond_true,injEq,Prod.mk.injEq] at h;obtain ⟨_,rfl⟩:=h;obtain ⟨hm,rfl⟩:=a0c hl;have hr:=hev x;rw [hx] at hr;obtain ⟨b,o',v,hv,_,_,hc,hs⟩:=hr;obtain ⟨hu,_⟩:=(hL l hm).sl8 (by simpa using hkd);refine ⟨v,?_,hs⟩;simp only [execOp,hop,hv];refine a0O ?_
      have hagg:(isAgg l.t).run P w=.ok false w:=by
       unfold isAgg;rw [Sem.run_bind,run_underlying hu w];rfl
      simp [loadAt,sureAddr,loadVar,hagg,hc]
   ·rename_i cs l hx hl
    cases hc:Nat.beq (wid cs) l.size with
    | false=>rw [hc] at h; simp at h
    | true =>
      rw [hc] at h;simp only [cond_true,map_eq_some_iff,Prod.mk.injEq] at h;obtain ⟨_,hk,_,rfl⟩:=h;obtain ⟨hm,rfl⟩:=a0c hl;have hr:=hev x;rw [hx] at hr;obtain ⟨b,off,hv,h1,us,h2,h3⟩:=hr;refine ⟨_,?_,a3A hk (a6W h3)⟩;simp only [execOp,hop,hv];exact a0O (a2M (hL l hm) b off w us (by rw [<- h3.len,a2E]; simpa using hc) h2)
   ·rename_i n cs l hx hl
    cases hc:Nat.beq (wid cs) l.size with
    | false=>rw [hc] at h; simp at h
    | true =>
      rw [hc] at h;simp only [cond_true,map_eq_some_iff,Prod.mk.injEq] at h;obtain ⟨_,hk,_,rfl⟩:=h;obtain ⟨hm,rfl⟩:=a0c hl;have hr:=hev x;rw [hx] at hr;obtain ⟨b,off,h1,hv,us,h2,h3⟩:=hr;refine ⟨_,?_,a3A hk (a6W h3)⟩;simp only [execOp,hop,hv];exact a0O (a2M (hL l hm) b off w us (by rw [<- h3.len,a2E]; simpa using hc) h2)
   ·rename_i n t s xs i l hx hl
    cases hc:Nat.beq (wid (s.enc (xs.getD i s.d))) l.size with
    | false=>rw [hc] at h; simp at h
    | true =>
      rw [hc] at h;simp only [cond_true,map_eq_some_iff,Prod.mk.injEq] at h;obtain ⟨_,hk,_,rfl⟩:=h;obtain ⟨hm,rfl⟩:=a0c hl;have hr:=hev x;rw [hx] at hr;obtain ⟨b,cap,h1,hv,hi,ho⟩:=hr;obtain ⟨us,h2,h3⟩:=ho.el hi;refine ⟨_,?_,a3A hk (a6W h3)⟩;simp only [execOp,hop,hv];exact a0O (a2M (hL l hm) b _ w us (by rw [<- h3.len,a2E]; simpa using hc) h2)
   ·cases h
 | indexAddr T x y =>
   rw [hop] at h;simp only [a2g] at h;split at h
   ·rename_i l k i d hx hy hl
    cases hkd:Nat.beq d.kd 2 with
    | false=>rw [hkd] at h; simp at h
    | true =>
      rw [hkd] at h;simp only [cond_true,injEq,Prod.mk.injEq] at h;obtain ⟨rfl,rfl⟩:=h;obtain ⟨hm,rfl⟩:=a0c hl;have hr:=hev x; have hs:=hev y;rw [hx] at hr; rw [hy] at hs;obtain ⟨e2,_⟩:=hs;simp only [due] at hp;obtain ⟨b,o',h1,h2,h3⟩:=aHQ (hL d hm) (by simpa using hkd) hr.1 k i hp.1 hp.2;refine ⟨_,?_,b,o',rfl,h2,trivial⟩;simp only [execOp,hop,e2];exact a0O h1
   ·rename_i l k i d hx hy hl
    cases hkd:Nat.beq d.kd 8 with
    | false=>rw [hkd] at h; simp at h
    | true =>
      rw [hkd] at h;simp only [cond_true,injEq,Prod.mk.injEq] at h;obtain ⟨rfl,rfl⟩:=h;obtain ⟨hm,rfl⟩:=a0c hl;have hr:=hev x; have hs:=hev y;rw [hx] at hr; rw [hy] at hs;obtain ⟨e2,_⟩:=hs;simp only [due] at hp;obtain ⟨hu,hi⟩:=(hL d hm).sl8 (by simpa using hkd);have hr':SlP bs.lo w (ρ x) l:=hr;unfold SlP at hr';obtain ⟨b,o',h1,h2,h3,h4,h5⟩:=a7R hr' hu hi k i hp.1 hp.2 (0,0);refine ⟨_,?_,b,o',rfl,h2,h3,fun j v hj=>?_⟩
      ·simp only [execOp,hop,e2];exact a0O h1
      ·match j,hj with
       | 0,hj=>simp at hj; subst hj; exact ⟨h4,rfl⟩
       | 1,hj=>simp at hj; subst hj; exact ⟨h5,rfl⟩
   ·rename_i l k i d hx hy hl
    cases hkd:Nat.beq d.kd 9 with
    | false=>rw [hkd] at h; simp at h
    | true =>
      rw [hkd] at h;simp only [cond_true,injEq,Prod.mk.injEq] at h;obtain ⟨rfl,rfl⟩:=h;obtain ⟨hm,rfl⟩:=a0c hl;have hr:=hev x; have hs:=hev y;rw [hx] at hr; rw [hy] at hs;obtain ⟨e2,_⟩:=hs;simp only [due] at hp;obtain ⟨hu,hi⟩:=(hL d hm).sl9 (by simpa using hkd);have hr':SlQ bs.lo w (ρ x) l:=hr;unfold SlQ at hr';obtain ⟨b,o',h1,h2,h3,v,h4,h5⟩:=a7R hr' hu hi k i hp.1 hp.2 [];refine ⟨_,?_,b,o',v,rfl,h2,h3,h4,h5⟩;simp only [execOp,hop,e2];exact a0O h1
   ·rename_i kk l k i d hx hy hl
    cases hkd:Nat.beq d.kd (kk+100) with
    | false=>rw [hkd] at h; simp at h
    | true =>
      rw [hkd] at h;simp only [cond_true,injEq,Prod.mk.injEq] at h;obtain ⟨rfl,rfl⟩:=h;obtain ⟨hm,rfl⟩:=a0c hl;have hr:=hev x; have hs:=hev y;rw [hx] at hr; rw [hy] at hs;obtain ⟨e2,_⟩:=hs;simp only [due] at hp;obtain ⟨hu,hi⟩:=(hL d hm).slk kk (by simpa using hkd);have hr':SlV bs.lo w (ρ x) kk l:=hr;unfold SlV at hr';obtain ⟨b,o',h1,h2,h3,h4,h5⟩:=a7R hr' hu hi k i hp.1 hp.2 [];refine ⟨_,?_,b,o',rfl,h2,h3,fun j v hj=>?_⟩
      ·simp only [execOp,hop,e2];exact a0O h1
      ·have hjk:j < kk:=by
        rcases Nat.lt_or_ge j kk with h' | h'
        ·exact h'
        ·rw [List.getElem?_eq_none (by simpa using h')] at hj; cases hj
       have hv:v=.int .i64 ((l.getD i.toNat []).getD j 0):=by
        simp [hjk] at hj;simpa using hj.symm
       subst hv;exact ⟨h5 j _ (by simp [getD_eq_getElem?_getD] at h4 ⊢; rw [List.getElem?_eq_getElem (by omega)]; rfl),rfl⟩
   ·rename_i bi n k i d hx hy hl;split at h
    ·rename_i le hle
     cases hkd:(Nat.beq d.kd 10 && Nat.blt i n) with
     | false=>rw [hkd] at h; simp at h
     | true =>
       rw [hkd] at h;simp only [cond_true,injEq,Prod.mk.injEq] at h;obtain ⟨_,rfl⟩:=h;simp only [Bool.and_eq_true,beq_eq,Nat.blt_eq] at hkd;obtain ⟨hm,rfl⟩:=a0c hl;obtain ⟨hme,hle'⟩:=a0c hle;have hr:=hev x; have hs:=hev y;rw [hx] at hr; rw [hy] at hs;obtain ⟨e2,_⟩:=hs;obtain ⟨b,hb,hv⟩:=hr;have hu:=(hL d hm).sl10 hkd.1;have hi:=(hL le hme).size;rw [hle'] at hi;simp only [map_eq_some_iff] at hi;obtain ⟨ie,hie,hsz⟩:=hi;refine ⟨_,?_,b,hb,rfl⟩;simp only [execOp,hop,e2,hv];have:=a1v hu hie b 0 n n k (Int.ofNat i) (by simp) (by simp; exact hkd.2) w;rw [zero_add,hsz] at this;exact a0O this
    ·cases h
   ·rename_i s f xs k i d hx hy hl
    cases hkd:scB d.kd s with
    | false=>rw [hkd] at h; simp at h
    | true =>
      rw [hkd] at h;simp only [cond_true,injEq,Prod.mk.injEq] at h;obtain ⟨rfl,rfl⟩:=h;obtain ⟨hm,rfl⟩:=a0c hl;obtain ⟨ie,z,hu,hi,hsz,_⟩:=(hL d hm).sc s (a4e hkd);have hr:=hev x; have hs:=hev y;rw [hx] at hr; rw [hy] at hs;obtain ⟨e2,_⟩:=hs;simp only [due] at hp;obtain ⟨b,o',h1,h2,h3⟩:=a9H hr hu hi hsz k i hp.1 hp.2;refine ⟨_,?_,b,o',rfl,h2,h3⟩;simp only [execOp,hop,e2];exact a0O h1
   ·rename_i n s xs k i d hx hy hl
    cases hkd:scB d.kd s with
    | false=>rw [hkd] at h; simp at h
    | true =>
      rw [hkd] at h;simp only [cond_true,injEq,Prod.mk.injEq] at h;obtain ⟨rfl,rfl⟩:=h;obtain ⟨hm,rfl⟩:=a0c hl;obtain ⟨ie,z,hu,hi,hsz,_⟩:=(hL d hm).sc s (a4e hkd);have hr:=hev x; have hs:=hev y;rw [hx] at hr; rw [hy] at hs;obtain ⟨e2,_⟩:=hs;simp only [due] at hp;obtain ⟨b,o',h1,h2,h3⟩:=a9H hr hu hi hsz k i hp.1 hp.2;refine ⟨_,?_,b,o',h2,rfl,h3⟩;simp only [execOp,hop,e2];exact a0O h1
   ·rename_i n t s xs k i d hx hy hl
    cases hkd:scB d.kd s with
    | false=>rw [hkd] at h; simp at h
    | true =>
      rw [hkd] at h;simp only [cond_true,injEq,Prod.mk.injEq] at h;obtain ⟨rfl,rfl⟩:=h;obtain ⟨hm,rfl⟩:=a0c hl;obtain ⟨ie,z,hu,hi,hsz,_⟩:=(hL d hm).sc s (a4e hkd);have hr:=hev x; have hs:=hev y;rw [hx] at hr; rw [hy] at hs;obtain ⟨e2,_⟩:=hs;simp only [due] at hp;obtain ⟨ob,g1,g2⟩:=hr
      rcases g2 with ⟨rfl,g3,rfl⟩ | ⟨b,cap,rfl,g3,g4⟩
      ·simp at hp; omega
      ·refine ⟨.pointer (some ⟨b,i.toNat*s.k,none⟩),?_,b,cap,g1,rfl,by omega,g4⟩;have:=a1v hu hi b 0 xs.length cap k i hp.1 hp.2 w;rw [zero_add,hsz] at this;simp only [execOp,hop,e2,g3];exact a0O this
   ·rename_i bi off k i d hx hy hl;split at h
    ·rename_i le hle
     cases hkd:(Nat.beq d.kd 30 && Nat.ble ((i+1)*le.size) d.size) with
     | false=>rw [hkd] at h; simp at h
     | true =>
       rw [hkd] at h;simp only [cond_true,injEq,Prod.mk.injEq] at h;obtain ⟨_,rfl⟩:=h;simp only [Bool.and_eq_true,beq_eq,ble_eq] at hkd;obtain ⟨hm,rfl⟩:=a0c hl;obtain ⟨hme,hle'⟩:=a0c hle;have hr:=hev x; have hs:=hev y;rw [hx] at hr; rw [hy] at hs;obtain ⟨e2,_⟩:=hs;obtain ⟨b,hb,hv⟩:=hr;obtain ⟨n,ie,hu,hie,hsz,h1⟩:=(hL d hm).arr hkd.1;have hi:=(hL le hme).size;rw [hle',hie] at hi;simp only [map_some,injEq] at hi;refine ⟨_,?_,b,hb,rfl⟩;simp only [execOp,hop,e2,hv]
       have:=a8B hu hie b off k i (by
        have:=hkd.2;rw [hsz,<- hi] at this
        exact Nat.lt_of_succ_le (Nat.le_of_mul_le_mul_right this h1)) w
       rw [hi] at this;exact a0O this
    ·cases h
   ·rename_i cs k i d hx hy hl;split at h
    ·rename_i le hle
     cases hkd:(Nat.beq d.kd 30 && Nat.ble ((i+1)*le.size) d.size) with
     | false=>rw [hkd] at h; simp at h
     | true =>
       rw [hkd] at h;simp only [cond_true,map_eq_some_iff,Prod.mk.injEq] at h;obtain ⟨r',hr',_,rfl⟩:=h;simp only [Bool.and_eq_true,beq_eq,ble_eq] at hkd;obtain ⟨hm,rfl⟩:=a0c hl;obtain ⟨hme,hle'⟩:=a0c hle;have hr:=hev x; have hs:=hev y;rw [hx] at hr; rw [hy] at hs;obtain ⟨e2,_⟩:=hs;obtain ⟨b,off,hv,g1,g2⟩:=hr;obtain ⟨n,ie,hu,hie,hsz,h1⟩:=(hL d hm).arr hkd.1;have hi:=(hL le hme).size;rw [hle',hie] at hi;simp only [map_some,injEq] at hi;refine ⟨_,?_,b,_,rfl,g1,g2.cut hr'⟩;simp only [execOp,hop,e2,hv]
       have:=a8B hu hie b off k i (by
        have:=hkd.2;rw [hsz,<- hi] at this
        exact Nat.lt_of_succ_le (Nat.le_of_mul_le_mul_right this h1)) w
       rw [hi] at this;exact a0O this
    ·cases h
   ·cases h
 | slice T x lo hi mx =>
   rw [hop] at h
   cases lo with
   | some y =>
     cases hi with
     | some _=>simp [a2g] at h
     | none =>
     cases mx with
     | some _=>simp [a2g] at h
     | none =>
       simp only [a2g] at h;split at h
       ·rename_i s f xs k i d hx hy hl
        cases hkd:scB d.kd s with
        | false=>rw [hkd] at h; simp at h
        | true =>
          rw [hkd] at h;simp only [cond_true,injEq,Prod.mk.injEq] at h;obtain ⟨rfl,rfl⟩:=h;obtain ⟨hm,rfl⟩:=a0c hl;obtain ⟨ie,z,hu,hie,hsz,_⟩:=(hL d hm).sc s (a4e hkd);have hr:=hev x; have hs:=hev y;rw [hx] at hr; rw [hy] at hs;obtain ⟨e2,_⟩:=hs;simp only [due] at hp;have hr':RdR (relE bs w) (Fz bs w) w (ρ x) s f xs:=hr;obtain ⟨a,cap,_,_,hv,_⟩:=id hr';rw [hv] at hr';have hq:=RdR.from hr' (i:=i.toNat) (by omega);refine ⟨_,?_,hq⟩;have:=a4Y (P:=P) hu hie a xs.length cap k i hp.1 hp.2 (w:=w);rw [hsz] at this;simp only [execOp,hop,map_none,map_some,e2,hv];exact a0O this
       ·rename_i n t s xs k i d hx hy hl
        cases hkd:scB d.kd s with
        | false=>rw [hkd] at h; simp at h
        | true =>
          rw [hkd] at h;simp only [cond_true,injEq,Prod.mk.injEq] at h;obtain ⟨rfl,rfl⟩:=h;obtain ⟨hm,rfl⟩:=a0c hl;obtain ⟨ie,z,hu,hie,hsz,_⟩:=(hL d hm).sc s (a4e hkd);have hr:=hev x; have hs:=hev y;rw [hx] at hr; rw [hy] at hs;obtain ⟨e2,_⟩:=hs;simp only [due] at hp;obtain ⟨ob,g1,g2⟩:=hr
          have hr':RdR (relE bs w) (fun b=>bs.ow[n]?=some (some b)) w (ρ x) s false xs:=g2.rd fun b hb=>by rw [g1,hb]
          obtain ⟨a,cap,_,_,hv,_⟩:=id hr';rw [hv] at hr';have hq:=RdR.from hr' (i:=i.toNat) (by omega);refine ⟨_,?_,hq⟩;have:=a4Y (P:=P) hu hie a xs.length cap k i hp.1 hp.2 (w:=w);rw [hsz] at this;simp only [execOp,hop,map_none,map_some,e2,hv];exact a0O this
       ·cases h
   | none =>
     cases hi with
     | none=>simp [a2g] at h
     | some y =>
       cases mx with
       | some _=>simp [a2g] at h
       | none =>
         simp only [a2g] at h;split at h
         ·rename_i l k i d hx hy hl
          cases hkd:Nat.beq d.kd 2 with
          | false=>rw [hkd] at h; simp at h
          | true =>
            rw [hkd] at h;simp only [cond_true,injEq,Prod.mk.injEq] at h;obtain ⟨rfl,rfl⟩:=h;obtain ⟨hm,rfl⟩:=a0c hl;have hr:=hev x; have hs:=hev y;rw [hx] at hr; rw [hy] at hs;obtain ⟨e2,_⟩:=hs;simp only [due] at hp;obtain ⟨v,h1,h2,h3⟩:=aHP (hL d hm) (by simpa using hkd) hr.1 k i hp.1 hp.2;refine ⟨v,?_,h2,trivial⟩;simp only [execOp,hop,map_none,map_some,e2];exact a0O h1
         ·rename_i s f xs k i d hx hy hl
          cases hkd:scB d.kd s with
          | false=>rw [hkd] at h; simp at h
          | true =>
            rw [hkd] at h;simp only [cond_true,injEq,Prod.mk.injEq] at h;obtain ⟨rfl,rfl⟩:=h;obtain ⟨hm,rfl⟩:=a0c hl;obtain ⟨ie,z,hu,hie,hsz,_⟩:=(hL d hm).sc s (a4e hkd);have hr:=hev x; have hs:=hev y;rw [hx] at hr; rw [hy] at hs;obtain ⟨e2,_⟩:=hs;simp only [due] at hp;have hr':RdR (relE bs w) (Fz bs w) w (ρ x) s f xs:=hr;obtain ⟨a,cap,_,_,hv,_,_,_,hc,_⟩:=id hr';rw [hv] at hr';have hq:=RdR.take hr' (i:=i.toNat) (by omega);refine ⟨_,?_,hq⟩;have:=a4X (P:=P) hu hie a xs.length cap k i hp.1 hp.2 hc (w:=w);rw [b2M] at this;simp only [execOp,hop,map_none,map_some,e2,hv];exact a0O this
         ·rename_i n t s xs k i d hx hy hl
          cases hkd:scB d.kd s with
          | false=>rw [hkd] at h; simp at h
          | true =>
            rw [hkd] at h;simp only [cond_true,injEq,Prod.mk.injEq] at h;obtain ⟨rfl,rfl⟩:=h;obtain ⟨hm,rfl⟩:=a0c hl;obtain ⟨ie,z,hu,hie,hsz,_⟩:=(hL d hm).sc s (a4e hkd);have hr:=hev x; have hs:=hev y;rw [hx] at hr; rw [hy] at hs;obtain ⟨e2,_⟩:=hs;simp only [due] at hp;obtain ⟨ob,g1,g2⟩:=hr
            rcases g2 with ⟨rfl,g3,rfl⟩ | ⟨b,cap,rfl,g3,g4⟩
            ·have h0:i=0:=by simp at hp; omega
             subst h0;refine ⟨.slice none 0 0,?_,none,g1,.inl ⟨rfl,rfl,rfl⟩⟩;have:=a4X (P:=P) hu hie none 0 0 k 0 (by omega) (by omega) (le_refl _) (w:=w);simp only [execOp,hop,map_none,map_some,e2,g3];exact a0O (by simpa using this)
            ·refine ⟨.slice (some ⟨b,0,none⟩) i.toNat cap,?_,some b,g1,.inr ⟨b,cap,rfl,?_,g4.take (by omega)⟩⟩
             ·have:=a4X (P:=P) hu hie (some ⟨b,0,none⟩) xs.length cap k i hp.1 hp.2 g4.2.1 (w:=w);rw [b2M] at this;simp only [execOp,hop,map_none,map_some,e2,g3];exact a0O this
             ·rw [length_take,min_eq_left (by omega)]
         ·cases h
 | convert S D x =>
   rw [hop] at h;simp only [a2g] at h;split at h
   ·rename_i k' n lS d hx hlS hl;split at h
    ·rename_i k hk;obtain ⟨hm,rfl⟩:=a0c hl;obtain ⟨hmS,rfl⟩:=a0c hlS;have hr:=hev x;rw [hx] at hr;obtain ⟨e1,_⟩:=hr;obtain ⟨dS,hdS,_⟩:=(hL lS hmS).desc
     cases hc:aVI k' k with
     | false =>
       rw [hc] at h;simp only [cond_false,injEq,Prod.mk.injEq] at h;obtain ⟨rfl,rfl⟩:=h;refine ⟨.int k n,?_,rfl,rfl⟩;simp only [execOp,hop,e1]
       exact a0O (aHR ⟨dS,hdS⟩ ((hL d hm).int k hk) hp w)
     | true =>
       rw [hc] at h;simp only [cond_true,injEq,Prod.mk.injEq] at h;obtain ⟨_,rfl⟩:=h;refine ⟨.int k (IntKind.wrap k n),?_,rfl,rfl⟩;simp only [execOp,hop,e1];exact a0O (aER ⟨dS,hdS⟩ ((hL d hm).int k hk) w)
    ·cases h
   ·cases h
 | build T parts =>
   rw [hop] at h;simp only [a2g] at h;split at h
   ·rename_i l hl
    cases he:l.flds.isEmpty with
    | true=>rw [he] at h; simp at h
    | false =>
      rw [he] at h;simp only [cond_false,map_eq_some_iff,Prod.mk.injEq] at h;obtain ⟨cs,hc,_,rfl⟩:=h;obtain ⟨hm,rfl⟩:=a0c hl;obtain ⟨vs,h1,h2⟩:=aUw (hL l hm) hev (by intro e; rw [e] at he; simp at he) hc;refine ⟨.agg vs.toArray,?_,vs,rfl,h2⟩;simp only [execOp,hop];refine a0O (run_build w _ _ _ ?_);simpa using h1
   ·cases h
 | extract x i =>
   rw [hop] at h;simp only [a2g] at h;split at h
   ·rename_i xs hx;simp only [map_eq_some_iff,Prod.mk.injEq] at h;obtain ⟨y,hy,_,rfl⟩:=h;have hr:=hev x;rw [hx] at hr;obtain ⟨us,hu,hk⟩:=hr;obtain ⟨u,h1,h2⟩:=hk.get hy;refine ⟨u,?_,h2⟩;simp only [execOp,hop,hu];refine a0O ?_;simp [Instr.extract,h1]
   ·cases h
 | binOp op T x y yT =>
   rw [hop] at h;simp only [a2g] at h;split at h
   ·rename_i a b c d hx hy;split at h
    ·rename_i l hl
     cases hkd:Nat.beq l.kd 11 with
     | false=>rw [hkd] at h; simp at h
     | true =>
       rw [hkd] at h;simp only [cond_true,injEq,Prod.mk.injEq] at h;obtain ⟨rfl,rfl⟩:=h;obtain ⟨hm,rfl⟩:=a0c hl;have he2:=(hL l hm).eq2 (by simpa using hkd);have hr:=hev x; have hs:=hev y;rw [hx] at hr; rw [hy] at hs;obtain ⟨us,e1,k1⟩:=hr;obtain ⟨vs,e2,k2⟩:=hs
       match us,k1 with
       | [u1,u2],k1 =>
       match vs,k2 with
       | [v1,v2],k2 =>
       obtain ⟨⟨g1,_⟩,⟨g2,_⟩,_⟩:=k1;obtain ⟨⟨g3,_⟩,⟨g4,_⟩,_⟩:=k2;subst g1; subst g2; subst g3; subst g4;refine ⟨.bool (decide (a=c/\b=d)),?_,rfl,rfl⟩;simp only [execOp,hop,e1,e2];exact a0O (aUb he2 a b c d x y w)
    ·cases h
   ·rename_i a b hx hy;simp only [map_eq_some_iff,Prod.mk.injEq] at h;obtain ⟨⟨pv,v⟩,hv,rfl,rfl⟩:=h;have hr:=hev x; have hs:=hev y;rw [hx] at hr; rw [hy] at hs;obtain ⟨e1,_⟩:=hr;obtain ⟨e2,_⟩:=hs;refine ⟨v,?_,rfl,aUJ hv⟩;simp only [execOp,hop,e1,e2];refine a0O (aL1 hv hp T (fun hb=>?_) x y w);split at hb
    ·rename_i l hl;obtain ⟨hm,rfl⟩:=a0c hl;exact (hL l hm).bool (by simpa using hb)
    ·cases hb
   ·cases h
 | unOp op T x =>
   rw [hop] at h
   cases op <;> simp only [a2g] at h <;> try (cases h; done)
   case neg =>
    split at h
    ·rename_i n hx;simp only [injEq,Prod.mk.injEq] at h;obtain ⟨rfl,rfl⟩:=h;have hr:=hev x;rw [hx] at hr;obtain ⟨e1,_⟩:=hr;simp only [due] at hp;refine ⟨.int .i64 (0 - n),?_,rfl,rfl⟩;simp only [execOp,hop,e1];exact a0O (by simp only [Op.unary]; simp [go_sem,Op.intArith]; have:=a3G hp; simpa using this)
    ·rename_i n hx;simp only [injEq,Prod.mk.injEq] at h;obtain ⟨rfl,rfl⟩:=h;have hr:=hev x;rw [hx] at hr;obtain ⟨e1,_⟩:=hr;refine ⟨.int .u64 (IntKind.wrap .u64 (0 - n)),?_,rfl,rfl⟩;simp only [execOp,hop,e1];exact a0O (by simp only [Op.unary]; simp [go_sem,Op.intArith])
    ·cases h
   case not =>
    split at h
    ·rename_i b hx;simp only [injEq,Prod.mk.injEq] at h;obtain ⟨_,rfl⟩:=h;have hr:=hev x;rw [hx] at hr;obtain ⟨e1,_⟩:=hr;refine ⟨.bool (!b),?_,rfl,rfl⟩;simp only [execOp,hop,e1];exact a0O (by simp [Op.unary])
    ·cases h
 | call c =>
   rw [hop] at h;simp only [a2g] at h;split at h
   ·rename_i x T hcal hargs htys;split at h
    ·rename_i l y hx hl
     cases hkd:Nat.beq y.kd 2 with
     | false=>rw [hkd] at h; simp at h
     | true =>
       rw [hkd] at h;simp only [cond_true,injEq,Prod.mk.injEq] at h;obtain ⟨_,rfl⟩:=h;have hr:=hev x;rw [hx] at hr;obtain ⟨hm,rfl⟩:=a0c hl;obtain ⟨e,_,_,hu,_⟩:=(hL y hm).slice (by simpa using hkd);obtain ⟨a,n,he⟩:=SlU.form hr.1;exact ⟨.int .i64 (l.length:Int),a2p hu hop hcal hargs htys he w,rfl,rfl⟩
    ·rename_i l y hx hl
     cases hkd:Nat.beq y.kd 8 with
     | false=>rw [hkd] at h; simp at h
     | true =>
       rw [hkd] at h;simp only [cond_true,injEq,Prod.mk.injEq] at h;obtain ⟨_,rfl⟩:=h;have hr:=hev x;rw [hx] at hr;obtain ⟨hm,rfl⟩:=a0c hl;obtain ⟨hu,_⟩:=(hL y hm).sl8 (by simpa using hkd);obtain ⟨a,cap,b,off,he,_⟩:=hr;exact ⟨.int .i64 (l.length:Int),a2p hu hop hcal hargs htys he w,rfl,rfl⟩
    ·rename_i l y hx hl
     cases hkd:Nat.beq y.kd 9 with
     | false=>rw [hkd] at h; simp at h
     | true =>
       rw [hkd] at h;simp only [cond_true,injEq,Prod.mk.injEq] at h;obtain ⟨_,rfl⟩:=h;have hr:=hev x;rw [hx] at hr;obtain ⟨hm,rfl⟩:=a0c hl;obtain ⟨hu,_⟩:=(hL y hm).sl9 (by simpa using hkd);obtain ⟨a,cap,b,off,he,_⟩:=hr;exact ⟨.int .i64 (l.length:Int),a2p hu hop hcal hargs htys he w,rfl,rfl⟩
    ·rename_i i n y hx hl
     cases hkd:Nat.beq y.kd 10 with
     | false=>rw [hkd] at h; simp at h
     | true =>
       rw [hkd] at h;simp only [cond_true,injEq,Prod.mk.injEq] at h;obtain ⟨_,rfl⟩:=h;have hr:=hev x;rw [hx] at hr;obtain ⟨hm,rfl⟩:=a0c hl;have hu:=(hL y hm).sl10 (by simpa using hkd);obtain ⟨b,_,he⟩:=hr;exact ⟨.int .i64 (n:Int),a2p hu hop hcal hargs htys he w,rfl,rfl⟩
    ·rename_i n y hx hl
     cases hkd:Nat.beq y.kd 10 with
     | false=>rw [hkd] at h; simp at h
     | true =>
       rw [hkd] at h;simp only [cond_true,injEq,Prod.mk.injEq] at h;obtain ⟨_,rfl⟩:=h;have hr:=hev x;rw [hx] at hr;obtain ⟨hm,rfl⟩:=a0c hl;have hu:=(hL y hm).sl10 (by simpa using hkd);obtain ⟨a,cap,he⟩:=hr;exact ⟨.int .i64 (n:Int),a2p hu hop hcal hargs htys he w,rfl,rfl⟩
    ·rename_i kk l y hx hl
     cases hkd:Nat.beq y.kd (kk+100) with
     | false=>rw [hkd] at h; simp at h
     | true =>
       rw [hkd] at h;simp only [cond_true,injEq,Prod.mk.injEq] at h;obtain ⟨_,rfl⟩:=h;have hr:=hev x;rw [hx] at hr;obtain ⟨hm,rfl⟩:=a0c hl;obtain ⟨hu,_⟩:=(hL y hm).slk kk (by simpa using hkd);obtain ⟨a,cap,b,off,he,_⟩:=hr;exact ⟨.int .i64 (l.length:Int),a2p hu hop hcal hargs htys he w,rfl,rfl⟩
    ·rename_i s f xs y hx hl
     cases hkd:scB y.kd s with
     | false=>rw [hkd] at h; simp at h
     | true =>
       rw [hkd] at h;simp only [cond_true,injEq,Prod.mk.injEq] at h;obtain ⟨_,rfl⟩:=h;have hr:=hev x;rw [hx] at hr;obtain ⟨hm,rfl⟩:=a0c hl;obtain ⟨_,_,hu,_⟩:=(hL y hm).sc s (a4e hkd);obtain ⟨a,cap,b,off,he,_⟩:=hr;exact ⟨.int .i64 (xs.length:Int),a2p hu hop hcal hargs htys he w,rfl,rfl⟩
    ·rename_i n t s xs y hx hl
     cases hkd:scB y.kd s with
     | false=>rw [hkd] at h; simp at h
     | true =>
       rw [hkd] at h;simp only [cond_true,injEq,Prod.mk.injEq] at h;obtain ⟨_,rfl⟩:=h;have hr:=hev x;rw [hx] at hr;obtain ⟨hm,rfl⟩:=a0c hl;obtain ⟨_,_,hu,_⟩:=(hL y hm).sc s (a4e hkd);obtain ⟨ob,_,g⟩:=hr
       rcases g with ⟨_,g3,rfl⟩ | ⟨b,cap,_,g3,_⟩
       ·exact ⟨.int .i64 0,a2p hu hop hcal hargs htys g3 w,rfl,rfl⟩
       ·exact ⟨.int .i64 (xs.length:Int),a2p hu hop hcal hargs htys g3 w,rfl,rfl⟩
    ·rename_i n s xs y hx hl
     cases hkd:scB y.kd s with
     | false=>rw [hkd] at h; simp at h
     | true =>
       rw [hkd] at h;simp only [cond_true,injEq,Prod.mk.injEq] at h;obtain ⟨_,rfl⟩:=h;have hr:=hev x;rw [hx] at hr;obtain ⟨hm,rfl⟩:=a0c hl;obtain ⟨_,_,hu,_⟩:=(hL y hm).sc s (a4e hkd);obtain ⟨a,cap,b,off,he,_⟩:=hr;exact ⟨.int .i64 (xs.length:Int),a2p hu hop hcal hargs htys he w,rfl,rfl⟩
    ·rename_i y hx hl
     cases hkd:(aTj y.kd).isSome with
     | false=>rw [hkd] at h; simp at h
     | true =>
       rw [hkd] at h;simp only [cond_true,injEq,Prod.mk.injEq] at h;obtain ⟨_,rfl⟩:=h;have hr:=hev x;rw [hx] at hr;obtain ⟨hm,rfl⟩:=a0c hl;obtain ⟨s,hs⟩:=Option.isSome_iff_exists.1 hkd;obtain ⟨_,_,hu,_⟩:=(hL y hm).sc s hs;exact ⟨.int .i64 0,a2p hu hop hcal hargs htys hr.1 w,rfl,rfl⟩
    ·cases h
   ·rename_i x y hcal hargs;split at h
    ·rename_i a b hx hy;simp only [injEq,Prod.mk.injEq] at h;obtain ⟨_,rfl⟩:=h;have hr:=hev x; have hs:=hev y;rw [hx] at hr; rw [hy] at hs
     have hargs':c.args=#[x,y]:=by rw [<- Array.toList_inj]; simpa using hargs
     refine ⟨.int .i64 (if b < a then b else a),?_,rfl,rfl⟩;simp [execOp,hop,go_sem,hcal,hargs',hr.1,hs.1]
    ·cases h
   ·cases h
 | _=>rw [hop] at h; simp [a2g] at h
def rq:AC->Option (Prop × Rat)
 | .R q=>some (True,q)
 | .Z b q=>some (b=true,q)
 | _=>none
theorem a3R {x:AC} {c:Prop} {q:Rat} (h:rq x=some (c,q)) (hc:c):x.flat=(AC.R q).flat:=by
 unfold rq at h;split at h
 ·cases h; rfl
 ·cases h; subst hc; rfl
 ·cases h
def rz (a:Bool):AC->Option (Prop × Rat)
 | .Z b q=>some (b=a,q)
 | .R q=>some (a=true,q)
 | _=>none
theorem aXo {a:Bool} {x:AC} {c:Prop} {q:Rat} (h:rz a x=some (c,q)) (hc:c):x.flat=(AC.Z a q).flat:=by
 unfold rz at h;split at h
 ·cases h; subst hc; rfl
 ·cases h; subst hc; rfl
 ·cases h
theorem a2O {x:AC} {c:Prop} {q:Rat} (h:rq x=some (c,q)) (hc:c):a0d [x]=a0d [.R q]:=by simp only [a0d,a3R h hc]
theorem a1k {bs:Bs} {w:World} {l r:List AC} (h:a0d l=a0d r) {xs ys:List AK} (k:∀ vs,relKs bs w xs vs->relKs bs w ys vs):∀ vs,relKs bs w (.g l :: xs) vs->relKs bs w (.g r :: ys) vs
 | [],e=>e.elim
 | _ :: vs,e=>by
   obtain ⟨⟨us,e1,e2⟩,e3⟩:=e;exact ⟨⟨us,e1,by rw [<- h]; exact e2⟩,k vs e3⟩
theorem a3k {bs:Bs} {w:World}:∀ vs,relKs bs w [] vs->relKs bs w [] vs:=fun _ h=>h
theorem a7V {bs:Bs} {w:World} {l r:List AC} (h:a0d l=a0d r) {u:Value} (k:relK bs w (.g l) u):relK bs w (.g r) u:=by
 obtain ⟨us,e,k⟩:=k;exact ⟨us,e,by rw [<- h]; exact k⟩
def rdV:List AC->Option (Prop × Vx)
 | [xvx,xvy] =>
   match rq xvx,rq xvy with
   | some (cvx,vx),some (cvy,vy)=>some (cvx/\cvy,⟨vx,vy⟩)
   | _,_=>none
 | _=>none
theorem a8C {l:List AC} {p:Vx} {c:Prop} (h:rdV l=some (c,p)) (hc:c):a0d l=a0d [.R p.vx,.R p.vy]:=by
 unfold rdV at h;split at h
 ·split at h
  ·rename_i evx evy;cases h;obtain ⟨hvx,hvy⟩:=hc;simp only [a0d,a3R evx hvx,a3R evy hvy]
  ·cases h
 ·cases h
def rdR:List AC->Option (Prop × Rx)
 | [xra,xrb,xrc] =>
   match rq xra,rq xrb,rq xrc with
   | some (cra,ra),some (crb,rb),some (crc,rc)=>some (cra/\crb/\crc,⟨ra,rb,rc⟩)
   | _,_,_=>none
 | _=>none
theorem b05 {l:List AC} {p:Rx} {c:Prop} (h:rdR l=some (c,p)) (hc:c):a0d l=a0d [.R p.ra,.R p.rb,.R p.rc]:=by
 unfold rdR at h;split at h
 ·split at h
  ·rename_i era erb erc;cases h;obtain ⟨hra,hrb,hrc⟩:=hc;simp only [a0d,a3R era hra,a3R erb hrb,a3R erc hrc]
  ·cases h
 ·cases h
def rdP:List AC->Option (Prop × Px)
 | [xa,xb,xc,xd,xe] =>
   match rq xa,rq xb,rq xc,rq xd,rq xe with
   | some (ca,a),some (cb,b),some (cc,c),some (cd,d),some (ce,e)=>some (ca/\cb/\cc/\cd/\ce,⟨a,b,c,d,e⟩)
   | _,_,_,_,_=>none
 | _=>none
theorem aBU {l:List AC} {p:Px} {c:Prop} (h:rdP l=some (c,p)) (hc:c):a0d l=a0d [.R p.a,.R p.b,.R p.c,.R p.d,.R p.e]:=by
 unfold rdP at h;split at h
 ·split at h
  ·rename_i ea eb ec ed ee;cases h;obtain ⟨ha,hb,hc,hd,he⟩:=hc;simp only [a0d,a3R ea ha,a3R eb hb,a3R ec hc,a3R ed hd,a3R ee he]
  ·cases h
 ·cases h
def rdD:List AC->Option (Prop × Dx)
 | [xda,xdb,xdc,xdd,xdm,xdn] =>
   match rq xda,rq xdb,rq xdc,rq xdd,rq xdm,rq xdn with
   | some (cda,da),some (cdb,db),some (cdc,dc),some (cdd,dd),some (cdm,dm),some (cdn,dn)=>some (cda/\cdb/\cdc/\cdd/\cdm/\cdn,⟨da,db,dc,dd,dm,dn⟩)
   | _,_,_,_,_,_=>none
 | _=>none
theorem b09 {l:List AC} {p:Dx} {c:Prop} (h:rdD l=some (c,p)) (hc:c):a0d l=a0d [.R p.da,.R p.db,.R p.dc,.R p.dd,.R p.dm,.R p.dn]:=by
 unfold rdD at h;split at h
 ·split at h
  ·rename_i eda edb edc edd edm edn;cases h;obtain ⟨hda,hdb,hdc,hdd,hdm,hdn⟩:=hc;simp only [a0d,a3R eda hda,a3R edb hdb,a3R edc hdc,a3R edd hdd,a3R edm hdm,a3R edn hdn]
  ·cases h
 ·cases h
def rdL:List AC->Option (Prop × Lx)
 | [xla,xlb,xlc] =>
   match rq xla,rq xlb,rq xlc with
   | some (cla,la),some (clb,lb),some (clc,lc)=>some (cla/\clb/\clc,⟨la,lb,lc⟩)
   | _,_,_=>none
 | _=>none
theorem b07 {l:List AC} {p:Lx} {c:Prop} (h:rdL l=some (c,p)) (hc:c):a0d l=a0d [.R p.la,.R p.lb,.R p.lc]:=by
 unfold rdL at h;split at h
 ·split at h
  ·rename_i ela elb elc;cases h;obtain ⟨hla,hlb,hlc⟩:=hc;simp only [a0d,a3R ela hla,a3R elb hlb,a3R elc hlc]
  ·cases h
 ·cases h
def rdK:List AC->Option (Prop × Kx)
 | [xkx,xky,xkq] =>
   match rq xkx,rq xky,rq xkq with
   | some (ckx,kx),some (cky,ky),some (ckq,kq)=>some (ckx/\cky/\ckq,⟨kx,ky,kq⟩)
   | _,_,_=>none
 | _=>none
theorem b08 {l:List AC} {p:Kx} {c:Prop} (h:rdK l=some (c,p)) (hc:c):a0d l=a0d [.R p.kx,.R p.ky,.R p.kq]:=by
 unfold rdK at h;split at h
 ·split at h
  ·rename_i ekx eky ekq;cases h;obtain ⟨hkx,hky,hkq⟩:=hc;simp only [a0d,a3R ekx hkx,a3R eky hky,a3R ekq hkq]
  ·cases h
 ·cases h
def rz3 (a:Bool):List AC->Option (Prop × Rat × Rat × Rat × List AC)
 | .v x1 :: .sl l1 :: .v x2 :: .sl l2 :: .v x3 :: .sl l3 :: .v x4 :: .sl l4 :: .v x5 :: .sl l5 :: .v x6 :: .sl l6 :: r=>some (x1=.bool false/\l1=[]/\x2=.bool false/\l2=[]/\x3=.bool false/\l3=[]/\x4=.bool false/\l4=[]/\x5=.bool false/\l5=[]/\x6=.bool false/\l6=[]/\a=false,0,0,0,r)
 | x :: y :: z :: r =>
   match rz a x,rz a y,rz a z with
   | some (c1,p),some (c2,q),some (c3,s)=>some (c1/\c2/\c3,p,q,s,r)
   | _,_,_=>none
 | _=>none
theorem aU6 {a:Bool} {l r:List AC} {p q s:Rat} {c:Prop} (h:rz3 a l=some (c,p,q,s,r)) (hc:c):a0d l=a0d (.Z a p :: .Z a q :: .Z a s :: r):=by
 unfold rz3 at h;split at h
 ·cases h;obtain ⟨rfl,rfl,rfl,rfl,rfl,rfl,rfl,rfl,rfl,rfl,rfl,rfl,rfl⟩:=hc;rfl
 ·split at h
  ·rename_i e1 e2 e3;cases h;obtain ⟨h1,h2,h3⟩:=hc;simp only [a0d,aXo e1 h1,aXo e2 h2,aXo e3 h3]
  ·cases h
 ·cases h
theorem a5I {x:AC} {l r:List AC} (h:a0d l=a0d r):a0d (x :: l)=a0d (x :: r):=by rw [a0d,a0d,h]
theorem aT8 {a b c d e:AC} {r s g:List AC} (h:a0d [a,b,c,d,e]=a0d g) (k:a0d r=a0d s):a0d (a :: b :: c :: d :: e :: r)=a0d (g ++ s):=by
 have:a0d (a :: b :: c :: d :: e :: r)=a0d ([a,b,c,d,e] ++ r):=rfl;rw [this,a0I,a0I,h,k]
def rdU:List AC->Option (Prop × Ux)
 | .v (.bool a) :: l =>
   match rz3 (!a) l with
   | some (c1,la,lb,lc,r) =>
     match rz3 a r with
     | some (c2,kx,ky,kq,.v (.bool w) :: f0 :: f1 :: f2 :: f3 :: f4 :: r) =>
       match rdP [f0,f1,f2,f3,f4],rdP r with
       | some (c3,f),some (c4,t)=>some (c1/\c2/\c3/\c4,⟨a,⟨la,lb,lc⟩,⟨kx,ky,kq⟩,w,f,t⟩)
       | _,_=>none
     | _=>none
   | none=>none
 | _=>none
theorem aOR {l:List AC} {p:Ux} {c:Prop} (h:rdU l=some (c,p)) (hc:c):a0d l=a0d [.v (.bool (p.arc)),.Z (!p.arc) (p.l.la),.Z (!p.arc) (p.l.lb),.Z (!p.arc) (p.l.lc),.Z (p.arc) (p.k.kx),.Z (p.arc) (p.k.ky),.Z (p.arc) (p.k.kq),.v (.bool (p.cw)),.R (p.f.a),.R (p.f.b),.R (p.f.c),.R (p.f.d),.R (p.f.e),.R (p.t.a),.R (p.t.b),.R (p.t.c),.R (p.t.d),.R (p.t.e)]:=by
 unfold rdU at h;split at h
 ·split at h
  ·rename_i e1;split at h
   ·rename_i e2;split at h
    ·rename_i e3 e4;cases h;obtain ⟨h1,h2,h3,h4⟩:=hc;exact a5I ((aU6 e1 h1).trans (a5I (a5I (a5I ((aU6 e2 h2).trans (a5I (a5I (a5I (a5I (aT8 (aBU e3 h3) (aBU e4 h4)))))))))))
    ·cases h
   ·cases h
  ·cases h
 ·cases h
def rdC:List AC->Option (Prop × (Int × Int))
 | [.v (.int .i8 a),.v (.int .i8 b)]=>some (True,(a,b))
 | _=>none
def b04:(s:Sc)->List AC->Option (Prop × s.T)
 | .P,l=>rdP l
 | .U,l=>rdU l
 | .V,l=>rdV l
 | .C,l=>rdC l
 | .F,_=>none
theorem aXv {s:Sc} {l:List AC} {p:s.T} {c:Prop} (h:b04 s l=some (c,p)) (hc:c):a0d l=a0d (s.enc p):=by
 cases s with
 | P=>exact aBU h hc
 | U=>exact aOR h hc
 | V=>exact a8C h hc
 | C =>
   simp only [b04,rdC] at h;split at h
   ·cases h; rfl
   ·cases h
 | F=>cases h
