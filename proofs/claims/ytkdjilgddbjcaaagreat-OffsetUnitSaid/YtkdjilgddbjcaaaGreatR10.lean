import Derived.Test.YtkdjilgddbjcaaaGreatR09
import Derived.Laws.AppendOwn
namespace Go.Proofs.YtkdjilgddbjcaaaGreat
open Go.RowKit
namespace Vc
theorem run_v {P:Program} {s:Sem Value} {u:Value} {w w':World} (h:s.run P w=.ok u w'):(do pure (Next.value (<- s)):Sem Next).run P w=.ok (.value u) w':=by
 rw [Sem.run_bind,h]; rfl
theorem run_u {P:Program} {s:Sem Unit} {w w':World} (h:s.run P w=.ok () w'):(do s; pure Next.skip:Sem Next).run P w=.ok .skip w':=by
 rw [Sem.run_bind,h]; rfl
theorem mapM_get {α β:Type} {f:α->Option β}:∀ {l:List α} {r:List β},l.mapM f=some r->∀ (i:Nat) (y:β),r[i]?=some y->∃ x,l[i]?=some x/\f x=some y
 | [],r,h,i,y,hy=>by simp at h; subst h; simp at hy
 | x :: l,r,h,i,y,hy=>by
   simp only [List.mapM_cons,Option.bind_eq_bind,Option.pure_def] at h
   cases hx:f x with
   | none=>simp [hx] at h
   | some z =>
     cases hl:l.mapM f with
     | none=>simp [hx,hl] at h
     | some zs =>
       simp [hx,hl] at h
       subst h
       cases i with
       | zero=>exact ⟨x,rfl,by simpa [hx] using hy⟩
       | succ i =>
         obtain ⟨x',h1,h2⟩:=mapM_get hl i y (by simpa using hy)
         exact ⟨x',by simpa using h1,h2⟩
theorem run_fieldAt {P:Program} {l:Lay} (hl:LayOK P l) {f:Nat} {d:Nat × Nat} (hd:l.flds[f]?=some d) (b off:Nat) (w:World) :
    (Instr.fieldAt l.t (.pointer (some ⟨b,off,none⟩)) f).run P w=.ok (.pointer (some ⟨b,off+d.1,none⟩)) w:=by
 have hne:l.flds ≠ []:=by intro e; rw [e] at hd; simp at hd
 obtain ⟨fields,hu,hm⟩:=hl.flds hne
 obtain ⟨x,hx,hfx⟩:=mapM_get hm f d hd
 have hx':fields[f]?=some x:=by simpa using hx
 cases hi:P.info? x.type with
 | none=>simp [hi] at hfx
 | some i =>
   simp only [hi,Option.map_some,Option.some.injEq] at hfx
   subst hfx
   have hp:=hl.fpos _ (List.mem_of_getElem? hd)
   have hs:(sizeOf x.type).run P w=.ok i.size w:=by simp [sizeOf,typeInfo,hi]
   have hfp:(fieldPlace ⟨b,off,none⟩ x).run P w=.ok ⟨b,off+x.offset,none⟩ w:=by
    unfold fieldPlace
    rw [Sem.run_bind,hs]
    simp only [Result.andThen_ok]
    rw [if_neg hp,Sem.run_pure,addr_plain]
   simp [Instr.fieldAt,run_underlying hu,hx',Instr.sureAddr,hfp]
theorem run_loadBox {P:Program} {l:Lay} (hl:LayOK P l) (b off:Nat) (w:World) (us:List Value) (hlen:us.length=l.size) (h:w.rangeAt b off us) :
    (Instr.loadAt l.t (.pointer (some ⟨b,off,none⟩))).run P w=.ok (if l.agg then .agg us.toArray else us.getD 0 undef) w:=by
 obtain ⟨d,hu,hd⟩:=hl.desc
 cases ha:l.agg with
 | true =>
   rw [if_pos rfl]
   exact run_loadAt_mid w b off l.t us d h hu (by rw [hd,ha]) (by rw [hlen]; exact hl.size)
 | false =>
   rw [if_neg (by decide)]
   have h1:=hl.one ha
   rw [h1] at hlen
   match us,hlen with
   | [u],_ =>
     have hc:=h 0 u rfl
     rw [Nat.add_zero] at hc
     have hagg:(isAgg l.t).run P w=.ok false w:=by
      unfold isAgg
      rw [Sem.run_bind,run_underlying hu w]
      rw [ha] at hd
      cases d <;> simp_all
     simp [Instr.loadAt,Instr.sureAddr,loadVar,hagg,hc]
theorem rangeAt_of_heap {w:World} {b:Nat} {vs:List Value} {T:TypeId} {fz:Nat × Nat} (h:w.heap[b]?=some (.cells vs.toArray T fz)) (off n:Nat):w.rangeAt b off ((vs.drop off).take n):=fun j v hv=>by
 rw [Lib.cell_of_heap h]
 simp only [List.getElem?_toArray]
 rw [List.getElem?_take] at hv
 split at hv
 ·rwa [List.getElem?_drop] at hv
 ·cases hv
theorem foldl_put:∀ (us:List Value) (off k:Nat) (cur:List Value),off+k+us.length <= cur.length ->
    ((us.zipIdx k).foldl (fun (cs:Array Value) (p:Value × Nat)=>cs.setIfInBounds (off+p.2) p.1) cur.toArray).toList=cur.take (off+k) ++ us ++ cur.drop (off+k+us.length)
 | [],off,k,cur,_=>by simp
 | u :: us,off,k,cur,h=>by
   simp only [List.length_cons] at h
   simp only [List.zipIdx_cons,List.foldl_cons]
   have e:cur.toArray.setIfInBounds (off+k) u=(cur.set (off+k) u).toArray:=by simp
   rw [e,foldl_put us off (k+1) (cur.set (off+k) u) (by simp; omega)]
   have h1:off+k < cur.length:=by omega
   have e1:(cur.set (off+k) u).take (off+(k+1))=cur.take (off+k) ++ [u]:=by
    rw [show off+(k+1)=off+k+1 by omega,List.take_succ_eq_append_getElem (by simpa using h1),List.take_set_of_le (by omega)]
    simp
   have e2:(cur.set (off+k) u).drop (off+(k+1)+us.length)=cur.drop (off+k+(us.length+1)):=by
    rw [List.drop_set_of_lt (by omega)]
    congr 1
    omega
   rw [e1,e2]
   simp
theorem afill_run {bs:Bs} {w:World} {ev:Operand->AV} {ρ:Operand->Value} (hev:∀ x,relV bs w (ev x) (ρ x)) (flds:List (Nat × Nat)) (tot:Nat) :
    ∀ (parts:List (Nat × Operand)) (cs r:List AC) (us:List Value),afill ev flds tot parts cs=some r->relL bs w (flats cs) us->us.length=tot ->
      ∃ vs:List Value,Instr.fill (flds.toArray[·]?) us.toArray (parts.map fun (i,x)=>(i,ρ x))=some vs.toArray/\relL bs w (flats r) vs/\vs.length=tot
 | [],cs,r,us,h,k,hl=>by
   simp only [afill,Option.some.injEq] at h
   subst h
   exact ⟨us,rfl,k,hl⟩
 | (i,x) :: parts,cs,r,us,h,k,hl=>by
   unfold afill at h
   split at h
   ·rename_i off n y hf hx
    cases hc:(Nat.beq (flats y.cells).length n && Nat.ble (off+n) tot) with
    | false=>rw [hc] at h; simp at h
    | true =>
      rw [hc] at h
      simp only [cond_true] at h
      simp only [Bool.and_eq_true,Nat.beq_eq,Nat.ble_eq] at hc
      obtain ⟨hn,hle⟩:=hc
      split at h
      ·rename_i cs' hu
       have hr:=hev x
       rw [hx] at hr
       have hy:=cells_rel hr
       have hyl:=hy.len
       have he:=upd_spec hu
       have k2:relL bs w (flats cs') (us.take off ++ (ρ x).cells.toList ++ us.drop (off+n)):=by
        rw [he]
        refine relL.append (relL.append (k.take off) hy) ?_
        have e:us.drop (off+n)=(us.drop (off+n)).take (tot - off - n):=(List.take_of_length_le (by simp; omega)).symm
        rw [e]
        exact (k.drop (off+n)).take _
       have hsz:(ρ x).cells.size=n:=by
        rw [<- hn,hyl]; simp
       obtain ⟨vs,h1,h2,h3⟩:=afill_run hev flds tot parts cs' r _ h k2 (by simp; omega)
       refine ⟨vs,?_,h2,h3⟩
       simp only [List.map_cons]
       unfold Instr.fill
       have hp:flds.toArray[i]?=some (off,n):=by simpa using hf
       simp only [hp]
       have hcnd:((decide ((ρ x).cells.size ≠ n) || decide (off+(ρ x).cells.size > us.toArray.size)):Bool)=false:=by
        simp [hsz]; omega
       simp only [hcnd]
       have hput:=foldl_put (ρ x).cells.toList off 0 us (by simp [hsz]; omega)
       simp only [Nat.add_zero,Array.length_toList,hsz] at hput
       have hz:(ρ x).cells.zipIdx.foldl (fun (cs:Array Value) (p:Value × Nat)=>cs.setIfInBounds (off+p.2) p.1) us.toArray=(us.take off ++ (ρ x).cells.toList ++ us.drop (off+n)).toArray:=by
        rw [<- Array.toList_inj]
        rw [<- hput]
        rw [<- Array.foldl_toList]
        simp
       simp only [Bool.false_eq_true,if_false]
       rw [<- h1]
       congr 1
      ·cases h
   ·cases h
theorem built_of {P:Program} {l:Lay} (hl:LayOK P l) {bs:Bs} {w:World} {ev:Operand->AV} {ρ:Operand->Value} (hev:∀ x,relV bs w (ev x) (ρ x)) (hne:l.flds ≠ []) {parts:List (Nat × Operand)} {r:List AC}
    (h:afill ev l.flds l.size parts l.zero=some r):∃ vs:List Value,P.built l.t (parts.map fun (i,x)=>(i,ρ x))=some vs.toArray/\relL bs w (flats r) vs:=by
 obtain ⟨fields,hu,hm⟩:=hl.flds hne
 obtain ⟨i,z,hi,hz,hzr⟩:=hl.zero
 have hlen:z.cells.toList.length=l.size:=by rw [<- (hzr bs w).len,hl.zlen]
 obtain ⟨vs,h1,h2,_⟩:=afill_run hev l.flds l.size parts l.zero r z.cells.toList h (hzr bs w) hlen
 refine ⟨vs,?_,h2⟩
 unfold Program.built
 simp only [hi,hu,hz,hm]
 exact h1
theorem run_indexSl {P:Program} {y:Lay} (hy:LayOK P y) (hk:y.kd=2) {l:List Nat} {w:World} {u:Value} (hs:SlU w u l) (k:IntKind) (i:Int) (h0:0 <= i) (h1:i < (l.length:Int)) :
    ∃ b o,(Instr.indexAt y.t u (.int k i)).run P w=.ok (.pointer (some ⟨b,o,none⟩)) w/\w.cell? ⟨b,o,none⟩=some (.int .u32 ((l.getD i.toNat 0:Nat):Int))/\u.ownBlock=some b:=by
 obtain ⟨e,ie,z,hu,hi,hsz,_⟩:=hy.slice hk
 have hlt:i.toNat < l.length:=by omega
 rcases hs.cases with ⟨rfl,_⟩ | ⟨_,b,off,cap,rfl,_,_,hc⟩
 ·simp at hlt
 ·refine ⟨b,off+i.toNat,?_,?_,rfl⟩
  ·have hsize:(sizeOf e).run P w=.ok 1 w:=by simp [sizeOf,typeInfo,hi,hsz]
   have hin:0 <= i/\i < (l.length:Int):=⟨h0,h1⟩
   simp [Instr.indexAt,asIntOf,run_underlying hu,hin,hsize,addr_plain]
  ·rw [hc i.toNat hlt,List.getD_eq_getElem?_getD,List.getElem?_eq_getElem hlt]
   rfl
theorem run_indexAny {P:Program} {T e:TypeId} {ie:TypeInfo} (hu:P.underlying T=some (.slice e)) (hi:P.info? e=some ie) (b off n cap:Nat) (k:IntKind) (i:Int) (h0:0 <= i) (h1:i < (n:Int)) (w:World) :
    (Instr.indexAt T (.slice (some ⟨b,off,none⟩) n cap) (.int k i)).run P w=.ok (.pointer (some ⟨b,off+i.toNat*ie.size,none⟩)) w:=by
 have hsize:(sizeOf e).run P w=.ok ie.size w:=by simp [sizeOf,typeInfo,hi]
 have hin:0 <= i/\i < (n:Int):=⟨h0,h1⟩
 simp [Instr.indexAt,asIntOf,run_underlying hu,hin,hsize,addr_plain]
theorem run_indexO {P:Program} {α:Type} {k lo:Nat} {w:World} {u:Value} {l:List α} {f:Nat->Nat->α->Prop} (hs:SlO k lo w u l f) {T e:TypeId} (hu:P.underlying T=some (.slice e)) (hi:(P.info? e).map (·.size)=some k) (κ:IntKind) (i:Int) (h0:0 <= i) (h1:i < (l.length:Int)) (d:α) :
    ∃ b o,(Instr.indexAt T u (.int κ i)).run P w=.ok (.pointer (some ⟨b,o,none⟩)) w/\b < lo/\b < w.heap.size/\f b o (l.getD i.toNat d):=by
 obtain ⟨a,cap,b,off,rfl,h2,h3,h4,h5⟩:=hs
 have hlt:i.toNat < l.length:=by omega
 obtain rfl:a=some ⟨b,off,none⟩:=by
  rcases h2 with h | h
  ·omega
  ·exact h
 simp only [Option.map_eq_some_iff] at hi
 obtain ⟨ie,hie,rfl⟩:=hi
 obtain ⟨p,q,r⟩:=h5 i.toNat l[i.toNat] (by simp [hlt])
 refine ⟨b,off+i.toNat*ie.size,run_indexAny hu hie b off l.length cap κ i h0 h1 w,p,q,?_⟩
 rw [List.getD_eq_getElem?_getD,List.getElem?_eq_getElem hlt]
 exact r
theorem relL_vals {bs:Bs} {w:World}:∀ {cs:List Value},(∀ v ∈ cs,v.oneCell'=true)->relL bs w (flats (cs.map .v)) cs
 | [],_=>trivial
 | v :: _,h=>⟨⟨rfl,h v (List.mem_cons_self ..)⟩,relL_vals fun u hu=>h u (List.mem_cons_of_mem _ hu)⟩
theorem run_len {P:Program} {T:TypeId} {e:TypeId} (hu:P.underlying T=some (.slice e)) {c:Call} {o:Oper} (hop:o.op=.call c) {x:Operand} (hcal:c.callee=.builtin .len) (hargs:c.args.toList=[x]) (htys:c.argTypes.toList=[T]) {ρ:Operand->Value} {a:Option Addr} {n cap:Nat} (he:ρ x=.slice a n cap) (w:World) :
    (execOp ρ o).run P w=.ok (.value (.int .i64 (n:Int))) w:=by
 have hargs':c.args=#[x]:=by rw [<- Array.toList_inj]; simpa using hargs
 have htys':c.argTypes=#[T]:=by rw [<- Array.toList_inj]; simpa using htys
 simp [execOp,hop,go_sem,hcal,hargs',htys',he,Builtin.len_,run_underlying hu,goInt]
theorem run_sliceSl {P:Program} {y:Lay} (hy:LayOK P y) (hk:y.kd=2) {l:List Nat} {w:World} {u:Value} (hs:SlU w u l) (k:IntKind) (i:Int) (h0:0 <= i) (h1:i <= (l.length:Int)) :
    ∃ v,(Instr.sliceAt y.t u none (some (.int k i)) none).run P w=.ok v w/\SlU w v (l.take i.toNat)/\∀ g,v.ownBlock=some g->u.ownBlock=some g:=by
 obtain ⟨e,ie,z,hu,hi,hsz,_⟩:=hy.slice hk
 obtain ⟨a,n,cap,b,off,rfl,rfl,h3,h4,h5,h6⟩:=hs
 have hsize:(sizeOf e).run P w=.ok 1 w:=by simp [sizeOf,typeInfo,hi,hsz]
 have hc:i <= (cap:Int):=by omega
 refine ⟨.slice a i.toNat cap,?_,⟨a,i.toNat,cap,b,off,rfl,by simp; omega,?_,h4,by omega,fun j x hx=>?_⟩,fun g hg=>by cases a <;> exact hg⟩
 ·have hin:0 <= i/\i <= (cap:Int):=⟨h0,hc⟩
  simp [Instr.sliceAt,run_underlying hu,Instr.slice,Instr.sliceBounds,Instr.sliceBound,asIntOf,hin,hsize]
  cases a <;> simp [Addr.add]
 ·rcases h3 with h | h
  ·exact .inl (by omega)
  ·exact .inr h
 ·rw [List.getElem?_take] at hx
  split at hx
  ·exact h6 j x hx
  ·cases hx
theorem run_convInt {P:Program} {S D:TypeId} {k k':IntKind} {n:Int} (hS:∃ d,P.underlying S=some d) (hD:P.underlying D=some (.int k)) (hr:inR k n) (w:World):(convert S D (.int k' n)).run P w=.ok (.int k n) w:=by
 obtain ⟨d,hd⟩:=hS
 unfold convert
 rw [Sem.run_bind,run_underlying hd,Result.andThen_ok,Sem.run_bind,run_underlying hD,Result.andThen_ok]
 cases d <;> simp [Conv.intToInt,inR_wrap hr]
theorem run_convWrap {P:Program} {S D:TypeId} {k k':IntKind} {n:Int} (hS:∃ d,P.underlying S=some d) (hD:P.underlying D=some (.int k)) (w:World):(convert S D (.int k' n)).run P w=.ok (.int k (IntKind.wrap k n)) w:=by
 obtain ⟨d,hd⟩:=hS
 unfold convert
 rw [Sem.run_bind,run_underlying hd,Result.andThen_ok,Sem.run_bind,run_underlying hD,Result.andThen_ok]
 cases d <;> simp [Conv.intToInt]
theorem apure_sound {P:Program} {L:List Lay} (hL:∀ l ∈ L,LayOK P l) {bs:Bs} {lo:Nat} {w:World} {bx:List Bx} {ev:Operand->AV} {ρ:Operand->Value} (hev:∀ x,relV bs w (ev x) (ρ x)) (hbx:BoxesAt bs lo w bx) {o:Oper} {pre:Option Prop} {r:AV}
    (h:apure L bx ev o.op=some (pre,r)) (hp:due pre):∃ v,(execOp ρ o).run P w=.ok (.value v) w/\relV bs w r v:=by
 cases hop:o.op with
 | move x =>
   rw [hop] at h
   simp only [apure,Option.some.injEq,Prod.mk.injEq] at h
   obtain ⟨_,rfl⟩:=h
   exact ⟨ρ x,by simp only [execOp,hop]; rfl,hev x⟩
 | assign x =>
   rw [hop] at h
   simp only [apure,Option.some.injEq,Prod.mk.injEq] at h
   obtain ⟨_,rfl⟩:=h
   exact ⟨ρ x,by simp only [execOp,hop]; rfl,hev x⟩
 | fieldAddr S x f =>
   rw [hop] at h
   simp only [apure] at h
   split at h
   ·rename_i i off l hx hl
    simp only [Option.map_eq_some_iff,Prod.mk.injEq] at h
    obtain ⟨d,hd,_,rfl⟩:=h
    obtain ⟨hm,rfl⟩:=getLay_spec hl
    have hr:=hev x
    rw [hx] at hr
    obtain ⟨b,hb,hv⟩:=hr
    refine ⟨.pointer (some ⟨b,off+d.1,none⟩),?_,b,hb,rfl⟩
    simp only [execOp,hop,hv]
    exact run_v (run_fieldAt (hL l hm) hd b off w)
   ·rename_i cs l hx hl
    simp only [Option.map_eq_some_iff,Prod.mk.injEq] at h
    obtain ⟨d,hd,_,rfl⟩:=h
    obtain ⟨hm,rfl⟩:=getLay_spec hl
    have hr:=hev x
    rw [hx] at hr
    obtain ⟨b,off,hv,h1,h2,h3⟩:=hr
    refine ⟨.pointer (some ⟨b,off+d.1,none⟩),?_,b,_,rfl,h1,h2,fun j v hj=>?_⟩
    ·simp only [execOp,hop,hv]
     exact run_v (run_fieldAt (hL l hm) hd b off w)
    ·rw [List.getElem?_take] at hj
     split at hj
     ·rw [List.getElem?_drop] at hj
      have:=h3 _ _ hj
      rwa [<- Nat.add_assoc] at this
     ·cases hj
   ·cases h
 | load T x =>
   rw [hop] at h
   simp only [apure] at h
   split at h
   ·rename_i i off l hx hl
    split at h
    ·rename_i b hb
     simp only [Option.map_eq_some_iff,Option.bind_eq_some_iff,Prod.mk.injEq] at h
     obtain ⟨_,⟨cs,hc,hk⟩,_,rfl⟩:=h
     obtain ⟨hm,rfl⟩:=getLay_spec hl
     have hr:=hev x
     rw [hx] at hr
     obtain ⟨g,hg,hv⟩:=hr
     obtain ⟨_,vs,h2,h3,_⟩:=hbx i g b hg hb
     obtain ⟨e1,e2⟩:=cut_spec _ _ _ _ _ hc
     have hrel:relL bs w (flats cs) ((vs.drop off).take l.size):=by rw [e1]; exact (h3.drop off).take _
     refine ⟨_,?_,mkK_rel hk hrel⟩
     simp only [execOp,hop,hv]
     exact run_v (run_loadBox (hL l hm) g off w _ (by rw [<- hrel.len,e2]) (rangeAt_of_heap h2 off l.size))
    ·cases h
   ·rename_i c l hx hl
    cases hkd:Nat.beq l.kd 5 with
    | false=>rw [hkd] at h; simp at h
    | true =>
      rw [hkd] at h
      simp only [cond_true,Option.some.injEq,Prod.mk.injEq] at h
      obtain ⟨_,rfl⟩:=h
      obtain ⟨hm,rfl⟩:=getLay_spec hl
      have hr:=hev x
      rw [hx] at hr
      obtain ⟨b,o',hv,hc,_⟩:=hr
      have hk5:l.kd=5:=by simpa using hkd
      have hu:=(hL l hm).int .u32 (by rw [hk5]; rfl)
      refine ⟨.int .u32 (c:Int),?_,rfl,rfl⟩
      simp only [execOp,hop,hv]
      refine run_v ?_
      have hagg:(isAgg l.t).run P w=.ok false w:=by
       unfold isAgg
       rw [Sem.run_bind,run_underlying hu w]
       rfl
      simp [Instr.loadAt,Instr.sureAddr,loadVar,hagg,hc]
   ·rename_i cs l hx hl
    cases hc:Nat.beq cs.length l.size with
    | false=>rw [hc] at h; simp at h
    | true =>
      rw [hc] at h
      simp only [cond_true,Option.map_eq_some_iff,Prod.mk.injEq] at h
      obtain ⟨_,hk,_,rfl⟩:=h
      obtain ⟨hm,rfl⟩:=getLay_spec hl
      have hr:=hev x
      rw [hx] at hr
      obtain ⟨b,off,hv,h1,h2,h3⟩:=hr
      refine ⟨_,?_,mkK_rel hk (relL_vals fun v hv=>?_)⟩
      ·simp only [execOp,hop,hv]
       exact run_v (run_loadBox (hL l hm) b off w cs (by simpa using hc) fun j v hj=>(h3 j v hj).1)
      ·obtain ⟨j,hj⟩:=List.getElem?_of_mem hv
       exact (h3 j v hj).2
   ·rename_i c l hx hl
    cases hkd:Nat.beq l.kd 8 with
    | false=>rw [hkd] at h; simp at h
    | true =>
      rw [hkd] at h
      simp only [cond_true,Option.some.injEq,Prod.mk.injEq] at h
      obtain ⟨_,rfl⟩:=h
      obtain ⟨hm,rfl⟩:=getLay_spec hl
      have hr:=hev x
      rw [hx] at hr
      obtain ⟨b,o',v,hv,_,_,hc,hs⟩:=hr
      obtain ⟨hu,_⟩:=(hL l hm).sl8 (by simpa using hkd)
      refine ⟨v,?_,hs⟩
      simp only [execOp,hop,hv]
      refine run_v ?_
      have hagg:(isAgg l.t).run P w=.ok false w:=by
       unfold isAgg
       rw [Sem.run_bind,run_underlying hu w]
       rfl
      simp [Instr.loadAt,Instr.sureAddr,loadVar,hagg,hc]
   ·cases h
 | indexAddr T x y =>
   rw [hop] at h
   simp only [apure] at h
   split at h
   ·rename_i l k i d hx hy hl
    cases hkd:Nat.beq d.kd 2 with
    | false=>rw [hkd] at h; simp at h
    | true =>
      rw [hkd] at h
      simp only [cond_true,Option.some.injEq,Prod.mk.injEq] at h
      obtain ⟨rfl,rfl⟩:=h
      obtain ⟨hm,rfl⟩:=getLay_spec hl
      have hr:=hev x; have hs:=hev y
      rw [hx] at hr; rw [hy] at hs
      obtain ⟨e2,_⟩:=hs
      simp only [due] at hp
      obtain ⟨b,o',h1,h2,h3⟩:=run_indexSl (hL d hm) (by simpa using hkd) hr.1 k i hp.1 hp.2
      refine ⟨_,?_,b,o',rfl,h2,(hr.2 b h3).resolve_left (by intro e; rw [e] at hp; simp at hp; omega)⟩
      simp only [execOp,hop,e2]
      exact run_v h1
   ·rename_i l k i d hx hy hl
    cases hkd:Nat.beq d.kd 8 with
    | false=>rw [hkd] at h; simp at h
    | true =>
      rw [hkd] at h
      simp only [cond_true,Option.some.injEq,Prod.mk.injEq] at h
      obtain ⟨rfl,rfl⟩:=h
      obtain ⟨hm,rfl⟩:=getLay_spec hl
      have hr:=hev x; have hs:=hev y
      rw [hx] at hr; rw [hy] at hs
      obtain ⟨e2,_⟩:=hs
      simp only [due] at hp
      obtain ⟨hu,hi⟩:=(hL d hm).sl8 (by simpa using hkd)
      have hr':SlP bs.lo w (ρ x) l:=hr
      unfold SlP at hr'
      obtain ⟨b,o',h1,h2,h3,h4,h5⟩:=run_indexO hr' hu hi k i hp.1 hp.2 (0,0)
      refine ⟨_,?_,b,o',rfl,h2,h3,fun j v hj=>?_⟩
      ·simp only [execOp,hop,e2]
       exact run_v h1
      ·match j,hj with
       | 0,hj=>simp at hj; subst hj; exact ⟨h4,rfl⟩
       | 1,hj=>simp at hj; subst hj; exact ⟨h5,rfl⟩
   ·rename_i l k i d hx hy hl
    cases hkd:Nat.beq d.kd 9 with
    | false=>rw [hkd] at h; simp at h
    | true =>
      rw [hkd] at h
      simp only [cond_true,Option.some.injEq,Prod.mk.injEq] at h
      obtain ⟨rfl,rfl⟩:=h
      obtain ⟨hm,rfl⟩:=getLay_spec hl
      have hr:=hev x; have hs:=hev y
      rw [hx] at hr; rw [hy] at hs
      obtain ⟨e2,_⟩:=hs
      simp only [due] at hp
      obtain ⟨hu,hi⟩:=(hL d hm).sl9 (by simpa using hkd)
      have hr':SlQ bs.lo w (ρ x) l:=hr
      unfold SlQ at hr'
      obtain ⟨b,o',h1,h2,h3,v,h4,h5⟩:=run_indexO hr' hu hi k i hp.1 hp.2 []
      refine ⟨_,?_,b,o',v,rfl,h2,h3,h4,h5⟩
      simp only [execOp,hop,e2]
      exact run_v h1
   ·rename_i kk l k i d hx hy hl
    cases hkd:Nat.beq d.kd (kk+100) with
    | false=>rw [hkd] at h; simp at h
    | true =>
      rw [hkd] at h
      simp only [cond_true,Option.some.injEq,Prod.mk.injEq] at h
      obtain ⟨rfl,rfl⟩:=h
      obtain ⟨hm,rfl⟩:=getLay_spec hl
      have hr:=hev x; have hs:=hev y
      rw [hx] at hr; rw [hy] at hs
      obtain ⟨e2,_⟩:=hs
      simp only [due] at hp
      obtain ⟨hu,hi⟩:=(hL d hm).slk kk (by simpa using hkd)
      have hr':SlV bs.lo w (ρ x) kk l:=hr
      unfold SlV at hr'
      obtain ⟨b,o',h1,h2,h3,h4,h5⟩:=run_indexO hr' hu hi k i hp.1 hp.2 []
      refine ⟨_,?_,b,o',rfl,h2,h3,fun j v hj=>?_⟩
      ·simp only [execOp,hop,e2]
       exact run_v h1
      ·have hjk:j < kk:=by
        rcases Nat.lt_or_ge j kk with h' | h'
        ·exact h'
        ·rw [List.getElem?_eq_none (by simpa using h')] at hj; cases hj
       have hv:v=.int .i64 ((l.getD i.toNat []).getD j 0):=by
        simp [hjk] at hj
        simpa using hj.symm
       subst hv
       exact ⟨h5 j _ (by simp [List.getD_eq_getElem?_getD] at h4 ⊢; rw [List.getElem?_eq_getElem (by omega)]; rfl),rfl⟩
   ·rename_i bi n k i d hx hy hl
    split at h
    ·rename_i le hle
     cases hkd:(Nat.beq d.kd 10 && Nat.blt i n) with
     | false=>rw [hkd] at h; simp at h
     | true =>
       rw [hkd] at h
       simp only [cond_true,Option.some.injEq,Prod.mk.injEq] at h
       obtain ⟨_,rfl⟩:=h
       simp only [Bool.and_eq_true,Nat.beq_eq,Nat.blt_eq] at hkd
       obtain ⟨hm,rfl⟩:=getLay_spec hl
       obtain ⟨hme,hle'⟩:=getLay_spec hle
       have hr:=hev x; have hs:=hev y
       rw [hx] at hr; rw [hy] at hs
       obtain ⟨e2,_⟩:=hs
       obtain ⟨b,hb,hv⟩:=hr
       have hu:=(hL d hm).sl10 hkd.1
       have hi:=(hL le hme).size
       rw [hle'] at hi
       simp only [Option.map_eq_some_iff] at hi
       obtain ⟨ie,hie,hsz⟩:=hi
       refine ⟨_,?_,b,hb,rfl⟩
       simp only [execOp,hop,e2,hv]
       have:=run_indexAny hu hie b 0 n n k (Int.ofNat i) (by simp) (by simp; exact hkd.2) w
       rw [Nat.zero_add,hsz] at this
       exact run_v this
    ·cases h
   ·cases h
 | slice T x lo hi mx =>
   rw [hop] at h
   cases lo with
   | some _=>simp [apure] at h
   | none =>
     cases hi with
     | none=>simp [apure] at h
     | some y =>
       cases mx with
       | some _=>simp [apure] at h
       | none =>
         simp only [apure] at h
         split at h
         ·rename_i l k i d hx hy hl
          cases hkd:Nat.beq d.kd 2 with
          | false=>rw [hkd] at h; simp at h
          | true =>
            rw [hkd] at h
            simp only [cond_true,Option.some.injEq,Prod.mk.injEq] at h
            obtain ⟨rfl,rfl⟩:=h
            obtain ⟨hm,rfl⟩:=getLay_spec hl
            have hr:=hev x; have hs:=hev y
            rw [hx] at hr; rw [hy] at hs
            obtain ⟨e2,_⟩:=hs
            simp only [due] at hp
            obtain ⟨v,h1,h2,h3⟩:=run_sliceSl (hL d hm) (by simpa using hkd) hr.1 k i hp.1 hp.2
            refine ⟨v,?_,h2,fun g hg=>?_⟩
            rotate_left
            ·rcases hr.2 g (h3 g hg) with e | e
             ·exact .inl (by rw [e]; simp)
             ·exact .inr e
            simp only [execOp,hop,Option.map_none,Option.map_some,e2]
            exact run_v h1
         ·cases h
 | convert S D x =>
   rw [hop] at h
   simp only [apure] at h
   split at h
   ·rename_i k' n lS d hx hlS hl
    split at h
    ·rename_i k hk
     obtain ⟨hm,rfl⟩:=getLay_spec hl
     obtain ⟨hmS,rfl⟩:=getLay_spec hlS
     have hr:=hev x
     rw [hx] at hr
     obtain ⟨e1,_⟩:=hr
     obtain ⟨dS,hdS,_⟩:=(hL lS hmS).desc
     cases hc:conv64 k' k with
     | false =>
       rw [hc] at h
       simp only [cond_false,Option.some.injEq,Prod.mk.injEq] at h
       obtain ⟨rfl,rfl⟩:=h
       refine ⟨.int k n,?_,rfl,rfl⟩
       simp only [execOp,hop,e1]
       exact run_v (run_convInt ⟨dS,hdS⟩ ((hL d hm).int k hk) hp w)
     | true =>
       rw [hc] at h
       simp only [cond_true,Option.some.injEq,Prod.mk.injEq] at h
       obtain ⟨_,rfl⟩:=h
       refine ⟨.int k (IntKind.wrap k n),?_,rfl,rfl⟩
       simp only [execOp,hop,e1]
       exact run_v (run_convWrap ⟨dS,hdS⟩ ((hL d hm).int k hk) w)
    ·cases h
   ·cases h
 | build T parts =>
   rw [hop] at h
   simp only [apure] at h
   split at h
   ·rename_i l hl
    cases he:l.flds.isEmpty with
    | true=>rw [he] at h; simp at h
    | false =>
      rw [he] at h
      simp only [cond_false,Option.map_eq_some_iff,Prod.mk.injEq] at h
      obtain ⟨cs,hc,_,rfl⟩:=h
      obtain ⟨hm,rfl⟩:=getLay_spec hl
      obtain ⟨vs,h1,h2⟩:=built_of (hL l hm) hev (by intro e; rw [e] at he; simp at he) hc
      refine ⟨.agg vs.toArray,?_,vs,rfl,h2⟩
      simp only [execOp,hop]
      refine run_v (run_build w _ _ _ ?_)
      simpa using h1
   ·cases h
 | extract x i =>
   rw [hop] at h
   simp only [apure] at h
   split at h
   ·rename_i xs hx
    simp only [Option.map_eq_some_iff,Prod.mk.injEq] at h
    obtain ⟨y,hy,_,rfl⟩:=h
    have hr:=hev x
    rw [hx] at hr
    obtain ⟨us,hu,hk⟩:=hr
    obtain ⟨u,h1,h2⟩:=hk.get hy
    refine ⟨u,?_,h2⟩
    simp only [execOp,hop,hu]
    refine run_v ?_
    simp [Instr.extract,h1]
   ·cases h
 | binOp op T x y yT =>
   rw [hop] at h
   simp only [apure] at h
   split at h
   ·rename_i a b c d hx hy
    split at h
    ·rename_i l hl
     cases hkd:Nat.beq l.kd 11 with
     | false=>rw [hkd] at h; simp at h
     | true =>
       rw [hkd] at h
       simp only [cond_true,Option.some.injEq,Prod.mk.injEq] at h
       obtain ⟨rfl,rfl⟩:=h
       obtain ⟨hm,rfl⟩:=getLay_spec hl
       have he2:=(hL l hm).eq2 (by simpa using hkd)
       have hr:=hev x; have hs:=hev y
       rw [hx] at hr; rw [hy] at hs
       obtain ⟨us,e1,k1⟩:=hr
       obtain ⟨vs,e2,k2⟩:=hs
       match us,k1 with
       | [u1,u2],k1 =>
       match vs,k2 with
       | [v1,v2],k2 =>
       obtain ⟨⟨g1,_⟩,⟨g2,_⟩,_⟩:=k1
       obtain ⟨⟨g3,_⟩,⟨g4,_⟩,_⟩:=k2
       subst g1; subst g2; subst g3; subst g4
       refine ⟨.bool (decide (a=c/\b=d)),?_,rfl,rfl⟩
       simp only [execOp,hop,e1,e2]
       exact run_v (eq2B_run he2 a b c d x y w)
    ·cases h
   ·rename_i a b hx hy
    simp only [Option.map_eq_some_iff,Prod.mk.injEq] at h
    obtain ⟨⟨pv,v⟩,hv,rfl,rfl⟩:=h
    have hr:=hev x; have hs:=hev y
    rw [hx] at hr; rw [hy] at hs
    obtain ⟨e1,_⟩:=hr
    obtain ⟨e2,_⟩:=hs
    refine ⟨v,?_,rfl,abin_one hv⟩
    simp only [execOp,hop,e1,e2]
    refine run_v (abin_run hv hp T (fun hb=>?_) x y w)
    split at hb
    ·rename_i l hl
     obtain ⟨hm,rfl⟩:=getLay_spec hl
     exact (hL l hm).bool (by simpa using hb)
    ·cases hb
   ·cases h
 | unOp op T x =>
   rw [hop] at h
   cases op <;> simp only [apure] at h <;> try (cases h; done)
   case neg =>
    split at h
    ·rename_i n hx
     simp only [Option.some.injEq,Prod.mk.injEq] at h
     obtain ⟨rfl,rfl⟩:=h
     have hr:=hev x
     rw [hx] at hr
     obtain ⟨e1,_⟩:=hr
     simp only [due] at hp
     refine ⟨.int .i64 (0 - n),?_,rfl,rfl⟩
     simp only [execOp,hop,e1]
     exact run_v (by simp only [Op.unary]; simp [go_sem,Op.intArith]; have:=inR_wrap hp; simpa using this)
    ·rename_i n hx
     simp only [Option.some.injEq,Prod.mk.injEq] at h
     obtain ⟨rfl,rfl⟩:=h
     have hr:=hev x
     rw [hx] at hr
     obtain ⟨e1,_⟩:=hr
     refine ⟨.int .u64 (IntKind.wrap .u64 (0 - n)),?_,rfl,rfl⟩
     simp only [execOp,hop,e1]
     exact run_v (by simp only [Op.unary]; simp [go_sem,Op.intArith])
    ·cases h
   case not =>
    split at h
    ·rename_i b hx
     simp only [Option.some.injEq,Prod.mk.injEq] at h
     obtain ⟨_,rfl⟩:=h
     have hr:=hev x
     rw [hx] at hr
     obtain ⟨e1,_⟩:=hr
     refine ⟨.bool (!b),?_,rfl,rfl⟩
     simp only [execOp,hop,e1]
     exact run_v (by simp [Op.unary])
    ·cases h
 | call c =>
   rw [hop] at h
   simp only [apure] at h
   split at h
   ·rename_i x T hcal hargs htys
    split at h
    ·rename_i l y hx hl
     cases hkd:Nat.beq y.kd 2 with
     | false=>rw [hkd] at h; simp at h
     | true =>
       rw [hkd] at h
       simp only [cond_true,Option.some.injEq,Prod.mk.injEq] at h
       obtain ⟨_,rfl⟩:=h
       have hr:=hev x
       rw [hx] at hr
       obtain ⟨hm,rfl⟩:=getLay_spec hl
       obtain ⟨e,_,_,hu,_⟩:=(hL y hm).slice (by simpa using hkd)
       obtain ⟨a,n,he⟩:=SlU.form hr.1
       exact ⟨.int .i64 (l.length:Int),run_len hu hop hcal hargs htys he w,rfl,rfl⟩
    ·rename_i l y hx hl
     cases hkd:Nat.beq y.kd 8 with
     | false=>rw [hkd] at h; simp at h
     | true =>
       rw [hkd] at h
       simp only [cond_true,Option.some.injEq,Prod.mk.injEq] at h
       obtain ⟨_,rfl⟩:=h
       have hr:=hev x
       rw [hx] at hr
       obtain ⟨hm,rfl⟩:=getLay_spec hl
       obtain ⟨hu,_⟩:=(hL y hm).sl8 (by simpa using hkd)
       obtain ⟨a,cap,b,off,he,_⟩:=hr
       exact ⟨.int .i64 (l.length:Int),run_len hu hop hcal hargs htys he w,rfl,rfl⟩
    ·rename_i l y hx hl
     cases hkd:Nat.beq y.kd 9 with
     | false=>rw [hkd] at h; simp at h
     | true =>
       rw [hkd] at h
       simp only [cond_true,Option.some.injEq,Prod.mk.injEq] at h
       obtain ⟨_,rfl⟩:=h
       have hr:=hev x
       rw [hx] at hr
       obtain ⟨hm,rfl⟩:=getLay_spec hl
       obtain ⟨hu,_⟩:=(hL y hm).sl9 (by simpa using hkd)
       obtain ⟨a,cap,b,off,he,_⟩:=hr
       exact ⟨.int .i64 (l.length:Int),run_len hu hop hcal hargs htys he w,rfl,rfl⟩
    ·rename_i i n y hx hl
     cases hkd:Nat.beq y.kd 10 with
     | false=>rw [hkd] at h; simp at h
     | true =>
       rw [hkd] at h
       simp only [cond_true,Option.some.injEq,Prod.mk.injEq] at h
       obtain ⟨_,rfl⟩:=h
       have hr:=hev x
       rw [hx] at hr
       obtain ⟨hm,rfl⟩:=getLay_spec hl
       have hu:=(hL y hm).sl10 (by simpa using hkd)
       obtain ⟨b,_,he⟩:=hr
       exact ⟨.int .i64 (n:Int),run_len hu hop hcal hargs htys he w,rfl,rfl⟩
    ·rename_i n y hx hl
     cases hkd:Nat.beq y.kd 10 with
     | false=>rw [hkd] at h; simp at h
     | true =>
       rw [hkd] at h
       simp only [cond_true,Option.some.injEq,Prod.mk.injEq] at h
       obtain ⟨_,rfl⟩:=h
       have hr:=hev x
       rw [hx] at hr
       obtain ⟨hm,rfl⟩:=getLay_spec hl
       have hu:=(hL y hm).sl10 (by simpa using hkd)
       obtain ⟨a,cap,he⟩:=hr
       exact ⟨.int .i64 (n:Int),run_len hu hop hcal hargs htys he w,rfl,rfl⟩
    ·rename_i kk l y hx hl
     cases hkd:Nat.beq y.kd (kk+100) with
     | false=>rw [hkd] at h; simp at h
     | true =>
       rw [hkd] at h
       simp only [cond_true,Option.some.injEq,Prod.mk.injEq] at h
       obtain ⟨_,rfl⟩:=h
       have hr:=hev x
       rw [hx] at hr
       obtain ⟨hm,rfl⟩:=getLay_spec hl
       obtain ⟨hu,_⟩:=(hL y hm).slk kk (by simpa using hkd)
       obtain ⟨a,cap,b,off,he,_⟩:=hr
       exact ⟨.int .i64 (l.length:Int),run_len hu hop hcal hargs htys he w,rfl,rfl⟩
    ·cases h
   ·rename_i x y hcal hargs
    split at h
    ·rename_i a b hx hy
     simp only [Option.some.injEq,Prod.mk.injEq] at h
     obtain ⟨_,rfl⟩:=h
     have hr:=hev x; have hs:=hev y
     rw [hx] at hr; rw [hy] at hs
     have hargs':c.args=#[x,y]:=by rw [<- Array.toList_inj]; simpa using hargs
     refine ⟨.int .i64 (if b < a then b else a),?_,rfl,rfl⟩
     simp [execOp,hop,go_sem,hcal,hargs',hr.1,hs.1]
    ·cases h
   ·cases h
 | _=>rw [hop] at h; simp [apure] at h
end Vc
end Go.Proofs.YtkdjilgddbjcaaaGreat
