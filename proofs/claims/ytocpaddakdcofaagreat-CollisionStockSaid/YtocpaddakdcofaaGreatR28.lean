import Derived.Test.YtocpaddakdcofaaGreatR37
import Derived.ProofKit
import Derived.OpenShut
import Derived.Lib.SmallJoins
import Derived.ChangeOld
import Derived.Laws.AppendOwnNone
import Derived.Deep.Slices
namespace Go.Proofs.YtocpaddakdcofaaGreat
open Go.ChangeShapes Go.WideShapes Go.ChangeAt Go.RowKit Go.Joins Go.Deep
set_option maxRecDepth 8000
theorem Tryz.own:ownKnob Tryz.prog.godebug=none:=by kernel_rfl
theorem Tryz.laidOut:laidOutB Tryz.prog=true:=by kernel_rfl
theorem Addr.add_none (b off i:Nat):(⟨b,off,none⟩:Addr).add i=⟨b,off+i,none⟩:=addr_plain b off i
section
variable {H:Type} {enc:TypeId × Value->H} {W:World} {base:Nat} {v:Value} {d:DataW H} {p:List MemPlace} {t:TypeId}
theorem wf64 {x:Int} (h:(Lit.int .i64 x).wf=true):-9223372036854775808 <= x/\x <= 9223372036854775807:=by
 simp only [Lit.wf,Bool.and_eq_true,decide_eq_true_eq] at h
 exact h
theorem int1_of {n:Nat} {c:Value} {y:Option (DataW H × List MemPlace)} (hy:y.isSome=true) (ht:Tryz.prog.underlying t=some (.int .i64)) (h:DataW.trod enc Tryz.prog W 0 (fun _=>true) true n t [c]=y):∃ x:Int,c=.int .i64 x/\-9223372036854775808 <= x/\x <= 9223372036854775807:=by
 cases y with
 | none=>cases hy
 | some y =>
   obtain ⟨x,h1,_,h2⟩:=DataW.trod_int ht h
   have:=wf64 h2
   simp at h1
   exact ⟨x,h1,this⟩
theorem some_of {α:Type} {l:List α} {i n:Nat} (h:l.length=n) (hi:i < n):(l[i]?).isSome=true:=by
 rw [List.getElem?_eq_getElem (by omega)]; rfl
theorem row_of {α:Type} {e:TypeId} {k fuel:Nat} (cells:α->List Value) (Q:α->Prop) (z:α) {cs:List Value} {x:DataW H × List MemPlace}
    (ht:Tryz.prog.underlying t=some (.slice e)) (hk:Tryz.prog.cellsOf e=k) (hk0:0 < k) (hone:∀ m,∃ u,(cells m)[0]?=some u)
    (hel:∀ {n:Nat} {cs:List Value} {y:DataW H × List MemPlace},DataW.trod enc Tryz.prog W 0 (fun _=>true) true n e cs=some y->∃ m,Q m/\cs=cells m)
    (h:DataW.trod enc Tryz.prog W 0 (fun _=>true) true fuel t cs=some x) :
    ∃ (a:Option Addr) (n cap b off:Nat) (l:List α),cs=[.slice a n cap]/\n=l.length/\(n=0 \/ a=some ⟨b,off,none⟩)/\n <= cap/\(a=none->cap=0)/\n <= 9223372036854775807/\(∀ m ∈ l,Q m)/\(∀ i,i < n->b < W.heap.size/\∀ j,j < k->W.cell? ⟨b,off+i*k+j,none⟩=(cells (l.getD i z))[j]?) /\
      ((x.1.weights Tryz.prog t).all (· <= reachBytes)=true->n*Tryz.prog.bytesOf e <= reachBytes):=by
 rcases open_slice ht h with ⟨hcs,_⟩ | ⟨a,len,cap,m,n,D,Pl,hcs,_,hl,hm,hmm,hx,hel2⟩
 ·exact ⟨none,0,0,0,0,[],hcs,rfl,.inl rfl,Nat.le_refl _,fun _=>rfl,by omega,fun m hm=>by simp at hm,fun i hi=>by omega,fun _=>by omega⟩
 ·rw [if_pos rfl] at hmm
  subst hmm
  have hex:∀ i,i < len->∃ mo:α,Q mo/\∀ j,j < k->W.cell? ((a.add (i*k)).add j)=(cells mo)[j]?:=fun i hil=>by
   obtain ⟨cs',hc,htr⟩:=hel2 i (by omega)
   obtain ⟨mo,hw,rfl⟩:=hel htr
   rw [hk] at hc
   obtain ⟨_,_,hat⟩:=World.cells?_some hc
   exact ⟨mo,hw,hat⟩
  obtain ⟨b,off,sp⟩:=a
  have hsp:len=0 \/ sp=none:=by
   by_cases h0:len=0
   ·exact .inl h0
   ·right
    obtain ⟨mo,_,hc⟩:=hex 0 (by omega)
    have hc:=hc 0 hk0
    obtain ⟨u,hy⟩:=hone mo
    rw [hy] at hc
    cases sp with
    | none=>rfl
    | some s =>
      rw [show ((⟨b,off,some s⟩:Addr).add (0*k)).add 0=⟨b,off,some s⟩ from by simp [Addr.add]] at hc
      unfold World.cell? at hc
      split at hc
      ·simp at hc
      ·cases hc
  obtain ⟨f,hf⟩:∃ f:Nat->α,∀ i,i < len->Q (f i)/\∀ j,j < k->W.cell? (((⟨b,off,sp⟩:Addr).add (i*k)).add j)=(cells (f i))[j]?:=by
   refine ⟨fun i=>if h:i < len then Classical.choose (hex i h) else z,fun i hi=>?_⟩
   simp only [hi,dif_pos]
   exact Classical.choose_spec (hex i hi)
  have hlen:((List.range len).map f).length=len:=by simp
  have hget:∀ i,i < len->((List.range len).map f).getD i z=f i:=fun i hi=>by simp [hi]
  unfold maxLen at hm
  refine ⟨some ⟨b,off,sp⟩,len,m,b,off,(List.range len).map f,hcs,hlen.symm,?_,hl,(fun h=>by cases h),by omega,fun mo hmo=>?_,fun i hi=>?_,fun hw=>?_⟩
  ·rcases hsp with h | h
   ·exact .inl h
   ·subst h; exact .inr rfl
  ·obtain ⟨i,hi,rfl⟩:=List.mem_map.1 hmo
   exact (hf i (List.mem_range.1 hi)).1
  ·rcases hsp with h | h
   ·omega
   ·subst h
    rw [hget i hi]
    have hc:=(hf i hi).2
    have hc':∀ j,j < k->W.cell? ⟨b,off+i*k+j,none⟩=(cells (f i))[j]?:=fun j hj=>by
     have:=hc j hj
     rw [Addr.add_none,Addr.add_none] at this
     exact this
    refine ⟨?_,hc'⟩
    obtain ⟨u,hy⟩:=hone (f i)
    exact World.block_lt_of_cell? W ⟨b,off+i*k+0,none⟩ ((hc' 0 hk0).trans hy)
  ·rw [hx] at hw
   simp only [DataW.weights,ht,List.all_cons,Bool.and_eq_true,decide_eq_true_eq] at hw
   have h1:=hw.1
   simp only [List.length_map,List.length_range] at h1
   refine Nat.le_trans (Nat.mul_le_mul_right _ ?_) h1
   omega
theorem of_some {α:Type} {ys:List α} {i n:Nat} {x:Option α} (hl:ys.length=n) (hi:i < n) (h:x=ys[i]?):∃ y,x=some y:=by
 rw [h,List.getElem?_eq_getElem (by omega)]
 exact ⟨_,rfl⟩
theorem pos_of {n:Nat} {c0 c1 c2:Value} {y:Option (DataW H × List MemPlace)} (hy:y.isSome=true) (h:DataW.trod enc Tryz.prog W 0 (fun _=>true) true n 28 [c0,c1,c2]=y):∃ a b c:Int,c0=.int .i64 a/\c1=.int .i64 b/\c2=.int .i64 c:=by
 cases y with
 | none=>cases hy
 | some y =>
   obtain ⟨ys,m,_,_,_,hl,hf⟩:=DataW.trod_struct Tryz.underlying28 h
   have k1:Tryz.prog.cellsOf 2=1:=by kernel_rfl
   have f0:DataW.trod enc Tryz.prog W 0 (fun _=>true) true m 2 (([c0,c1,c2].drop 0).take (Tryz.prog.cellsOf 2))=ys[0]?:=hf 0 _ rfl
   have f1:DataW.trod enc Tryz.prog W 0 (fun _=>true) true m 2 (([c0,c1,c2].drop 1).take (Tryz.prog.cellsOf 2))=ys[1]?:=hf 1 _ rfl
   have f2:DataW.trod enc Tryz.prog W 0 (fun _=>true) true m 2 (([c0,c1,c2].drop 2).take (Tryz.prog.cellsOf 2))=ys[2]?:=hf 2 _ rfl
   rw [k1] at f0 f1 f2
   simp only [List.drop_zero,List.drop_succ_cons,List.take_succ_cons,List.take_zero] at f0 f1 f2
   obtain ⟨a,rfl,_⟩:=int1_of (some_of hl (by decide)) Tryz.underlying2 f0
   obtain ⟨b,rfl,_⟩:=int1_of (some_of hl (by decide)) Tryz.underlying2 f1
   obtain ⟨c,rfl,_⟩:=int1_of (some_of hl (by decide)) Tryz.underlying2 f2
   exact ⟨a,b,c,rfl,rfl,rfl⟩
def cqC (c:Vc.Cq):List Value:=[.int .i64 c.x0,.int .i64 c.y0,.int .i64 c.x1,.int .i64 c.y1,.int .i64 c.ct]
def cqL (c:Vc.Cq):List Int:=[c.x0,c.y0,c.x1,c.y1,c.ct]
theorem clamp_of {n:Nat} {cs:List Value} {y:DataW H × List MemPlace} (h:DataW.trod enc Tryz.prog W 0 (fun _=>true) true n 59 cs=some y):∃ c:Vc.Cq,True/\cs=cqC c:=by
 obtain ⟨ys,m,_,_,hs,hl,hf⟩:=DataW.trod_struct Tryz.underlying59 h
 have kk:Tryz.prog.cellsOf 59=5:=by kernel_rfl
 have ki:Tryz.prog.cellsOf 2=1:=by kernel_rfl
 rw [kk] at hs
 match cs,hs with
 | [c0,c1,c2,c3,c4],_ =>
   have f0:DataW.trod enc Tryz.prog W 0 (fun _=>true) true m 2 (([c0,c1,c2,c3,c4].drop 0).take (Tryz.prog.cellsOf 2))=ys[0]?:=hf 0 _ rfl
   have f1:DataW.trod enc Tryz.prog W 0 (fun _=>true) true m 2 (([c0,c1,c2,c3,c4].drop 1).take (Tryz.prog.cellsOf 2))=ys[1]?:=hf 1 _ rfl
   have f2:DataW.trod enc Tryz.prog W 0 (fun _=>true) true m 2 (([c0,c1,c2,c3,c4].drop 2).take (Tryz.prog.cellsOf 2))=ys[2]?:=hf 2 _ rfl
   have f3:DataW.trod enc Tryz.prog W 0 (fun _=>true) true m 2 (([c0,c1,c2,c3,c4].drop 3).take (Tryz.prog.cellsOf 2))=ys[3]?:=hf 3 _ rfl
   have f4:DataW.trod enc Tryz.prog W 0 (fun _=>true) true m 2 (([c0,c1,c2,c3,c4].drop 4).take (Tryz.prog.cellsOf 2))=ys[4]?:=hf 4 _ rfl
   rw [ki] at f0 f1 f2 f3 f4
   simp only [List.drop_zero,List.drop_succ_cons,List.take_succ_cons,List.take_zero] at f0 f1 f2 f3 f4
   obtain ⟨a0,rfl,_⟩:=int1_of (some_of hl (by decide)) Tryz.underlying2 f0
   obtain ⟨a1,rfl,_⟩:=int1_of (some_of hl (by decide)) Tryz.underlying2 f1
   obtain ⟨a2,rfl,_⟩:=int1_of (some_of hl (by decide)) Tryz.underlying2 f2
   obtain ⟨a3,rfl,_⟩:=int1_of (some_of hl (by decide)) Tryz.underlying2 f3
   obtain ⟨a4,rfl,_⟩:=int1_of (some_of hl (by decide)) Tryz.underlying2 f4
   exact ⟨⟨a0,a1,a2,a3,a4⟩,trivial,rfl⟩
theorem clamps_of {n:Nat} {u:Value} {y:DataW H × List MemPlace} (h:DataW.trod enc Tryz.prog W 0 (fun _=>true) true n 22 [u]=some y):∃ l:List (List Int),Vc.SlV W.heap.size W u 5 l:=by
 obtain ⟨a,len,cap,b,off,wl,hcs,hn,g3,g5,g6,g7,gq,g8,_⟩:=row_of cqC (fun _=>True) ⟨0,0,0,0,0⟩ Tryz.underlying22 (k:=5) (by kernel_rfl) (by decide) (fun m=>⟨_,rfl⟩) clamp_of h
 simp only [List.cons.injEq,and_true] at hcs
 subst hcs
 refine ⟨wl.map cqL,a,cap,b,off,by rw [List.length_map,hn],by rw [List.length_map,<- hn]; exact g3,g6,by rw [List.length_map,<- hn]; exact g5,fun i x hx=>?_⟩
 obtain ⟨c,hc,rfl⟩:∃ c,wl[i]?=some c/\cqL c=x:=by simpa using hx
 have hi:i < len:=by
  rcases Nat.lt_or_ge i wl.length with h' | h'
  ·omega
  ·rw [List.getElem?_eq_none h'] at hc; cases hc
 obtain ⟨q1,q2⟩:=g8 i hi
 refine ⟨q1,q1,rfl,fun j z hz=>?_⟩
 have hj:j < 5:=by
  rcases Nat.lt_or_ge j (cqL c).length with h' | h'
  ·exact h'
  ·rw [List.getElem?_eq_none h'] at hz; cases hz
 rw [q2 j hj]
 have:wl.getD i ⟨0,0,0,0,0⟩=c:=by simp [List.getD_eq_getElem?_getD,hc]
 rw [this]
 match j,hj,hz with
 | 0,_,hz | 1,_,hz | 2,_,hz | 3,_,hz | 4,_,hz=>simp only [cqL,cqC,List.getElem?_cons_succ,List.getElem?_cons_zero,Option.some.injEq] at hz ⊢; rw [hz]
theorem setup_of (hv:Value.okWide Tryz.prog W .any base 24 v) (h0:DataW.Trod enc Tryz.prog W 0 (fun _=>true) true 24 v d p):∃ s:Vc.Se,Vc.relK ⟨W.heap.size,[],[],[]⟩ W (.g s.cs) v:=by
 simp only [Value.okWide,Tryz.underlying24] at hv
 obtain ⟨cs,rfl,_,_⟩:=hv
 obtain ⟨fuel,h⟩:=h0
 obtain ⟨cs⟩:=cs
 simp only [Value.cells] at h
 obtain ⟨ys,m,_,_,hs,hl,hf⟩:=DataW.trod_struct Tryz.underlying24 h
 have kk:Tryz.prog.cellsOf 24=8:=by kernel_rfl
 have kL:Tryz.prog.cellsOf 22=1:=by kernel_rfl
 have ki:Tryz.prog.cellsOf 2=1:=by kernel_rfl
 rw [kk] at hs
 match cs,hs with
 | [c0,c1,c2,c3,c4,c5,c6,c7],_ =>
   have f0:DataW.trod enc Tryz.prog W 0 (fun _=>true) true m 2 (([c0,c1,c2,c3,c4,c5,c6,c7].drop 0).take (Tryz.prog.cellsOf 2))=ys[0]?:=hf 0 _ rfl
   have f1:DataW.trod enc Tryz.prog W 0 (fun _=>true) true m 2 (([c0,c1,c2,c3,c4,c5,c6,c7].drop 1).take (Tryz.prog.cellsOf 2))=ys[1]?:=hf 1 _ rfl
   have f2:DataW.trod enc Tryz.prog W 0 (fun _=>true) true m 2 (([c0,c1,c2,c3,c4,c5,c6,c7].drop 2).take (Tryz.prog.cellsOf 2))=ys[2]?:=hf 2 _ rfl
   have f3:DataW.trod enc Tryz.prog W 0 (fun _=>true) true m 2 (([c0,c1,c2,c3,c4,c5,c6,c7].drop 3).take (Tryz.prog.cellsOf 2))=ys[3]?:=hf 3 _ rfl
   have f4:DataW.trod enc Tryz.prog W 0 (fun _=>true) true m 2 (([c0,c1,c2,c3,c4,c5,c6,c7].drop 4).take (Tryz.prog.cellsOf 2))=ys[4]?:=hf 4 _ rfl
   have f5:DataW.trod enc Tryz.prog W 0 (fun _=>true) true m 2 (([c0,c1,c2,c3,c4,c5,c6,c7].drop 5).take (Tryz.prog.cellsOf 2))=ys[5]?:=hf 5 _ rfl
   have f6:DataW.trod enc Tryz.prog W 0 (fun _=>true) true m 22 (([c0,c1,c2,c3,c4,c5,c6,c7].drop 6).take (Tryz.prog.cellsOf 22))=ys[6]?:=hf 6 _ rfl
   have f7:DataW.trod enc Tryz.prog W 0 (fun _=>true) true m 2 (([c0,c1,c2,c3,c4,c5,c6,c7].drop 7).take (Tryz.prog.cellsOf 2))=ys[7]?:=hf 7 _ rfl
   rw [kL] at f6
   rw [ki] at f0 f1 f2 f3 f4 f5 f7
   simp only [List.drop_zero,List.drop_succ_cons,List.take_succ_cons,List.take_zero] at f0 f1 f2 f3 f4 f5 f6 f7
   obtain ⟨a0,rfl,_⟩:=int1_of (some_of hl (by decide)) Tryz.underlying2 f0
   obtain ⟨a1,rfl,_⟩:=int1_of (some_of hl (by decide)) Tryz.underlying2 f1
   obtain ⟨a2,rfl,_⟩:=int1_of (some_of hl (by decide)) Tryz.underlying2 f2
   obtain ⟨a3,rfl,_⟩:=int1_of (some_of hl (by decide)) Tryz.underlying2 f3
   obtain ⟨a4,rfl,_⟩:=int1_of (some_of hl (by decide)) Tryz.underlying2 f4
   obtain ⟨a5,rfl,_⟩:=int1_of (some_of hl (by decide)) Tryz.underlying2 f5
   obtain ⟨_,e6⟩:=of_some hl (by decide) f6
   obtain ⟨l6,s6⟩:=clamps_of e6
   obtain ⟨a7,rfl,_⟩:=int1_of (some_of hl (by decide)) Tryz.underlying2 f7
   exact ⟨⟨a0,a1,a2,a3,a4,a5,l6,a7⟩,_,rfl,⟨⟨rfl,rfl⟩,⟨rfl,rfl⟩,⟨rfl,rfl⟩,⟨rfl,rfl⟩,⟨rfl,rfl⟩,⟨rfl,rfl⟩,s6,⟨rfl,rfl⟩,trivial⟩⟩
theorem tool_of (hv:Value.okWide Tryz.prog W .any base 26 v) (h0:DataW.Trod enc Tryz.prog W 0 (fun _=>true) true 26 v d p):∃ s:Vc.To,Vc.relK ⟨W.heap.size,[],[],[]⟩ W (.g s.cs) v:=by
 simp only [Value.okWide,Tryz.underlying26] at hv
 obtain ⟨cs,rfl,_,_⟩:=hv
 obtain ⟨fuel,h⟩:=h0
 obtain ⟨cs⟩:=cs
 simp only [Value.cells] at h
 obtain ⟨ys,m,_,_,hs,hl,hf⟩:=DataW.trod_struct Tryz.underlying26 h
 have kk:Tryz.prog.cellsOf 26=8:=by kernel_rfl
 have ki:Tryz.prog.cellsOf 2=1:=by kernel_rfl
 have kn:Tryz.prog.cellsOf 3=1:=by kernel_rfl
 rw [kk] at hs
 match cs,hs with
 | [c0,c1,c2,c3,c4,c5,c6,c7],_ =>
   have f0:DataW.trod enc Tryz.prog W 0 (fun _=>true) true m 3 (([c0,c1,c2,c3,c4,c5,c6,c7].drop 0).take (Tryz.prog.cellsOf 3))=ys[0]?:=hf 0 _ rfl
   have f1:DataW.trod enc Tryz.prog W 0 (fun _=>true) true m 3 (([c0,c1,c2,c3,c4,c5,c6,c7].drop 1).take (Tryz.prog.cellsOf 3))=ys[1]?:=hf 1 _ rfl
   have f2:DataW.trod enc Tryz.prog W 0 (fun _=>true) true m 2 (([c0,c1,c2,c3,c4,c5,c6,c7].drop 2).take (Tryz.prog.cellsOf 2))=ys[2]?:=hf 2 _ rfl
   have f3:DataW.trod enc Tryz.prog W 0 (fun _=>true) true m 2 (([c0,c1,c2,c3,c4,c5,c6,c7].drop 3).take (Tryz.prog.cellsOf 2))=ys[3]?:=hf 3 _ rfl
   have f4:DataW.trod enc Tryz.prog W 0 (fun _=>true) true m 2 (([c0,c1,c2,c3,c4,c5,c6,c7].drop 4).take (Tryz.prog.cellsOf 2))=ys[4]?:=hf 4 _ rfl
   have f5:DataW.trod enc Tryz.prog W 0 (fun _=>true) true m 2 (([c0,c1,c2,c3,c4,c5,c6,c7].drop 5).take (Tryz.prog.cellsOf 2))=ys[5]?:=hf 5 _ rfl
   have f6:DataW.trod enc Tryz.prog W 0 (fun _=>true) true m 2 (([c0,c1,c2,c3,c4,c5,c6,c7].drop 6).take (Tryz.prog.cellsOf 2))=ys[6]?:=hf 6 _ rfl
   have f7:DataW.trod enc Tryz.prog W 0 (fun _=>true) true m 2 (([c0,c1,c2,c3,c4,c5,c6,c7].drop 7).take (Tryz.prog.cellsOf 2))=ys[7]?:=hf 7 _ rfl
   rw [ki] at f2 f3 f4 f5 f6 f7
   rw [kn] at f0 f1
   simp only [List.drop_zero,List.drop_succ_cons,List.take_succ_cons,List.take_zero] at f0 f1 f2 f3 f4 f5 f6 f7
   obtain ⟨a0,rfl,_⟩:=int1_of (some_of hl (by decide)) Tryz.underlying3 f0
   obtain ⟨a1,rfl,_⟩:=int1_of (some_of hl (by decide)) Tryz.underlying3 f1
   obtain ⟨a2,rfl,_⟩:=int1_of (some_of hl (by decide)) Tryz.underlying2 f2
   obtain ⟨a3,rfl,_⟩:=int1_of (some_of hl (by decide)) Tryz.underlying2 f3
   obtain ⟨a4,rfl,_⟩:=int1_of (some_of hl (by decide)) Tryz.underlying2 f4
   obtain ⟨a5,rfl,_⟩:=int1_of (some_of hl (by decide)) Tryz.underlying2 f5
   obtain ⟨a6,rfl,_⟩:=int1_of (some_of hl (by decide)) Tryz.underlying2 f6
   obtain ⟨a7,rfl,_⟩:=int1_of (some_of hl (by decide)) Tryz.underlying2 f7
   exact ⟨⟨a0,a1,a2,a3,a4,a5,a6,a7⟩,_,rfl,⟨⟨rfl,rfl⟩,⟨rfl,rfl⟩,⟨rfl,rfl⟩,⟨rfl,rfl⟩,⟨rfl,rfl⟩,⟨rfl,rfl⟩,⟨rfl,rfl⟩,⟨rfl,rfl⟩,trivial⟩⟩
theorem motion_of (hv:Value.okWide Tryz.prog W .any base 30 v) (h0:DataW.Trod enc Tryz.prog W 0 (fun _=>true) true 30 v d p):∃ s:Vc.Mo,Vc.relK ⟨W.heap.size,[],[],[]⟩ W (.g s.cs) v:=by
 simp only [Value.okWide,Tryz.underlying30] at hv
 obtain ⟨cs,rfl,_,_⟩:=hv
 obtain ⟨fuel,h⟩:=h0
 obtain ⟨cs⟩:=cs
 simp only [Value.cells] at h
 obtain ⟨ys,m,_,_,hs,hl,hf⟩:=DataW.trod_struct Tryz.underlying30 h
 have kk:Tryz.prog.cellsOf 30=9:=by kernel_rfl
 have kP:Tryz.prog.cellsOf 28=3:=by kernel_rfl
 have ki:Tryz.prog.cellsOf 2=1:=by kernel_rfl
 have kn:Tryz.prog.cellsOf 3=1:=by kernel_rfl
 rw [kk] at hs
 match cs,hs with
 | [c0,c1,c2,c3,c4,c5,c6,c7,c8],_ =>
   have f0:DataW.trod enc Tryz.prog W 0 (fun _=>true) true m 28 (([c0,c1,c2,c3,c4,c5,c6,c7,c8].drop 0).take (Tryz.prog.cellsOf 28))=ys[0]?:=hf 0 _ rfl
   have f1:DataW.trod enc Tryz.prog W 0 (fun _=>true) true m 28 (([c0,c1,c2,c3,c4,c5,c6,c7,c8].drop 3).take (Tryz.prog.cellsOf 28))=ys[1]?:=hf 1 _ rfl
   have f2:DataW.trod enc Tryz.prog W 0 (fun _=>true) true m 2 (([c0,c1,c2,c3,c4,c5,c6,c7,c8].drop 6).take (Tryz.prog.cellsOf 2))=ys[2]?:=hf 2 _ rfl
   have f3:DataW.trod enc Tryz.prog W 0 (fun _=>true) true m 3 (([c0,c1,c2,c3,c4,c5,c6,c7,c8].drop 7).take (Tryz.prog.cellsOf 3))=ys[3]?:=hf 3 _ rfl
   have f4:DataW.trod enc Tryz.prog W 0 (fun _=>true) true m 3 (([c0,c1,c2,c3,c4,c5,c6,c7,c8].drop 8).take (Tryz.prog.cellsOf 3))=ys[4]?:=hf 4 _ rfl
   rw [kP] at f0 f1
   rw [ki] at f2
   rw [kn] at f3 f4
   simp only [List.drop_zero,List.drop_succ_cons,List.take_succ_cons,List.take_zero] at f0 f1 f2 f3 f4
   obtain ⟨a0,a1,a2,rfl,rfl,rfl⟩:=pos_of (some_of hl (by decide)) f0
   obtain ⟨a3,a4,a5,rfl,rfl,rfl⟩:=pos_of (some_of hl (by decide)) f1
   obtain ⟨a6,rfl,_⟩:=int1_of (some_of hl (by decide)) Tryz.underlying2 f2
   obtain ⟨a7,rfl,_⟩:=int1_of (some_of hl (by decide)) Tryz.underlying3 f3
   obtain ⟨a8,rfl,_⟩:=int1_of (some_of hl (by decide)) Tryz.underlying3 f4
   exact ⟨⟨a0,a1,a2,a3,a4,a5,a6,a7,a8⟩,_,rfl,⟨⟨rfl,rfl⟩,⟨rfl,rfl⟩,⟨rfl,rfl⟩,⟨rfl,rfl⟩,⟨rfl,rfl⟩,⟨rfl,rfl⟩,⟨rfl,rfl⟩,⟨rfl,rfl⟩,⟨rfl,rfl⟩,trivial⟩⟩
theorem clamped_walk {v0 v1 v2:Value} {s:Vc.Se} {t:Vc.To} {m:Vc.Mo} (h0:Vc.relK ⟨W.heap.size,[],[],[]⟩ W (.g s.cs) v0) (h1:Vc.relK ⟨W.heap.size,[],[],[]⟩ W (.g t.cs) v1) (h2:Vc.relK ⟨W.heap.size,[],[],[]⟩ W (.g m.cs) v2) :
    Calls Tryz.prog 3 #[v0,v1,v2] W fun e w'=>e=.returned (.bool true)/\Ext W w':=by
 refine (Vc.cLclamped_ok.yes ⟨W.heap.size,[],[],[]⟩ W [.g s.cs,.g t.cs,.g m.cs] [v0,v1,v2] _ _ ⟨h0,h1,h2,trivial⟩ rfl rfl rfl trivial).mono ?_
 rintro e w' ⟨v,rfl,hx,hv⟩
 obtain ⟨rfl,_⟩:=hv
 exact ⟨rfl,hx⟩
theorem stock_walk {v0 v1 v2:Value} {s:Vc.Se} {t:Vc.To} {m:Vc.Mo} (h0:Vc.relK ⟨W.heap.size,[],[],[]⟩ W (.g s.cs) v0) (h1:Vc.relK ⟨W.heap.size,[],[],[]⟩ W (.g t.cs) v1) (h2:Vc.relK ⟨W.heap.size,[],[],[]⟩ W (.g m.cs) v2) :
    Calls Tryz.prog 4 #[v0,v1,v2] W fun e w'=>e=.returned (.bool true)/\Ext W w':=by
 refine (Vc.cLstock_ok.yes ⟨W.heap.size,[],[],[]⟩ W [.g s.cs,.g t.cs,.g m.cs] [v0,v1,v2] _ _ ⟨h0,h1,h2,trivial⟩ rfl rfl rfl trivial).mono ?_
 rintro e w' ⟨v,rfl,hx,hv⟩
 obtain ⟨rfl,_⟩:=hv
 exact ⟨rfl,hx⟩
end
end Go.Proofs.YtocpaddakdcofaaGreat
