import Derived.Test.YtbohkigffejhoaaGreatR03
import Derived.Test.YtbohkigffejhoaaGreatRows
import Derived.ProofKit
import Derived.OpenShut
import Derived.Lib.SmallJoins
import Derived.ChangeOld
import Derived.Laws.AppendOwnNone
import Derived.Deep.Slices
open Go.Proofs.Tryz (prog)
namespace Go.Proofs.YtbohkigffejhoaaGreat
open Go.ChangeShapes Go.WideShapes Go.ChangeAt Go.RowKit Go.Joins Go.Deep
set_option maxRecDepth 8000
theorem Tryz.own:ownKnob prog.godebug=none:=by kernel_rfl
theorem Tryz.laidOut:laidOutB prog=true:=by kernel_rfl
theorem Addr.add_none (b off i:Nat):(⟨b,off,none⟩:Addr).add i=⟨b,off+i,none⟩:=a1b b off i
section
variable {H:Type} {enc:TypeId × Value->H} {W:World} {base:Nat} {v:Value} {d:DataW H} {p:List MemPlace} {t:TypeId}
theorem row_of {α:Type} {e:TypeId} {k fuel:Nat} (cells:α->List Value) (Q:α->Prop) (z:α) {cs:List Value} {x:DataW H × List MemPlace}
    (ht:prog.underlying t=some (.slice e)) (hk:prog.cellsOf e=k) (hk0:0 < k) (hone:∀ m,∃ u,(cells m)[0]?=some u)
    (hel:∀ {n:Nat} {cs:List Value} {y:DataW H × List MemPlace},DataW.trod enc prog W 0 (fun _=>true) true n e cs=some y->∃ m,Q m/\cs=cells m)
    (h:DataW.trod enc prog W 0 (fun _=>true) true fuel t cs=some x) :
    ∃ (a:Option Addr) (n cap b off:Nat) (l:List α),cs=[.slice a n cap]/\n=l.length/\(n=0 \/ a=some ⟨b,off,none⟩)/\n <= cap/\(a=none->cap=0)/\n <= 9223372036854775807/\(∀ m ∈ l,Q m)/\(∀ i,i < n->b < W.heap.size/\∀ j,j < k->W.cell? ⟨b,off+i*k+j,none⟩=(cells (l.getD i z))[j]?) /\
      ((x.1.weights prog t).all (· <= reachBytes)=true->n*prog.bytesOf e <= reachBytes):=by
 rcases open_slice ht h with ⟨hcs,_⟩ | ⟨a,len,cap,m,n,D,Pl,hcs,_,hl,hm,hmm,hx,hel2⟩
 ·exact ⟨none,0,0,0,0,[],hcs,rfl,.inl rfl,Nat.le_refl _,fun _=>rfl,by omega,fun m hm=>by simp at hm,fun i hi=>by omega,fun _=>by omega⟩
 ·rw [if_pos rfl] at hmm;subst hmm
  have hex:∀ i,i < len->∃ mo:α,Q mo/\∀ j,j < k->W.cell? ((a.add (i*k)).add j)=(cells mo)[j]?:=fun i hil=>by
   obtain ⟨cs',hc,htr⟩:=hel2 i (by omega);obtain ⟨mo,hw,rfl⟩:=hel htr;rw [hk] at hc;obtain ⟨_,_,hat⟩:=World.cells?_some hc;exact ⟨mo,hw,hat⟩
  obtain ⟨b,off,sp⟩:=a
  have hsp:len=0 \/ sp=none:=by
   by_cases h0:len=0
   ·exact .inl h0
   ·right;obtain ⟨mo,_,hc⟩:=hex 0 (by omega);have hc:=hc 0 hk0;obtain ⟨u,hy⟩:=hone mo;rw [hy] at hc
    cases sp with
    | none=>rfl
    | some s =>
      rw [show ((⟨b,off,some s⟩:Addr).add (0*k)).add 0=⟨b,off,some s⟩ from by simp [Addr.add]] at hc;unfold World.cell? at hc;split at hc
      ·simp at hc
      ·cases hc
  obtain ⟨f,hf⟩:∃ f:Nat->α,∀ i,i < len->Q (f i)/\∀ j,j < k->W.cell? (((⟨b,off,sp⟩:Addr).add (i*k)).add j)=(cells (f i))[j]?:=by
   refine ⟨fun i=>if h:i < len then Classical.choose (hex i h) else z,fun i hi=>?_⟩;simp only [hi,dif_pos];exact Classical.choose_spec (hex i hi)
  have hlen:((List.range len).map f).length=len:=by simp
  have hget:∀ i,i < len->((List.range len).map f).getD i z=f i:=fun i hi=>by simp [hi]
  unfold maxLen at hm;refine ⟨some ⟨b,off,sp⟩,len,m,b,off,(List.range len).map f,hcs,hlen.symm,?_,hl,(fun h=>by cases h),by omega,fun mo hmo=>?_,fun i hi=>?_,fun hw=>?_⟩
  ·rcases hsp with h | h
   ·exact .inl h
   ·subst h; exact .inr rfl
  ·obtain ⟨i,hi,rfl⟩:=List.mem_map.1 hmo;exact (hf i (List.mem_range.1 hi)).1
  ·rcases hsp with h | h
   ·omega
   ·subst h;rw [hget i hi];have hc:=(hf i hi).2
    have hc':∀ j,j < k->W.cell? ⟨b,off+i*k+j,none⟩=(cells (f i))[j]?:=fun j hj=>by
     have:=hc j hj;rw [Addr.add_none,Addr.add_none] at this;exact this
    refine ⟨?_,hc'⟩;obtain ⟨u,hy⟩:=hone (f i);exact World.block_lt_of_cell? W ⟨b,off+i*k+0,none⟩ ((hc' 0 hk0).trans hy)
  ·rw [hx] at hw;simp only [DataW.weights,ht,List.all_cons,Bool.and_eq_true,decide_eq_true_eq] at hw;have h1:=hw.1;simp only [List.length_map,List.length_range] at h1;refine Nat.le_trans (Nat.mul_le_mul_right _ ?_) h1;omega
