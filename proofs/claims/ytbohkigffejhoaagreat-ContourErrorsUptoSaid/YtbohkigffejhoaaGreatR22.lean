import Derived.Test.YtbohkigffejhoaaGreatR21
import Derived.ProofKit
import Derived.OpenShut
import Derived.Lib.SmallJoins
import Derived.ChangeOld
import Derived.Laws.AppendOwnNone
import Derived.Deep.Slices
import Derived.Test.YtbohkigffejhoaaGreatR20
import Derived.Test.YtbohkigffejhoaaGreatR16
namespace Go.Proofs.YtbohkigffejhoaaGreat
open Go.ChangeShapes Go.WideShapes Go.ChangeAt Go.RowKit Go.Joins Go.Deep
set_option maxRecDepth 8000
theorem Tryz.own:ownKnob Tryz.prog.godebug=none:=by kernel_rfl
theorem Tryz.laidOut:laidOutB Tryz.prog=true:=by kernel_rfl
theorem Addr.add_none (b off i:Nat):(⟨b,off,none⟩:Addr).add i=⟨b,off+i,none⟩:=a2E b off i
section
variable {H:Type} {enc:TypeId × Value->H} {W:World} {base:Nat} {v:Value} {d:DataW H} {p:List MemPlace} {t:TypeId}
theorem b1p {x:Int} (h:(Lit.int .i64 x).wf=true):-9223372036854775808 <= x/\x <= 9223372036854775807:=by
 simp only [Lit.wf,Bool.and_eq_true,decide_eq_true_eq] at h
 exact h
theorem aID {n:Nat} {c:Value} {y:Option (DataW H × List MemPlace)} (hy:y.isSome=true) (ht:Tryz.prog.underlying t=some (.int .i64)) (h:DataW.trod enc Tryz.prog W 0 (fun _=>true) true n t [c]=y):∃ x:Int,c=.int .i64 x/\-9223372036854775808 <= x/\x <= 9223372036854775807:=by
 cases y with
 | none=>cases hy
 | some y =>
   obtain ⟨x,h1,_,h2⟩:=DataW.trod_int ht h
   have:=b1p h2
   simp at h1
   exact ⟨x,h1,this⟩
theorem row_of {α:Type} {e:TypeId} {k fuel:Nat} (cells:α->List Value) (Q:α->Prop) (z:α) {cs:List Value} {x:DataW H × List MemPlace}
    (ht:Tryz.prog.underlying t=some (.slice e)) (hk:Tryz.prog.cellsOf e=k) (hk0:0 < k) (hone:∀ m,∃ u,(cells m)[0]?=some u)
    (hel:∀ {n:Nat} {cs:List Value} {y:DataW H × List MemPlace},DataW.trod enc Tryz.prog W 0 (fun _=>true) true n e cs=some y->∃ m,Q m/\cs=cells m)
    (h:DataW.trod enc Tryz.prog W 0 (fun _=>true) true fuel t cs=some x) :
    ∃ (a:Option Addr) (n cap b off:Nat) (l:List α),cs=[.slice a n cap]/\n=l.length/\(n=0 \/ a=some ⟨b,off,none⟩)/\n <= cap/\(a=none->cap=0)/\n <= 9223372036854775807/\(∀ m ∈ l,Q m)/\(∀ i,i < n->b < W.heap.size/\∀ j,j < k->W.cell? ⟨b,off+i*k+j,none⟩=(cells (l.getD i z))[j]?) /\
      ((x.1.weights Tryz.prog t).all (· <= reachBytes)=true->n*Tryz.prog.bytesOf e <= reachBytes):=by
 rcases open_slice ht h with ⟨hcs,_⟩ | ⟨a,len,cap,m,n,D,Pl,hcs,_,hl,hm,hmm,hx,hel2⟩
 ·exact ⟨none,0,0,0,0,[],hcs,rfl,.inl rfl,Nat.le_refl _,fun _=>rfl,by omega,fun m hm=>by simp at hm,fun i hi=>by omega,fun _=>by omega⟩
 ·rw [if_pos rfl] at hmm
  subst hmm
  have hex:∀ i,i < len->∃ mo:α,Q mo/\∀ j,j < k->W.cell? ((a.add (i*k)).add j)=(cells mo)[j]?:=fun i hil=>by
   obtain ⟨cs',hc,htr⟩:=hel2 i (by omega)
   obtain ⟨mo,hw,rfl⟩:=hel htr
   rw [hk] at hc
   obtain ⟨_,_,hat⟩:=World.cells?_some hc
   exact ⟨mo,hw,hat⟩
  obtain ⟨b,off,sp⟩:=a
  have hsp:len=0 \/ sp=none:=by
   by_cases h0:len=0
   ·exact .inl h0
   ·right
    obtain ⟨mo,_,hc⟩:=hex 0 (by omega)
    have hc:=hc 0 hk0
    obtain ⟨u,hy⟩:=hone mo
    rw [hy] at hc
    cases sp with
    | none=>rfl
    | some s =>
      rw [show ((⟨b,off,some s⟩:Addr).add (0*k)).add 0=⟨b,off,some s⟩ from by simp [Addr.add]] at hc
      unfold World.cell? at hc
      split at hc
      ·simp at hc
      ·cases hc
  obtain ⟨f,hf⟩:∃ f:Nat->α,∀ i,i < len->Q (f i)/\∀ j,j < k->W.cell? (((⟨b,off,sp⟩:Addr).add (i*k)).add j)=(cells (f i))[j]?:=by
   refine ⟨fun i=>if h:i < len then Classical.choose (hex i h) else z,fun i hi=>?_⟩
   simp only [hi,dif_pos]
   exact Classical.choose_spec (hex i hi)
  have hlen:((List.range len).map f).length=len:=by simp
  have hget:∀ i,i < len->((List.range len).map f).getD i z=f i:=fun i hi=>by simp [hi]
  unfold maxLen at hm
  refine ⟨some ⟨b,off,sp⟩,len,m,b,off,(List.range len).map f,hcs,hlen.symm,?_,hl,(fun h=>by cases h),by omega,fun mo hmo=>?_,fun i hi=>?_,fun hw=>?_⟩
  ·rcases hsp with h | h
   ·exact .inl h
   ·subst h; exact .inr rfl
  ·obtain ⟨i,hi,rfl⟩:=List.mem_map.1 hmo
   exact (hf i (List.mem_range.1 hi)).1
  ·rcases hsp with h | h
   ·omega
   ·subst h
    rw [hget i hi]
    have hc:=(hf i hi).2
    have hc':∀ j,j < k->W.cell? ⟨b,off+i*k+j,none⟩=(cells (f i))[j]?:=fun j hj=>by
     have:=hc j hj
     rw [Addr.add_none,Addr.add_none] at this
     exact this
    refine ⟨?_,hc'⟩
    obtain ⟨u,hy⟩:=hone (f i)
    exact World.block_lt_of_cell? W ⟨b,off+i*k+0,none⟩ ((hc' 0 hk0).trans hy)
  ·rw [hx] at hw
   simp only [DataW.weights,ht,List.all_cons,Bool.and_eq_true,decide_eq_true_eq] at hw
   have h1:=hw.1
   simp only [List.length_map,List.length_range] at h1
   refine Nat.le_trans (Nat.mul_le_mul_right _ ?_) h1
   omega
def rng (x:Int):Prop:=-9223372036854775808 <= x/\x <= 9223372036854775807
end
end Go.Proofs.YtbohkigffejhoaaGreat
namespace Go.Proofs.YtbohkigffejhoaaGreat
open Go.RowKit
namespace Vc
theorem aF7 (a b:Nat):a3L a b=((a:Int) - b).sign:=by
 rcases Nat.lt_trichotomy a b with h | h | h
 ·rw [a3k h,Int.sign_eq_neg_one_of_neg (by omega)]
 ·rw [a3V h,h,Int.sub_self]; rfl
 ·rw [a3x h,Int.sign_eq_one_of_pos (by omega)]
def aQK:Ctr:=⟨212,spY (gI.c (gI.c r0)) (fun (x,y,_)=>szI x <= 10000000/\szI y <= 10000000) (fun (x,y,_)=>.k (.c (.v (.int .i64 ((x - y).sign)))))⟩
theorem aGh (x y:Int) (hp:szI x <= 10000000/\szI y <= 10000000):owes LT ST4 [] Tryz.f212 (bd Tryz.f212) [.g [.I (x)],.g [.I (y)]] (.k (.c (.v (.int .i64 ((x - y).sign))))):=by
 refine Eq.mp (show ((((decide (x < 0)) != (decide (y < 0)))=true->(((decide (x < 0))=true->(Value.int .i64 (-1:Int)=(.int .i64 ((x - y).sign))))/\((decide (x < 0))=false->(Value.int .i64 (1:Int)=(.int .i64 ((x - y).sign))))))/\(((decide (x < 0)) != (decide (y < 0)))=false->(((decide (x < 0))=true->(((Lb.a5G (Lb.limbs y.natAbs)/\Lb.a5G (Lb.limbs x.natAbs))/\(Lb.limbs y.natAbs).length <= 1000000000/\(Lb.limbs x.natAbs).length <= 1000000000)/\(Value.int .i64 (a3L (Lb.val (Lb.limbs y.natAbs)) (Lb.val (Lb.limbs x.natAbs)))=(.int .i64 ((x - y).sign)))))/\((decide (x < 0))=false->(((Lb.a5G (Lb.limbs x.natAbs)/\Lb.a5G (Lb.limbs y.natAbs))/\(Lb.limbs x.natAbs).length <= 1000000000/\(Lb.limbs y.natAbs).length <= 1000000000)/\(Value.int .i64 (a3L (Lb.val (Lb.limbs x.natAbs)) (Lb.val (Lb.limbs y.natAbs)))=(.int .i64 ((x - y).sign))))))))=_ by kernel_rfl) ?_
 unfold szI at hp
 obtain ⟨h1,h2⟩:=hp
 have hN:=fun n=>Lb.a0f n
 simp only [Lb.a0a]
 refine ⟨fun h=>⟨fun h3=>?_,fun h3=>?_⟩,fun h=>⟨fun h3=>⟨⟨⟨hN _,hN _⟩,by omega,by omega⟩,?_⟩,fun h3=>⟨⟨⟨hN _,hN _⟩,by omega,by omega⟩,?_⟩⟩⟩
 ·have h4:x < 0:=of_decide_eq_true h3
  have h5:¬ y < 0:=by intro c; simp [h4,c] at h
  rw [Int.sign_eq_neg_one_of_neg (by omega)]
 ·have h4:¬ x < 0:=of_decide_eq_false h3
  have h5:y < 0:=by
   rcases Int.lt_or_le y 0 with c | c
   ·exact c
   ·have c':¬ y < 0:=by omega
    simp [h4,c'] at h
  rw [Int.sign_eq_one_of_pos (by omega)]
 ·have h4:x < 0:=of_decide_eq_true h3
  have h5:y < 0:=by
   rcases Int.lt_or_le y 0 with c | c
   ·exact c
   ·have c':¬ y < 0:=by omega
    simp [h4,c'] at h
  rw [aF7]
  congr 2
  omega
 ·have h4:¬ x < 0:=of_decide_eq_false h3
  have h5:¬ y < 0:=by intro c; simp [h4,c] at h
  rw [aF7]
  congr 2
  omega
theorem aNc:CtrOK Tryz.prog aQK:=yOK a1w aVW Tryz.func212 fun _ hp=>aGh _ _ hp
def XT0:List Ctr:=ST4 ++ [aQK]
theorem aVO:∀ c ∈ XT0,CtrOK Tryz.prog c:=a0O aVW (a03 aNc (a2L))
theorem a7c {a b:Rat}:Rt.sg (a - b) >= 0 ↔ b <= a:=by
 rw [ge_iff_le,Rt.a81]
 constructor <;> intro h <;> grind
def aTQ:Ctr:=⟨121,spY (gR.c (gR.c r0)) (fun (p,q,_)=>szR p <= 1000000/\szR q <= 1000000) (fun (p,q,_)=>.k (.c (.v (.int .i64 ((Rt.sg (p - q)))))))⟩
theorem aM0 (p q:Rat) (hp:szR p <= 1000000/\szR q <= 1000000):owes LT XT0 [] Tryz.f121 (bd Tryz.f121) [.g [.R (p)],.g [.R (q)]] (.k (.c (.v (.int .i64 ((Rt.sg (p - q))))))):=by
 refine Eq.mp (show ((szI p.num <= 10000000/\szI (q.den:Int) <= 10000000)/\((szI q.num <= 10000000/\szI (p.den:Int) <= 10000000)/\((szI (p.num*(q.den:Int)) <= 10000000/\szI (q.num*(p.den:Int)) <= 10000000)/\(Value.int .i64 (((p.num*(q.den:Int)) - (q.num*(p.den:Int))).sign)=(.int .i64 (Rt.sg (p - q)))))))=_ by kernel_rfl) ?_
 obtain ⟨hp,hq⟩:=hp
 have a1:=a1f p; have a2:=a1p p; have a3:=a1f q; have a4:=a1p q
 have m1:=a02 p.num q.den; have m3:=a02 q.num p.den
 exact ⟨⟨by omega,by omega⟩,⟨by omega,by omega⟩,⟨by omega,by omega⟩,by rw [Rt.aKh]⟩
theorem aLw:CtrOK Tryz.prog aTQ:=yOK a1w aVO Tryz.func121 fun _ hp=>aM0 _ _ hp
end Vc
end Go.Proofs.YtbohkigffejhoaaGreat
namespace Go.Proofs.YtbohkigffejhoaaGreat
open Go.RowKit
namespace Vc
def b1g:Ctr:=⟨61,spY (gI.c (gI.c r0)) (fun (x,y,_)=>(0 <= x/\0 < y)/\(szI x <= 5000000/\szI y <= 5000000)) (fun (x,y,_)=>.t [.g [.I ((x / y))],.g [.I ((x % y))],.c (.v (.int .i64 ((0:Int))))])⟩
def aIu (x:Int) (y:Int):=(Lb.limbs (Lb.val (Lb.limbs x.natAbs) % Lb.val (Lb.limbs y.natAbs)))
def aSY (x:Int) (y:Int):=(Lb.limbs (Lb.val (Lb.limbs x.natAbs) / Lb.val (Lb.limbs y.natAbs)))
def aSX (x:Int) (y:Int):=(sgn ((decide (x < 0)) != (decide (y < 0))) (Lb.val (aSY x y)))
def aS0 (x:Int) (y:Int):=((((((((aSX x y) - (1:Int))=(x / y))/\True)/\(((((sgn (decide (x < 0)) (Lb.val (aIu x y)))+y)=(x % y))/\True)/\((Value.int .i64 (0:Int)=(.int .i64 (0:Int)))/\True)))/\True)/\True)/\True)
def aSZ (x:Int) (y:Int):=(((((((aSX x y)=(x / y))/\True)/\((((sgn (decide (x < 0)) (Lb.val (aIu x y)))=(x % y))/\True)/\((Value.int .i64 (0:Int)=(.int .i64 (0:Int)))/\True)))/\True)/\True)/\True)
def aW5 (x:Int) (y:Int):=(bif (decide (((aIu x y).length:Int) > (0:Int))) then ((decide (x < 0)) != (decide (y < 0))) else false)
theorem aQI (x y:Int) (hp:(0 <= x/\0 < y)/\(szI x <= 5000000/\szI y <= 5000000)):owes LT RT7 [] Tryz.f61 (bd Tryz.f61) [.g [.I (x)],.g [.I (y)]] (.t [.g [.I ((x / y))],.g [.I ((x % y))],.c (.v (.int .i64 ((0:Int))))]):=by
 refine Eq.mp (show (((((Lb.limbs y.natAbs).length:Int) == (0:Int))=true->(((Value.bool false=.bool (decide ((x / y) < 0)))/\((([]:List Nat)=Lb.limbs (x / y).natAbs)/\True))/\(((Value.bool false=.bool (decide ((x % y) < 0)))/\((([]:List Nat)=Lb.limbs (x % y).natAbs)/\True))/\((Value.int .i64 (6:Int)=(.int .i64 (0:Int)))/\True))))/\((((Lb.limbs y.natAbs).length:Int) == (0:Int))=false->(((Lb.Lt (Lb.limbs x.natAbs)/\Lb.a5G (Lb.limbs y.natAbs))/\((Lb.limbs x.natAbs).length <= 90000000/\(Lb.limbs y.natAbs).length <= 90000000)/\Lb.val (Lb.limbs y.natAbs) ≠ 0)/\((Lb.Lt (aSY x y)/\(aSY x y).length <= 1000000000)/\((Lb.Lt (aIu x y)/\(aIu x y).length <= 1000000000)/\(((aW5 x y)=true->((-9223372036854775808 <= (1:Int)/\(1:Int) <= 9223372036854775807)/\((szI (aSX x y) <= 10000000/\szI (1:Int) <= 10000000)/\((szI (sgn (decide (x < 0)) (Lb.val (aIu x y))) <= 10000000/\szI y <= 10000000)/\(((aS0 x y)/\((aS0 x y)/\True))/\(((aS0 x y)/\True)/\True))))))/\((aW5 x y)=false->(((aSZ x y)/\((aSZ x y)/\True))/\(((aSZ x y)/\True)/\True)))))))))=_ by kernel_rfl) ?_
 delta aW5 aSZ aS0 aSX aSY aIu
 obtain ⟨⟨hx,hy⟩,hx5,hy5⟩:=hp
 obtain ⟨a,rfl⟩:=Int.eq_ofNat_of_zero_le hx
 obtain ⟨b,rfl⟩:=Int.eq_ofNat_of_zero_le (Int.le_of_lt hy)
 unfold szI at hx5 hy5
 simp only [Int.natAbs_natCast] at *
 have dx:decide (((a:Nat):Int) < 0)=false:=decide_eq_false (by omega)
 have dy:decide (((b:Nat):Int) < 0)=false:=decide_eq_false (by omega)
 have hny:b ≠ 0:=by omega
 have hly:(Lb.limbs b).length ≠ 0:=by rw [Lb.a2q hny]; simp
 have s0:∀ n:Nat,sgn false n=(n:Int):=fun n=>by simp [sgn]
 have hd:=Lb.a1n (Nat.div_le_self a b)
 have hm:=Lb.a1n (Nat.mod_le a b)
 simp only [Lb.a0a]
 rw [dx,dy]
 refine ⟨fun h=>absurd h (by simpa using hly),fun _=>⟨⟨⟨(Lb.a0f _).1,Lb.a0f _⟩,⟨by omega,by omega⟩,hny⟩,⟨(Lb.a0f _).1,by omega⟩,⟨(Lb.a0f _).1,by omega⟩,fun h=>?_,fun _=>?_⟩⟩
 ·exfalso
  revert h
  cases decide ((((Lb.limbs (a % b)).length:Int)) > ((0:Int))) <;> simp
 ·have e0:(false != false)=false:=rfl
  rw [e0]
  simp only [s0]
  rw [Int.natCast_ediv,Int.natCast_emod]
  simp only [and_self]
theorem aXV:CtrOK Tryz.prog b1g:=yOK a1w aRO Tryz.func61 fun _ hp=>aQI _ _ hp
end Vc
end Go.Proofs.YtbohkigffejhoaaGreat
namespace Go.Proofs.YtbohkigffejhoaaGreat
open Go.RowKit
def isq:Nat->Nat
 | 0=>0
 | n+1=>if (isq n+1)*(isq n+1) <= n+1 then isq n+1 else isq n
theorem a7A:∀ n,isq n*isq n <= n/\n < (isq n+1)*(isq n+1)
 | 0=>by decide
 | n+1=>by
   obtain ⟨h1,h2⟩:=a7A n
   rw [isq]
   split
   ·rename_i h
    refine ⟨h,?_⟩
    have:(isq n+1+1)*(isq n+1+1)=(isq n+1)*(isq n+1)+2*(isq n+1)+1:=by grind
    omega
   ·exact ⟨by omega,by omega⟩
theorem aCm {n r:Nat} (h1:r*r <= n) (h2:n < (r+1)*(r+1)):isq n=r:=by
 obtain ⟨h3,h4⟩:=a7A n
 rcases Nat.lt_trichotomy (isq n) r with h | h | h
 ·have:(isq n+1)*(isq n+1) <= r*r:=Nat.mul_le_mul h h
  omega
 ·exact h
 ·have:(r+1)*(r+1) <= isq n*isq n:=Nat.mul_le_mul h h
  omega
theorem aZa {z x:Int} (hx:1 <= x) (hz:0 <= z):z < ((x+z / x) / 2+1)*((x+z / x) / 2+1):=by
 have h1:=Int.mul_ediv_add_emod z x
 have h2:=Int.emod_lt_of_pos z (show 0 < x by omega)
 have h3:=Int.emod_nonneg z (show x ≠ 0 by omega)
 have h4:0 <= z / x:=Int.ediv_nonneg hz (by omega)
 generalize z / x=q at *
 generalize z % x=r at *
 have h5:x+q <= 2*((x+q) / 2)+1:=by omega
 generalize (x+q) / 2=n at *
 have h6:z < x*(q+1):=by rw [Int.mul_add]; omega
 have h7:x+(q+1) <= 2*(n+1):=by omega
 have hs:1 <= q+1:=by omega
 generalize q+1=s at *
 generalize n+1=m at *
 have h8:4*(x*s) <= (x+s)*(x+s):=by
  have:0 <= (x - s)*(x - s):=by
   rcases Int.le_total 0 (x - s) with h | h
   ·exact Int.mul_nonneg h h
   ·have:=Int.mul_nonneg (show 0 <= -(x - s) by omega) (show 0 <= -(x - s) by omega)
    rwa [Int.neg_mul_neg] at this
  grind
 have h9:(x+s)*(x+s) <= 2*m*(2*m):=Int.mul_le_mul h7 h7 (by omega) (by omega)
 have h10:2*m*(2*m)=4*(m*m):=by grind
 omega
theorem aId {z x:Int} (hx:1 <= x) (h:x <= (x+z / x) / 2):x*x <= z:=by
 have h1:=Int.mul_ediv_add_emod z x
 have h3:=Int.emod_nonneg z (show x ≠ 0 by omega)
 generalize z / x=q at *
 have h4:x <= q:=by omega
 have:=Int.mul_le_mul_of_nonneg_left h4 (show 0 <= x by omega)
 omega
theorem aWj (k:Nat):Lb.val (List.replicate k 0 ++ [1])=Lb.B ^ k:=by
 rw [Lb.val_append]
 have:∀ n,Lb.val (List.replicate n 0)=0:=fun n=>by
  induction n with
  | zero=>rfl
  | succ n ih=>rw [List.replicate_succ]; simp [Lb.val,ih]
 rw [this,List.length_replicate]
 simp [Lb.val]
theorem aYS (k:Nat):Lb.Lt (List.replicate k 0 ++ [1]):=by
 intro x hx
 rcases List.mem_append.1 hx with h | h
 ·have:=(List.mem_replicate.1 h).2
  subst this
  decide
 ·have:x=1:=by simpa using h
  subst this
  decide
namespace Vc
theorem aY6 {p:Rat} (h:p ≠ 0):p.num ≠ 0:=by rwa [ne_eq,Rat.num_eq_zero]
theorem aOg (n:Int):szR (n:Rat) <= szI n+1:=by
 have h:szI 1 <= 1:=aCO
 unfold szR
 rw [show (n:Rat).num=n from rfl,show (((n:Rat).den:Nat):Int)=1 from rfl]
 omega
theorem aSo (x y:Int):szI (x+y) <= max (szI x) (szI y)+1:=by
 have h1:x.natAbs < Lb.B ^ szI x:=Lb.a01 x.natAbs
 have h2:y.natAbs < Lb.B ^ szI y:=Lb.a01 y.natAbs
 refine a4D ?_
 have k1:Lb.B ^ szI x <= Lb.B ^ max (szI x) (szI y):=Nat.pow_le_pow_right Lb.a3r (Nat.le_max_left ..)
 have k2:Lb.B ^ szI y <= Lb.B ^ max (szI x) (szI y):=Nat.pow_le_pow_right Lb.a3r (Nat.le_max_right ..)
 rw [Nat.pow_succ]
 generalize Lb.B ^ max (szI x) (szI y)=m at *
 have:m*2 <= m*Lb.B:=Nat.mul_le_mul_left _ (by decide)
 generalize m*Lb.B=z at *
 generalize Lb.B ^ szI x=u at *
 generalize Lb.B ^ szI y=v at *
 omega
theorem aOh {n d:Int} (hd:d ≠ 0):szR (Rat.divInt n d) <= max (szI n) (szI d):=by
 rcases Int.lt_or_gt_of_ne hd with h | h
 ·rw [<- Rt.aCU]
  have h1:=a2I (Rt.a8d (n:=-n) (d:=-d) (by omega))
  have h2:=a2I (a:=((Rat.divInt (-n) (-d)).den:Int)) (b:=-d) (by have:=Rt.a8e (n:=-n) (d:=-d) (by omega); omega)
  have:=a2W n
  have:=a2W d
  unfold szR
  omega
 ·have h1:=a2I (Rt.a8d (n:=n) h)
  have h2:=a2I (a:=((Rat.divInt n d).den:Int)) (b:=d) (by have:=Rt.a8e (n:=n) h; omega)
  unfold szR
  omega
theorem a0L (p q:Rat):szR (p*q) <= szR p+szR q:=by
 rw [<- Rt.aE9]
 have:=aOh (n:=p.num*q.num) (d:=p.den*q.den) (Int.mul_ne_zero (a3p p) (a3p q))
 have:=a02 p.num q.num
 have:=a02 p.den q.den
 have:=a1f p; have:=a1f q; have:=a1p p; have:=a1p q
 omega
theorem a1S (p q:Rat):szR (p+q) <= szR p+szR q+1:=by
 rw [<- Rt.aHu]
 have:=aOh (n:=p.num*q.den+q.num*p.den) (d:=p.den*q.den) (Int.mul_ne_zero (a3p p) (a3p q))
 have:=aSo (p.num*q.den) (q.num*p.den)
 have:=a02 p.num q.den
 have:=a02 q.num p.den
 have:=a02 p.den q.den
 have:=a1f p; have:=a1f q; have:=a1p p; have:=a1p q
 omega
theorem a2V (p q:Rat):szR (p - q) <= szR p+szR q+1:=by
 have:=a1S p (-q)
 have:=a18 q
 rw [Rat.sub_eq_add_neg]
 omega
theorem a9q (p q:Rat) (hq:q ≠ 0):szR (p / q) <= szR p+szR q:=by
 rw [<- Rt.aLk]
 have:=aOh (n:=p.num*q.den) (d:=p.den*q.num) (Int.mul_ne_zero (a3p p) (aY6 hq))
 have:=a02 p.num q.den
 have:=a02 p.den q.num
 have:=a1f p; have:=a1f q; have:=a1p p; have:=a1p q
 omega
end Vc
end Go.Proofs.YtbohkigffejhoaaGreat
namespace Go.Proofs.YtbohkigffejhoaaGreat
open Go.RowKit
namespace Vc
section
variable {P:Program} {L:List Lay} {C:List Ctr} {I:List LI}
def Good (P:Program) (W0:World) (Qa:AEx->St->Prop) (c:Code) (s:St):Prop:=∀ F,none ∉ F->∀ (Q:Exit->Act->World->Prop),(∀ e s' bs' a' w',Qa e s'->Rl W0 F bs' s' a' w'->Q e.ex a' w')->∀ bs a w,Rl W0 F bs s a w->c.wp P Q a w
def aX3 (L:List Lay) (C:List Ctr) (I:List LI) {α:Type} (φ:α->Prop) (st:α->St) (Qa:AEx->St->Prop):Nat->Code->St->Prop
 | 0,_,s=>∃ x,φ x/\leS s (st x)
 | n+1,.seq a b,s=>awp L C I a s fun e s'=>match e with | .normal=>aX3 L C I φ st Qa n b s' | e=>Qa e s'
 | _+1,_,_=>False
def aMn:Nat->Code->Code
 | 0,c=>c
 | n+1,.seq _ b=>aMn n b
 | _+1,c=>c
theorem aDp (hm:P.follows .mixedOrders=true) (hL:∀ l ∈ L,a14 P l) (hC:∀ c ∈ C,CtrOK P c) {W0:World} {α:Type} {φ:α->Prop} {st:α->St} {Qa:AEx->St->Prop}:∀ {n:Nat} {c:Code} {s:St},aX3 L C I φ st Qa n c s->(∀ x,φ x->Good P W0 Qa (aMn n c) (st x))->Good P W0 Qa c s
 | 0,c,s,h,h2=>fun F hz Q hk bs a w hR=>by
   obtain ⟨x,hφ,hle⟩:=h
   exact h2 x hφ F hz Q hk _ a w (hR.weak hz hle)
 | n+1,c,s,h,h2=>fun F hz Q hk bs a w hR=>by
   cases c with
   | seq x y =>
     refine wp_seq (a2C hz hm hL hC x s bs a w _ _ h hR fun e s' bs' a' w' hq hR'=>?_)
     cases e with
     | normal=>exact aDp hm hL hC (c:=y) hq h2 F hz Q hk bs' a' w' hR'
     | ret=>exact hk .ret s' bs' a' w' hq hR'
     | exit id=>exact hk (.exit id) s' bs' a' w' hq hR'
   | _=>exact h.elim
def aBg (L:List Lay) (fn:Func) {α:Type} (φ:α->Prop) (r:α->AV):AEx->St->Prop:=fun e s =>
 match e with
 | .exit _=>False
 | _ =>
   match aX5 L s fn.results.toList with
   | some x=>∃ a,φ a/\eqV (aY5 x) (r a)
   | none=>False
def st0 (fn:Func) (xs:List AK):St:=⟨xs.map .k ++ List.replicate (fn.ntmps - xs.length) .u,[]⟩
theorem aCr (hL:∀ l ∈ L,a14 P l) {f:Nat} {fn:Func} {body:Code} (hf:P.funcs[f]?=some fn) (hb:fn.body=some body) {xs:List AK} {vs:List Value} {α:Type} {φ:α->Prop} {r:α->AV} {bs:Bs} {w:World}
    (hx:relKs bs w xs vs) (hA:okB bs w=true) (hG:okF bs w=true) (hnx:a9p xs=true) (hnr:∀ a,aTy (r a)=true) (h:Good P w (aBg L fn φ r) body (st0 fn xs)):Calls P f vs.toArray w fun e w'=>∃ v,e=.returned v/\Ext w w'/\∃ a,φ a/\relV bs w' (r a) v:=by
 refine calls_of_wp hf hb ?_
 refine h _ (a6n hG) _ (fun e s' bs' a' w' hq hR'=>?_) _ _ _ (aCQ hx hA hG hnx)
 cases e with
 | exit id=>exact hq.elim
 | normal =>
   simp only [aBg] at hq
   split at hq
   ·rename_i x hx'
    obtain ⟨v,h1,h2⟩:=a5x hL hR' hx'
    obtain ⟨a,ha,he⟩:=hq
    exact ⟨hR'.dfr,v,h1,v,rfl,hR'.ext,a,ha,a8g hG hR' h2 he (hnr a)⟩
   ·exact hq.elim
 | ret =>
   simp only [aBg] at hq
   split at hq
   ·rename_i x hx'
    obtain ⟨v,h1,h2⟩:=a5x hL hR' hx'
    obtain ⟨a,ha,he⟩:=hq
    exact ⟨hR'.dfr,v,h1,v,rfl,hR'.ext,a,ha,a8g hG hR' h2 he (hnr a)⟩
   ·exact hq.elim
end
end Vc
end Go.Proofs.YtbohkigffejhoaaGreat
namespace Go.Proofs.YtbohkigffejhoaaGreat
open Go.RowKit
namespace Vc
attribute [local irreducible] owes
theorem aSW:∀ c ∈ XT0 ++ [aTQ],CtrOK Tryz.prog c:=a0O aVO (fun c hc=>by
 simp only [List.mem_cons,List.not_mem_nil,or_false] at hc
 subst hc
 exact aLw)
def BT0:List Ctr:=XT0 ++ [aTQ]
theorem aR5:∀ c ∈ BT0,CtrOK Tryz.prog c:=aSW
def aVn:Ctr:=⟨476,spY (gI.c (gI.c r0)) (fun (n,d,_)=>d ≠ 0/\szI n <= 5000000/\szI d <= 5000000) (fun (n,d,_)=>.t [.g [.R ((Rat.divInt n d))],.c (.v (.int .i64 ((0:Int))))])⟩
theorem aI3 (n:Int) (d:Int) (hp:d ≠ 0/\szI n <= 5000000/\szI d <= 5000000):owes LT BT0 [] Tryz.f476 (bd Tryz.f476) [.g [.I (n)],.g [.I (d)]] (.t [.g [.R ((Rat.divInt n d))],.c (.v (.int .i64 ((0:Int))))]):=by
 refine Eq.mp (show (True/\(((d.sign == (0:Int))=true->(False/\((Value.int .i64 (6:Int)=(.int .i64 (0:Int)))/\True)))/\((d.sign == (0:Int))=false->((d ≠ 0/\szI n <= 5000000/\szI d <= 5000000)/\((((Rat.divInt n d)=(Rat.divInt n d))/\True)/\((Value.int .i64 (0:Int)=(.int .i64 (0:Int)))/\True))))))=_ by kernel_rfl) ?_
 obtain ⟨h0,h1,h2⟩:=hp
 refine ⟨trivial,fun h=>?_,fun _=>⟨⟨h0,h1,h2⟩,⟨rfl,trivial⟩,rfl,trivial⟩⟩
 exact absurd (Int.sign_eq_zero_iff_zero.1 (beq_iff_eq.1 h)) h0
theorem aQz:CtrOK Tryz.prog aVn:=yOK a1w aR5 Tryz.func476 fun _ hp=>aI3 _ _ hp
def BT1:List Ctr:=BT0 ++ [aVn]
theorem aWd:∀ c ∈ BT1,CtrOK Tryz.prog c:=a0O aR5 (a03 aQz (a2L))
def aXT:Ctr:=⟨401,spY (gR.c (gR.c r0)) (fun (p,q,_)=>q ≠ 0/\szR p <= 1000000/\szR q <= 1000000) (fun (p,q,_)=>.t [.g [.R ((p / q))],.c (.v (.int .i64 ((0:Int))))])⟩
theorem aMZ (p:Rat) (q:Rat) (hp:q ≠ 0/\szR p <= 1000000/\szR q <= 1000000):owes LT BT1 [] Tryz.f401 (bd Tryz.f401) [.g [.R (p)],.g [.R (q)]] (.t [.g [.R ((p / q))],.c (.v (.int .i64 ((0:Int))))]):=by
 refine Eq.mp (show ((szI p.num <= 10000000/\szI (q.den:Int) <= 10000000)/\((szI (p.den:Int) <= 10000000/\szI q.num <= 10000000)/\((((p.den:Int)*q.num) ≠ 0/\szI (p.num*(q.den:Int)) <= 5000000/\szI ((p.den:Int)*q.num) <= 5000000)/\((((Rat.divInt (p.num*(q.den:Int)) ((p.den:Int)*q.num))=(p / q))/\True)/\((Value.int .i64 (0:Int)=(.int .i64 (0:Int)))/\True)))))=_ by kernel_rfl) ?_
 obtain ⟨h0,hp,hq⟩:=hp
 have a1:=a1f p; have a2:=a1p p; have a3:=a1f q; have a4:=a1p q
 have m1:=a02 p.num q.den; have m2:=a02 (p.den:Int) q.num
 have hd:=p.den_pos
 refine ⟨⟨by omega,by omega⟩,⟨by omega,by omega⟩,⟨?_,by omega,by omega⟩,⟨Rt.aLk _ _,trivial⟩,rfl,trivial⟩
 exact Int.mul_ne_zero (by omega) (by rw [ne_eq,Rat.num_eq_zero]; exact h0)
theorem aLv:CtrOK Tryz.prog aXT:=yOK a1w aWd Tryz.func401 fun _ hp=>aMZ _ _ hp
def BT2:List Ctr:=BT1 ++ [aXT]
theorem b0c:∀ c ∈ BT2,CtrOK Tryz.prog c:=a0O aWd (a03 aLv (a2L))
def aQs:Ctr:=⟨198,spY (gR.c r0) (fun (p,_)=>szR p <= 1000000) (fun _=>.k (.c (.v (.bool (true)))))⟩
theorem aGb (p:Rat) (hp:szR p <= 1000000):owes LT BT0 [] Tryz.f198 (bd Tryz.f198) [.g [.R (p)]] (.k (.c (.v (.bool (true))))):=by
 refine Eq.mp (show ((szI p.num <= 10000000)/\((((!true) == false)=true->(szI (p.den:Int) <= 10000000))/\((((bif (!true) then true else (!true)) == false)=true->True)/\(((bif (bif (!true) then true else (!true)) then true else (((p.den:Int).sign) != (1:Int)))=true->(Value.bool false=(.bool true)))/\((bif (bif (!true) then true else (!true)) then true else (((p.den:Int).sign) != (1:Int)))=false->((szI p.num <= 5000000/\szI (p.den:Int) <= 5000000)/\(True/\((szI (Int.gcd p.num (p.den:Int):Int) <= 10000000/\szI (1:Int) <= 10000000)/\(Value.bool (decide ((Int.gcd p.num (p.den:Int):Int)=(1:Int)))=(.bool true))))))))))=_ by kernel_rfl) ?_
 have a1:=a1f p
 have a2:=a1p p
 have hd:((p.den:Int)).sign=1:=Int.sign_eq_one_of_pos (by have:=p.den_pos; omega)
 have hg:((Int.gcd p.num (p.den:Int):Nat):Int)=1:=congrArg (fun n:Nat=>(n:Int)) p.reduced
 have s1:=aCO
 rw [hd,hg]
 exact ⟨by omega,fun _=>by omega,fun _=>trivial,fun h=>absurd h (by decide),fun _=>⟨⟨by omega,by omega⟩,trivial,⟨by omega,by omega⟩,rfl⟩⟩
theorem aMT:CtrOK Tryz.prog aQs:=yOK a1w aR5 Tryz.func198 fun _ hp=>aGb _ hp
end Vc
end Go.Proofs.YtbohkigffejhoaaGreat
namespace Go.Proofs.YtbohkigffejhoaaGreat
open Go.RowKit
set_option maxHeartbeats 4000000
namespace Vc
attribute [local irreducible] owes
theorem a0p {L:List Lay} {C:List Ctr} {I:List LI} {fn:Func} {body:Code} {xs:List AK} {r:AV} {p:Prop} (h:p=owes L C I fn body xs r) (hp:p):owes L C I fn body xs r:=h ▸ hp
theorem a06 {α:Sort _} {c:Bool} (h:c=true) (a b:α):(if c=true then a else b)=a:=if_pos h
theorem a05 {α:Sort _} {c:Bool} (h:c=false) (a b:α):(if c=true then a else b)=b:=if_neg (by rw [h]; decide)
def un (z:Int):Prop:=z=-1 \/ z=0 \/ z=1
theorem a0Z (q:Rat):un (Rt.sg q):=Rt.a4a q
theorem a0w {z:Int} (h:un z):un (0 - z):=by rcases h with h | h | h <;> subst h <;> unfold un <;> decide
theorem a0u {y z:Int} (h:un y) (k:un z):un (y*z):=by rcases h with h | h | h <;> rcases k with k | k | k <;> subst h <;> subst k <;> unfold un <;> decide
theorem a0N {z:Int} (h:un z):inR .i64 z:=by rcases h with h | h | h <;> subst h <;> unfold inR <;> decide
theorem a3h {n:Int} (h:n.natAbs < Lb.B):szR (n:Rat) <= 2:=by
 have h1:=aOg n
 have h2:szI n <= 1:=a4D (by rw [Nat.pow_one]; exact h)
 omega
theorem a2c:un 0:=.inr (.inl rfl)
theorem a2b:un 1:=.inr (.inr rfl)
theorem a2a:un (-1):=.inl rfl
def Vx.sz (p:Vx):Nat:=szR p.vx+szR p.vy
theorem aSm (p:Vx):p.sz=szR p.vx+szR p.vy:=rfl
theorem aHR (vx:Rat) (vy:Rat):(Vx.mk vx vy).sz=szR vx+szR vy:=rfl
def Rx.sz (p:Rx):Nat:=szR p.ra+szR p.rb+szR p.rc
theorem a2Z (p:Rx):p.sz=szR p.ra+szR p.rb+szR p.rc:=rfl
theorem a9J (ra:Rat) (rb:Rat) (rc:Rat):(Rx.mk ra rb rc).sz=szR ra+szR rb+szR rc:=rfl
def Px.sz (p:Px):Nat:=szR p.a+szR p.b+szR p.c+szR p.d+szR p.e
theorem a5A (p:Px):p.sz=szR p.a+szR p.b+szR p.c+szR p.d+szR p.e:=rfl
theorem aHS (a:Rat) (b:Rat) (c:Rat) (d:Rat) (e:Rat):(Px.mk a b c d e).sz=szR a+szR b+szR c+szR d+szR e:=rfl
def Dx.sz (p:Dx):Nat:=szR p.da+szR p.db+szR p.dc+szR p.dd+szR p.dm+szR p.dn
theorem b05 (p:Dx):p.sz=szR p.da+szR p.db+szR p.dc+szR p.dd+szR p.dm+szR p.dn:=rfl
theorem aWs (da:Rat) (db:Rat) (dc:Rat) (dd:Rat) (dm:Rat) (dn:Rat):(Dx.mk da db dc dd dm dn).sz=szR da+szR db+szR dc+szR dd+szR dm+szR dn:=rfl
def Lx.sz (p:Lx):Nat:=szR p.la+szR p.lb+szR p.lc
theorem aHT (p:Lx):p.sz=szR p.la+szR p.lb+szR p.lc:=rfl
def Kx.sz (p:Kx):Nat:=szR p.kx+szR p.ky+szR p.kq
theorem aBW (p:Kx):p.sz=szR p.kx+szR p.ky+szR p.kq:=rfl
theorem aWr (kx:Rat) (ky:Rat) (kq:Rat):(Kx.mk kx ky kq).sz=szR kx+szR ky+szR kq:=rfl
def Ux.sz (p:Ux):Nat:=p.l.sz+p.k.sz+p.f.sz+p.t.sz
theorem aCM (p:Ux):p.sz=p.l.sz+p.k.sz+p.f.sz+p.t.sz:=rfl
theorem aWq (arc:Bool) (l:Lx) (k:Kx) (cw:Bool) (f:Px) (t:Px):(Ux.mk arc l k cw f t).sz=l.sz+k.sz+f.sz+t.sz:=rfl
def Wx.sz (p:Wx):Nat:=p.wv.sz
def LTD:List Lay:=LT ++ [
 ⟨180,12,true,0,0,[.v (.bool false),.sl [],.v (.bool false),.sl [],.v (.bool false),.sl [],.v (.bool false),.sl [],.v (.bool false),.sl [],.v (.bool false),.sl []],[(0,4),(4,4),(8,4)]⟩,
 ⟨50,20,true,0,0,[.v (.bool false),.sl [],.v (.bool false),.sl [],.v (.bool false),.sl [],.v (.bool false),.sl [],.v (.bool false),.sl [],.v (.bool false),.sl [],.v (.bool false),.sl [],.v (.bool false),.sl [],.v (.bool false),.sl [],.v (.bool false),.sl []],[(0,4),(4,4),(8,4),(12,4),(16,4)]⟩,
 ⟨254,24,true,0,0,[.v (.bool false),.sl [],.v (.bool false),.sl [],.v (.bool false),.sl [],.v (.bool false),.sl [],.v (.bool false),.sl [],.v (.bool false),.sl [],.v (.bool false),.sl [],.v (.bool false),.sl [],.v (.bool false),.sl [],.v (.bool false),.sl [],.v (.bool false),.sl [],.v (.bool false),.sl []],[(0,4),(4,4),(8,4),(12,4),(16,4),(20,4)]⟩,
 ⟨46,12,true,0,0,[.v (.bool false),.sl [],.v (.bool false),.sl [],.v (.bool false),.sl [],.v (.bool false),.sl [],.v (.bool false),.sl [],.v (.bool false),.sl []],[(0,4),(4,4),(8,4)]⟩,
 ⟨48,12,true,0,0,[.v (.bool false),.sl [],.v (.bool false),.sl [],.v (.bool false),.sl [],.v (.bool false),.sl [],.v (.bool false),.sl [],.v (.bool false),.sl []],[(0,4),(4,4),(8,4)]⟩,
 ⟨52,66,true,0,0,[.v (.bool false),.v (.bool false),.sl [],.v (.bool false),.sl [],.v (.bool false),.sl [],.v (.bool false),.sl [],.v (.bool false),.sl [],.v (.bool false),.sl [],.v (.bool false),.sl [],.v (.bool false),.sl [],.v (.bool false),.sl [],.v (.bool false),.sl [],.v (.bool false),.sl [],.v (.bool false),.sl [],.v (.bool false),.v (.bool false),.sl [],.v (.bool false),.sl [],.v (.bool false),.sl [],.v (.bool false),.sl [],.v (.bool false),.sl [],.v (.bool false),.sl [],.v (.bool false),.sl [],.v (.bool false),.sl [],.v (.bool false),.sl [],.v (.bool false),.sl [],.v (.bool false),.sl [],.v (.bool false),.sl [],.v (.bool false),.sl [],.v (.bool false),.sl [],.v (.bool false),.sl [],.v (.bool false),.sl [],.v (.bool false),.sl [],.v (.bool false),.sl [],.v (.bool false),.sl [],.v (.bool false),.sl []],[(0,1),(1,12),(13,12),(25,1),(26,20),(46,20)]⟩,
 ⟨327,13,true,0,0,[.v (.int .i64 0),.v (.bool false),.sl [],.v (.bool false),.sl [],.v (.bool false),.sl [],.v (.bool false),.sl [],.v (.bool false),.sl [],.v (.bool false),.sl []],[(0,1),(1,12)]⟩]
theorem a0F:∀ l ∈ LTD,a14 Tryz.prog l:=by
 have h:LTD.all (aYn Tryz.prog)=true:=by kernel_rfl
 intro l hl
 exact aDd (List.all_eq_true.1 h l hl)
def zq1 (c:Ctr):Ctr:=⟨c.f,fun | [.g [x]]=>(match rq x with | some (p,a)=>(match c.sp [.g [.R a]] with | .yes pre r=>.yes (p/\pre) r | _=>.no) | none=>.no) | _=>.no⟩
def zq2 (c:Ctr):Ctr:=⟨c.f,fun | [.g [x],.g [y]]=>(match rq x,rq y with | some (p,a),some (q,b)=>(match c.sp [.g [.R a],.g [.R b]] with | .yes pre r=>.yes (p/\q/\pre) r | _=>.no) | _,_=>.no) | _=>.no⟩
theorem aUA {P:Program} {c:Ctr} (hc:CtrOK P c):CtrOK P (zq1 c):=.of hc.ent (fun bs w xs vs pre r hr hA hG h hp=>by
 simp only [zq1] at h
 split at h
 ·split at h
  ·rename_i e1
   split at h
   ·rename_i e2
    cases h
    exact hc.yes bs w _ vs _ _ (a1E (a3n e1 hp.1) a3E vs hr) hA hG e2 hp.2
   ·cases h
  ·cases h
 ·cases h) (fun xs α pre φ r=>by simp only [zq1]; split <;> (try split) <;> (try split) <;> (intro h; cases h))
theorem aEv {P:Program} {c:Ctr} (hc:CtrOK P c):CtrOK P (zq2 c):=.of hc.ent (fun bs w xs vs pre r hr hA hG h hp=>by
 simp only [zq2] at h
 split at h
 ·split at h
  ·rename_i e1 e3
   split at h
   ·rename_i e2
    cases h
    exact hc.yes bs w _ vs _ _ (a1E (a3n e1 hp.1) (a1E (a3n e3 hp.2.1) a3E) vs hr) hA hG e2 hp.2.2
   ·cases h
  ·cases h
 ·cases h) (fun xs α pre φ r=>by simp only [zq2]; split <;> (try split) <;> (try split) <;> (intro h; cases h))
def DT0:List Ctr:=[zq1 aXR,zq1 aQw,zq2 aXU,zq2 aXP,zq2 aXS,zq2 aTQ,zq2 aXT] ++ (BT2 ++ [aQs])
theorem a4Q:∀ c ∈ DT0,CtrOK Tryz.prog c:=by
 intro c hc
 rcases List.mem_append.1 hc with hc | hc
 ·simp only [List.mem_cons,List.not_mem_nil,or_false] at hc
  rcases hc with rfl | rfl | rfl | rfl | rfl | rfl | rfl
  ·exact aUA aLt
  ·exact aUA aGe
  ·exact aEv aLx
  ·exact aEv aLs
  ·exact aEv aLu
  ·exact aEv aLw
  ·exact aEv aLv
 ·rcases List.mem_append.1 hc with hc | hc
  ·exact b0c c hc
  ·simp only [List.mem_cons,List.not_mem_nil,or_false] at hc
   subst hc
   exact aMT
def a1D:Rat:=(((0:Int)):Rat)
theorem aG1 :owes LTD DT0 [] Tryz.f415 (bd Tryz.f415) [] (.k (.g [.R ((a1D))])):=by
 refine a0p (show ((-9223372036854775808 <= (0:Int)/\(0:Int) <= 9223372036854775807)/\((((0:Int):Rat)=a1D)/\True))=_ by kernel_rfl) ?_
 repeat' first | trivial | with_reducible apply And.intro | (intro _)
 all_goals first | rfl | omega | assumption | (with_reducible apply a0N; (repeat' first | exact a2c | exact a2b | exact a2a | exact a0Z _ | apply a0u | apply a0w); done) | (unfold a1D; (repeat' first | rfl | rw [a06 (by assumption)] | rw [a05 (by assumption)]); done) | (simp_all; done)
def aRo:Ctr:=⟨415,spY r0 (fun _=>True) (fun _=>.k (.g [.R ((a1D))]))⟩
theorem aNJ:CtrOK Tryz.prog aRo:=yOK a0F a4Q Tryz.func415 fun _ _=>aG1
theorem aHJ :szR (a1D) <= 2:=by
 have g1:=(a3h (n:=0) (by decide))
 unfold a1D
 repeat' split
 all_goals first | omega | (dsimp only; omega)
def a2X:Rat:=(((1:Int)):Rat)
theorem aJK :owes LTD DT0 [] Tryz.f477 (bd Tryz.f477) [] (.k (.g [.R ((a2X))])):=by
 refine a0p (show ((-9223372036854775808 <= (1:Int)/\(1:Int) <= 9223372036854775807)/\((((1:Int):Rat)=a2X)/\True))=_ by kernel_rfl) ?_
 repeat' first | trivial | with_reducible apply And.intro | (intro _)
 all_goals first | rfl | omega | assumption | (with_reducible apply a0N; (repeat' first | exact a2c | exact a2b | exact a2a | exact a0Z _ | apply a0u | apply a0w); done) | (unfold a2X; (repeat' first | rfl | rw [a06 (by assumption)] | rw [a05 (by assumption)]); done) | (simp_all; done)
def aVH:Ctr:=⟨477,spY r0 (fun _=>True) (fun _=>.k (.g [.R ((a2X))]))⟩
theorem aRp:CtrOK Tryz.prog aVH:=yOK a0F a4Q Tryz.func477 fun _ _=>aJK
theorem aUC :szR (a2X) <= 2:=by
 have g1:=(a3h (n:=1) (by decide))
 unfold a2X
 repeat' split
 all_goals first | omega | (dsimp only; omega)
def a1q (a:Rat):Rat:=(a)*(a)
theorem aBM (a:Rat) (hp:szR a <= 500000):owes LTD DT0 [] Tryz.f470 (bd Tryz.f470) [.g [.R (a)]] (.k (.g [.R ((a1q a))])):=by
 refine a0p (show ((True/\True/\(szR a <= 1000000/\szR a <= 1000000))/\(((a*a)=(a1q a))/\True))=_ by kernel_rfl) ?_
 repeat' first | trivial | with_reducible apply And.intro | (intro _)
 all_goals first | rfl | omega | assumption | (with_reducible apply a0N; (repeat' first | exact a2c | exact a2b | exact a2a | exact a0Z _ | apply a0u | apply a0w); done) | (unfold a1q; (repeat' first | rfl | rw [a06 (by assumption)] | rw [a05 (by assumption)]); done) | (simp_all; done)
def aG3:Ctr:=⟨470,spY (rQ.c r0) (fun (a,_)=>szR a <= 500000) (fun (a,_)=>.k (.g [.R ((a1q a))]))⟩
theorem aG2:CtrOK Tryz.prog aG3:=yOK a0F a4Q Tryz.func470 fun x hp=>aBM x.1 hp
theorem a6X (a:Rat):szR (a1q a) <= 2*(szR a):=by
 have g1:=a0L a a
 unfold a1q
 repeat' split
 all_goals first | omega | (dsimp only; omega)
def a1Z:Rat:=(((0:Int)):Rat)
theorem aGU :owes LTD DT0 [] Tryz.f128 (bd Tryz.f128) [] (.k (.g [.R ((a1Z))])):=by
 refine a0p (show ((-9223372036854775808 <= (0:Int)/\(0:Int) <= 9223372036854775807)/\((((0:Int):Rat)=a1Z)/\True))=_ by kernel_rfl) ?_
 repeat' first | trivial | with_reducible apply And.intro | (intro _)
 all_goals first | rfl | omega | assumption | (with_reducible apply a0N; (repeat' first | exact a2c | exact a2b | exact a2a | exact a0Z _ | apply a0u | apply a0w); done) | (unfold a1Z; (repeat' first | rfl | rw [a06 (by assumption)] | rw [a05 (by assumption)]); done) | (simp_all; done)
def aRg:Ctr:=⟨128,spY r0 (fun _=>True) (fun _=>.k (.g [.R ((a1Z))]))⟩
theorem aNF:CtrOK Tryz.prog aRg:=yOK a0F a4Q Tryz.func128 fun _ _=>aGU
theorem aN2 :szR (a1Z) <= 2:=by
 have g1:=(a3h (n:=0) (by decide))
 unfold a1Z
 repeat' split
 all_goals first | omega | (dsimp only; omega)
def a2A (a:Rat) (b:Rat):Rat:=(a)+(b)
theorem aJA (a:Rat) (b:Rat) (hp:szR a+szR b <= 500000):owes LTD DT0 [] Tryz.f394 (bd Tryz.f394) [.g [.R (a)],.g [.R (b)]] (.k (.g [.R ((a2A a b))])):=by
 refine a0p (show ((True/\True/\(szR a <= 1000000/\szR b <= 1000000))/\(((a+b)=(a2A a b))/\True))=_ by kernel_rfl) ?_
 repeat' first | trivial | with_reducible apply And.intro | (intro _)
 all_goals first | rfl | omega | assumption | (with_reducible apply a0N; (repeat' first | exact a2c | exact a2b | exact a2a | exact a0Z _ | apply a0u | apply a0w); done) | (unfold a2A; (repeat' first | rfl | rw [a06 (by assumption)] | rw [a05 (by assumption)]); done) | (simp_all; done)
def aVD:Ctr:=⟨394,spY (rQ.c (rQ.c r0)) (fun (a,b,_)=>szR a+szR b <= 500000) (fun (a,b,_)=>.k (.g [.R ((a2A a b))]))⟩
theorem aRe:CtrOK Tryz.prog aVD:=yOK a0F a4Q Tryz.func394 fun x hp=>aJA x.1 x.2.1 hp
theorem aJ6 (a:Rat) (b:Rat):szR (a2A a b) <= (szR a+szR b)+1:=by
 have g1:=a1S a b
 unfold a2A
 repeat' split
 all_goals first | omega | (dsimp only; omega)
def a1C (a:Rat) (b:Rat):Rat:=(a) - (b)
theorem aJy (a:Rat) (b:Rat) (hp:szR a+szR b <= 500000):owes LTD DT0 [] Tryz.f393 (bd Tryz.f393) [.g [.R (a)],.g [.R (b)]] (.k (.g [.R ((a1C a b))])):=by
 refine a0p (show ((True/\True/\(szR a <= 1000000/\szR b <= 1000000))/\(((a - b)=(a1C a b))/\True))=_ by kernel_rfl) ?_
 repeat' first | trivial | with_reducible apply And.intro | (intro _)
 all_goals first | rfl | omega | assumption | (with_reducible apply a0N; (repeat' first | exact a2c | exact a2b | exact a2a | exact a0Z _ | apply a0u | apply a0w); done) | (unfold a1C; (repeat' first | rfl | rw [a06 (by assumption)] | rw [a05 (by assumption)]); done) | (simp_all; done)
def aVB:Ctr:=⟨393,spY (rQ.c (rQ.c r0)) (fun (a,b,_)=>szR a+szR b <= 500000) (fun (a,b,_)=>.k (.g [.R ((a1C a b))]))⟩
theorem aRc:CtrOK Tryz.prog aVB:=yOK a0F a4Q Tryz.func393 fun x hp=>aJy x.1 x.2.1 hp
theorem aUB (a:Rat) (b:Rat):szR (a1C a b) <= (szR a+szR b)+1:=by
 have g1:=a2V a b
 unfold a1C
 repeat' split
 all_goals first | omega | (dsimp only; omega)
def a0J (a:Rat) (b:Rat):Rat:=(a)*(b)
theorem aJz (a:Rat) (b:Rat) (hp:szR a+szR b <= 500000):owes LTD DT0 [] Tryz.f321 (bd Tryz.f321) [.g [.R (a)],.g [.R (b)]] (.k (.g [.R ((a0J a b))])):=by
 refine a0p (show ((True/\True/\(szR a <= 1000000/\szR b <= 1000000))/\(((a*b)=(a0J a b))/\True))=_ by kernel_rfl) ?_
 repeat' first | trivial | with_reducible apply And.intro | (intro _)
 all_goals first | rfl | omega | assumption | (with_reducible apply a0N; (repeat' first | exact a2c | exact a2b | exact a2a | exact a0Z _ | apply a0u | apply a0w); done) | (unfold a0J; (repeat' first | rfl | rw [a06 (by assumption)] | rw [a05 (by assumption)]); done) | (simp_all; done)
def aVC:Ctr:=⟨321,spY (rQ.c (rQ.c r0)) (fun (a,b,_)=>szR a+szR b <= 500000) (fun (a,b,_)=>.k (.g [.R ((a0J a b))]))⟩
theorem aRd:CtrOK Tryz.prog aVC:=yOK a0F a4Q Tryz.func321 fun x hp=>aJz x.1 x.2.1 hp
theorem a4z (a:Rat) (b:Rat):szR (a0J a b) <= (szR a+szR b)+1:=by
 have g1:=a0L a b
 unfold a0J
 repeat' split
 all_goals first | omega | (dsimp only; omega)
def a1N (a:Rat) (b:Rat):Rat:=(a)+(b)
theorem aJu (a:Rat) (b:Rat) (hp:szR a+szR b <= 500000):owes LTD DT0 [] Tryz.f395 (bd Tryz.f395) [.g [.R (a)],.g [.R (b)]] (.k (.g [.R ((a1N a b))])):=by
 refine a0p (show ((True/\True/\(szR a <= 1000000/\szR b <= 1000000))/\(((a+b)=(a1N a b))/\True))=_ by kernel_rfl) ?_
 repeat' first | trivial | with_reducible apply And.intro | (intro _)
 all_goals first | rfl | omega | assumption | (with_reducible apply a0N; (repeat' first | exact a2c | exact a2b | exact a2a | exact a0Z _ | apply a0u | apply a0w); done) | (unfold a1N; (repeat' first | rfl | rw [a06 (by assumption)] | rw [a05 (by assumption)]); done) | (simp_all; done)
def aVA:Ctr:=⟨395,spY (rQ.c (rQ.c r0)) (fun (a,b,_)=>szR a+szR b <= 500000) (fun (a,b,_)=>.k (.g [.R ((a1N a b))]))⟩
theorem aQ9:CtrOK Tryz.prog aVA:=yOK a0F a4Q Tryz.func395 fun x hp=>aJu x.1 x.2.1 hp
theorem aEx (a:Rat) (b:Rat):szR (a1N a b) <= (szR a+szR b)+1:=by
 have g1:=a1S a b
 unfold a1N
 repeat' split
 all_goals first | omega | (dsimp only; omega)
def a1d (a:Rat) (b:Rat):Rat:=(a) - (b)
theorem aJr (a:Rat) (b:Rat) (hp:szR a+szR b <= 500000):owes LTD DT0 [] Tryz.f412 (bd Tryz.f412) [.g [.R (a)],.g [.R (b)]] (.k (.g [.R ((a1d a b))])):=by
 refine a0p (show ((True/\True/\(szR a <= 1000000/\szR b <= 1000000))/\(((a - b)=(a1d a b))/\True))=_ by kernel_rfl) ?_
 repeat' first | trivial | with_reducible apply And.intro | (intro _)
 all_goals first | rfl | omega | assumption | (with_reducible apply a0N; (repeat' first | exact a2c | exact a2b | exact a2a | exact a0Z _ | apply a0u | apply a0w); done) | (unfold a1d; (repeat' first | rfl | rw [a06 (by assumption)] | rw [a05 (by assumption)]); done) | (simp_all; done)
def aVx:Ctr:=⟨412,spY (rQ.c (rQ.c r0)) (fun (a,b,_)=>szR a+szR b <= 500000) (fun (a,b,_)=>.k (.g [.R ((a1d a b))]))⟩
theorem aQ5:CtrOK Tryz.prog aVx:=yOK a0F a4Q Tryz.func412 fun x hp=>aJr x.1 x.2.1 hp
theorem aEw (a:Rat) (b:Rat):szR (a1d a b) <= (szR a+szR b)+1:=by
 have g1:=a2V a b
 unfold a1d
 repeat' split
 all_goals first | omega | (dsimp only; omega)
def a0h (a:Rat) (b:Rat):Rat:=(a)*(b)
theorem aJt (a:Rat) (b:Rat) (hp:szR a+szR b <= 500000):owes LTD DT0 [] Tryz.f396 (bd Tryz.f396) [.g [.R (a)],.g [.R (b)]] (.k (.g [.R ((a0h a b))])):=by
 refine a0p (show ((True/\True/\(szR a <= 1000000/\szR b <= 1000000))/\(((a*b)=(a0h a b))/\True))=_ by kernel_rfl) ?_
 repeat' first | trivial | with_reducible apply And.intro | (intro _)
 all_goals first | rfl | omega | assumption | (with_reducible apply a0N; (repeat' first | exact a2c | exact a2b | exact a2a | exact a0Z _ | apply a0u | apply a0w); done) | (unfold a0h; (repeat' first | rfl | rw [a06 (by assumption)] | rw [a05 (by assumption)]); done) | (simp_all; done)
def aVz:Ctr:=⟨396,spY (rQ.c (rQ.c r0)) (fun (a,b,_)=>szR a+szR b <= 500000) (fun (a,b,_)=>.k (.g [.R ((a0h a b))]))⟩
theorem aQ8:CtrOK Tryz.prog aVz:=yOK a0F a4Q Tryz.func396 fun x hp=>aJt x.1 x.2.1 hp
theorem a3A (a:Rat) (b:Rat):szR (a0h a b) <= (szR a+szR b)+1:=by
 have g1:=a0L a b
 unfold a0h
 repeat' split
 all_goals first | omega | (dsimp only; omega)
def a2m (a:Rat):Rat:=-(a)
theorem aJs (a:Rat) (hp:szR a <= 500000):owes LTD DT0 [] Tryz.f312 (bd Tryz.f312) [.g [.R (a)]] (.k (.g [.R ((a2m a))])):=by
 refine a0p (show ((True/\(szR a <= 5000000))/\(((-a)=(a2m a))/\True))=_ by kernel_rfl) ?_
 repeat' first | trivial | with_reducible apply And.intro | (intro _)
 all_goals first | rfl | omega | assumption | (with_reducible apply a0N; (repeat' first | exact a2c | exact a2b | exact a2a | exact a0Z _ | apply a0u | apply a0w); done) | (unfold a2m; (repeat' first | rfl | rw [a06 (by assumption)] | rw [a05 (by assumption)]); done) | (simp_all; done)
def aVy:Ctr:=⟨312,spY (rQ.c r0) (fun (a,_)=>szR a <= 500000) (fun (a,_)=>.k (.g [.R ((a2m a))]))⟩
theorem aQ7:CtrOK Tryz.prog aVy:=yOK a0F a4Q Tryz.func312 fun x hp=>aJs x.1 hp
theorem aYz (a:Rat):szR (a2m a) <= (szR a):=by
 have g1:=a18 a
 unfold a2m
 repeat' split
 all_goals first | omega | (dsimp only; omega)
def a1T (a:Rat) (b:Rat):Rat:=(a) / (b)
theorem aGO (a:Rat) (b:Rat) (hp:b ≠ 0/\szR a+szR b <= 500000):owes LTD DT0 [] Tryz.f410 (bd Tryz.f410) [.g [.R (a)],.g [.R (b)]] (.k (.g [.R ((a1T a b))])):=by
 refine a0p (show ((True/\True/\(b ≠ 0/\szR a <= 1000000/\szR b <= 1000000))/\(((a / b)=(a1T a b))/\True))=_ by kernel_rfl) ?_
 obtain ⟨hp0,hp1⟩:=hp
 repeat' first | trivial | with_reducible apply And.intro | (intro _)
 all_goals first | rfl | omega | assumption | (with_reducible apply a0N; (repeat' first | exact a2c | exact a2b | exact a2a | exact a0Z _ | apply a0u | apply a0w); done) | (exfalso; rename_i hx; simp [hp0] at hx; done) | (unfold a1T; (repeat' first | rfl | rw [a06 (by assumption)] | rw [a05 (by assumption)]); done) | (simp_all; done)
def aQ6:Ctr:=⟨410,spY (rQ.c (rQ.c r0)) (fun (a,b,_)=>b ≠ 0/\szR a+szR b <= 500000) (fun (a,b,_)=>.k (.g [.R ((a1T a b))]))⟩
theorem aNz:CtrOK Tryz.prog aQ6:=yOK a0F a4Q Tryz.func410 fun x hp=>aGO x.1 x.2.1 hp
def a1O (a:Rat) (b:Rat) (m:Rat):Int:=(if (bif (bif ((((Rt.sg (a)))) == ((0:Int))) then (true) else (((((Rt.sg (b))))*(((Rt.sg (m))))) == ((0:Int)))) then (true) else ((((Rt.sg (a)))) == ((((Rt.sg (b))))*(((Rt.sg (m)))))))=true then (if ((((Rt.sg (a)))) == ((0:Int)))=true then (((Rt.sg (b))))*(((Rt.sg (m)))) else Rt.sg (a)) else (((Rt.sg (a))))*(((Rt.sg (((a)*(a)) - (((b)*(b))*(m)))))))
def aXt (a:Rat) (b:Rat) (m:Rat):=(bif (bif ((Rt.sg a) == (0:Int)) then true else (((Rt.sg b)*(Rt.sg m)) == (0:Int))) then true else ((Rt.sg a) == ((Rt.sg b)*(Rt.sg m))))
theorem aJG (a:Rat) (b:Rat) (m:Rat) (hp:szR a+szR b+szR m <= 300000):owes LTD DT0 [] Tryz.f330 (bd Tryz.f330) [.g [.R (a)],.g [.R (b)],.g [.R (m)]] (.k (.c (.v (.int .i64 ((a1O a b m)))))):=by
 refine a0p (show ((True/\True)/\((True/\True)/\((True/\True)/\((inR .i64 ((Rt.sg b)*(Rt.sg m)))/\(((aXt a b m)=true->((((Rt.sg a) == (0:Int))=true->(Value.int .i64 ((Rt.sg b)*(Rt.sg m))=(.int .i64 (a1O a b m))))/\(((Rt.sg a) == (0:Int))=false->(Value.int .i64 (Rt.sg a)=(.int .i64 (a1O a b m))))))/\((aXt a b m)=false->((True/\True/\(szR a <= 1000000/\szR a <= 1000000))/\((True/\True/\(szR b <= 1000000/\szR b <= 1000000))/\((True/\True/\(szR (b*b) <= 1000000/\szR m <= 1000000))/\((True/\True/\(szR (a*a) <= 1000000/\szR ((b*b)*m) <= 1000000))/\((inR .i64 ((Rt.sg a)*(Rt.sg ((a*a) - ((b*b)*m)))))/\(Value.int .i64 ((Rt.sg a)*(Rt.sg ((a*a) - ((b*b)*m))))=(.int .i64 (a1O a b m))))))))))))))=_ by kernel_rfl) ?_
 delta aXt
 have g1:=a0L b b
 have g2:=a0L a a
 have g3:=a0L ((b)*(b)) m
 repeat' first | trivial | with_reducible apply And.intro | (intro _)
 all_goals first | rfl | omega | assumption | (with_reducible apply a0N; (repeat' first | exact a2c | exact a2b | exact a2a | exact a0Z _ | apply a0u | apply a0w); done) | (unfold a1O; (repeat' first | rfl | rw [a06 (by assumption)] | rw [a05 (by assumption)]); done) | (simp_all; done)
def aVE:Ctr:=⟨330,spY (rQ.c (rQ.c (rQ.c r0))) (fun (a,b,m,_)=>szR a+szR b+szR m <= 300000) (fun (a,b,m,_)=>.k (.c (.v (.int .i64 ((a1O a b m))))))⟩
theorem aRk:CtrOK Tryz.prog aVE:=yOK a0F a4Q Tryz.func330 fun x hp=>aJG x.1 x.2.1 x.2.2.1 hp
theorem a0Q (a:Rat) (b:Rat) (m:Rat):un (a1O a b m):=by
 unfold a1O
 repeat' split
 all_goals (repeat' first | exact a2c | exact a2b | exact a2a | exact a0Z _ | apply a0u | apply a0w)
def DT1:List Ctr:=DT0 ++ [aRo,aVH,aG3,aRg,aVD,aVB,aVC,aVA,aVx,aVz,aVy,aQ6,aVE]
theorem aRS:∀ c ∈ DT1,CtrOK Tryz.prog c:=a0O a4Q (a03 aNJ (a03 aRp (a03 aG2 (a03 aNF (a03 aRe (a03 aRc (a03 aRd (a03 aQ9 (a03 aQ5 (a03 aQ8 (a03 aQ7 (a03 aNz (a03 aRk (a2L))))))))))))))
def a0E (a:Rat):Rx:=Rx.mk a a1D a1D
theorem aA2 (a:Rat):owes LTD DT1 [] Tryz.f329 (bd Tryz.f329) [.g [.R (a)]] (.k (.g (eR (a0E a)))):=by
 refine a0p (show (True/\(True/\((a=(a0E a).ra)/\((a1D=(a0E a).rb)/\((a1D=(a0E a).rc)/\True)))))=_ by kernel_rfl) ?_
 repeat' first | trivial | with_reducible apply And.intro | (intro _)
 all_goals first | rfl | omega | assumption | (with_reducible apply a0N; (repeat' first | exact a2c | exact a2b | exact a2a | exact a0Z _ | exact a0Q .. | apply a0u | apply a0w); done) | (unfold a0E; (repeat' first | rfl | rw [a06 (by assumption)] | rw [a05 (by assumption)]); done) | (simp_all; done)
def aCB:Ctr:=⟨329,spY (rQ.c r0) (fun _=>True) (fun (a,_)=>.k (.g (eR (a0E a))))⟩
theorem aEi:CtrOK Tryz.prog aCB:=yOK a0F aRS Tryz.func329 fun x _=>aA2 x.1
theorem a6e (a:Rat):(a0E a).sz <= (szR a)+4:=by
 have g1:=a9J a a1D a1D
 have g2:=@aHJ 
 unfold a0E
 repeat' split
 all_goals first | omega | (dsimp only; omega)
def a1a (r:Rx):Rat:=(a1q r.ra) - ((a1q r.rb)*(r.rc))
theorem aG4 (r:Rx) (hp:r.sz <= 150000):owes LTD DT1 [] Tryz.f398 (bd Tryz.f398) [.g (eR r)] (.k (.g [.R ((a1a r))])):=by
 refine a0p (show ((True/\szR r.ra <= 500000)/\((True/\szR r.rb <= 500000)/\((True/\True/\(szR (a1q r.rb) <= 1000000/\szR r.rc <= 1000000))/\((True/\True/\(szR (a1q r.ra) <= 1000000/\szR ((a1q r.rb)*r.rc) <= 1000000))/\((((a1q r.ra) - ((a1q r.rb)*r.rc))=(a1a r))/\True)))))=_ by kernel_rfl) ?_
 have g1:=a2Z r
 have g2:=@a6X r.rb
 have g3:=@a6X r.ra
 have g4:=a0L (a1q r.rb) r.rc
 repeat' first | trivial | with_reducible apply And.intro | (intro _)
 all_goals first | rfl | omega | assumption | (with_reducible apply a0N; (repeat' first | exact a2c | exact a2b | exact a2a | exact a0Z _ | exact a0Q .. | apply a0u | apply a0w); done) | (unfold a1a; (repeat' first | rfl | rw [a06 (by assumption)] | rw [a05 (by assumption)]); done) | (simp_all; done)
def aRq:Ctr:=⟨398,spY (rR.c r0) (fun (r,_)=>r.sz <= 150000) (fun (r,_)=>.k (.g [.R ((a1a r))]))⟩
theorem aNK:CtrOK Tryz.prog aRq:=yOK a0F aRS Tryz.func398 fun x hp=>aG4 x.1 hp
theorem aWf (r:Rx):szR (a1a r) <= 3*(r.sz)+4:=by
 have g1:=a2V (a1q r.ra) ((a1q r.rb)*(r.rc))
 have g2:=@a6X r.ra
 have g3:=a2Z r
 have g4:=a0L (a1q r.rb) r.rc
 have g5:=@a6X r.rb
 unfold a1a
 repeat' split
 all_goals first | omega | (dsimp only; omega)
def DT2:List Ctr:=DT1 ++ [aCB,aRq]
theorem aBj:∀ c ∈ DT2,CtrOK Tryz.prog c:=a0O aRS (a03 aEi (a03 aNK (a2L)))
def a0z (a:Rat) (b:Rat) (c:Rat):Rx:=(if (bif ((((Rt.sg (b)))) == ((0:Int))) then (true) else ((((Rt.sg (c)))) == ((0:Int))))=true then a0E a else Rx.mk a b c)
theorem aA1 (a:Rat) (b:Rat) (c:Rat):owes LTD DT2 [] Tryz.f475 (bd Tryz.f475) [.g [.R (a)],.g [.R (b)],.g [.R (c)]] (.k (.g (eR (a0z a b c)))):=by
 refine a0p (show ((True/\True)/\(((((Rt.sg b) == (0:Int)) == false)=true->(True/\True))/\(((bif ((Rt.sg b) == (0:Int)) then true else ((Rt.sg c) == (0:Int)))=true->((True/\True)/\(((a0E a).ra=(a0z a b c).ra)/\(((a0E a).rb=(a0z a b c).rb)/\(((a0E a).rc=(a0z a b c).rc)/\True)))))/\((bif ((Rt.sg b) == (0:Int)) then true else ((Rt.sg c) == (0:Int)))=false->((a=(a0z a b c).ra)/\((b=(a0z a b c).rb)/\((c=(a0z a b c).rc)/\True)))))))=_ by kernel_rfl) ?_
 repeat' first | trivial | with_reducible apply And.intro | (intro _)
 all_goals first | rfl | omega | assumption | (with_reducible apply a0N; (repeat' first | exact a2c | exact a2b | exact a2a | exact a0Z _ | exact a0Q .. | apply a0u | apply a0w); done) | (unfold a0z; (repeat' first | rfl | rw [a06 (by assumption)] | rw [a05 (by assumption)]); done) | (simp_all; done)
def aCA:Ctr:=⟨475,spY (rQ.c (rQ.c (rQ.c r0))) (fun _=>True) (fun (a,b,c,_)=>.k (.g (eR (a0z a b c))))⟩
theorem aEe:CtrOK Tryz.prog aCA:=yOK a0F aBj Tryz.func475 fun x _=>aA1 x.1 x.2.1 x.2.2.1
theorem a7U (a:Rat) (b:Rat) (c:Rat):(a0z a b c).sz <= (szR a+szR b+szR c)+4:=by
 have g1:=@a6e a
 have g2:=a2Z (a0E a)
 have g3:=a9J a b c
 unfold a0z
 repeat' split
 all_goals first | omega | (dsimp only; omega)
def a1l (r:Rx):Int:=(if (bif ((((Rt.sg (r.ra)))) == (((Rt.sg (r.rb))))) then (true) else ((((Rt.sg (r.rb)))) == ((0:Int))))=true then Rt.sg (r.ra) else (if ((((Rt.sg (r.ra)))) == ((0:Int)))=true then Rt.sg (r.rb) else (if (decide ((((Rt.sg (a1a r)))) > ((0:Int))))=true then Rt.sg (r.ra) else Rt.sg (r.rb))))
def aXs (r:Rx):=(bif ((Rt.sg r.ra) == (Rt.sg r.rb)) then true else ((Rt.sg r.rb) == (0:Int)))
theorem aG9 (r:Rx) (hp:r.sz <= 150000):owes LTD DT2 [] Tryz.f316 (bd Tryz.f316) [.g (eR r)] (.k (.c (.v (.int .i64 ((a1l r)))))):=by
 refine a0p (show ((True/\True)/\((True/\True)/\(((aXs r)=true->(Value.int .i64 (Rt.sg r.ra)=(.int .i64 (a1l r))))/\((aXs r)=false->((((Rt.sg r.ra) == (0:Int))=true->(Value.int .i64 (Rt.sg r.rb)=(.int .i64 (a1l r))))/\(((Rt.sg r.ra) == (0:Int))=false->(((True/\(True/\True))/\r.sz <= 150000)/\((True/\True)/\(((decide ((Rt.sg (a1a r)) > (0:Int)))=true->(Value.int .i64 (Rt.sg r.ra)=(.int .i64 (a1l r))))/\((decide ((Rt.sg (a1a r)) > (0:Int)))=false->(Value.int .i64 (Rt.sg r.rb)=(.int .i64 (a1l r)))))))))))))=_ by kernel_rfl) ?_
 delta aXs
 have g1:=a2Z r
 repeat' first | trivial | with_reducible apply And.intro | (intro _)
 all_goals first | rfl | omega | assumption | (with_reducible apply a0N; (repeat' first | exact a2c | exact a2b | exact a2a | exact a0Z _ | exact a0Q .. | apply a0u | apply a0w); done) | (unfold a1l; (repeat' first | rfl | rw [a06 (by assumption)] | rw [a05 (by assumption)]); done) | (simp_all; done)
def aRr:Ctr:=⟨316,spY (rR.c r0) (fun (r,_)=>r.sz <= 150000) (fun (r,_)=>.k (.c (.v (.int .i64 ((a1l r))))))⟩
theorem aNL:CtrOK Tryz.prog aRr:=yOK a0F aBj Tryz.func316 fun x hp=>aG9 x.1 hp
theorem a0r (r:Rx):un (a1l r):=by
 unfold a1l
 repeat' split
 all_goals (repeat' first | exact a2c | exact a2b | exact a2a | exact a0Z _ | exact a0Q .. | apply a0u | apply a0w)
def a4m (r:Rx):Rx:=Rx.mk (-(r.ra)) (-(r.rb)) r.rc
theorem aJL (r:Rx) (hp:r.sz <= 200000):owes LTD DT2 [] Tryz.f404 (bd Tryz.f404) [.g (eR r)] (.k (.g (eR (a4m r)))):=by
 refine a0p (show ((True/\(szR r.ra <= 5000000))/\((True/\(szR r.rb <= 5000000))/\(((-r.ra)=(a4m r).ra)/\(((-r.rb)=(a4m r).rb)/\((r.rc=(a4m r).rc)/\True)))))=_ by kernel_rfl) ?_
 have g1:=a2Z r
 repeat' first | trivial | with_reducible apply And.intro | (intro _)
 all_goals first | rfl | omega | assumption | (with_reducible apply a0N; (repeat' first | exact a2c | exact a2b | exact a2a | exact a0Z _ | exact a0Q .. | exact a0r .. | apply a0u | apply a0w); done) | (unfold a4m; (repeat' first | rfl | rw [a06 (by assumption)] | rw [a05 (by assumption)]); done) | (simp_all; done)
def aVI:Ctr:=⟨404,spY (rR.c r0) (fun (r,_)=>r.sz <= 200000) (fun (r,_)=>.k (.g (eR (a4m r))))⟩
theorem aRs:CtrOK Tryz.prog aVI:=yOK a0F aBj Tryz.func404 fun x hp=>aJL x.1 hp
def a0q (r:Rx) (a:Rat):Rx:=Rx.mk ((r.ra)+(a)) r.rb r.rc
theorem aBQ (r:Rx) (a:Rat) (hp:r.sz+szR a <= 200000):owes LTD DT2 [] Tryz.f335 (bd Tryz.f335) [.g (eR r),.g [.R (a)]] (.k (.g (eR (a0q r a)))):=by
 refine a0p (show ((True/\True/\(szR r.ra <= 1000000/\szR a <= 1000000))/\(((r.ra+a)=(a0q r a).ra)/\((r.rb=(a0q r a).rb)/\((r.rc=(a0q r a).rc)/\True))))=_ by kernel_rfl) ?_
 have g1:=a2Z r
 repeat' first | trivial | with_reducible apply And.intro | (intro _)
 all_goals first | rfl | omega | assumption | (with_reducible apply a0N; (repeat' first | exact a2c | exact a2b | exact a2a | exact a0Z _ | exact a0Q .. | exact a0r .. | apply a0u | apply a0w); done) | (unfold a0q; (repeat' first | rfl | rw [a06 (by assumption)] | rw [a05 (by assumption)]); done) | (simp_all; done)
def aHd:Ctr:=⟨335,spY (rR.c (rQ.c r0)) (fun (r,a,_)=>r.sz+szR a <= 200000) (fun (r,a,_)=>.k (.g (eR (a0q r a))))⟩
theorem aHc:CtrOK Tryz.prog aHd:=yOK a0F aBj Tryz.func335 fun x hp=>aBQ x.1 x.2.1 hp
theorem aEz (r:Rx) (a:Rat):(a0q r a).sz <= (r.sz+szR a)+4:=by
 have g1:=a9J ((r.ra)+(a)) r.rb r.rc
 have g2:=a1S r.ra a
 have g3:=a2Z r
 unfold a0q
 repeat' split
 all_goals first | omega | (dsimp only; omega)
def a3B (r:Rx) (s:Rx):Dx:=Dx.mk ((r.ra) - (s.ra)) r.rb (-(s.rb)) ((((0:Int)):Rat)) r.rc s.rc
theorem aJH (r:Rx) (s:Rx) (hp:r.sz+s.sz <= 200000):owes LTD DT2 [] Tryz.f217 (bd Tryz.f217) [.g (eR r),.g (eR s)] (.k (.g (eD (a3B r s)))):=by
 refine a0p (show ((True/\True/\(szR r.ra <= 1000000/\szR s.ra <= 1000000))/\((True/\(szR s.rb <= 5000000))/\((-9223372036854775808 <= (0:Int)/\(0:Int) <= 9223372036854775807)/\(((r.ra - s.ra)=(a3B r s).da)/\((r.rb=(a3B r s).db)/\(((-s.rb)=(a3B r s).dc)/\((((0:Int):Rat)=(a3B r s).dd)/\((r.rc=(a3B r s).dm)/\((s.rc=(a3B r s).dn)/\True)))))))))=_ by kernel_rfl) ?_
 have g1:=a2Z r
 have g2:=a2Z s
 repeat' first | trivial | with_reducible apply And.intro | (intro _)
 all_goals first | rfl | omega | assumption | (with_reducible apply a0N; (repeat' first | exact a2c | exact a2b | exact a2a | exact a0Z _ | exact a0Q .. | exact a0r .. | apply a0u | apply a0w); done) | (unfold a3B; (repeat' first | rfl | rw [a06 (by assumption)] | rw [a05 (by assumption)]); done) | (simp_all; done)
def aVF:Ctr:=⟨217,spY (rR.c (rR.c r0)) (fun (r,s,_)=>r.sz+s.sz <= 200000) (fun (r,s,_)=>.k (.g (eD (a3B r s))))⟩
theorem aRl:CtrOK Tryz.prog aVF:=yOK a0F aBj Tryz.func217 fun x hp=>aJH x.1 x.2.1 hp
theorem aYA (r:Rx) (s:Rx):(a3B r s).sz <= (r.sz+s.sz)+4:=by
 have g1:=aWs ((r.ra) - (s.ra)) r.rb (-(s.rb)) ((((0:Int)):Rat)) r.rc s.rc
 have g2:=a2V r.ra s.ra
 have g3:=a2Z r
 have g4:=a2Z s
 have g5:=a18 s.rb
 have g6:=(a3h (n:=0) (by decide))
 unfold a3B
 repeat' split
 all_goals first | omega | (dsimp only; omega)
def a2f (v:Vx):Px:=Px.mk v.vx a1Z v.vy a1Z a1Z
theorem aNH (v:Vx):owes LTD DT2 [] Tryz.f57 (bd Tryz.f57) [.g (eV v)] (.k (.g (eP (a2f v)))):=by
 refine a0p (show (True/\(True/\(True/\((v.vx=(a2f v).a)/\((a1Z=(a2f v).b)/\((v.vy=(a2f v).c)/\((a1Z=(a2f v).d)/\((a1Z=(a2f v).e)/\True))))))))=_ by kernel_rfl) ?_
 repeat' first | trivial | with_reducible apply And.intro | (intro _)
 all_goals first | rfl | omega | assumption | (with_reducible apply a0N; (repeat' first | exact a2c | exact a2b | exact a2a | exact a0Z _ | exact a0Q .. | exact a0r .. | apply a0u | apply a0w); done) | (unfold a2f; (repeat' first | rfl | rw [a06 (by assumption)] | rw [a05 (by assumption)]); done) | (simp_all; done)
def aZR:Ctr:=⟨57,spY (rV.c r0) (fun _=>True) (fun (v,_)=>.k (.g (eP (a2f v))))⟩
theorem aUi:CtrOK Tryz.prog aZR:=yOK a0F aBj Tryz.func57 fun x _=>aNH x.1
theorem b0y (v:Vx):(a2f v).sz <= (v.sz)+6:=by
 have g1:=aHS v.vx a1Z v.vy a1Z a1Z
 have g2:=aSm v
 have g3:=@aN2 
 unfold a2f
 repeat' split
 all_goals first | omega | (dsimp only; omega)
def DT3:List Ctr:=DT2 ++ [aCA,aRr,aVI,aHd,aVF,aZR]
theorem aV5:∀ c ∈ DT3,CtrOK Tryz.prog c:=a0O aBj (a03 aEe (a03 aNL (a03 aRs (a03 aHc (a03 aRl (a03 aUi (a2L)))))))
end Vc
end Go.Proofs.YtbohkigffejhoaaGreat
namespace Go.Proofs.YtbohkigffejhoaaGreat
open Go.RowKit
set_option maxHeartbeats 4000000
namespace Vc
attribute [local irreducible] owes
def a0l (r:Rx) (s:Rx):Rat × Bool:=(if ((((Rt.sg (r.rb)))) == ((0:Int)))=true then (s.rc,true) else (r.rc,(bif ((((Rt.sg (s.rb)))) == ((0:Int))) then (true) else ((((Rt.sg ((r.rc) - (s.rc))))) == ((0:Int))))))
theorem aBN (r:Rx) (s:Rx) (hp:r.sz+s.sz <= 100000):owes LTD DT3 [] Tryz.f478 (bd Tryz.f478) [.g (eR r),.g (eR s)] (.t [.g [.R ((a0l r s).1)],.c (.v (.bool ((a0l r s).2)))]):=by
 refine a0p (show ((True/\True)/\((((Rt.sg r.rb) == (0:Int))=true->(((s.rc=(a0l r s).1)/\True)/\((Value.bool true=(.bool ((a0l r s).2)))/\True)))/\(((Rt.sg r.rb) == (0:Int))=false->((True/\True)/\(((((Rt.sg s.rb) == (0:Int)) == false)=true->(True/\True/\(szR r.rc <= 1000000/\szR s.rc <= 1000000)))/\(((r.rc=(a0l r s).1)/\True)/\((Value.bool (bif ((Rt.sg s.rb) == (0:Int)) then true else ((Rt.sg (r.rc - s.rc)) == (0:Int)))=(.bool ((a0l r s).2)))/\True)))))))=_ by kernel_rfl) ?_
 have g1:=a2Z r
 have g2:=a2Z s
 repeat' first | trivial | with_reducible apply And.intro | (intro _)
 all_goals first | rfl | omega | assumption | (with_reducible apply a0N; (repeat' first | exact a2c | exact a2b | exact a2a | exact a0Z _ | exact a0Q .. | exact a0r .. | apply a0u | apply a0w); done) | (unfold a0l; (repeat' first | rfl | rw [a06 (by assumption)] | rw [a05 (by assumption)]); done) | (simp_all; done)
def aG6:Ctr:=⟨478,spY (rR.c (rR.c r0)) (fun (r,s,_)=>r.sz+s.sz <= 100000) (fun (r,s,_)=>.t [.g [.R ((a0l r s).1)],.c (.v (.bool ((a0l r s).2)))])⟩
theorem aG5:CtrOK Tryz.prog aG6:=yOK a0F aV5 Tryz.func478 fun x hp=>aBN x.1 x.2.1 hp
theorem a7V (r:Rx) (s:Rx):szR ((a0l r s).1) <= (r.sz+s.sz):=by
 have g1:=a2Z s
 have g2:=a2Z r
 unfold a0l
 repeat' split
 all_goals first | omega | (dsimp only; omega)
def DT4:List Ctr:=DT3 ++ [aG6]
theorem a6F:∀ c ∈ DT4,CtrOK Tryz.prog c:=a0O aV5 (a03 aG5 (a2L))
def a3b (r:Rx) (s:Rx):Rx × Int:=((a0z ((r.ra)+(s.ra)) ((r.rb)+(s.rb)) ((a0l r s).1)),((0:Int)))
def aTn (r:Rx) (s:Rx):=(a0z (r.ra+s.ra) (r.rb+s.rb) ((a0l r s).1))
theorem aJO (r:Rx) (s:Rx) (hp:(a0l r s).2=true/\r.sz+s.sz <= 60000):owes LTD DT4 [] Tryz.f473 (bd Tryz.f473) [.g (eR r),.g (eR s)] (.t [.g (eR (a3b r s).1),.c (.v (.int .i64 ((a3b r s).2)))]):=by
 refine a0p (show (((True/\(True/\True))/\(True/\(True/\True))/\r.sz+s.sz <= 100000)/\(((!((a0l r s).2))=true->(False/\((Value.int .i64 (1:Int)=(.int .i64 ((a3b r s).2)))/\True)))/\((!((a0l r s).2))=false->((True/\True/\(szR r.ra <= 1000000/\szR s.ra <= 1000000))/\((True/\True/\(szR r.rb <= 1000000/\szR s.rb <= 1000000))/\((True/\True/\True/\True)/\((((aTn r s).ra=(a3b r s).1.ra)/\(((aTn r s).rb=(a3b r s).1.rb)/\(((aTn r s).rc=(a3b r s).1.rc)/\True)))/\((Value.int .i64 (0:Int)=(.int .i64 ((a3b r s).2)))/\True))))))))=_ by kernel_rfl) ?_
 delta aTn
 obtain ⟨hp0,hp1⟩:=hp
 have g1:=a2Z r
 have g2:=a2Z s
 repeat' first | trivial | with_reducible apply And.intro | (intro _)
 all_goals first | rfl | omega | assumption | (with_reducible apply a0N; (repeat' first | exact a2c | exact a2b | exact a2a | exact a0Z _ | exact a0Q .. | exact a0r .. | apply a0u | apply a0w); done) | (exfalso; rename_i hx; simp [hp0] at hx; done) | (unfold a3b; (repeat' first | rfl | rw [a06 (by assumption)] | rw [a05 (by assumption)]); done) | (simp_all; done)
def aVL:Ctr:=⟨473,spY (rR.c (rR.c r0)) (fun (r,s,_)=>(a0l r s).2=true/\r.sz+s.sz <= 60000) (fun (r,s,_)=>.t [.g (eR (a3b r s).1),.c (.v (.int .i64 ((a3b r s).2)))])⟩
theorem aRv:CtrOK Tryz.prog aVL:=yOK a0F a6F Tryz.func473 fun x hp=>aJO x.1 x.2.1 hp
theorem aWh (r:Rx) (s:Rx):((a3b r s).1).sz <= 2*(r.sz+s.sz)+8:=by
 have g1:=@a7U ((r.ra)+(s.ra)) ((r.rb)+(s.rb)) ((a0l r s).1)
 have g2:=a2Z (a0z ((r.ra)+(s.ra)) ((r.rb)+(s.rb)) ((a0l r s).1))
 have g3:=a1S r.ra s.ra
 have g4:=a2Z r
 have g5:=a2Z s
 have g6:=a1S r.rb s.rb
 have g7:=@a7V r s
 unfold a3b
 repeat' split
 all_goals first | omega | (dsimp only; omega)
def a2n (r:Rx) (s:Rx):Rx × Int:=((a0z (((r.ra)*(s.ra))+(((r.rb)*(s.rb))*((a0l r s).1))) (((r.ra)*(s.rb))+((r.rb)*(s.ra))) ((a0l r s).1)),((0:Int)))
def aTm (r:Rx) (s:Rx):=(a0z ((r.ra*s.ra)+((r.rb*s.rb)*((a0l r s).1))) ((r.ra*s.rb)+(r.rb*s.ra)) ((a0l r s).1))
theorem aJM (r:Rx) (s:Rx) (hp:(a0l r s).2=true/\r.sz+s.sz <= 60000):owes LTD DT4 [] Tryz.f403 (bd Tryz.f403) [.g (eR r),.g (eR s)] (.t [.g (eR (a2n r s).1),.c (.v (.int .i64 ((a2n r s).2)))]):=by
 refine a0p (show (((True/\(True/\True))/\(True/\(True/\True))/\r.sz+s.sz <= 100000)/\(((!((a0l r s).2))=true->(False/\((Value.int .i64 (1:Int)=(.int .i64 ((a2n r s).2)))/\True)))/\((!((a0l r s).2))=false->((True/\True/\(szR r.ra <= 1000000/\szR s.ra <= 1000000))/\((True/\True/\(szR r.rb <= 1000000/\szR s.rb <= 1000000))/\((True/\True/\(szR (r.rb*s.rb) <= 1000000/\szR ((a0l r s).1) <= 1000000))/\((True/\True/\(szR (r.ra*s.ra) <= 1000000/\szR ((r.rb*s.rb)*((a0l r s).1)) <= 1000000))/\((True/\True/\(szR r.ra <= 1000000/\szR s.rb <= 1000000))/\((True/\True/\(szR r.rb <= 1000000/\szR s.ra <= 1000000))/\((True/\True/\(szR (r.ra*s.rb) <= 1000000/\szR (r.rb*s.ra) <= 1000000))/\((True/\True/\True/\True)/\((((aTm r s).ra=(a2n r s).1.ra)/\(((aTm r s).rb=(a2n r s).1.rb)/\(((aTm r s).rc=(a2n r s).1.rc)/\True)))/\((Value.int .i64 (0:Int)=(.int .i64 ((a2n r s).2)))/\True)))))))))))))=_ by kernel_rfl) ?_
 delta aTm
 obtain ⟨hp0,hp1⟩:=hp
 have g1:=a2Z r
 have g2:=a2Z s
 have g3:=a0L r.rb s.rb
 have g4:=@a7V r s
 have g5:=a0L r.ra s.ra
 have g6:=a0L ((r.rb)*(s.rb)) ((a0l r s).1)
 have g7:=a0L r.ra s.rb
 have g8:=a0L r.rb s.ra
 repeat' first | trivial | with_reducible apply And.intro | (intro _)
 all_goals first | rfl | omega | assumption | (with_reducible apply a0N; (repeat' first | exact a2c | exact a2b | exact a2a | exact a0Z _ | exact a0Q .. | exact a0r .. | apply a0u | apply a0w); done) | (exfalso; rename_i hx; simp [hp0] at hx; done) | (unfold a2n; (repeat' first | rfl | rw [a06 (by assumption)] | rw [a05 (by assumption)]); done) | (simp_all; done)
def aVJ:Ctr:=⟨403,spY (rR.c (rR.c r0)) (fun (r,s,_)=>(a0l r s).2=true/\r.sz+s.sz <= 60000) (fun (r,s,_)=>.t [.g (eR (a2n r s).1),.c (.v (.int .i64 ((a2n r s).2)))])⟩
theorem aRt:CtrOK Tryz.prog aVJ:=yOK a0F a6F Tryz.func403 fun x hp=>aJM x.1 x.2.1 hp
theorem aWg (r:Rx) (s:Rx):((a2n r s).1).sz <= 4*(r.sz+s.sz)+12:=by
 have g1:=@a7U (((r.ra)*(s.ra))+(((r.rb)*(s.rb))*((a0l r s).1))) (((r.ra)*(s.rb))+((r.rb)*(s.ra))) ((a0l r s).1)
 have g2:=a2Z (a0z (((r.ra)*(s.ra))+(((r.rb)*(s.rb))*((a0l r s).1))) (((r.ra)*(s.rb))+((r.rb)*(s.ra))) ((a0l r s).1))
 have g3:=a1S ((r.ra)*(s.ra)) (((r.rb)*(s.rb))*((a0l r s).1))
 have g4:=a0L r.ra s.ra
 have g5:=a2Z r
 have g6:=a2Z s
 have g7:=a0L ((r.rb)*(s.rb)) ((a0l r s).1)
 have g8:=a0L r.rb s.rb
 have g9:=@a7V r s
 have g10:=a1S ((r.ra)*(s.rb)) ((r.rb)*(s.ra))
 have g11:=a0L r.ra s.rb
 have g12:=a0L r.rb s.ra
 unfold a2n
 repeat' split
 all_goals first | omega | (dsimp only; omega)
def a2O (r:Rx):Rx × Int:=((a0z ((r.ra)*((a2X) / (a1a r))) (-((r.rb)*((a2X) / (a1a r)))) r.rc),((0:Int)))
def aTl (r:Rx):=(a0z (r.ra*(a2X / (a1a r))) (-(r.rb*(a2X / (a1a r)))) r.rc)
theorem aJN (r:Rx) (hp:a1l r ≠ 0/\a1a r ≠ 0/\r.sz <= 20000):owes LTD DT4 [] Tryz.f402 (bd Tryz.f402) [.g (eR r)] (.t [.g (eR (a2O r).1),.c (.v (.int .i64 ((a2O r).2)))]):=by
 refine a0p (show (((True/\(True/\True))/\r.sz <= 150000)/\((((a1l r) == (0:Int))=true->(False/\((Value.int .i64 (6:Int)=(.int .i64 ((a2O r).2)))/\True)))/\(((a1l r) == (0:Int))=false->(True/\(((True/\(True/\True))/\r.sz <= 150000)/\((True/\True/\((a1a r) ≠ 0/\szR a2X <= 1000000/\szR (a1a r) <= 1000000))/\((True/\True/\(szR r.ra <= 1000000/\szR (a2X / (a1a r)) <= 1000000))/\((True/\True/\(szR r.rb <= 1000000/\szR (a2X / (a1a r)) <= 1000000))/\((True/\(szR (r.rb*(a2X / (a1a r))) <= 5000000))/\((True/\True/\True/\True)/\((((aTl r).ra=(a2O r).1.ra)/\(((aTl r).rb=(a2O r).1.rb)/\(((aTl r).rc=(a2O r).1.rc)/\True)))/\((Value.int .i64 (0:Int)=(.int .i64 ((a2O r).2)))/\True))))))))))))=_ by kernel_rfl) ?_
 delta aTl
 obtain ⟨hp0,hp1,hp2⟩:=hp
 have g1:=a2Z r
 have g2:=@aUC 
 have g3:=@aWf r
 have g4:=a9q a2X (a1a r) (by assumption)
 have g5:=a0L r.rb ((a2X) / (a1a r))
 repeat' first | trivial | with_reducible apply And.intro | (intro _)
 all_goals first | rfl | omega | assumption | (with_reducible apply a0N; (repeat' first | exact a2c | exact a2b | exact a2a | exact a0Z _ | exact a0Q .. | exact a0r .. | apply a0u | apply a0w); done) | (exfalso; rename_i hx; simp [hp0] at hx; done) | (unfold a2O; (repeat' first | rfl | rw [a06 (by assumption)] | rw [a05 (by assumption)]); done) | (simp_all; done)
def aVK:Ctr:=⟨402,spY (rR.c r0) (fun (r,_)=>a1l r ≠ 0/\a1a r ≠ 0/\r.sz <= 20000) (fun (r,_)=>.t [.g (eR (a2O r).1),.c (.v (.int .i64 ((a2O r).2)))])⟩
theorem aRu:CtrOK Tryz.prog aVK:=yOK a0F a6F Tryz.func402 fun x hp=>aJN x.1 hp
def a4n (r:Rx) (a:Rat):Int:=a1l (a0q r (-(a)))
theorem aBP (r:Rx) (a:Rat) (hp:r.sz+szR a <= 100000):owes LTD DT4 [] Tryz.f220 (bd Tryz.f220) [.g (eR r),.g [.R (a)]] (.k (.c (.v (.int .i64 ((a4n r a)))))):=by
 refine a0p (show ((True/\(szR a <= 5000000))/\(((True/\(True/\True))/\True/\r.sz+szR (-a) <= 200000)/\(((True/\(True/\True))/\(a0q r (-a)).sz <= 150000)/\(Value.int .i64 (a1l (a0q r (-a)))=(.int .i64 (a4n r a))))))=_ by kernel_rfl) ?_
 have g1:=a18 a
 have g2:=a2Z r
 have g3:=@aEz r (-(a))
 have g4:=a2Z (a0q r (-(a)))
 repeat' first | trivial | with_reducible apply And.intro | (intro _)
 all_goals first | rfl | omega | assumption | (with_reducible apply a0N; (repeat' first | exact a2c | exact a2b | exact a2a | exact a0Z _ | exact a0Q .. | exact a0r .. | apply a0u | apply a0w); done) | (unfold a4n; (repeat' first | rfl | rw [a06 (by assumption)] | rw [a05 (by assumption)]); done) | (simp_all; done)
def aHb:Ctr:=⟨220,spY (rR.c (rQ.c r0)) (fun (r,a,_)=>r.sz+szR a <= 100000) (fun (r,a,_)=>.k (.c (.v (.int .i64 ((a4n r a))))))⟩
theorem aHa:CtrOK Tryz.prog aHb:=yOK a0F a6F Tryz.func220 fun x hp=>aBP x.1 x.2.1 hp
theorem a0k (r:Rx) (a:Rat):un (a4n r a):=by
 unfold a4n
 repeat' split
 all_goals (repeat' first | exact a2c | exact a2b | exact a2a | exact a0Z _ | exact a0Q .. | exact a0r .. | apply a0u | apply a0w)
def a3i (q:Dx):Int:=(if (bif (decide ((((Rt.sg (q.dm)))) < ((0:Int)))) then (true) else (decide ((((Rt.sg (q.dn)))) < ((0:Int)))))=true then (0:Int) else (if (bif (bif (((a1O q.da q.db q.dm)) == ((0:Int))) then (true) else ((((a1O q.dc q.dd q.dm))*(((Rt.sg (q.dn))))) == ((0:Int)))) then (true) else (((a1O q.da q.db q.dm)) == (((a1O q.dc q.dd q.dm))*(((Rt.sg (q.dn)))))))=true then (if (((a1O q.da q.db q.dm)) == ((0:Int)))=true then ((a1O q.dc q.dd q.dm))*(((Rt.sg (q.dn)))) else a1O q.da q.db q.dm) else ((a1O q.da q.db q.dm))*((a1O ((((q.da)*(q.da))+(((q.db)*(q.db))*(q.dm))) - ((q.dn)*(((q.dc)*(q.dc))+(((q.dd)*(q.dd))*(q.dm))))) ((((q.da)*(q.db)) - ((q.dn)*((q.dc)*(q.dd))))+(((q.da)*(q.db)) - ((q.dn)*((q.dc)*(q.dd))))) q.dm))))
def aDo (q:Dx):=((q.da*q.db) - (q.dn*(q.dc*q.dd)))
def aPS (q:Dx):=((a1O q.dc q.dd q.dm)*(Rt.sg q.dn))
def aXr (q:Dx):=(bif (bif ((a1O q.da q.db q.dm) == (0:Int)) then true else ((aPS q) == (0:Int))) then true else ((a1O q.da q.db q.dm) == (aPS q)))
def aXq (q:Dx):=(bif (decide ((Rt.sg q.dm) < (0:Int))) then true else (decide ((Rt.sg q.dn) < (0:Int))))
def aTj (q:Dx):=((q.dc*q.dc)+((q.dd*q.dd)*q.dm))
def aTk (q:Dx):=(((q.da*q.da)+((q.db*q.db)*q.dm)) - (q.dn*(aTj q)))
theorem aGY (q:Dx) (hp:q.sz <= 15000):owes LTD DT4 [] Tryz.f216 (bd Tryz.f216) [.g (eD q)] (.k (.c (.v (.int .i64 ((a3i q)))))):=by
 refine a0p (show ((True/\True)/\((((decide ((Rt.sg q.dm) < (0:Int))) == false)=true->(True/\True))/\(((aXq q)=true->(Value.int .i64 (0:Int)=(.int .i64 (a3i q))))/\((aXq q)=false->((True/\True/\True/\szR q.da+szR q.db+szR q.dm <= 300000)/\((True/\True/\True/\szR q.dc+szR q.dd+szR q.dm <= 300000)/\((True/\True)/\((inR .i64 (aPS q))/\(((aXr q)=true->((((a1O q.da q.db q.dm) == (0:Int))=true->(Value.int .i64 (aPS q)=(.int .i64 (a3i q))))/\(((a1O q.da q.db q.dm) == (0:Int))=false->(Value.int .i64 (a1O q.da q.db q.dm)=(.int .i64 (a3i q))))))/\((aXr q)=false->((True/\True/\(szR q.dc <= 1000000/\szR q.dc <= 1000000))/\((True/\True/\(szR q.dd <= 1000000/\szR q.dd <= 1000000))/\((True/\True/\(szR (q.dd*q.dd) <= 1000000/\szR q.dm <= 1000000))/\((True/\True/\(szR (q.dc*q.dc) <= 1000000/\szR ((q.dd*q.dd)*q.dm) <= 1000000))/\((True/\True/\(szR q.dn <= 1000000/\szR (aTj q) <= 1000000))/\((True/\True/\(szR q.da <= 1000000/\szR q.da <= 1000000))/\((True/\True/\(szR q.db <= 1000000/\szR q.db <= 1000000))/\((True/\True/\(szR (q.db*q.db) <= 1000000/\szR q.dm <= 1000000))/\((True/\True/\(szR (q.da*q.da) <= 1000000/\szR ((q.db*q.db)*q.dm) <= 1000000))/\((True/\True/\(szR ((q.da*q.da)+((q.db*q.db)*q.dm)) <= 1000000/\szR (q.dn*(aTj q)) <= 1000000))/\((True/\True/\(szR q.da <= 1000000/\szR q.db <= 1000000))/\((True/\True/\(szR q.dc <= 1000000/\szR q.dd <= 1000000))/\((True/\True/\(szR q.dn <= 1000000/\szR (q.dc*q.dd) <= 1000000))/\((True/\True/\(szR (q.da*q.db) <= 1000000/\szR (q.dn*(q.dc*q.dd)) <= 1000000))/\((True/\True/\(szR (aDo q) <= 1000000/\szR (aDo q) <= 1000000))/\((True/\True/\True/\szR (aTk q)+szR ((aDo q)+(aDo q))+szR q.dm <= 300000)/\((inR .i64 ((a1O q.da q.db q.dm)*(a1O (aTk q) ((aDo q)+(aDo q)) q.dm)))/\(Value.int .i64 ((a1O q.da q.db q.dm)*(a1O (aTk q) ((aDo q)+(aDo q)) q.dm))=(.int .i64 (a3i q))))))))))))))))))))))))))))))=_ by kernel_rfl) ?_
 delta aTk aTj aXq aXr aPS aDo
 have g1:=b05 q
 have g2:=a0L q.dd q.dd
 have g3:=a0L q.dc q.dc
 have g4:=a0L ((q.dd)*(q.dd)) q.dm
 have g5:=a1S ((q.dc)*(q.dc)) (((q.dd)*(q.dd))*(q.dm))
 have g6:=a0L q.db q.db
 have g7:=a0L q.da q.da
 have g8:=a0L ((q.db)*(q.db)) q.dm
 have g9:=a1S ((q.da)*(q.da)) (((q.db)*(q.db))*(q.dm))
 have g10:=a0L q.dn (((q.dc)*(q.dc))+(((q.dd)*(q.dd))*(q.dm)))
 have g11:=a0L q.dc q.dd
 have g12:=a0L q.da q.db
 have g13:=a0L q.dn ((q.dc)*(q.dd))
 have g14:=a2V ((q.da)*(q.db)) ((q.dn)*((q.dc)*(q.dd)))
 have g15:=a2V (((q.da)*(q.da))+(((q.db)*(q.db))*(q.dm))) ((q.dn)*(((q.dc)*(q.dc))+(((q.dd)*(q.dd))*(q.dm))))
 have g16:=a1S (((q.da)*(q.db)) - ((q.dn)*((q.dc)*(q.dd)))) (((q.da)*(q.db)) - ((q.dn)*((q.dc)*(q.dd))))
 repeat' first | trivial | with_reducible apply And.intro | (intro _)
 all_goals first | rfl | omega | assumption | (with_reducible apply a0N; (repeat' first | exact a2c | exact a2b | exact a2a | exact a0Z _ | exact a0Q .. | exact a0r .. | exact a0k .. | apply a0u | apply a0w); done) | (unfold a3i; (repeat' first | rfl | rw [a06 (by assumption)] | rw [a05 (by assumption)]); done) | (simp_all; done)
def aRm:Ctr:=⟨216,spY (rD.c r0) (fun (q,_)=>q.sz <= 15000) (fun (q,_)=>.k (.c (.v (.int .i64 ((a3i q))))))⟩
theorem aNI:CtrOK Tryz.prog aRm:=yOK a0F a6F Tryz.func216 fun x hp=>aGY x.1 hp
theorem a0I (q:Dx):un (a3i q):=by
 unfold a3i
 repeat' split
 all_goals (repeat' first | exact a2c | exact a2b | exact a2a | exact a0Z _ | exact a0Q .. | exact a0r .. | exact a0k .. | apply a0u | apply a0w)
def a0T (r:Rx) (a:Rat):Int:=a1O ((r.ra) - (a)) r.rb r.rc
theorem aBL (r:Rx) (a:Rat) (hp:r.sz+szR a <= 60000):owes LTD DT4 [] Tryz.f507 (bd Tryz.f507) [.g (eR r),.g [.R (a)]] (.k (.c (.v (.int .i64 ((a0T r a)))))):=by
 refine a0p (show ((True/\True/\(szR r.ra <= 1000000/\szR a <= 1000000))/\((True/\True/\True/\szR (r.ra - a)+szR r.rb+szR r.rc <= 300000)/\(Value.int .i64 (a1O (r.ra - a) r.rb r.rc)=(.int .i64 (a0T r a)))))=_ by kernel_rfl) ?_
 have g1:=a2Z r
 have g2:=a2V r.ra a
 repeat' first | trivial | with_reducible apply And.intro | (intro _)
 all_goals first | rfl | omega | assumption | (with_reducible apply a0N; (repeat' first | exact a2c | exact a2b | exact a2a | exact a0Z _ | exact a0Q .. | exact a0r .. | exact a0k .. | exact a0I .. | apply a0u | apply a0w); done) | (unfold a0T; (repeat' first | rfl | rw [a06 (by assumption)] | rw [a05 (by assumption)]); done) | (simp_all; done)
def aG0:Ctr:=⟨507,spY (rR.c (rQ.c r0)) (fun (r,a,_)=>r.sz+szR a <= 60000) (fun (r,a,_)=>.k (.c (.v (.int .i64 ((a0T r a))))))⟩
theorem aGZ:CtrOK Tryz.prog aG0:=yOK a0F a6F Tryz.func507 fun x hp=>aBL x.1 x.2.1 hp
theorem a0m (r:Rx) (a:Rat):un (a0T r a):=by
 unfold a0T
 repeat' split
 all_goals (repeat' first | exact a2c | exact a2b | exact a2a | exact a0Z _ | exact a0Q .. | exact a0r .. | exact a0k .. | exact a0I .. | apply a0u | apply a0w)
def a0H (a:Rat) (b:Rat) (c:Rat):Rx:=(if ((((Rt.sg (b)))) == ((0:Int)))=true then a0E a else Rx.mk a b c)
theorem aEa (a:Rat) (b:Rat) (c:Rat):owes LTD DT4 [] Tryz.f214 (bd Tryz.f214) [.g [.R (a)],.g [.R (b)],.g [.R (c)]] (.k (.g (eR (a0H a b c)))):=by
 refine a0p (show ((True/\True)/\((((Rt.sg b) == (0:Int))=true->((True/\True)/\(((a0E a).ra=(a0H a b c).ra)/\(((a0E a).rb=(a0H a b c).rb)/\(((a0E a).rc=(a0H a b c).rc)/\True)))))/\(((Rt.sg b) == (0:Int))=false->((a=(a0H a b c).ra)/\((b=(a0H a b c).rb)/\((c=(a0H a b c).rc)/\True))))))=_ by kernel_rfl) ?_
 repeat' first | trivial | with_reducible apply And.intro | (intro _)
 all_goals first | rfl | omega | assumption | (with_reducible apply a0N; (repeat' first | exact a2c | exact a2b | exact a2a | exact a0Z _ | exact a0Q .. | exact a0r .. | exact a0k .. | exact a0I .. | exact a0m .. | apply a0u | apply a0w); done) | (unfold a0H; (repeat' first | rfl | rw [a06 (by assumption)] | rw [a05 (by assumption)]); done) | (simp_all; done)
def aLS:Ctr:=⟨214,spY (rQ.c (rQ.c (rQ.c r0))) (fun _=>True) (fun (a,b,c,_)=>.k (.g (eR (a0H a b c))))⟩
theorem aJD:CtrOK Tryz.prog aLS:=yOK a0F a6F Tryz.func214 fun x _=>aEa x.1 x.2.1 x.2.2.1
theorem aJ7 (a:Rat) (b:Rat) (c:Rat):(a0H a b c).sz <= (szR a+szR b+szR c)+4:=by
 have g1:=@a6e a
 have g2:=a2Z (a0E a)
 have g3:=a9J a b c
 unfold a0H
 repeat' split
 all_goals first | omega | (dsimp only; omega)
def a0R (v:Vx):Vx:=Vx.mk (-(v.vx)) (-(v.vy))
theorem aGX (v:Vx) (hp:v.sz <= 200000):owes LTD DT4 [] Tryz.f472 (bd Tryz.f472) [.g (eV v)] (.k (.g (eV (a0R v)))):=by
 refine a0p (show ((True/\(szR v.vx <= 5000000))/\((True/\(szR v.vy <= 5000000))/\(((-v.vx)=(a0R v).vx)/\(((-v.vy)=(a0R v).vy)/\True))))=_ by kernel_rfl) ?_
 have g1:=aSm v
 repeat' first | trivial | with_reducible apply And.intro | (intro _)
 all_goals first | rfl | omega | assumption | (with_reducible apply a0N; (repeat' first | exact a2c | exact a2b | exact a2a | exact a0Z _ | exact a0Q .. | exact a0r .. | exact a0k .. | exact a0I .. | exact a0m .. | apply a0u | apply a0w); done) | (unfold a0R; (repeat' first | rfl | rw [a06 (by assumption)] | rw [a05 (by assumption)]); done) | (simp_all; done)
def aRj:Ctr:=⟨472,spY (rV.c r0) (fun (v,_)=>v.sz <= 200000) (fun (v,_)=>.k (.g (eV (a0R v))))⟩
theorem aNG:CtrOK Tryz.prog aRj:=yOK a0F a6F Tryz.func472 fun x hp=>aGX x.1 hp
theorem aN3 (v:Vx):(a0R v).sz <= (v.sz):=by
 have g1:=aHR (-(v.vx)) (-(v.vy))
 have g2:=a18 v.vx
 have g3:=aSm v
 have g4:=a18 v.vy
 unfold a0R
 repeat' split
 all_goals first | omega | (dsimp only; omega)
def a0e (p:Px) (v:Vx):Px:=Px.mk ((p.a)+(v.vx)) p.b ((p.c)+(v.vy)) p.d p.e
theorem a8B (p:Px) (v:Vx) (hp:p.sz+v.sz <= 200000):owes LTD DT4 [] Tryz.f471 (bd Tryz.f471) [.g (eP p),.g (eV v)] (.k (.g (eP (a0e p v)))):=by
 refine a0p (show ((True/\True/\(szR p.a <= 1000000/\szR v.vx <= 1000000))/\((True/\True/\(szR p.c <= 1000000/\szR v.vy <= 1000000))/\(((p.a+v.vx)=(a0e p v).a)/\((p.b=(a0e p v).b)/\(((p.c+v.vy)=(a0e p v).c)/\((p.d=(a0e p v).d)/\((p.e=(a0e p v).e)/\True)))))))=_ by kernel_rfl) ?_
 have g1:=a5A p
 have g2:=aSm v
 repeat' first | trivial | with_reducible apply And.intro | (intro _)
 all_goals first | rfl | omega | assumption | (with_reducible apply a0N; (repeat' first | exact a2c | exact a2b | exact a2a | exact a0Z _ | exact a0Q .. | exact a0r .. | exact a0k .. | exact a0I .. | exact a0m .. | apply a0u | apply a0w); done) | (unfold a0e; (repeat' first | rfl | rw [a06 (by assumption)] | rw [a05 (by assumption)]); done) | (simp_all; done)
def a8V:Ctr:=⟨471,spY (rP.c (rV.c r0)) (fun (p,v,_)=>p.sz+v.sz <= 200000) (fun (p,v,_)=>.k (.g (eP (a0e p v))))⟩
theorem aAZ:CtrOK Tryz.prog a8V:=yOK a0F a6F Tryz.func471 fun x hp=>a8B x.1 x.2.1 hp
theorem a8I (p:Px) (v:Vx):(a0e p v).sz <= (p.sz+v.sz)+4:=by
 have g1:=aHS ((p.a)+(v.vx)) p.b ((p.c)+(v.vy)) p.d p.e
 have g2:=a1S p.a v.vx
 have g3:=a5A p
 have g4:=aSm v
 have g5:=a1S p.c v.vy
 unfold a0e
 repeat' split
 all_goals first | omega | (dsimp only; omega)
def DT5:List Ctr:=DT4 ++ [aVL,aVJ,aVK,aHb,aRm,aG0,aLS,aRj,a8V]
theorem aL8:∀ c ∈ DT5,CtrOK Tryz.prog c:=a0O a6F (a03 aRv (a03 aRt (a03 aRu (a03 aHa (a03 aNI (a03 aGZ (a03 aJD (a03 aNG (a03 aAZ (a2L))))))))))
def a0S (r:Rx) (s:Rx):Int:=a3i (a3B r s)
theorem aJJ (r:Rx) (s:Rx) (hp:r.sz+s.sz <= 14900):owes LTD DT5 [] Tryz.f126 (bd Tryz.f126) [.g (eR r),.g (eR s)] (.k (.c (.v (.int .i64 ((a0S r s)))))):=by
 refine a0p (show (((True/\(True/\True))/\(True/\(True/\True))/\r.sz+s.sz <= 200000)/\(((True/\(True/\(True/\(True/\(True/\True)))))/\(a3B r s).sz <= 15000)/\(Value.int .i64 (a3i (a3B r s))=(.int .i64 (a0S r s)))))=_ by kernel_rfl) ?_
 have g1:=a2Z r
 have g2:=a2Z s
 have g3:=@aYA r s
 have g4:=b05 (a3B r s)
 repeat' first | trivial | with_reducible apply And.intro | (intro _)
 all_goals first | rfl | omega | assumption | (with_reducible apply a0N; (repeat' first | exact a2c | exact a2b | exact a2a | exact a0Z _ | exact a0Q .. | exact a0r .. | exact a0k .. | exact a0I .. | exact a0m .. | apply a0u | apply a0w); done) | (unfold a0S; (repeat' first | rfl | rw [a06 (by assumption)] | rw [a05 (by assumption)]); done) | (simp_all; done)
def aVG:Ctr:=⟨126,spY (rR.c (rR.c r0)) (fun (r,s,_)=>r.sz+s.sz <= 14900) (fun (r,s,_)=>.k (.c (.v (.int .i64 ((a0S r s))))))⟩
theorem aRn:CtrOK Tryz.prog aVG:=yOK a0F aL8 Tryz.func126 fun x hp=>aJJ x.1 x.2.1 hp
theorem a07 (r:Rx) (s:Rx):un (a0S r s):=by
 unfold a0S
 repeat' split
 all_goals (repeat' first | exact a2c | exact a2b | exact a2a | exact a0Z _ | exact a0Q .. | exact a0r .. | exact a0k .. | exact a0I .. | exact a0m .. | apply a0u | apply a0w)
def a04 (p:Px):Rx:=a0H p.a p.b p.e
theorem aRi (p:Px):owes LTD DT5 [] Tryz.f124 (bd Tryz.f124) [.g (eP p)] (.k (.g (eR (a04 p)))):=by
 refine a0p (show ((True/\True/\True/\True)/\(((a0H p.a p.b p.e).ra=(a04 p).ra)/\(((a0H p.a p.b p.e).rb=(a04 p).rb)/\(((a0H p.a p.b p.e).rc=(a04 p).rc)/\True))))=_ by kernel_rfl) ?_
 repeat' first | trivial | with_reducible apply And.intro | (intro _)
 all_goals first | rfl | omega | assumption | (with_reducible apply a0N; (repeat' first | exact a2c | exact a2b | exact a2a | exact a0Z _ | exact a0Q .. | exact a0r .. | exact a0k .. | exact a0I .. | exact a0m .. | exact a07 .. | apply a0u | apply a0w); done) | (unfold a04; (repeat' first | rfl | rw [a06 (by assumption)] | rw [a05 (by assumption)]); done) | (simp_all; done)
def b1k:Ctr:=⟨124,spY (rP.c r0) (fun _=>True) (fun (p,_)=>.k (.g (eR (a04 p))))⟩
theorem aX0:CtrOK Tryz.prog b1k:=yOK a0F aL8 Tryz.func124 fun x _=>aRi x.1
theorem aR6 (p:Px):(a04 p).sz <= (p.sz)+4:=by
 have g1:=@aJ7 p.a p.b p.e
 have g2:=a2Z (a0H p.a p.b p.e)
 have g3:=a5A p
 unfold a04
 repeat' split
 all_goals first | omega | (dsimp only; omega)
def a2D (p:Px):Rx:=a0H p.c p.d p.e
theorem aRh (p:Px):owes LTD DT5 [] Tryz.f219 (bd Tryz.f219) [.g (eP p)] (.k (.g (eR (a2D p)))):=by
 refine a0p (show ((True/\True/\True/\True)/\(((a0H p.c p.d p.e).ra=(a2D p).ra)/\(((a0H p.c p.d p.e).rb=(a2D p).rb)/\(((a0H p.c p.d p.e).rc=(a2D p).rc)/\True))))=_ by kernel_rfl) ?_
 repeat' first | trivial | with_reducible apply And.intro | (intro _)
 all_goals first | rfl | omega | assumption | (with_reducible apply a0N; (repeat' first | exact a2c | exact a2b | exact a2a | exact a0Z _ | exact a0Q .. | exact a0r .. | exact a0k .. | exact a0I .. | exact a0m .. | exact a07 .. | apply a0u | apply a0w); done) | (unfold a2D; (repeat' first | rfl | rw [a06 (by assumption)] | rw [a05 (by assumption)]); done) | (simp_all; done)
def b1j:Ctr:=⟨219,spY (rP.c r0) (fun _=>True) (fun (p,_)=>.k (.g (eR (a2D p))))⟩
theorem aXZ:CtrOK Tryz.prog b1j:=yOK a0F aL8 Tryz.func219 fun x _=>aRh x.1
theorem aYj (p:Px):(a2D p).sz <= (p.sz)+4:=by
 have g1:=@aJ7 p.c p.d p.e
 have g2:=a2Z (a0H p.c p.d p.e)
 have g3:=a5A p
 unfold a2D
 repeat' split
 all_goals first | omega | (dsimp only; omega)
def DT6:List Ctr:=DT5 ++ [aVG,b1k,b1j]
theorem aRR:∀ c ∈ DT6,CtrOK Tryz.prog c:=a0O aL8 (a03 aRn (a03 aX0 (a03 aXZ (a2L))))
def a4F (r:Rx) (s:Rx):Bool:=((a0S r s)) == ((0:Int))
theorem aEd (r:Rx) (s:Rx) (hp:r.sz+s.sz <= 14900):owes LTD DT6 [] Tryz.f215 (bd Tryz.f215) [.g (eR r),.g (eR s)] (.k (.c (.v (.bool ((a4F r s)))))):=by
 refine a0p (show (((True/\(True/\True))/\(True/\(True/\True))/\r.sz+s.sz <= 14900)/\(Value.bool ((a0S r s) == (0:Int))=(.bool (a4F r s))))=_ by kernel_rfl) ?_
 have g1:=a2Z r
 have g2:=a2Z s
 repeat' first | trivial | with_reducible apply And.intro | (intro _)
 all_goals first | rfl | omega | assumption | (with_reducible apply a0N; (repeat' first | exact a2c | exact a2b | exact a2a | exact a0Z _ | exact a0Q .. | exact a0r .. | exact a0k .. | exact a0I .. | exact a0m .. | exact a07 .. | apply a0u | apply a0w); done) | (unfold a4F; (repeat' first | rfl | rw [a06 (by assumption)] | rw [a05 (by assumption)]); done) | (simp_all; done)
def aLU:Ctr:=⟨215,spY (rR.c (rR.c r0)) (fun (r,s,_)=>r.sz+s.sz <= 14900) (fun (r,s,_)=>.k (.c (.v (.bool ((a4F r s))))))⟩
theorem aJI:CtrOK Tryz.prog aLU:=yOK a0F aRR Tryz.func215 fun x hp=>aEd x.1 x.2.1 hp
def a0g (p:Px) (q:Px):Int:=(if (((a0S (a04 p) (a04 q))) != ((0:Int)))=true then a0S (a04 p) (a04 q) else a0S (a2D p) (a2D q))
def aME:=(True/\(True/\True))
def aPR:=((True/\(True/\aME))/\True)
theorem aA0 (p:Px) (q:Px) (hp:p.sz+q.sz <= 14500):owes LTD DT6 [] Tryz.f202 (bd Tryz.f202) [.g (eP p),.g (eP q)] (.k (.c (.v (.int .i64 ((a0g p q)))))):=by
 refine a0p (show (aPR/\(aPR/\((aME/\aME/\(a04 p).sz+(a04 q).sz <= 14900)/\((((a0S (a04 p) (a04 q)) != (0:Int))=true->(Value.int .i64 (a0S (a04 p) (a04 q))=(.int .i64 (a0g p q))))/\(((a0S (a04 p) (a04 q)) != (0:Int))=false->(aPR/\(aPR/\((aME/\aME/\(a2D p).sz+(a2D q).sz <= 14900)/\(Value.int .i64 (a0S (a2D p) (a2D q))=(.int .i64 (a0g p q)))))))))))=_ by kernel_rfl) ?_
 delta aPR aME
 have g1:=@aR6 p
 have g2:=a2Z (a04 p)
 have g3:=a5A p
 have g4:=@aR6 q
 have g5:=a2Z (a04 q)
 have g6:=a5A q
 have g7:=@aYj p
 have g8:=a2Z (a2D p)
 have g9:=@aYj q
 have g10:=a2Z (a2D q)
 repeat' first | trivial | with_reducible apply And.intro | (intro _)
 all_goals first | rfl | omega | assumption | (with_reducible apply a0N; (repeat' first | exact a2c | exact a2b | exact a2a | exact a0Z _ | exact a0Q .. | exact a0r .. | exact a0k .. | exact a0I .. | exact a0m .. | exact a07 .. | apply a0u | apply a0w); done) | (unfold a0g; (repeat' first | rfl | rw [a06 (by assumption)] | rw [a05 (by assumption)]); done) | (simp_all; done)
def aCz:Ctr:=⟨202,spY (rP.c (rP.c r0)) (fun (p,q,_)=>p.sz+q.sz <= 14500) (fun (p,q,_)=>.k (.c (.v (.int .i64 ((a0g p q))))))⟩
theorem aEc:CtrOK Tryz.prog aCz:=yOK a0F aRR Tryz.func202 fun x hp=>aA0 x.1 x.2.1 hp
theorem a0o (p:Px) (q:Px):un (a0g p q):=by
 unfold a0g
 repeat' split
 all_goals (repeat' first | exact a2c | exact a2b | exact a2a | exact a0Z _ | exact a0Q .. | exact a0r .. | exact a0k .. | exact a0I .. | exact a0m .. | exact a07 .. | apply a0u | apply a0w)
def DT7:List Ctr:=DT6 ++ [aLU,aCz]
theorem aV4:∀ c ∈ DT7,CtrOK Tryz.prog c:=a0O aRR (a03 aJI (a03 aEc (a2L)))
def a0G (p:Px) (q:Px):Bool:=((a0g p q)) == ((0:Int))
theorem aEb (p:Px) (q:Px) (hp:p.sz+q.sz <= 14500):owes LTD DT7 [] Tryz.f114 (bd Tryz.f114) [.g (eP p),.g (eP q)] (.k (.c (.v (.bool ((a0G p q)))))):=by
 refine a0p (show (((True/\(True/\(True/\(True/\True))))/\(True/\(True/\(True/\(True/\True))))/\p.sz+q.sz <= 14500)/\(Value.bool ((a0g p q) == (0:Int))=(.bool (a0G p q))))=_ by kernel_rfl) ?_
 have g1:=a5A p
 have g2:=a5A q
 repeat' first | trivial | with_reducible apply And.intro | (intro _)
 all_goals first | rfl | omega | assumption | (with_reducible apply a0N; (repeat' first | exact a2c | exact a2b | exact a2a | exact a0Z _ | exact a0Q .. | exact a0r .. | exact a0k .. | exact a0I .. | exact a0m .. | exact a07 .. | exact a0o .. | apply a0u | apply a0w); done) | (unfold a0G; (repeat' first | rfl | rw [a06 (by assumption)] | rw [a05 (by assumption)]); done) | (simp_all; done)
def aLT:Ctr:=⟨114,spY (rP.c (rP.c r0)) (fun (p,q,_)=>p.sz+q.sz <= 14500) (fun (p,q,_)=>.k (.c (.v (.bool ((a0G p q))))))⟩
theorem aJF:CtrOK Tryz.prog aLT:=yOK a0F aV4 Tryz.func114 fun x hp=>aEb x.1 x.2.1 hp
def DT8:List Ctr:=DT7 ++ [aLT]
theorem a4x:∀ c ∈ DT8,CtrOK Tryz.prog c:=a0O aV4 (a03 aJF (a2L))
end Vc
end Go.Proofs.YtbohkigffejhoaaGreat
