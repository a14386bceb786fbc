import Derived.Test.YtbohkigffejhoaaGreatR24
import Derived.Test.YtbohkigffejhoaaGreatR49
import Derived.Test.YtbohkigffejhoaaGreatR50
import Derived.Test.YtbohkigffejhoaaGreatR51
namespace Go.Proofs.YtbohkigffejhoaaGreat.Zc
theorem aZB:MOK Tryz.prog b7E:=((aJJ.add aX3).add aX2).add aX1
noncomputable def mPZ:MP:=⟨0,[],[],.k (.c (.v (.bool true))),[]⟩
theorem b1C:MPOK Tryz.prog 6 mPZ:=mpP aZB (by kernel_rfl)
theorem awake_any (w:World):Calls Tryz.prog 6 #[] w fun e w'=>e=.returned (.bool true)/\Frame 0 0 ⟨fun _=>none,fun _=>False⟩ w w':=by
 refine (b1C.run ⟨fun _=>none,fun _=>False⟩ w [] ⟨fun k b x h1=>(by cases h1),fun k b h1=>(by cases h1),fun k b h1=>(by cases h1),fun k j b x y h1=>(by cases h1),fun b h=>h.elim⟩ (fun _ _=>rfl) trivial).mono ?_;rintro e w' ⟨v,bm',rfl,h⟩;obtain ⟨rfl,_⟩:=h.rel;exact ⟨rfl,h.fr⟩
end Go.Proofs.YtbohkigffejhoaaGreat.Zc
open Go.Proofs.Tryz (prog)
namespace Go.Proofs.YtbohkigffejhoaaGreat
open Go.RowKit
namespace Vc
attribute [local irreducible] owes a1q
theorem aIO:CtrOK prog a9s:=.of (by kernel_rfl) (fun bs w xs vs pre r hr hA hG h hp=>by
 simp only [a9s] at h;split at h
 ·cases h
  match vs,hr with
  | [],_ =>
    refine (Zc.awake_any w).mono ?_;rintro e w' ⟨rfl,hf⟩;exact ⟨_,rfl,⟨hf.env.1,hf.env.2.1,hf.env.2.2,hf.le,fun b hb=>hf.same b hb fun k _ h=>by omega⟩,rfl,rfl⟩
 ·cases h) (fun xs α pre φ r=>by simp only [a9s]; split <;> (intro h; cases h))
theorem b25:∀ c ∈ WK4,CtrOK prog c:=a0M b26 (a0Y aIO (a3e))
def aRq:Ctr:=⟨3,fun | [.c (.rd .F false s),.c (.v (.int .i8 r)),.c (.v (.int .i8 e))]=>.ex (Bool) ((∀ f ∈ s,aH1 f)/\b8 r/\b8 e) (fun a=>a=true) (fun a=>.k (.c (.v (.bool (a))))) | _=>.no⟩
theorem aRp:CtrOK prog aRq:=.ofEx (by kernel_rfl) (fun bs w xs vs α pre φ r hr hA hG h hp=>by
 simp only [aRq] at h;split at h
 ·rename_i s r e;cases h;exact a18 mixed a4L b25 Tryz.func3 (by kernel_rfl) hr hA hG rfl (fun _=>rfl) (aIP s r e hp)
 ·cases h) (fun xs pre r=>by simp only [aRq]; split <;> (intro h; cases h))
end Vc
end Go.Proofs.YtbohkigffejhoaaGreat
namespace Go.Proofs.YtbohkigffejhoaaGreat
open Go.ChangeShapes Go.WideShapes Go.ChangeAt Go.RowKit Go.Joins
set_option maxRecDepth 8000
section
variable {H:Type} {enc:TypeId × Value->H} {W:World} {base:Nat} {v:Value} {d:DataW H} {p:List MemPlace}
theorem b1Z (hv:Value.okWide prog W .any base 24 v) (h:DataW.Trod enc prog W 0 (fun _=>true) true 24 v d p):∃ x:Int,v=.int .i8 x/\Vc.b8 x:=by
 obtain ⟨x,h1,_,_,h2⟩:=open_int Tryz.underlying24 hv h;simp only [Lit.wf,Bool.and_eq_true,decide_eq_true_eq] at h2;exact ⟨x,h1,h2⟩
theorem aPe {v0:Value} {l:List Vc.Fx} {r e:Int} (g0:Vc.relK ⟨W.heap.size,[],[],[]⟩ W (.c (.rd .F false l)) v0) (g1:∀ f ∈ l,Vc.aH1 f) (hr:Vc.b8 r) (he:Vc.b8 e) :
    Calls prog 3 #[v0,.int .i8 r,.int .i8 e] W fun e w'=>e=.returned (.bool true)/\Ext W w':=by
 refine (Vc.aRp.ex ⟨W.heap.size,[],[],[]⟩ W [.c (.rd .F false l),.c (.v (.int .i8 r)),.c (.v (.int .i8 e))] [v0,.int .i8 r,.int .i8 e] _ _ _ _ ⟨g0,⟨rfl,rfl⟩,⟨rfl,rfl⟩,trivial⟩ rfl rfl rfl ⟨g1,hr,he⟩).mono ?_;rintro e w' ⟨v,rfl,hx,b,rfl,hv,_⟩;exact ⟨by rw [hv],hx⟩
