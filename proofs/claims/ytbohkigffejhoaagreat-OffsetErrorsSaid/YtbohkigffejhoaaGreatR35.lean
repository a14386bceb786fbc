import Derived.Test.YtbohkigffejhoaaGreatR30
namespace Go.Proofs.YtbohkigffejhoaaGreat.Zc
theorem aYy:MPOK Tryz.prog 70 b6q:=mpP MOK.nil (by kernel_rfl)
noncomputable def gc0:=cV false [0,1,-10,1,-85,2,0,1,0,1,0,1] false [0,1,0,1,17,4,0,1,0,1,17,4,0,1,17,4,0,1,0,1]
noncomputable def gc1:=cV false [-10,1,0,1,-85,2,0,1,0,1,0,1] false [17,4,0,1,0,1,0,1,0,1,17,4,0,1,17,4,0,1,0,1]
noncomputable def gb0:=aEm (b4a (b43 (aUK (aEd (b2R (aEn (aHr [])))))))
noncomputable def gb1:=b7l (aJD (b7m (b7n [])))
theorem gm0:MPOK Tryz.prog 244 ⟨2,[.g [.s 0 0 8 8 66],.g [.s 1 0 4 4 66]],[⟨52,gb0⟩,⟨52,gb1⟩],.k (.c (.s 2 0 9 9 66)),[⟨52,aEm (b4a (b43 (aUK (aEd (gc0 (aSd (aEn (aHr []))))))))⟩]⟩:=mpP MOK.nil (by kernel_rfl)
theorem gm1:MPOK Tryz.prog 244 ⟨2,[.g [.s 0 0 4 4 66],.g [.s 1 0 8 8 66]],[⟨52,gb1⟩,⟨52,gb0⟩],.k (.c (.s 2 0 5 5 66)),[⟨52,b7l (aJD (b7m (gc1 (b0o []))))⟩]⟩:=mpP MOK.nil (by kernel_rfl)
theorem aYx:MPOK Tryz.prog 70 b6p:=mpP ((MOK.nil.add gm0).add gm1) (by kernel_rfl)
