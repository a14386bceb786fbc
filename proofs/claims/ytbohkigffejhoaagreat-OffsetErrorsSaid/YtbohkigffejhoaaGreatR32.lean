import Derived.Test.YtbohkigffejhoaaGreatR30
namespace Go.Proofs.YtbohkigffejhoaaGreat.Zc
theorem b1J:MPOK Tryz.prog 70 mP3:=mpP MOK.nil (by kernel_rfl)
noncomputable def fc0:=cV false [0,1,-10,1,-45,2,0,1,0,1,0,1] false [0,1,0,1,9,4,0,1,0,1,9,4,0,1,9,4,0,1,0,1]
noncomputable def fc1:=cV false [-10,1,0,1,-45,2,0,1,0,1,0,1] false [9,4,0,1,0,1,0,1,0,1,9,4,0,1,9,4,0,1,0,1]
noncomputable def fb0:=aEo (b4f (b48 (aUL (aEe (b2Z (aEp (aHs [])))))))
noncomputable def fb1:=b7z (aJE (b7A (b7B [])))
theorem fm0:MPOK Tryz.prog 244 ⟨2,[.g [.s 0 0 8 8 66],.g [.s 1 0 4 4 66]],[⟨52,fb0⟩,⟨52,fb1⟩],.k (.c (.s 2 0 9 9 66)),[⟨52,aEo (b4f (b48 (aUL (aEe (fc0 (aSf (aEp (aHs []))))))))⟩]⟩:=mpP MOK.nil (by kernel_rfl)
theorem fm1:MPOK Tryz.prog 244 ⟨2,[.g [.s 0 0 4 4 66],.g [.s 1 0 8 8 66]],[⟨52,fb1⟩,⟨52,fb0⟩],.k (.c (.s 2 0 5 5 66)),[⟨52,b7z (aJE (b7A (fc1 (b0r []))))⟩]⟩:=mpP MOK.nil (by kernel_rfl)
theorem b1I:MPOK Tryz.prog 70 mP4:=mpP ((MOK.nil.add fm0).add fm1) (by kernel_rfl)
