import Derived.Test.YtkdjilgddbjcaaaGreatR43
namespace Go.Proofs.YtkdjilgddbjcaaaGreat
open Go.RowKit
namespace Zc
theorem TP34_ok:MOK Tryz.prog TP34:=TP33_ok.add mP33_ok
end Zc
end Go.Proofs.YtkdjilgddbjcaaaGreat
namespace Go.Proofs.YtkdjilgddbjcaaaGreat
open Go.RowKit
namespace Zc
noncomputable def mPZ:MP:=⟨0,[],[],.k (.c (.v (.bool true))),[]⟩
theorem mPZ_ok:MPOK Tryz.prog 4 mPZ:=MPOK.run_of (L:=LZ) (W:=WZ) (U:=UZ) (F:=FZ) (D:=E14) (M:=TP34) (fuel:=fuZ) (d:=dpZ) Vc.mixed LZ_ok FZ_ok E14_ok TP34_ok (show runM LZ WZ UZ FZ E14 TP34 fuZ dpZ 4 mPZ=.ok .u by kernel_rfl)
theorem awake_any (w:World):Calls Tryz.prog 4 #[] w fun e w'=>e=.returned (.bool true)/\Frame 0 0 (fun _=>none) w w':=by
 refine (mPZ_ok.run (fun _=>none) w [] (fun _ _=>rfl) (fun k b x h1=>(by cases h1)) (fun k b h1=>(by cases h1)) (fun k j b h1=>(by cases h1)) trivial).mono ?_
 rintro e w' ⟨v,bm',rfl,hf,_,_,_,_,hv⟩
 obtain ⟨rfl,_⟩:=hv
 exact ⟨rfl,hf⟩
end Zc
end Go.Proofs.YtkdjilgddbjcaaaGreat
