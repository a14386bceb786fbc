import Derived.Test.YtkdjilgddbjcaaaGreatR45
import Derived.ProofKit
import Derived.OpenShut
import Derived.Lib.SmallJoins
import Derived.ChangeOld
import Derived.Laws.AppendOwnNone
import Derived.Deep.Slices
namespace Go.Proofs.YtkdjilgddbjcaaaGreat
open Go.ChangeShapes Go.WideShapes Go.ChangeAt Go.RowKit Go.Joins Go.Deep
set_option maxRecDepth 8000
theorem Tryz.own:ownKnob Tryz.prog.godebug=none:=by kernel_rfl
theorem Tryz.laidOut:laidOutB Tryz.prog=true:=by kernel_rfl
section
variable {H:Type} {enc:TypeId × Value->H} {W:World} {base:Nat} {v:Value} {d:DataW H} {p:List MemPlace} {t:TypeId}
theorem some_of {α:Type} {l:List α} {i n:Nat} (h:l.length=n) (hi:i < n):(l[i]?).isSome=true:=by
 rw [List.getElem?_eq_getElem (by omega)]; rfl
theorem wf_i16 {x:Int} (h:(Lit.int .i16 x).wf=true):-32768 <= x/\x <= 32767:=by
 simp only [Lit.wf,Bool.and_eq_true,decide_eq_true_eq] at h
 exact h
theorem i16_of {n:Nat} {c:Value} {y:Option (DataW H × List MemPlace)} (hy:y.isSome=true) (ht:Tryz.prog.underlying t=some (.int .i16)) (h:DataW.trod enc Tryz.prog W 0 (fun _=>true) true n t [c]=y):∃ x:Int,c=.int .i16 x/\-32768 <= x/\x <= 32767:=by
 cases y with
 | none=>cases hy
 | some y =>
   obtain ⟨x,h1,_,h2⟩:=DataW.trod_int ht h
   have:=wf_i16 h2
   simp at h1
   exact ⟨x,h1,this⟩
theorem wf_u8 {x:Int} (h:(Lit.int .u8 x).wf=true):0 <= x/\x <= 255:=by
 simp only [Lit.wf,Bool.and_eq_true,decide_eq_true_eq] at h
 exact h
theorem u8_of {n:Nat} {c:Value} {y:Option (DataW H × List MemPlace)} (hy:y.isSome=true) (ht:Tryz.prog.underlying t=some (.int .u8)) (h:DataW.trod enc Tryz.prog W 0 (fun _=>true) true n t [c]=y):∃ x:Int,c=.int .u8 x/\0 <= x/\x <= 255:=by
 cases y with
 | none=>cases hy
 | some y =>
   obtain ⟨x,h1,_,h2⟩:=DataW.trod_int ht h
   have:=wf_u8 h2
   simp at h1
   exact ⟨x,h1,this⟩
theorem spot_of (hv:Value.okWide Tryz.prog W .any base 24 v) (h0:DataW.Trod enc Tryz.prog W 0 (fun _=>true) true 24 v d p):∃ x0 x1 x2:Int,((-32768 <= x0/\x0 <= 32767)/\(-32768 <= x1/\x1 <= 32767)/\(0 <= x2/\x2 <= 255))/\Vc.relK ⟨W.heap.size,[],[],[]⟩ W (.g [.v (.int .i16 x0),.v (.int .i16 x1),.v (.int .u8 x2)]) v:=by
 simp only [Value.okWide,Tryz.underlying24] at hv
 obtain ⟨cs,rfl,_,_⟩:=hv
 obtain ⟨fuel,h⟩:=h0
 obtain ⟨cs⟩:=cs
 simp only [Value.cells] at h
 obtain ⟨ys,m,_,_,hs,hl,hf⟩:=DataW.trod_struct Tryz.underlying24 h
 have kk:Tryz.prog.cellsOf 24=3:=by kernel_rfl
 have kb:Tryz.prog.cellsOf 5=1:=by kernel_rfl
 have kh:Tryz.prog.cellsOf 22=1:=by kernel_rfl
 rw [kk] at hs
 match cs,hs with
 | [c0,c1,c2],_ =>
   have f0:DataW.trod enc Tryz.prog W 0 (fun _=>true) true m 22 (([c0,c1,c2].drop 0).take (Tryz.prog.cellsOf 22))=ys[0]?:=hf 0 _ rfl
   have f1:DataW.trod enc Tryz.prog W 0 (fun _=>true) true m 22 (([c0,c1,c2].drop 1).take (Tryz.prog.cellsOf 22))=ys[1]?:=hf 1 _ rfl
   have f2:DataW.trod enc Tryz.prog W 0 (fun _=>true) true m 5 (([c0,c1,c2].drop 2).take (Tryz.prog.cellsOf 5))=ys[2]?:=hf 2 _ rfl
   rw [kb] at f2
   rw [kh] at f0 f1
   simp only [List.drop_zero,List.drop_succ_cons,List.take_succ_cons,List.take_zero] at f0 f1 f2
   obtain ⟨a0,rfl,b0⟩:=i16_of (some_of hl (by decide)) Tryz.underlying22 f0
   obtain ⟨a1,rfl,b1⟩:=i16_of (some_of hl (by decide)) Tryz.underlying22 f1
   obtain ⟨a2,rfl,b2⟩:=u8_of (some_of hl (by decide)) Tryz.underlying5 f2
   exact ⟨a0,a1,a2,⟨b0,b1,b2⟩,_,rfl,⟨⟨rfl,rfl⟩,⟨rfl,rfl⟩,⟨rfl,rfl⟩,trivial⟩⟩
theorem sizes_of (hv:Value.okWide Tryz.prog W .any base 26 v) (h0:DataW.Trod enc Tryz.prog W 0 (fun _=>true) true 26 v d p):∃ x0 x1:Int,((0 <= x0/\x0 <= 255)/\(0 <= x1/\x1 <= 255))/\Vc.relK ⟨W.heap.size,[],[],[]⟩ W (.g [.v (.int .u8 x0),.v (.int .u8 x1)]) v:=by
 simp only [Value.okWide,Tryz.underlying26] at hv
 obtain ⟨cs,rfl,_,_⟩:=hv
 obtain ⟨fuel,h⟩:=h0
 obtain ⟨cs⟩:=cs
 simp only [Value.cells] at h
 obtain ⟨ys,m,_,_,hs,hl,hf⟩:=DataW.trod_struct Tryz.underlying26 h
 have kk:Tryz.prog.cellsOf 26=2:=by kernel_rfl
 have kb:Tryz.prog.cellsOf 5=1:=by kernel_rfl
 rw [kk] at hs
 match cs,hs with
 | [c0,c1],_ =>
   have f0:DataW.trod enc Tryz.prog W 0 (fun _=>true) true m 5 (([c0,c1].drop 0).take (Tryz.prog.cellsOf 5))=ys[0]?:=hf 0 _ rfl
   have f1:DataW.trod enc Tryz.prog W 0 (fun _=>true) true m 5 (([c0,c1].drop 1).take (Tryz.prog.cellsOf 5))=ys[1]?:=hf 1 _ rfl
   rw [kb] at f0 f1
   simp only [List.drop_zero,List.drop_succ_cons,List.take_succ_cons,List.take_zero] at f0 f1
   obtain ⟨a0,rfl,b0⟩:=u8_of (some_of hl (by decide)) Tryz.underlying5 f0
   obtain ⟨a1,rfl,b1⟩:=u8_of (some_of hl (by decide)) Tryz.underlying5 f1
   exact ⟨a0,a1,⟨b0,b1⟩,_,rfl,⟨⟨rfl,rfl⟩,⟨rfl,rfl⟩,trivial⟩⟩
theorem bool_of (hv:Value.okWide Tryz.prog W .any base 4 v) (h:DataW.Trod enc Tryz.prog W 0 (fun _=>true) true 4 v d p):∃ x:Bool,v=.bool x:=by
 obtain ⟨x,h1,_⟩:=open_bool Tryz.underlying4 hv h; exact ⟨x,h1⟩
theorem unit_walk {v0 v1:Value} {b:Bool} {x y d r s:Int} (r0:(-32768 <= x/\x <= 32767)/\(-32768 <= y/\y <= 32767)/\(0 <= d/\d <= 255)) (h0:Vc.relK ⟨W.heap.size,[],[],[]⟩ W (.g [.v (.int .i16 x),.v (.int .i16 y),.v (.int .u8 d)]) v0) (r1:(0 <= r/\r <= 255)/\(0 <= s/\s <= 255)) (h1:Vc.relK ⟨W.heap.size,[],[],[]⟩ W (.g [.v (.int .u8 r),.v (.int .u8 s)]) v1) :
    Calls Tryz.prog 3 #[v0,v1,.bool b] W fun e w'=>e=.returned (.bool true)/\Ext W w':=by
 obtain ⟨rx,ry,rd⟩:=r0
 cases b with
 | true=>exact Vc.lunN_walk x y d r s ⟨⟨rx,ry⟩,rd,r1⟩ (bs:=⟨W.heap.size,[],[],[]⟩) (vs:=[v0,v1,.bool true]) ⟨h0,h1,⟨rfl,rfl⟩,trivial⟩ rfl rfl
 | false =>
   by_cases hz:x=0/\y=0
   ·exact Vc.lunO_walk x y d r s ⟨⟨⟨rx,ry⟩,rd,r1⟩,hz⟩ (bs:=⟨W.heap.size,[],[],[]⟩) (vs:=[v0,v1,.bool false]) ⟨h0,h1,⟨rfl,rfl⟩,trivial⟩ rfl rfl
   ·exact Vc.lunX_walk x y d r s ⟨⟨⟨rx,ry⟩,rd,r1⟩,Classical.not_and_iff_not_or_not.1 hz⟩ (bs:=⟨W.heap.size,[],[],[]⟩) (vs:=[v0,v1,.bool false]) ⟨h0,h1,⟨rfl,rfl⟩,trivial⟩ rfl rfl
end
end Go.Proofs.YtkdjilgddbjcaaaGreat
