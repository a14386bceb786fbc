import Derived.WalkKit
namespace Go.Proofs.YtbohkigffejhoaaGreat
open Go.RowKit
namespace Vc
structure Vx where
 vx:Rat
 vy:Rat
structure Rx where
 ra:Rat
 rb:Rat
 rc:Rat
structure Px where
 a:Rat
 b:Rat
 c:Rat
 d:Rat
 e:Rat
structure Dx where
 da:Rat
 db:Rat
 dc:Rat
 dd:Rat
 dm:Rat
 dn:Rat
structure Lx where
 la:Rat
 lb:Rat
 lc:Rat
structure Kx where
 kx:Rat
 ky:Rat
 kq:Rat
structure Ux where
 arc:Bool
 l:Lx
 k:Kx
 cw:Bool
 f:Px
 t:Px
structure Wx where
 wr:Int
 wok:Bool
 wv:Rx
structure Fx where
 fk:Int
 fu:Int
 fa:Int
 fb:Int
 fc:Int
 fd:Int
 fl:List (Int × Int)
inductive Sc
 | P
 | U
 | V
 | C
 | F
abbrev Sc.T:Sc->Type
 | .P=>Px
 | .U=>Ux
 | .V=>Vx
 | .C=>Int × Int
 | .F=>Fx
def Sc.k:Sc->Nat
 | .P=>20
 | .U=>66
 | .V=>8
 | .C=>2
 | .F=>7
def dfP:Px:=⟨0,0,0,0,0⟩
def dfU:Ux:=⟨false,⟨0,0,0⟩,⟨0,0,0⟩,false,dfP,dfP⟩
def Sc.d:(s:Sc)->s.T
 | .P=>dfP
 | .U=>dfU
 | .V=>⟨0,0⟩
 | .C=>(0,0)
 | .F=>⟨0,0,0,0,0,0,[]⟩
end Vc
end Go.Proofs.YtbohkigffejhoaaGreat
