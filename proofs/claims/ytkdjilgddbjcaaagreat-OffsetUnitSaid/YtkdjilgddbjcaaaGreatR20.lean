import Derived.Test.YtkdjilgddbjcaaaGreatR19
import Derived.Test.YtkdjilgddbjcaaaGreatR11
namespace Go.Proofs.YtkdjilgddbjcaaaGreat
open Go.RowKit
namespace Vc
attribute [local irreducible] owes awpC awp
def phiU (x y e:Rat) (u:Rat × Rat):Prop:=u.1*u.1+u.2*u.2=1/\0 < u.1*x+u.2*y/\(u.1*y - u.2*x)*(u.1*y - u.2*x) <= e*e*(x*x+y*y)/\szR u.1 <= 10000/\szR u.2 <= 10000
structure U1 where
 X:Rat
 Y:Rat
 e:Rat
 w:Bool
def phi1 (x y e:Rat) (u:U1):Prop:=u.w=decide ((if x < 0 then -x else x) < (if y < 0 then -y else y))/\u.X=(if u.w=true then (if y < 0 then -y else y) else (if x < 0 then -x else x))/\u.Y=(if u.w=true then (if x < 0 then -x else x) else (if y < 0 then -y else y))/\u.e=(if 1 < e then 1 else e)
structure U2 where
 X:Rat
 Y:Rat
 e:Rat
 w:Bool
 s:Rat
 lo:Rat
 hi:Rat
 le:Rat
 mo:Rat
 t:Rat
 q:Rat
 a:Rat
 b:Rat
def phi2 (x y e:Rat) (u:U2):Prop:=phi1 x y e ⟨u.X,u.Y,u.e,u.w⟩/\(u.a*u.a+u.b*u.b=1/\0 < u.a*u.X+u.b*u.Y/\(u.a*u.Y - u.b*u.X)*(u.a*u.Y - u.b*u.X) <= u.e*u.e*(u.X*u.X+u.Y*u.Y))/\szR u.a <= 9000/\szR u.b <= 9000
def kunit10 (x:Rat) (y:Rat):=(((Rt.sg (((if (x) < 0 then -(x) else (x))) - ((if (y) < 0 then -(y) else (y)))))))
set_option maxHeartbeats 4000000 in
theorem unit1 (x y e:Rat) (hp:0 < e/\(x ≠ 0 \/ y ≠ 0)/\szR x <= 10/\szR y <= 10/\szR e <= 10/\Rat.divInt 1 8192 <= e):awpC LT8 KT7 [] (phi1 x y e) (fun u:U1=>(⟨[.u,.u,.k (.c (.bx 0 0)),.k (.c (.bx 1 0)),.k (.c (.bx 2 0)),.k (.c (.v (.int .i64 ((0:Int))))),.k (.c (.bx 3 0)),.k (.c (.bx 4 0)),.k (.c (.bx 5 0)),.k (.c (.v (.bool ((u.w))))),.u,.u,.u,.u,.u,.u,.u,.u,.u,.u,.u,.u,.u,.u,.u,.u,.u,.u,.u,.u,.u,.u,.u,.u,.u,.u,.u,.u,.u,.u,.u,.u,.u,.u,.u,.u,.u,.u,.u,.u,.u,.u,.u,.u,.u,.u,.u,.u,.u,.u,.u,.u,.u,.u,.u,.u,.u,.u,.u,.u,.u,.u,.u,.u,.u,.u,.u,.u,.u,.u,.u,.u,.u,.u,.u,.u,.u,.u,.u,.u,.u,.u,.u,.u,.u,.u,.u,.u,.u,.u,.u,.u,.u,.u,.u,.u,.u,.u,.u,.u,.u,.u,.u,.u,.u,.u,.u,.u,.u,.u,.u,.u,.u,.u,.u,.u,.u,.u,.u,.u,.u,.u,.u,.u,.u,.u,.u,.u],[⟨34,[.R (x),.R (y)]⟩,⟨32,[.R ((u.e))]⟩,⟨34,[.v (.bool (false)),.sl (([]:List Nat)),.v (.bool (false)),.sl (([]:List Nat)),.v (.bool (false)),.sl (([]:List Nat)),.v (.bool (false)),.sl (([]:List Nat))]⟩,⟨32,[.R (((1:Int):Rat))]⟩,⟨32,[.R ((u.X))]⟩,⟨32,[.R ((u.Y))]⟩]⟩:St)) (QresE LT8 Tryz.f7 (phiU x y e) (fun u=>.t [.g [.R u.1,.R u.2],.c (.v (.int .i64 (0:Int)))])) 8 (Tryz.f7.body.getD .skip) (st0 Tryz.f7 [.g [.R x,.R y],.g [.R e]]):=by
 refine Eq.mp (show ((-9223372036854775808 <= (1:Int)/\(1:Int) <= 9223372036854775807)/\(True/\(((decide ((Rt.sg e) <= (0:Int)))=true->(∃ u:Rat × Rat,((phiU x y e u)/\(False/\((Value.int .i64 (1:Int)=(.int .i64 (0:Int)))/\True)))))/\((decide ((Rt.sg e) <= (0:Int)))=false->((szR x <= 100000)/\((szR y <= 100000)/\((szR (if x < 0 then -x else x) <= 1000000/\szR (if y < 0 then -y else y) <= 1000000)/\(((decide ((kunit10 x y) < (0:Int)))=true->(True/\((((Rt.sg (if y < 0 then -y else y)) == (0:Int))=true->(∃ u:Rat × Rat,((phiU x y e u)/\(False/\((Value.int .i64 (6:Int)=(.int .i64 (0:Int)))/\True)))))/\(((Rt.sg (if y < 0 then -y else y)) == (0:Int))=false->((szR e <= 1000000/\szR ((1:Int):Rat) <= 1000000)/\(((decide ((Rt.sg (e - ((1:Int):Rat))) > (0:Int)))=true->(∃ u1:U1,((phi1 x y e u1)/\((True/\(True/\(True/\((Value.int .i64 (0:Int)=(.int .i64 (0:Int)))/\(True/\(True/\(True/\((Value.bool (decide ((kunit10 x y) < (0:Int)))=(.bool u1.w))/\True))))))))/\(((x=x)/\((y=y)/\True))/\(((((1:Int):Rat)=u1.e)/\True)/\(((Value.bool false=(.bool false))/\((([]:List Nat)=([]:List Nat))/\((Value.bool false=(.bool false))/\((([]:List Nat)=([]:List Nat))/\((Value.bool false=(.bool false))/\((([]:List Nat)=([]:List Nat))/\((Value.bool false=(.bool false))/\((([]:List Nat)=([]:List Nat))/\True))))))))/\(((((1:Int):Rat)=((1:Int):Rat))/\True)/\((((if y < 0 then -y else y)=u1.X)/\True)/\((((if x < 0 then -x else x)=u1.Y)/\True)/\True))))))))))/\((decide ((Rt.sg (e - ((1:Int):Rat))) > (0:Int)))=false->(∃ u1:U1,((phi1 x y e u1)/\((True/\(True/\(True/\((Value.int .i64 (0:Int)=(.int .i64 (0:Int)))/\(True/\(True/\(True/\((Value.bool (decide ((kunit10 x y) < (0:Int)))=(.bool u1.w))/\True))))))))/\(((x=x)/\((y=y)/\True))/\(((e=u1.e)/\True)/\(((Value.bool false=(.bool false))/\((([]:List Nat)=([]:List Nat))/\((Value.bool false=(.bool false))/\((([]:List Nat)=([]:List Nat))/\((Value.bool false=(.bool false))/\((([]:List Nat)=([]:List Nat))/\((Value.bool false=(.bool false))/\((([]:List Nat)=([]:List Nat))/\True))))))))/\(((((1:Int):Rat)=((1:Int):Rat))/\True)/\((((if y < 0 then -y else y)=u1.X)/\True)/\((((if x < 0 then -x else x)=u1.Y)/\True)/\True))))))))))))))))/\((decide ((kunit10 x y) < (0:Int)))=false->(True/\((((Rt.sg (if x < 0 then -x else x)) == (0:Int))=true->(∃ u:Rat × Rat,((phiU x y e u)/\(False/\((Value.int .i64 (6:Int)=(.int .i64 (0:Int)))/\True)))))/\(((Rt.sg (if x < 0 then -x else x)) == (0:Int))=false->((szR e <= 1000000/\szR ((1:Int):Rat) <= 1000000)/\(((decide ((Rt.sg (e - ((1:Int):Rat))) > (0:Int)))=true->(∃ u1:U1,((phi1 x y e u1)/\((True/\(True/\(True/\((Value.int .i64 (0:Int)=(.int .i64 (0:Int)))/\(True/\(True/\(True/\((Value.bool (decide ((kunit10 x y) < (0:Int)))=(.bool u1.w))/\True))))))))/\(((x=x)/\((y=y)/\True))/\(((((1:Int):Rat)=u1.e)/\True)/\(((Value.bool false=(.bool false))/\((([]:List Nat)=([]:List Nat))/\((Value.bool false=(.bool false))/\((([]:List Nat)=([]:List Nat))/\((Value.bool false=(.bool false))/\((([]:List Nat)=([]:List Nat))/\((Value.bool false=(.bool false))/\((([]:List Nat)=([]:List Nat))/\True))))))))/\(((((1:Int):Rat)=((1:Int):Rat))/\True)/\((((if x < 0 then -x else x)=u1.X)/\True)/\((((if y < 0 then -y else y)=u1.Y)/\True)/\True))))))))))/\((decide ((Rt.sg (e - ((1:Int):Rat))) > (0:Int)))=false->(∃ u1:U1,((phi1 x y e u1)/\((True/\(True/\(True/\((Value.int .i64 (0:Int)=(.int .i64 (0:Int)))/\(True/\(True/\(True/\((Value.bool (decide ((kunit10 x y) < (0:Int)))=(.bool u1.w))/\True))))))))/\(((x=x)/\((y=y)/\True))/\(((e=u1.e)/\True)/\(((Value.bool false=(.bool false))/\((([]:List Nat)=([]:List Nat))/\((Value.bool false=(.bool false))/\((([]:List Nat)=([]:List Nat))/\((Value.bool false=(.bool false))/\((([]:List Nat)=([]:List Nat))/\((Value.bool false=(.bool false))/\((([]:List Nat)=([]:List Nat))/\True))))))))/\(((((1:Int):Rat)=((1:Int):Rat))/\True)/\((((if x < 0 then -x else x)=u1.X)/\True)/\((((if y < 0 then -y else y)=u1.Y)/\True)/\True))))))))))))))))))))))))=_ by kernel_rfl) ?_
 delta kunit10
 obtain ⟨he,hxy,hx,hy,hs,hb⟩:=hp
 obtain ⟨a1,a2,a3⟩:=abs_cases x
 obtain ⟨b1,b2,b3⟩:=abs_cases y
 have s1:=sz1
 have d0:decide (Rt.sg e <= (0:Int))=false:=decide_eq_false (fun h=>by have:=Rt.sg_le.1 h; grind)
 have ed:decide (Rt.sg ((if x < 0 then -x else x) - (if y < 0 then -y else y)) < (0:Int))=decide ((if x < 0 then -x else x) < (if y < 0 then -y else y)):=decide_eq_decide.2 Rt.sub_sg_lt
 have e1:decide (Rt.sg (e - ((1:Int):Rat)) > (0:Int))=decide (1 < e):=decide_eq_decide.2 Rt.sub_sg_gt
 have cx:(Rt.sg (if x < 0 then -x else x) == (0:Int))=true->x=0:=fun h=>a2.1 (Rt.sg_zero.1 (eq_of_beq h))
 have cy:(Rt.sg (if y < 0 then -y else y) == (0:Int))=true->y=0:=fun h=>b2.1 (Rt.sg_zero.1 (eq_of_beq h))
 rw [d0]
 simp only [ed,e1]
 have s2:szR ((1:Int):Rat) <= 2:=s1
 refine ⟨⟨by decide,by decide⟩,trivial,(fun h=>by cases h),fun _=>⟨by omega,by omega,⟨by omega,by omega⟩,fun h1=>⟨trivial,fun h=>?_,fun _=>⟨⟨by omega,by omega⟩,fun h3=>?_,fun h3=>?_⟩⟩,fun h1=>⟨trivial,fun h=>?_,fun _=>⟨⟨by omega,by omega⟩,fun h3=>?_,fun h3=>?_⟩⟩⟩⟩
 ·exfalso
  have hc:=cy h
  have h4:=of_decide_eq_true h1
  subst hc
  simp at h4
  grind
 ·refine ⟨⟨(if y < 0 then -y else y),(if x < 0 then -x else x),1,decide ((if x < 0 then -x else x) < (if y < 0 then -y else y))⟩,?_,by simp⟩
  simp only [phi1]
  rw [if_pos (of_decide_eq_true h3)]
  exact ⟨trivial,by rw [if_pos h1],by rw [if_pos h1],rfl⟩
 ·refine ⟨⟨(if y < 0 then -y else y),(if x < 0 then -x else x),e,decide ((if x < 0 then -x else x) < (if y < 0 then -y else y))⟩,?_,by simp⟩
  simp only [phi1]
  rw [if_neg (of_decide_eq_false h3)]
  exact ⟨trivial,by rw [if_pos h1],by rw [if_pos h1],rfl⟩
 ·exfalso
  have hc:=cx h
  have h4:=of_decide_eq_false h1
  subst hc
  simp at h4
  grind
 ·refine ⟨⟨(if x < 0 then -x else x),(if y < 0 then -y else y),1,decide ((if x < 0 then -x else x) < (if y < 0 then -y else y))⟩,?_,by simp⟩
  simp only [phi1]
  rw [if_pos (of_decide_eq_true h3)]
  exact ⟨trivial,by rw [if_neg (Bool.eq_false_iff.1 h1)],by rw [if_neg (Bool.eq_false_iff.1 h1)],rfl⟩
 ·refine ⟨⟨(if x < 0 then -x else x),(if y < 0 then -y else y),e,decide ((if x < 0 then -x else x) < (if y < 0 then -y else y))⟩,?_,by simp⟩
  simp only [phi1]
  rw [if_neg (of_decide_eq_false h3)]
  exact ⟨trivial,by rw [if_neg (Bool.eq_false_iff.1 h1)],by rw [if_neg (Bool.eq_false_iff.1 h1)],rfl⟩
def kunit21 (v:U1):=((((((1:Int):Rat))+(((((((v.Y)) / ((v.X)))))*(((((v.Y)) / ((v.X))))))))))
def kunit22 (v:U1):=((((v.e))*Rat.divInt 1 ((8:Int))))
def kunit20 (v:U1):=(smp (((((((((((v.Y)) / ((v.X))))) / ((((((1:Int):Rat))+((encLo (kunit21 v) (kunit22 v))))))))) - ((((v.e))*Rat.divInt 1 2))))) (((((((((((v.Y)) / ((v.X))))) / ((((((1:Int):Rat))+((encHi (kunit21 v) (kunit22 v)))))))))+((((v.e))*Rat.divInt 1 2))))))
set_option maxHeartbeats 4000000 in
theorem unit2 (x y e:Rat) (v:U1) (hp:0 < e/\(x ≠ 0 \/ y ≠ 0)/\szR x <= 10/\szR y <= 10/\szR e <= 10/\Rat.divInt 1 8192 <= e) (h:phi1 x y e v):awpC LT8 KT7 [] (phi2 x y e) (fun u:U2=>(⟨[.u,.u,.k (.c (.bx 0 0)),.u,.k (.c (.bx 2 0)),.k (.c (.v (.int .i64 ((0:Int))))),.u,.u,.u,.k (.c (.v (.bool ((u.w))))),.u,.u,.u,.u,.u,.u,.u,.u,.u,.u,.u,.k (.c (.bx 13 0)),.u,.k (.c (.bx 14 0)),.u,.u,.u,.u,.u,.u,.u,.u,.u,.u,.u,.u,.u,.u,.u,.u,.u,.u,.u,.u,.u,.u,.u,.u,.u,.u,.u,.u,.u,.u,.u,.u,.u,.u,.u,.u,.u,.u,.u,.u,.u,.u,.u,.u,.u,.u,.u,.u,.u,.u,.u,.u,.u,.u,.u,.u,.u,.u,.u,.u,.u,.u,.u,.u,.u,.u,.u,.u,.u,.u,.u,.u,.u,.u,.u,.u,.u,.u,.u,.u,.u,.u,.u,.u,.u,.u,.u,.u,.u,.u,.u,.u,.u,.u,.u,.u,.u,.u,.u,.u,.u,.u,.u,.u,.u,.u,.u,.u,.u,.u,.u,.u,.u,.u],[⟨34,[.R (x),.R (y)]⟩,⟨32,[.R ((u.e))]⟩,⟨34,[.v (.bool (false)),.sl (([]:List Nat)),.v (.bool (false)),.sl (([]:List Nat)),.v (.bool (false)),.sl (([]:List Nat)),.v (.bool (false)),.sl (([]:List Nat))]⟩,⟨32,[.R (((1:Int):Rat))]⟩,⟨32,[.R ((u.X))]⟩,⟨32,[.R ((u.Y))]⟩,⟨32,[.R ((u.s))]⟩,⟨32,[.R ((u.lo))]⟩,⟨32,[.R ((u.hi))]⟩,⟨32,[.R ((u.le))]⟩,⟨32,[.R ((u.mo))]⟩,⟨32,[.R ((u.t))]⟩,⟨32,[.R ((u.q))]⟩,⟨32,[.R ((u.a))]⟩,⟨32,[.R ((u.b))]⟩]⟩:St)) (QresE LT8 Tryz.f7 (phiU x y e) (fun u=>.t [.g [.R u.1,.R u.2],.c (.v (.int .i64 (0:Int)))])) 8 (restC 8 (Tryz.f7.body.getD .skip)) (⟨[.u,.u,.k (.c (.bx 0 0)),.k (.c (.bx 1 0)),.k (.c (.bx 2 0)),.k (.c (.v (.int .i64 ((0:Int))))),.k (.c (.bx 3 0)),.k (.c (.bx 4 0)),.k (.c (.bx 5 0)),.k (.c (.v (.bool ((v.w))))),.u,.u,.u,.u,.u,.u,.u,.u,.u,.u,.u,.u,.u,.u,.u,.u,.u,.u,.u,.u,.u,.u,.u,.u,.u,.u,.u,.u,.u,.u,.u,.u,.u,.u,.u,.u,.u,.u,.u,.u,.u,.u,.u,.u,.u,.u,.u,.u,.u,.u,.u,.u,.u,.u,.u,.u,.u,.u,.u,.u,.u,.u,.u,.u,.u,.u,.u,.u,.u,.u,.u,.u,.u,.u,.u,.u,.u,.u,.u,.u,.u,.u,.u,.u,.u,.u,.u,.u,.u,.u,.u,.u,.u,.u,.u,.u,.u,.u,.u,.u,.u,.u,.u,.u,.u,.u,.u,.u,.u,.u,.u,.u,.u,.u,.u,.u,.u,.u,.u,.u,.u,.u,.u,.u,.u,.u,.u,.u],[⟨34,[.R (x),.R (y)]⟩,⟨32,[.R ((v.e))]⟩,⟨34,[.v (.bool (false)),.sl (([]:List Nat)),.v (.bool (false)),.sl (([]:List Nat)),.v (.bool (false)),.sl (([]:List Nat)),.v (.bool (false)),.sl (([]:List Nat))]⟩,⟨32,[.R (((1:Int):Rat))]⟩,⟨32,[.R ((v.X))]⟩,⟨32,[.R ((v.Y))]⟩]⟩:St):=by
 refine Eq.mp (show ((v.X ≠ 0/\szR v.Y <= 1000000/\szR v.X <= 1000000)/\((szR (v.Y / v.X) <= 1000000/\szR (v.Y / v.X) <= 1000000)/\((szR ((1:Int):Rat) <= 1000000/\szR ((v.Y / v.X)*(v.Y / v.X)) <= 1000000)/\((((8:Int) ≠ 0/\-9223372036854775808 <= (8:Int)/\(8:Int) <= 9223372036854775807)/\szR v.e <= 100000)/\(((0 < (kunit21 v)/\szR (kunit21 v) <= 900)/\(szR (kunit22 v) <= 900/\Rat.divInt 1 65536 <= (kunit22 v)))/\((szR ((1:Int):Rat) <= 1000000/\szR (encHi (kunit21 v) (kunit22 v)) <= 1000000)/\(((((1:Int):Rat)+(encHi (kunit21 v) (kunit22 v))) ≠ 0/\szR (v.Y / v.X) <= 1000000/\szR (((1:Int):Rat)+(encHi (kunit21 v) (kunit22 v))) <= 1000000)/\((szR ((1:Int):Rat) <= 1000000/\szR (encLo (kunit21 v) (kunit22 v)) <= 1000000)/\(((((1:Int):Rat)+(encLo (kunit21 v) (kunit22 v))) ≠ 0/\szR (v.Y / v.X) <= 1000000/\szR (((1:Int):Rat)+(encLo (kunit21 v) (kunit22 v))) <= 1000000)/\((szR v.e <= 100000)/\((szR ((v.Y / v.X) / (((1:Int):Rat)+(encLo (kunit21 v) (kunit22 v)))) <= 1000000/\szR (v.e*Rat.divInt 1 2) <= 1000000)/\((szR v.e <= 100000)/\((szR ((v.Y / v.X) / (((1:Int):Rat)+(encHi (kunit21 v) (kunit22 v)))) <= 1000000/\szR (v.e*Rat.divInt 1 2) <= 1000000)/\(((((v.Y / v.X) / (((1:Int):Rat)+(encLo (kunit21 v) (kunit22 v)))) - (v.e*Rat.divInt 1 2)) < (((v.Y / v.X) / (((1:Int):Rat)+(encHi (kunit21 v) (kunit22 v))))+(v.e*Rat.divInt 1 2))/\szR (((v.Y / v.X) / (((1:Int):Rat)+(encLo (kunit21 v) (kunit22 v)))) - (v.e*Rat.divInt 1 2)) <= 900/\szR (((v.Y / v.X) / (((1:Int):Rat)+(encHi (kunit21 v) (kunit22 v))))+(v.e*Rat.divInt 1 2)) <= 900)/\((szR (kunit20 v) <= 1000000/\szR (kunit20 v) <= 1000000)/\((szR ((1:Int):Rat) <= 1000000/\szR ((kunit20 v)*(kunit20 v)) <= 1000000)/\((szR ((1:Int):Rat) <= 1000000/\szR ((kunit20 v)*(kunit20 v)) <= 1000000)/\(((((1:Int):Rat)+((kunit20 v)*(kunit20 v))) ≠ 0/\szR (((1:Int):Rat) - ((kunit20 v)*(kunit20 v))) <= 1000000/\szR (((1:Int):Rat)+((kunit20 v)*(kunit20 v))) <= 1000000)/\((szR (kunit20 v) <= 1000000/\szR (kunit20 v) <= 1000000)/\((szR ((1:Int):Rat) <= 1000000/\szR ((kunit20 v)*(kunit20 v)) <= 1000000)/\(((((1:Int):Rat)+((kunit20 v)*(kunit20 v))) ≠ 0/\szR ((kunit20 v)+(kunit20 v)) <= 1000000/\szR (((1:Int):Rat)+((kunit20 v)*(kunit20 v))) <= 1000000)/\(∃ u2:U2,((phi2 x y e u2)/\((True/\(True/\((Value.int .i64 (0:Int)=(.int .i64 (0:Int)))/\((Value.bool v.w=(.bool u2.w))/\(True/\(True/\True))))))/\(((x=x)/\((y=y)/\True))/\(((v.e=u2.e)/\True)/\(((Value.bool false=(.bool false))/\((([]:List Nat)=([]:List Nat))/\((Value.bool false=(.bool false))/\((([]:List Nat)=([]:List Nat))/\((Value.bool false=(.bool false))/\((([]:List Nat)=([]:List Nat))/\((Value.bool false=(.bool false))/\((([]:List Nat)=([]:List Nat))/\True))))))))/\(((((1:Int):Rat)=((1:Int):Rat))/\True)/\(((v.X=u2.X)/\True)/\(((v.Y=u2.Y)/\True)/\((((v.Y / v.X)=u2.s)/\True)/\((((encLo (kunit21 v) (kunit22 v))=u2.lo)/\True)/\((((encHi (kunit21 v) (kunit22 v))=u2.hi)/\True)/\(((((v.Y / v.X) / (((1:Int):Rat)+(encHi (kunit21 v) (kunit22 v))))=u2.le)/\True)/\(((((v.Y / v.X) / (((1:Int):Rat)+(encLo (kunit21 v) (kunit22 v))))=u2.mo)/\True)/\((((kunit20 v)=u2.t)/\True)/\(((((kunit20 v)*(kunit20 v))=u2.q)/\True)/\(((((((1:Int):Rat) - ((kunit20 v)*(kunit20 v))) / (((1:Int):Rat)+((kunit20 v)*(kunit20 v))))=u2.a)/\True)/\((((((kunit20 v)+(kunit20 v)) / (((1:Int):Rat)+((kunit20 v)*(kunit20 v))))=u2.b)/\True)/\True)))))))))))))))))))))))))))))))))))))))=_ by kernel_rfl) ?_
 delta kunit20
 delta kunit22
 delta kunit21
 obtain ⟨hpe,hxy,hx,hy,hs,hb⟩:=hp
 have hk:=h
 obtain ⟨h1,h2,h3,h4⟩:=h
 obtain ⟨X,Y,e',w⟩:=v
 simp only at h1 h2 h3 h4 ⊢
 obtain ⟨a1,a2,a3⟩:=abs_cases x
 obtain ⟨b1,b2,b3⟩:=abs_cases y
 have o1:=sz1
 have o2:=sz_half
 have o3:=sz_eighth
 have pX:0 < X/\0 <= Y/\Y <= X/\szR X <= 10/\szR Y <= 10:=by
  cases w with
  | true =>
    rw [if_pos rfl] at h2 h3
    have:=of_decide_eq_true h1.symm
    subst h2 h3
    exact ⟨by grind,by grind,by grind,by omega,by omega⟩
  | false =>
    rw [if_neg (by decide)] at h2 h3
    have:=of_decide_eq_false h1.symm
    subst h2 h3
    exact ⟨by grind,by grind,by grind,by omega,by omega⟩
 obtain ⟨p0,p1,p2,p3,p4⟩:=pX
 have he:0 < e'/\e' <= 1/\Rat.divInt 1 8192 <= e'/\szR e' <= 10:=by
  rw [h4]
  have:Rat.divInt 1 8192 <= 1:=by decide +kernel
  split
  ·exact ⟨by decide,Rat.le_refl,this,by omega⟩
  ·exact ⟨hpe,by grind,hb,hs⟩
 obtain ⟨e0,e1,e2,e3⟩:=he
 have hn:X ≠ 0:=by grind
 have c1:=szR_div2 Y X hn
 have hY:Y / X*X=Y:=Rat.div_mul_cancel hn
 have s0:0 <= Y / X:=by
  apply Rat.not_lt.1
  intro hc
  have:=Rat.mul_lt_mul_of_pos_right hc p0
  grind
 have s1:Y / X <= 1:=by
  apply Rat.not_lt.1
  intro hc
  have:=Rat.mul_lt_mul_of_pos_right hc p0
  grind
 rw [show ((1:Int):Rat)=1 from rfl]
 have plain:=fun low high t (hh:Rt.Half (Y / X) e' low high t)=>Rt.unit_plain (x:=X) (y:=Y) p0 rfl hh rfl rfl
 generalize hs:Y / X=s at *
 have c2:=szR_mul2 s s
 have c3:=szR_add2 1 (s*s)
 have q1:1 <= 1+s*s:=by have:=Rt.sq_nonneg s; grind
 have c4:=szR_mul2 e' (Rat.divInt 1 ((8:Int)))
 have c5:=szR_mul2 e' (Rat.divInt 1 2)
 have w1:Rat.divInt 1 65536 <= e'*Rat.divInt 1 ((8:Int)):=by rw [eighth_d,d65536]; rw [d8192] at e2; grind
 have w2:=enc_w (q:=1+s*s) w1
 obtain ⟨⟨l1,l2⟩,⟨g1,g2⟩,_⟩:=enc_spec (q:=1+s*s) (w:=e'*Rat.divInt 1 ((8:Int))) q1
 obtain ⟨c6,c7⟩:=szR_enc (q:=1+s*s) (w:=e'*Rat.divInt 1 ((8:Int))) (by grind)
 have gp:=gap s0 s1 l1 g1 w2 e0
 generalize hlo:encLo (1+s*s) (e'*Rat.divInt 1 ((8:Int)))=lo at *
 generalize hhi:encHi (1+s*s) (e'*Rat.divInt 1 ((8:Int)))=hi at *
 have c8:=szR_add2 1 lo
 have c9:=szR_add2 1 hi
 have n1:1+lo ≠ 0:=by grind
 have n2:1+hi ≠ 0:=by grind
 have c10:=szR_div2 s (1+lo) n1
 have c11:=szR_div2 s (1+hi) n2
 have c12:=szR_sub2 (s / (1+lo)) (e'*Rat.divInt 1 2)
 have c13:=szR_add2 (s / (1+hi)) (e'*Rat.divInt 1 2)
 have c14:=szR_smp gp
 obtain ⟨t1,t2⟩:=smp_spec gp
 have hf:Rt.Half s e' lo hi (smp (s / (1+lo) - e'*Rat.divInt 1 2) (s / (1+hi)+e'*Rat.divInt 1 2)):=by
  rw [show e'*Rat.divInt 1 2=e' / 2 from by rw [half_d]; grind] at t1 t2 ⊢
  exact ⟨s0,s1,e0,e1,l1,l2,g1,g2,t1,t2⟩
 have pl:=plain lo hi _ hf
 generalize hw8:e'*Rat.divInt 1 ((8:Int))=w8 at *
 generalize hq:1+s*s=q at *
 generalize hh2:e'*Rat.divInt 1 2=h2' at *
 generalize hmo:s / (1+lo)=mo at *
 generalize hle:s / (1+hi)=le at *
 generalize ht:smp (mo - h2') (le+h2')=t at *
 have c15:=szR_mul2 t t
 have c16:=szR_add2 1 (t*t)
 have c17:=szR_sub2 1 (t*t)
 have c18:=szR_add2 t t
 have n3:1+t*t ≠ 0:=by have:=Rt.sq_nonneg t; grind
 have c19:=szR_div2 (1 - t*t) (1+t*t) n3
 have c20:=szR_div2 (t+t) (1+t*t) n3
 have q0:0 < q:=by grind
 refine ⟨⟨hn,by omega,by omega⟩,⟨by omega,by omega⟩,⟨by omega,by omega⟩,⟨⟨by decide,by decide,by decide⟩,by omega⟩,⟨⟨q0,by omega⟩,by omega,w1⟩,⟨by omega,by omega⟩,⟨n2,by omega,by omega⟩,⟨by omega,by omega⟩,⟨n1,by omega,by omega⟩,by omega,⟨by omega,by omega⟩,by omega,⟨by omega,by omega⟩,⟨gp,by omega,by omega⟩,⟨by omega,by omega⟩,⟨by omega,by omega⟩,⟨by omega,by omega⟩,⟨n3,by omega,by omega⟩,⟨by omega,by omega⟩,⟨by omega,by omega⟩,⟨n3,by omega,by omega⟩,⟨X,Y,e',w,s,lo,hi,le,mo,t,t*t,(1 - t*t) / (1+t*t),(t+t) / (1+t*t)⟩,⟨hk,pl,by simp only; omega,by simp only; omega⟩,?_⟩
 simp only [and_self]
set_option maxHeartbeats 4000000 in
theorem unit3 (x y e:Rat) (v:U2) (hp:0 < e/\(x ≠ 0 \/ y ≠ 0)/\szR x <= 10/\szR y <= 10/\szR e <= 10/\Rat.divInt 1 8192 <= e) (h:phi2 x y e v):awp LT8 KT7 [] (restC 8 (restC 8 (Tryz.f7.body.getD .skip))) (⟨[.u,.u,.k (.c (.bx 0 0)),.u,.k (.c (.bx 2 0)),.k (.c (.v (.int .i64 ((0:Int))))),.u,.u,.u,.k (.c (.v (.bool ((v.w))))),.u,.u,.u,.u,.u,.u,.u,.u,.u,.u,.u,.k (.c (.bx 13 0)),.u,.k (.c (.bx 14 0)),.u,.u,.u,.u,.u,.u,.u,.u,.u,.u,.u,.u,.u,.u,.u,.u,.u,.u,.u,.u,.u,.u,.u,.u,.u,.u,.u,.u,.u,.u,.u,.u,.u,.u,.u,.u,.u,.u,.u,.u,.u,.u,.u,.u,.u,.u,.u,.u,.u,.u,.u,.u,.u,.u,.u,.u,.u,.u,.u,.u,.u,.u,.u,.u,.u,.u,.u,.u,.u,.u,.u,.u,.u,.u,.u,.u,.u,.u,.u,.u,.u,.u,.u,.u,.u,.u,.u,.u,.u,.u,.u,.u,.u,.u,.u,.u,.u,.u,.u,.u,.u,.u,.u,.u,.u,.u,.u,.u,.u,.u,.u,.u,.u,.u],[⟨34,[.R (x),.R (y)]⟩,⟨32,[.R ((v.e))]⟩,⟨34,[.v (.bool (false)),.sl (([]:List Nat)),.v (.bool (false)),.sl (([]:List Nat)),.v (.bool (false)),.sl (([]:List Nat)),.v (.bool (false)),.sl (([]:List Nat))]⟩,⟨32,[.R (((1:Int):Rat))]⟩,⟨32,[.R ((v.X))]⟩,⟨32,[.R ((v.Y))]⟩,⟨32,[.R ((v.s))]⟩,⟨32,[.R ((v.lo))]⟩,⟨32,[.R ((v.hi))]⟩,⟨32,[.R ((v.le))]⟩,⟨32,[.R ((v.mo))]⟩,⟨32,[.R ((v.t))]⟩,⟨32,[.R ((v.q))]⟩,⟨32,[.R ((v.a))]⟩,⟨32,[.R ((v.b))]⟩]⟩:St) (QresE LT8 Tryz.f7 (phiU x y e) (fun u=>.t [.g [.R u.1,.R u.2],.c (.v (.int .i64 (0:Int)))])):=by
 refine Eq.mp (show ((v.w=true->(True/\(((decide ((Rt.sg x) < (0:Int)))=true->((szR v.b <= 5000000)/\(True/\(((decide ((Rt.sg y) < (0:Int)))=true->((szR v.a <= 5000000)/\(∃ u:Rat × Rat,((phiU x y e u)/\((((-v.b)=u.1)/\(((-v.a)=u.2)/\True))/\((Value.int .i64 (0:Int)=(.int .i64 (0:Int)))/\True))))))/\((decide ((Rt.sg y) < (0:Int)))=false->(∃ u:Rat × Rat,((phiU x y e u)/\((((-v.b)=u.1)/\((v.a=u.2)/\True))/\((Value.int .i64 (0:Int)=(.int .i64 (0:Int)))/\True)))))))))/\((decide ((Rt.sg x) < (0:Int)))=false->(True/\(((decide ((Rt.sg y) < (0:Int)))=true->((szR v.a <= 5000000)/\(∃ u:Rat × Rat,((phiU x y e u)/\(((v.b=u.1)/\(((-v.a)=u.2)/\True))/\((Value.int .i64 (0:Int)=(.int .i64 (0:Int)))/\True))))))/\((decide ((Rt.sg y) < (0:Int)))=false->(∃ u:Rat × Rat,((phiU x y e u)/\(((v.b=u.1)/\((v.a=u.2)/\True))/\((Value.int .i64 (0:Int)=(.int .i64 (0:Int)))/\True)))))))))))/\(v.w=false->(True/\(((decide ((Rt.sg x) < (0:Int)))=true->((szR v.a <= 5000000)/\(True/\(((decide ((Rt.sg y) < (0:Int)))=true->((szR v.b <= 5000000)/\(∃ u:Rat × Rat,((phiU x y e u)/\((((-v.a)=u.1)/\(((-v.b)=u.2)/\True))/\((Value.int .i64 (0:Int)=(.int .i64 (0:Int)))/\True))))))/\((decide ((Rt.sg y) < (0:Int)))=false->(∃ u:Rat × Rat,((phiU x y e u)/\((((-v.a)=u.1)/\((v.b=u.2)/\True))/\((Value.int .i64 (0:Int)=(.int .i64 (0:Int)))/\True)))))))))/\((decide ((Rt.sg x) < (0:Int)))=false->(True/\(((decide ((Rt.sg y) < (0:Int)))=true->((szR v.b <= 5000000)/\(∃ u:Rat × Rat,((phiU x y e u)/\(((v.a=u.1)/\(((-v.b)=u.2)/\True))/\((Value.int .i64 (0:Int)=(.int .i64 (0:Int)))/\True))))))/\((decide ((Rt.sg y) < (0:Int)))=false->(∃ u:Rat × Rat,((phiU x y e u)/\(((v.a=u.1)/\((v.b=u.2)/\True))/\((Value.int .i64 (0:Int)=(.int .i64 (0:Int)))/\True))))))))))))=_ by kernel_rfl) ?_
 obtain ⟨⟨hw,hX,hY,he⟩,⟨h1,h2,h3⟩,ha,hb⟩:=h
 obtain ⟨hpe,hxy,hx,hy,hs,hbe⟩:=hp
 obtain ⟨X,Y,e',w,s,lo,hi,le,mo,t,q,a,b⟩:=v
 simp only at hw hX hY he h1 h2 h3 ha hb ⊢
 have he1:0 < e'/\e' <= e:=by
  rw [he]
  split
  ·exact ⟨by decide,by grind⟩
  ·exact ⟨hpe,Rat.le_refl⟩
 have hee:=sq_le he1.1 he1.2
 have hn:0 <= X*X+Y*Y:=by have:=Rt.sq_nonneg X; have:=Rt.sq_nonneg Y; grind
 have h4:(a*Y - b*X)*(a*Y - b*X) <= e*e*(X*X+Y*Y):=Rat.le_trans h3 (Rat.mul_le_mul_of_nonneg_right hee hn)
 have na:=szR_neg a
 have nb:=szR_neg b
 clear h3 hee hn he hs hbe hx hy
 have dx:decide (Rt.sg x < (0:Int))=decide (x < 0):=decide_eq_decide.2 Rt.sg_neg
 have dy:decide (Rt.sg y < (0:Int))=decide (y < 0):=decide_eq_decide.2 Rt.sg_neg
 simp only [dx,dy]
 refine ⟨fun hw1=>⟨trivial,fun h5=>⟨by omega,trivial,fun h6=>⟨by omega,⟨_,_⟩,?_,⟨rfl,rfl,trivial⟩,trivial,trivial⟩,fun h6=>⟨⟨_,_⟩,?_,⟨rfl,rfl,trivial⟩,trivial,trivial⟩⟩,fun h5=>⟨trivial,fun h6=>⟨by omega,⟨_,_⟩,?_,⟨rfl,rfl,trivial⟩,trivial,trivial⟩,fun h6=>⟨⟨_,_⟩,?_,⟨rfl,rfl,trivial⟩,trivial,trivial⟩⟩⟩,fun hw1=>⟨trivial,fun h5=>⟨by omega,trivial,fun h6=>⟨by omega,⟨_,_⟩,?_,⟨rfl,rfl,trivial⟩,trivial,trivial⟩,fun h6=>⟨⟨_,_⟩,?_,⟨rfl,rfl,trivial⟩,trivial,trivial⟩⟩,fun h5=>⟨trivial,fun h6=>⟨by omega,⟨_,_⟩,?_,⟨rfl,rfl,trivial⟩,trivial,trivial⟩,fun h6=>⟨⟨_,_⟩,?_,⟨rfl,rfl,trivial⟩,trivial,trivial⟩⟩⟩⟩
 all_goals
  subst hw1
  clear hw
  simp only [decide_eq_true_eq,decide_eq_false_iff_not,if_true,Bool.false_eq_true,if_false] at h5 h6 hX hY
  simp only [h5,h6,if_true,if_false] at hX hY
  subst hX hY
  unfold phiU
  refine ⟨by simp only; grind,by simp only; grind,?_,by simp only; omega,by simp only; omega⟩
  simp only
  refine Rat.le_trans (rle ?_) (Rat.le_trans h4 (rle ?_)) <;> grind
end Vc
end Go.Proofs.YtkdjilgddbjcaaaGreat
namespace Go.Proofs.YtkdjilgddbjcaaaGreat
open Go.RowKit
namespace Vc
attribute [local irreducible] owes awpC awp
def kunitN0 (x:Rat) (y:Rat):=(((Rt.sg (((if (x) < 0 then -(x) else (x))) - ((if (y) < 0 then -(y) else (y)))))))
set_option maxHeartbeats 4000000 in
theorem unitN (x y e:Rat) (hp:e <= 0):awpC LT8 KT7 [] (fun _:U1=>False) (fun u:U1=>(⟨[.u,.u,.k (.c (.bx 0 0)),.k (.c (.bx 1 0)),.k (.c (.bx 2 0)),.k (.c (.v (.int .i64 ((0:Int))))),.k (.c (.bx 3 0)),.k (.c (.bx 4 0)),.k (.c (.bx 5 0)),.k (.c (.v (.bool ((u.w))))),.u,.u,.u,.u,.u,.u,.u,.u,.u,.u,.u,.u,.u,.u,.u,.u,.u,.u,.u,.u,.u,.u,.u,.u,.u,.u,.u,.u,.u,.u,.u,.u,.u,.u,.u,.u,.u,.u,.u,.u,.u,.u,.u,.u,.u,.u,.u,.u,.u,.u,.u,.u,.u,.u,.u,.u,.u,.u,.u,.u,.u,.u,.u,.u,.u,.u,.u,.u,.u,.u,.u,.u,.u,.u,.u,.u,.u,.u,.u,.u,.u,.u,.u,.u,.u,.u,.u,.u,.u,.u,.u,.u,.u,.u,.u,.u,.u,.u,.u,.u,.u,.u,.u,.u,.u,.u,.u,.u,.u,.u,.u,.u,.u,.u,.u,.u,.u,.u,.u,.u,.u,.u,.u,.u,.u,.u,.u,.u],[⟨34,[.R (x),.R (y)]⟩,⟨32,[.R ((u.e))]⟩,⟨34,[.v (.bool (false)),.sl (([]:List Nat)),.v (.bool (false)),.sl (([]:List Nat)),.v (.bool (false)),.sl (([]:List Nat)),.v (.bool (false)),.sl (([]:List Nat))]⟩,⟨32,[.R (((1:Int):Rat))]⟩,⟨32,[.R ((u.X))]⟩,⟨32,[.R ((u.Y))]⟩]⟩:St)) (QresE LT8 Tryz.f7 (fun _:Unit=>True) (fun _=>.t [.g [.v (.bool false),.sl [],.v (.bool false),.sl [],.v (.bool false),.sl [],.v (.bool false),.sl []],.c (.v (.int .i64 (1:Int)))])) 8 (Tryz.f7.body.getD .skip) (st0 Tryz.f7 [.g [.R x,.R y],.g [.R e]]):=by
 refine Eq.mp (show ((-9223372036854775808 <= (1:Int)/\(1:Int) <= 9223372036854775807)/\(True/\(((decide ((Rt.sg e) <= (0:Int)))=true->(∃ u:Unit,(True/\(((Value.bool false=(.bool false))/\((([]:List Nat)=([]:List Nat))/\((Value.bool false=(.bool false))/\((([]:List Nat)=([]:List Nat))/\((Value.bool false=(.bool false))/\((([]:List Nat)=([]:List Nat))/\((Value.bool false=(.bool false))/\((([]:List Nat)=([]:List Nat))/\True))))))))/\((Value.int .i64 (1:Int)=(.int .i64 (1:Int)))/\True)))))/\((decide ((Rt.sg e) <= (0:Int)))=false->((szR x <= 100000)/\((szR y <= 100000)/\((szR (if x < 0 then -x else x) <= 1000000/\szR (if y < 0 then -y else y) <= 1000000)/\(((decide ((kunitN0 x y) < (0:Int)))=true->(True/\((((Rt.sg (if y < 0 then -y else y)) == (0:Int))=true->(∃ u:Unit,(True/\(((Value.bool false=(.bool false))/\((([]:List Nat)=([]:List Nat))/\((Value.bool false=(.bool false))/\((([]:List Nat)=([]:List Nat))/\((Value.bool false=(.bool false))/\((([]:List Nat)=([]:List Nat))/\((Value.bool false=(.bool false))/\((([]:List Nat)=([]:List Nat))/\True))))))))/\((Value.int .i64 (6:Int)=(.int .i64 (1:Int)))/\True)))))/\(((Rt.sg (if y < 0 then -y else y)) == (0:Int))=false->((szR e <= 1000000/\szR ((1:Int):Rat) <= 1000000)/\(((decide ((Rt.sg (e - ((1:Int):Rat))) > (0:Int)))=true->(∃ u1:U1,(False/\((True/\(True/\(True/\((Value.int .i64 (0:Int)=(.int .i64 (0:Int)))/\(True/\(True/\(True/\((Value.bool (decide ((kunitN0 x y) < (0:Int)))=(.bool u1.w))/\True))))))))/\(((x=x)/\((y=y)/\True))/\(((((1:Int):Rat)=u1.e)/\True)/\(((Value.bool false=(.bool false))/\((([]:List Nat)=([]:List Nat))/\((Value.bool false=(.bool false))/\((([]:List Nat)=([]:List Nat))/\((Value.bool false=(.bool false))/\((([]:List Nat)=([]:List Nat))/\((Value.bool false=(.bool false))/\((([]:List Nat)=([]:List Nat))/\True))))))))/\(((((1:Int):Rat)=((1:Int):Rat))/\True)/\((((if y < 0 then -y else y)=u1.X)/\True)/\((((if x < 0 then -x else x)=u1.Y)/\True)/\True))))))))))/\((decide ((Rt.sg (e - ((1:Int):Rat))) > (0:Int)))=false->(∃ u1:U1,(False/\((True/\(True/\(True/\((Value.int .i64 (0:Int)=(.int .i64 (0:Int)))/\(True/\(True/\(True/\((Value.bool (decide ((kunitN0 x y) < (0:Int)))=(.bool u1.w))/\True))))))))/\(((x=x)/\((y=y)/\True))/\(((e=u1.e)/\True)/\(((Value.bool false=(.bool false))/\((([]:List Nat)=([]:List Nat))/\((Value.bool false=(.bool false))/\((([]:List Nat)=([]:List Nat))/\((Value.bool false=(.bool false))/\((([]:List Nat)=([]:List Nat))/\((Value.bool false=(.bool false))/\((([]:List Nat)=([]:List Nat))/\True))))))))/\(((((1:Int):Rat)=((1:Int):Rat))/\True)/\((((if y < 0 then -y else y)=u1.X)/\True)/\((((if x < 0 then -x else x)=u1.Y)/\True)/\True))))))))))))))))/\((decide ((kunitN0 x y) < (0:Int)))=false->(True/\((((Rt.sg (if x < 0 then -x else x)) == (0:Int))=true->(∃ u:Unit,(True/\(((Value.bool false=(.bool false))/\((([]:List Nat)=([]:List Nat))/\((Value.bool false=(.bool false))/\((([]:List Nat)=([]:List Nat))/\((Value.bool false=(.bool false))/\((([]:List Nat)=([]:List Nat))/\((Value.bool false=(.bool false))/\((([]:List Nat)=([]:List Nat))/\True))))))))/\((Value.int .i64 (6:Int)=(.int .i64 (1:Int)))/\True)))))/\(((Rt.sg (if x < 0 then -x else x)) == (0:Int))=false->((szR e <= 1000000/\szR ((1:Int):Rat) <= 1000000)/\(((decide ((Rt.sg (e - ((1:Int):Rat))) > (0:Int)))=true->(∃ u1:U1,(False/\((True/\(True/\(True/\((Value.int .i64 (0:Int)=(.int .i64 (0:Int)))/\(True/\(True/\(True/\((Value.bool (decide ((kunitN0 x y) < (0:Int)))=(.bool u1.w))/\True))))))))/\(((x=x)/\((y=y)/\True))/\(((((1:Int):Rat)=u1.e)/\True)/\(((Value.bool false=(.bool false))/\((([]:List Nat)=([]:List Nat))/\((Value.bool false=(.bool false))/\((([]:List Nat)=([]:List Nat))/\((Value.bool false=(.bool false))/\((([]:List Nat)=([]:List Nat))/\((Value.bool false=(.bool false))/\((([]:List Nat)=([]:List Nat))/\True))))))))/\(((((1:Int):Rat)=((1:Int):Rat))/\True)/\((((if x < 0 then -x else x)=u1.X)/\True)/\((((if y < 0 then -y else y)=u1.Y)/\True)/\True))))))))))/\((decide ((Rt.sg (e - ((1:Int):Rat))) > (0:Int)))=false->(∃ u1:U1,(False/\((True/\(True/\(True/\((Value.int .i64 (0:Int)=(.int .i64 (0:Int)))/\(True/\(True/\(True/\((Value.bool (decide ((kunitN0 x y) < (0:Int)))=(.bool u1.w))/\True))))))))/\(((x=x)/\((y=y)/\True))/\(((e=u1.e)/\True)/\(((Value.bool false=(.bool false))/\((([]:List Nat)=([]:List Nat))/\((Value.bool false=(.bool false))/\((([]:List Nat)=([]:List Nat))/\((Value.bool false=(.bool false))/\((([]:List Nat)=([]:List Nat))/\((Value.bool false=(.bool false))/\((([]:List Nat)=([]:List Nat))/\True))))))))/\(((((1:Int):Rat)=((1:Int):Rat))/\True)/\((((if x < 0 then -x else x)=u1.X)/\True)/\((((if y < 0 then -y else y)=u1.Y)/\True)/\True))))))))))))))))))))))))=_ by kernel_rfl) ?_
 delta kunitN0
 have d0:decide (Rt.sg e <= (0:Int))=true:=decide_eq_true (Rt.sg_le.2 hp)
 refine ⟨⟨by decide,by decide⟩,trivial,fun _=>⟨(),trivial,⟨rfl,rfl,rfl,rfl,rfl,rfl,rfl,rfl,trivial⟩,rfl,trivial⟩,fun h=>?_⟩
 rw [d0] at h
 cases h
def kunitO0 (x:Rat) (y:Rat):=(((Rt.sg (((if (x) < 0 then -(x) else (x))) - ((if (y) < 0 then -(y) else (y)))))))
set_option maxHeartbeats 4000000 in
theorem unitO (x y e:Rat) (hp:0 < e/\(x=0/\y=0)/\szR e <= 10):awpC LT8 KT7 [] (fun _:U1=>False) (fun u:U1=>(⟨[.u,.u,.k (.c (.bx 0 0)),.k (.c (.bx 1 0)),.k (.c (.bx 2 0)),.k (.c (.v (.int .i64 ((0:Int))))),.k (.c (.bx 3 0)),.k (.c (.bx 4 0)),.k (.c (.bx 5 0)),.k (.c (.v (.bool ((u.w))))),.u,.u,.u,.u,.u,.u,.u,.u,.u,.u,.u,.u,.u,.u,.u,.u,.u,.u,.u,.u,.u,.u,.u,.u,.u,.u,.u,.u,.u,.u,.u,.u,.u,.u,.u,.u,.u,.u,.u,.u,.u,.u,.u,.u,.u,.u,.u,.u,.u,.u,.u,.u,.u,.u,.u,.u,.u,.u,.u,.u,.u,.u,.u,.u,.u,.u,.u,.u,.u,.u,.u,.u,.u,.u,.u,.u,.u,.u,.u,.u,.u,.u,.u,.u,.u,.u,.u,.u,.u,.u,.u,.u,.u,.u,.u,.u,.u,.u,.u,.u,.u,.u,.u,.u,.u,.u,.u,.u,.u,.u,.u,.u,.u,.u,.u,.u,.u,.u,.u,.u,.u,.u,.u,.u,.u,.u,.u,.u],[⟨34,[.R (x),.R (y)]⟩,⟨32,[.R ((u.e))]⟩,⟨34,[.v (.bool (false)),.sl (([]:List Nat)),.v (.bool (false)),.sl (([]:List Nat)),.v (.bool (false)),.sl (([]:List Nat)),.v (.bool (false)),.sl (([]:List Nat))]⟩,⟨32,[.R (((1:Int):Rat))]⟩,⟨32,[.R ((u.X))]⟩,⟨32,[.R ((u.Y))]⟩]⟩:St)) (QresE LT8 Tryz.f7 (fun _:Unit=>True) (fun _=>.t [.g [.v (.bool false),.sl [],.v (.bool false),.sl [],.v (.bool false),.sl [],.v (.bool false),.sl []],.c (.v (.int .i64 (6:Int)))])) 8 (Tryz.f7.body.getD .skip) (st0 Tryz.f7 [.g [.R x,.R y],.g [.R e]]):=by
 refine Eq.mp (show ((-9223372036854775808 <= (1:Int)/\(1:Int) <= 9223372036854775807)/\(True/\(((decide ((Rt.sg e) <= (0:Int)))=true->(∃ u:Unit,(True/\(((Value.bool false=(.bool false))/\((([]:List Nat)=([]:List Nat))/\((Value.bool false=(.bool false))/\((([]:List Nat)=([]:List Nat))/\((Value.bool false=(.bool false))/\((([]:List Nat)=([]:List Nat))/\((Value.bool false=(.bool false))/\((([]:List Nat)=([]:List Nat))/\True))))))))/\((Value.int .i64 (1:Int)=(.int .i64 (6:Int)))/\True)))))/\((decide ((Rt.sg e) <= (0:Int)))=false->((szR x <= 100000)/\((szR y <= 100000)/\((szR (if x < 0 then -x else x) <= 1000000/\szR (if y < 0 then -y else y) <= 1000000)/\(((decide ((kunitO0 x y) < (0:Int)))=true->(True/\((((Rt.sg (if y < 0 then -y else y)) == (0:Int))=true->(∃ u:Unit,(True/\(((Value.bool false=(.bool false))/\((([]:List Nat)=([]:List Nat))/\((Value.bool false=(.bool false))/\((([]:List Nat)=([]:List Nat))/\((Value.bool false=(.bool false))/\((([]:List Nat)=([]:List Nat))/\((Value.bool false=(.bool false))/\((([]:List Nat)=([]:List Nat))/\True))))))))/\((Value.int .i64 (6:Int)=(.int .i64 (6:Int)))/\True)))))/\(((Rt.sg (if y < 0 then -y else y)) == (0:Int))=false->((szR e <= 1000000/\szR ((1:Int):Rat) <= 1000000)/\(((decide ((Rt.sg (e - ((1:Int):Rat))) > (0:Int)))=true->(∃ u1:U1,(False/\((True/\(True/\(True/\((Value.int .i64 (0:Int)=(.int .i64 (0:Int)))/\(True/\(True/\(True/\((Value.bool (decide ((kunitO0 x y) < (0:Int)))=(.bool u1.w))/\True))))))))/\(((x=x)/\((y=y)/\True))/\(((((1:Int):Rat)=u1.e)/\True)/\(((Value.bool false=(.bool false))/\((([]:List Nat)=([]:List Nat))/\((Value.bool false=(.bool false))/\((([]:List Nat)=([]:List Nat))/\((Value.bool false=(.bool false))/\((([]:List Nat)=([]:List Nat))/\((Value.bool false=(.bool false))/\((([]:List Nat)=([]:List Nat))/\True))))))))/\(((((1:Int):Rat)=((1:Int):Rat))/\True)/\((((if y < 0 then -y else y)=u1.X)/\True)/\((((if x < 0 then -x else x)=u1.Y)/\True)/\True))))))))))/\((decide ((Rt.sg (e - ((1:Int):Rat))) > (0:Int)))=false->(∃ u1:U1,(False/\((True/\(True/\(True/\((Value.int .i64 (0:Int)=(.int .i64 (0:Int)))/\(True/\(True/\(True/\((Value.bool (decide ((kunitO0 x y) < (0:Int)))=(.bool u1.w))/\True))))))))/\(((x=x)/\((y=y)/\True))/\(((e=u1.e)/\True)/\(((Value.bool false=(.bool false))/\((([]:List Nat)=([]:List Nat))/\((Value.bool false=(.bool false))/\((([]:List Nat)=([]:List Nat))/\((Value.bool false=(.bool false))/\((([]:List Nat)=([]:List Nat))/\((Value.bool false=(.bool false))/\((([]:List Nat)=([]:List Nat))/\True))))))))/\(((((1:Int):Rat)=((1:Int):Rat))/\True)/\((((if y < 0 then -y else y)=u1.X)/\True)/\((((if x < 0 then -x else x)=u1.Y)/\True)/\True))))))))))))))))/\((decide ((kunitO0 x y) < (0:Int)))=false->(True/\((((Rt.sg (if x < 0 then -x else x)) == (0:Int))=true->(∃ u:Unit,(True/\(((Value.bool false=(.bool false))/\((([]:List Nat)=([]:List Nat))/\((Value.bool false=(.bool false))/\((([]:List Nat)=([]:List Nat))/\((Value.bool false=(.bool false))/\((([]:List Nat)=([]:List Nat))/\((Value.bool false=(.bool false))/\((([]:List Nat)=([]:List Nat))/\True))))))))/\((Value.int .i64 (6:Int)=(.int .i64 (6:Int)))/\True)))))/\(((Rt.sg (if x < 0 then -x else x)) == (0:Int))=false->((szR e <= 1000000/\szR ((1:Int):Rat) <= 1000000)/\(((decide ((Rt.sg (e - ((1:Int):Rat))) > (0:Int)))=true->(∃ u1:U1,(False/\((True/\(True/\(True/\((Value.int .i64 (0:Int)=(.int .i64 (0:Int)))/\(True/\(True/\(True/\((Value.bool (decide ((kunitO0 x y) < (0:Int)))=(.bool u1.w))/\True))))))))/\(((x=x)/\((y=y)/\True))/\(((((1:Int):Rat)=u1.e)/\True)/\(((Value.bool false=(.bool false))/\((([]:List Nat)=([]:List Nat))/\((Value.bool false=(.bool false))/\((([]:List Nat)=([]:List Nat))/\((Value.bool false=(.bool false))/\((([]:List Nat)=([]:List Nat))/\((Value.bool false=(.bool false))/\((([]:List Nat)=([]:List Nat))/\True))))))))/\(((((1:Int):Rat)=((1:Int):Rat))/\True)/\((((if x < 0 then -x else x)=u1.X)/\True)/\((((if y < 0 then -y else y)=u1.Y)/\True)/\True))))))))))/\((decide ((Rt.sg (e - ((1:Int):Rat))) > (0:Int)))=false->(∃ u1:U1,(False/\((True/\(True/\(True/\((Value.int .i64 (0:Int)=(.int .i64 (0:Int)))/\(True/\(True/\(True/\((Value.bool (decide ((kunitO0 x y) < (0:Int)))=(.bool u1.w))/\True))))))))/\(((x=x)/\((y=y)/\True))/\(((e=u1.e)/\True)/\(((Value.bool false=(.bool false))/\((([]:List Nat)=([]:List Nat))/\((Value.bool false=(.bool false))/\((([]:List Nat)=([]:List Nat))/\((Value.bool false=(.bool false))/\((([]:List Nat)=([]:List Nat))/\((Value.bool false=(.bool false))/\((([]:List Nat)=([]:List Nat))/\True))))))))/\(((((1:Int):Rat)=((1:Int):Rat))/\True)/\((((if x < 0 then -x else x)=u1.X)/\True)/\((((if y < 0 then -y else y)=u1.Y)/\True)/\True))))))))))))))))))))))))=_ by kernel_rfl) ?_
 delta kunitO0
 obtain ⟨he,⟨rfl,rfl⟩,hs⟩:=hp
 have d0:decide (Rt.sg e <= (0:Int))=false:=decide_eq_false (fun h=>by have:=Rt.sg_le.1 h; grind)
 have s0:szR 0 <= 2:=by have:=szR_int 0; have:szI 0 <= 1:=szI_le (by decide); exact Nat.le_trans (szR_int 0) (by omega)
 have ea:(if (0:Rat) < 0 then -(0:Rat) else 0)=0:=if_neg (by decide)
 have ed:decide (Rt.sg ((0:Rat) - 0) < (0:Int))=false:=by decide +kernel
 have e0:(Rt.sg (0:Rat) == (0:Int))=true:=by decide +kernel
 rw [d0]
 simp only [ea,ed,e0]
 refine ⟨⟨by decide,by decide⟩,trivial,(fun h=>by cases h),fun _=>⟨by omega,by omega,⟨by omega,by omega⟩,(fun h=>by cases h),fun _=>⟨trivial,fun _=>?_,(fun h=>by cases h)⟩⟩⟩
 exact ⟨(),trivial,by simp⟩
def cUnitN:Ctr:=⟨7,fun | [.g [.R _x,.R _y],.g [.R e]]=>.yes (e <= 0) (.t [.g [.v (.bool false),.sl [],.v (.bool false),.sl [],.v (.bool false),.sl [],.v (.bool false),.sl []],.c (.v (.int .i64 (1:Int)))]) | _=>.no⟩
theorem cUnitN_ok:CtrOK Tryz.prog cUnitN:=.of (by kernel_rfl) (fun bs w xs vs pre r hr hA hG h hp=>by
 simp only [cUnitN] at h
 split at h
 ·cases h
  rename_i x y e
  refine (calls_good (P:=Tryz.prog) (body:=(Tryz.f7.body.getD .skip)) LT8_ok Tryz.func7 (by kernel_rfl) hr hA hG rfl (fun _=>rfl) (good_cut mixed LT8_ok KT7_ok (unitN x y e hp) fun v hv=>hv.elim)).mono ?_
  rintro e' w' ⟨v,h1,h2,_,_,h3⟩
  exact ⟨v,h1,h2,h3⟩
 ·cases h) (fun xs α pre φ r=>by simp only [cUnitN]; split <;> (intro h; cases h))
def cUnitO:Ctr:=⟨7,fun | [.g [.R x,.R y],.g [.R e]]=>.yes (0 < e/\(x=0/\y=0)/\szR e <= 10) (.t [.g [.v (.bool false),.sl [],.v (.bool false),.sl [],.v (.bool false),.sl [],.v (.bool false),.sl []],.c (.v (.int .i64 (6:Int)))]) | _=>.no⟩
theorem cUnitO_ok:CtrOK Tryz.prog cUnitO:=.of (by kernel_rfl) (fun bs w xs vs pre r hr hA hG h hp=>by
 simp only [cUnitO] at h
 split at h
 ·cases h
  rename_i x y e
  refine (calls_good (P:=Tryz.prog) (body:=(Tryz.f7.body.getD .skip)) LT8_ok Tryz.func7 (by kernel_rfl) hr hA hG rfl (fun _=>rfl) (good_cut mixed LT8_ok KT7_ok (unitO x y e hp) fun v hv=>hv.elim)).mono ?_
  rintro e' w' ⟨v,h1,h2,_,_,h3⟩
  exact ⟨v,h1,h2,h3⟩
 ·cases h) (fun xs α pre φ r=>by simp only [cUnitO]; split <;> (intro h; cases h))
def cUnitX:Ctr:=⟨7,fun | [.g [.R x,.R y],.g [.R e]]=>.ex (Rat × Rat) (0 < e/\(x ≠ 0 \/ y ≠ 0)/\szR x <= 10/\szR y <= 10/\szR e <= 10/\Rat.divInt 1 8192 <= e) (phiU x y e) (fun u=>.t [.g [.R u.1,.R u.2],.c (.v (.int .i64 (0:Int)))]) | _=>.no⟩
theorem cUnitX_ok:CtrOK Tryz.prog cUnitX:=.ofEx (by kernel_rfl) (fun bs w xs vs α pre φ r hr hA hG h hp=>by
 simp only [cUnitX] at h
 split at h
 ·cases h
  rename_i x y e
  exact calls_good (P:=Tryz.prog) (body:=(Tryz.f7.body.getD .skip)) LT8_ok Tryz.func7 (by kernel_rfl) hr hA hG rfl (fun _=>rfl) (good_cut mixed LT8_ok KT7_ok (unit1 x y e hp) fun v hv=>good_cut mixed LT8_ok KT7_ok (unit2 x y e v hp hv) fun v' hv'=>good_awp mixed LT8_ok KT7_ok (unit3 x y e v' hp hv') w)
 ·cases h) (fun xs pre r=>by simp only [cUnitX]; split <;> (intro h; cases h))
end Vc
end Go.Proofs.YtkdjilgddbjcaaaGreat
namespace Go.Proofs.YtkdjilgddbjcaaaGreat
open Go.RowKit
namespace Zc
inductive D8
 | d0 | d1 | d2 | d3 | d4 | d5 | d6 | d7
structure N8 (α:Type) where
 (a0 a1 a2 a3 a4 a5 a6 a7:α)
def D8.no:D8->Nat
 | .d0=>0
 | .d1=>1
 | .d2=>2
 | .d3=>3
 | .d4=>4
 | .d5=>5
 | .d6=>6
 | .d7=>7
noncomputable def D8.of (n:Nat):D8:=Nat.rec (motive:=fun _=>D8) .d0 (fun n _=>Nat.rec (motive:=fun _=>D8) .d1 (fun n _=>Nat.rec (motive:=fun _=>D8) .d2 (fun n _=>Nat.rec (motive:=fun _=>D8) .d3 (fun n _=>Nat.rec (motive:=fun _=>D8) .d4 (fun n _=>Nat.rec (motive:=fun _=>D8) .d5 (fun n _=>Nat.rec (motive:=fun _=>D8) .d6 (fun n _=>Nat.rec (motive:=fun _=>D8) .d7 (fun _ _=>.d0) n) n) n) n) n) n) n) n
theorem D8.no_of:∀ i,i < 8->(D8.of i).no=i
 | 0,_=>rfl
 | 1,_=>rfl
 | 2,_=>rfl
 | 3,_=>rfl
 | 4,_=>rfl
 | 5,_=>rfl
 | 6,_=>rfl
 | 7,_=>rfl
 | n+8,h=>absurd h (by omega)
section
variable {α:Type}
noncomputable def N8.sel (d:D8) (t:N8 α):α:=D8.rec (motive:=fun _=>N8 α->α) (fun t=>t.a0) (fun t=>t.a1) (fun t=>t.a2) (fun t=>t.a3) (fun t=>t.a4) (fun t=>t.a5) (fun t=>t.a6) (fun t=>t.a7) d t
noncomputable def N8.upd (d:D8) (x:α) (t:N8 α):N8 α:=D8.rec (motive:=fun _=>α->N8 α->N8 α) (fun x t=>N8.rec (motive:=fun _=>α->N8 α) (fun _ a1 a2 a3 a4 a5 a6 a7 x=>⟨x,a1,a2,a3,a4,a5,a6,a7⟩) t x)
 (fun x t=>N8.rec (motive:=fun _=>α->N8 α) (fun a0 _ a2 a3 a4 a5 a6 a7 x=>⟨a0,x,a2,a3,a4,a5,a6,a7⟩) t x)
 (fun x t=>N8.rec (motive:=fun _=>α->N8 α) (fun a0 a1 _ a3 a4 a5 a6 a7 x=>⟨a0,a1,x,a3,a4,a5,a6,a7⟩) t x)
 (fun x t=>N8.rec (motive:=fun _=>α->N8 α) (fun a0 a1 a2 _ a4 a5 a6 a7 x=>⟨a0,a1,a2,x,a4,a5,a6,a7⟩) t x)
 (fun x t=>N8.rec (motive:=fun _=>α->N8 α) (fun a0 a1 a2 a3 _ a5 a6 a7 x=>⟨a0,a1,a2,a3,x,a5,a6,a7⟩) t x)
 (fun x t=>N8.rec (motive:=fun _=>α->N8 α) (fun a0 a1 a2 a3 a4 _ a6 a7 x=>⟨a0,a1,a2,a3,a4,x,a6,a7⟩) t x)
 (fun x t=>N8.rec (motive:=fun _=>α->N8 α) (fun a0 a1 a2 a3 a4 a5 _ a7 x=>⟨a0,a1,a2,a3,a4,a5,x,a7⟩) t x)
 (fun x t=>N8.rec (motive:=fun _=>α->N8 α) (fun a0 a1 a2 a3 a4 a5 a6 _ x=>⟨a0,a1,a2,a3,a4,a5,a6,x⟩) t x) d x t
def N8.all (x:α):N8 α:=⟨x,x,x,x,x,x,x,x⟩
theorem N8.sel_upd (d:D8) (x:α) (t:N8 α):(t.upd d x).sel d=x:=by cases t; cases d <;> rfl
theorem N8.sel_upd_ne {d e:D8} (h:e ≠ d) (x:α) (t:N8 α):(t.upd d x).sel e=t.sel e:=by
 cases t
 cases d <;> cases e <;> first | rfl | exact absurd rfl h
theorem N8.sel_all (d:D8) (x:α):(N8.all x).sel d=x:=by cases d <;> rfl
inductive P3
 | out
 | go (a b c:D8)
noncomputable def pt3 (i:Nat):P3:=bif Nat.ble 512 i then .out else .go (D8.of (Nat.div i 64)) (D8.of (Nat.mod (Nat.div i 8) 8)) (D8.of (Nat.mod i 8))
theorem pt3_inj {i j:Nat} {a b c:D8} (h:pt3 i=.go a b c) (k:pt3 j=.go a b c):i=j:=by
 have key:∀ n,pt3 n=.go a b c->n=a.no*64+b.no*8+c.no:=fun n h=>by
  unfold pt3 at h
  cases hn:Nat.ble 512 n with
  | true=>rw [hn] at h; cases h
  | false =>
    rw [hn] at h
    have hlt:n < 512:=by
     rcases Nat.lt_or_ge n 512 with q | q
     ·exact q
     ·rw [Nat.ble_eq_true_of_le q] at hn; cases hn
    simp only [cond_false,P3.go.injEq] at h
    obtain ⟨rfl,rfl,rfl⟩:=h
    have e1:=D8.no_of (Nat.div n 64) (by show n / 64 < 8; omega)
    have e2:=D8.no_of (Nat.mod (Nat.div n 8) 8) (by show n / 8 % 8 < 8; omega)
    have e3:=D8.no_of (Nat.mod n 8) (by show n % 8 < 8; omega)
    rw [e1,e2,e3]
    show n=n / 64*64+n / 8 % 8*8+n % 8
    omega
 rw [key i h,key j k]
abbrev Fr (α:Type):=N8 (N8 (N8 (Option α)))
noncomputable def Fr.get (t:Fr α) (i:Nat):Option α:=P3.rec (motive:=fun _=>Fr α->Option α) (fun _=>none) (fun a b c t=>N8.sel c (N8.sel b (N8.sel a t))) (pt3 i) t
noncomputable def Fr.put (t:Fr α) (i:Nat) (x:Option α):Fr α:=P3.rec (motive:=fun _=>Option α->Fr α->Fr α) (fun _ t=>t) (fun a b c x t=>N8.upd a (N8.upd b (N8.upd c x (N8.sel b (N8.sel a t))) (N8.sel a t)) t) (pt3 i) x t
def Fr.mk0:Fr α:=N8.all (N8.all (N8.all none))
theorem Fr.put_ne (t:Fr α) (i j:Nat) (x:Option α) (h:j ≠ i):(Fr.put t i x).get j=t.get j:=by
 unfold Fr.get Fr.put
 cases hi:pt3 i with
 | out=>rfl
 | go a b c =>
   cases hj:pt3 j with
   | out=>rfl
   | go a' b' c' =>
     show N8.sel c' (N8.sel b' (N8.sel a' (N8.upd a _ t)))=N8.sel c' (N8.sel b' (N8.sel a' t))
     by_cases ea:a'=a
     ·subst ea
      rw [N8.sel_upd]
      by_cases eb:b'=b
      ·subst eb
       rw [N8.sel_upd]
       by_cases ec:c'=c
       ·subst ec
        exact absurd (pt3_inj hj hi) h
       ·rw [N8.sel_upd_ne ec]
      ·rw [N8.sel_upd_ne eb]
     ·rw [N8.sel_upd_ne ea]
theorem Fr.put_eq (t:Fr α) (i:Nat) (x:Option α) (y:α) (h:(Fr.put t i x).get i=some y):x=some y:=by
 unfold Fr.get Fr.put at h
 cases hi:pt3 i with
 | out=>rw [hi] at h; cases h
 | go a b c =>
   rw [hi] at h
   have h':N8.sel c (N8.sel b (N8.sel a (N8.upd a (N8.upd b (N8.upd c x (N8.sel b (N8.sel a t))) (N8.sel a t)) t)))=some y:=h
   rwa [N8.sel_upd,N8.sel_upd,N8.sel_upd] at h'
theorem Fr.mk_none (i:Nat):(Fr.mk0:Fr α).get i=none:=by
 unfold Fr.get
 cases hi:pt3 i with
 | out=>rfl
 | go a b c =>
   show N8.sel c (N8.sel b (N8.sel a (Fr.mk0:Fr α)))=none
   unfold Fr.mk0
   rw [N8.sel_all,N8.sel_all,N8.sel_all]
inductive P2
 | out
 | go (a b:D8)
noncomputable def pt2 (i:Nat):P2:=bif Nat.ble 32768 i then .out else .go (D8.of (Nat.div i 4096)) (D8.of (Nat.mod (Nat.div i 512) 8))
theorem pt2_inj {i j:Nat} {a b:D8} (h:pt2 i=.go a b) (k:pt2 j=.go a b) (e:Nat.mod i 512=Nat.mod j 512):i=j:=by
 have key:∀ n,pt2 n=.go a b->n=a.no*4096+b.no*512+Nat.mod n 512:=fun n h=>by
  unfold pt2 at h
  cases hn:Nat.ble 32768 n with
  | true=>rw [hn] at h; cases h
  | false =>
    rw [hn] at h
    have hlt:n < 32768:=by
     rcases Nat.lt_or_ge n 32768 with q | q
     ·exact q
     ·rw [Nat.ble_eq_true_of_le q] at hn; cases hn
    simp only [cond_false,P2.go.injEq] at h
    obtain ⟨rfl,rfl⟩:=h
    have e1:=D8.no_of (Nat.div n 4096) (by show n / 4096 < 8; omega)
    have e2:=D8.no_of (Nat.mod (Nat.div n 512) 8) (by show n / 512 % 8 < 8; omega)
    rw [e1,e2]
    show n=n / 4096*4096+n / 512 % 8*512+n % 512
    omega
 rw [key i h,key j k,e]
abbrev Hp (α:Type):=N8 (N8 (Fr α))
noncomputable def Hp.get (t:Hp α) (i:Nat):Option α:=P2.rec (motive:=fun _=>Nat->Hp α->Option α) (fun _ _=>none) (fun a b j t=>Fr.get (N8.sel b (N8.sel a t)) j) (pt2 i) (Nat.mod i 512) t
noncomputable def Hp.put (t:Hp α) (i:Nat) (x:Option α):Hp α:=P2.rec (motive:=fun _=>Nat->Option α->Hp α->Hp α) (fun _ _ t=>t) (fun a b j x t=>N8.upd a (N8.upd b (Fr.put (N8.sel b (N8.sel a t)) j x) (N8.sel a t)) t) (pt2 i) (Nat.mod i 512) x t
def Hp.mk0:Hp α:=N8.all (N8.all Fr.mk0)
theorem Hp.put_ne (t:Hp α) (i j:Nat) (x:Option α) (h:j ≠ i):(Hp.put t i x).get j=t.get j:=by
 unfold Hp.get Hp.put
 cases hi:pt2 i with
 | out=>rfl
 | go a b =>
   cases hj:pt2 j with
   | out=>rfl
   | go a' b' =>
     show Fr.get (N8.sel b' (N8.sel a' (N8.upd a (N8.upd b (Fr.put (N8.sel b (N8.sel a t)) (Nat.mod i 512) x) (N8.sel a t)) t))) (Nat.mod j 512)=Fr.get (N8.sel b' (N8.sel a' t)) (Nat.mod j 512)
     by_cases ea:a'=a
     ·subst ea
      rw [N8.sel_upd]
      by_cases eb:b'=b
      ·subst eb
       rw [N8.sel_upd]
       exact Fr.put_ne _ _ _ _ fun e=>h (pt2_inj hj hi e)
      ·rw [N8.sel_upd_ne eb]
     ·rw [N8.sel_upd_ne ea]
theorem Hp.put_eq (t:Hp α) (i:Nat) (x:Option α) (y:α) (h:(Hp.put t i x).get i=some y):x=some y:=by
 unfold Hp.get Hp.put at h
 cases hi:pt2 i with
 | out=>rw [hi] at h; cases h
 | go a b =>
   rw [hi] at h
   have h':Fr.get (N8.sel b (N8.sel a (N8.upd a (N8.upd b (Fr.put (N8.sel b (N8.sel a t)) (Nat.mod i 512) x) (N8.sel a t)) t))) (Nat.mod i 512)=some y:=h
   rw [N8.sel_upd,N8.sel_upd] at h'
   exact Fr.put_eq _ _ _ _ h'
theorem Hp.mk_none (i:Nat):(Hp.mk0:Hp α).get i=none:=by
 unfold Hp.get
 cases hi:pt2 i with
 | out=>rfl
 | go a b =>
   show Fr.get (N8.sel b (N8.sel a (Hp.mk0:Hp α))) _=none
   unfold Hp.mk0
   rw [N8.sel_all,N8.sel_all]
   exact Fr.mk_none _
end
end Zc
end Go.Proofs.YtkdjilgddbjcaaaGreat
namespace Go.Proofs.YtkdjilgddbjcaaaGreat
open Go.RowKit
namespace Zc
inductive Tr (α:Type)
 | l
 | n (v:Option α) (a b:Tr α)
noncomputable def Tr.get {α:Type} (t:Tr α):Nat->Option α :=
 Tr.rec (fun _=>none) (fun v _ _ ia ib i=>bif Nat.beq i 0 then v else bif Nat.beq (Nat.mod i 2) 1 then ia (Nat.div (Nat.sub i 1) 2) else ib (Nat.div (Nat.sub i 1) 2)) t
noncomputable def Tr.put {α:Type} (t:Tr α) (i:Nat) (x:Option α):Tr α :=
 Tr.rec (fun _=>.l) (fun v a b ia ib i=>bif Nat.beq i 0 then .n x a b else bif Nat.beq (Nat.mod i 2) 1 then .n v (ia (Nat.div (Nat.sub i 1) 2)) b else .n v a (ib (Nat.div (Nat.sub i 1) 2))) t i
def Tr.mk {α:Type} (x:Option α):Nat->Tr α
 | 0=>.l
 | d+1=>.n x (Tr.mk x d) (Tr.mk x d)
theorem nbeq_f {a b:Nat} (h:¬ a=b):Nat.beq a b=false:=by
 cases hb:Nat.beq a b with
 | false=>rfl
 | true=>exact absurd (Nat.eq_of_beq_eq_true hb) h
theorem nbeq_t (a:Nat):Nat.beq a a=true:=Nat.beq_refl a
section
variable {α:Type}
theorem Tr.get_l (i:Nat):(Tr.l:Tr α).get i=none:=rfl
theorem Tr.get_n (v:Option α) (a b:Tr α) (i:Nat):(Tr.n v a b).get i=if i=0 then v else if i % 2=1 then a.get ((i - 1) / 2) else b.get ((i - 1) / 2):=by
 show (bif Nat.beq i 0 then v else bif Nat.beq (Nat.mod i 2) 1 then a.get (Nat.div (Nat.sub i 1) 2) else b.get (Nat.div (Nat.sub i 1) 2))=_
 rw [show Nat.mod i 2=i % 2 from rfl,show Nat.div (Nat.sub i 1) 2=(i - 1) / 2 from rfl]
 by_cases h:i=0
 ·subst h; rfl
 ·rw [nbeq_f h,if_neg h]
  by_cases h2:i % 2=1
  ·rw [h2,if_pos rfl]; rfl
  ·rw [nbeq_f h2,if_neg h2]; rfl
theorem Tr.put_l (i:Nat) (x:Option α):(Tr.l:Tr α).put i x=Tr.l:=rfl
theorem Tr.put_n (v:Option α) (a b:Tr α) (i:Nat) (x:Option α):(Tr.n v a b).put i x=if i=0 then Tr.n x a b else if i % 2=1 then Tr.n v (a.put ((i - 1) / 2) x) b else Tr.n v a (b.put ((i - 1) / 2) x):=by
 show (bif Nat.beq i 0 then Tr.n x a b else bif Nat.beq (Nat.mod i 2) 1 then Tr.n v (a.put (Nat.div (Nat.sub i 1) 2) x) b else Tr.n v a (b.put (Nat.div (Nat.sub i 1) 2) x))=_
 rw [show Nat.mod i 2=i % 2 from rfl,show Nat.div (Nat.sub i 1) 2=(i - 1) / 2 from rfl]
 by_cases h:i=0
 ·subst h; rfl
 ·rw [nbeq_f h,if_neg h]
  by_cases h2:i % 2=1
  ·rw [h2,if_pos rfl]; rfl
  ·rw [nbeq_f h2,if_neg h2]; rfl
theorem Tr.put_ne:∀ (t:Tr α) (i j:Nat) (x:Option α),j ≠ i->(t.put i x).get j=t.get j
 | .l,_,_,_,_=>rfl
 | .n v a b,i,j,x,h=>by
   rw [Tr.put_n]
   by_cases h0:i=0
   ·rw [if_pos h0,Tr.get_n,Tr.get_n]
    have:¬ j=0:=by omega
    simp [this]
   ·rw [if_neg h0]
    by_cases h1:i % 2=1
    ·rw [if_pos h1,Tr.get_n,Tr.get_n]
     by_cases j0:j=0
     ·simp [j0]
     ·by_cases j1:j % 2=1
      ·simp only [j0,j1,if_true,if_false]
       exact Tr.put_ne a _ _ x (by omega)
      ·simp [j0,j1]
    ·rw [if_neg h1,Tr.get_n,Tr.get_n]
     by_cases j0:j=0
     ·simp [j0]
     ·by_cases j1:j % 2=1
      ·simp [j0,j1]
      ·simp only [j0,j1,if_false]
       exact Tr.put_ne b _ _ x (by omega)
theorem Tr.put_eq:∀ (t:Tr α) (i:Nat) (x:Option α) (y:α),(t.put i x).get i=some y->x=some y
 | .l,_,_,_,h=>by simp [Tr.put_l,Tr.get_l] at h
 | .n v a b,i,x,y,h=>by
   rw [Tr.put_n] at h
   by_cases h0:i=0
   ·rw [if_pos h0,Tr.get_n,if_pos h0] at h
    exact h
   ·rw [if_neg h0] at h
    by_cases h1:i % 2=1
    ·rw [if_pos h1,Tr.get_n,if_neg h0,if_pos h1] at h
     exact Tr.put_eq a _ x y h
    ·rw [if_neg h1,Tr.get_n,if_neg h0,if_neg h1] at h
     exact Tr.put_eq b _ x y h
theorem Tr.mk_none:∀ (d i:Nat),(Tr.mk (α:=α) none d).get i=none
 | 0,_=>rfl
 | d+1,i=>by
   rw [Tr.mk,Tr.get_n,Tr.mk_none d]
   simp
end
inductive LF
 | v (x:Value)
 | sl (l:List Nat)
 | I (z:Int)
 | p (k off:Nat)
 | s (k off n c sz:Nat)
 | e0
 | fn (f:Nat) (ks:List (Nat × Nat))
inductive KK
 | c (x:LF)
 | g (xs:List LF)
inductive KV
 | u
 | k (x:KK)
 | t (xs:List KK)
structure Bx where
 T:Nat
 cs:List LF
def LF.width:LF->Nat
 | .I _=>2
 | _=>1
def LF.flat:LF->List LF
 | .I z=>[.v (.bool (decide (z < 0))),.sl (Lb.limbs z.natAbs)]
 | x=>[x]
noncomputable def flats (l:List LF):List LF:=List.rec [] (fun x _ ih=>x.flat ++ ih) l
noncomputable def wid (l:List LF):Nat:=List.rec 0 (fun x _ ih=>Nat.add x.width ih) l
theorem flats_nil:flats []=[]:=rfl
theorem flats_cons (x:LF) (l:List LF):flats (x :: l)=x.flat ++ flats l:=rfl
theorem wid_cons (x:LF) (l:List LF):wid (x :: l)=x.width+wid l:=rfl
theorem flats_append:∀ a b,flats (a ++ b)=flats a ++ flats b
 | [],_=>rfl
 | x :: a,b=>by rw [List.cons_append,flats_cons,flats_cons,flats_append a b,List.append_assoc]
theorem flat_length (x:LF):x.flat.length=x.width:=by cases x <;> rfl
theorem wid_eq:∀ l,(flats l).length=wid l
 | []=>rfl
 | x :: l=>by rw [flats_cons,List.length_append,flat_length,wid_eq l,wid_cons]
abbrev BM:=Nat->Option Nat
def SzAt (w:World) (b N:Nat):Prop:=∃ (vs:Array Value) (T:TypeId),w.heap[b]?=some (.cells vs T (0,0))/\N <= vs.size
def relP (bm:BM):List (Nat × Nat)->List Value->Prop
 | [],[]=>True
 | x :: l,u :: us=>(∃ b,bm x.1=some b/\u=.pointer (some ⟨b,x.2,none⟩))/\relP bm l us
 | _,_=>False
def rel1 (bm:BM) (w:World):LF->Value->Prop
 | .v x,u=>u=x/\x.oneCell'=true
 | .sl l,u=>SlU w u l
 | .I _,_=>False
 | .p k off,u=>∃ b,bm k=some b/\u=.pointer (some ⟨b,off,none⟩)
 | .s k off n c sz,u=>∃ b c' a,bm k=some b/\u=.slice a n c'/\c <= c'/\n <= c'/\(c' ≠ 0->a=some ⟨b,off,none⟩/\SzAt w b (off+c'*sz))
 | .e0,u=>∃ a,u=.slice a 0 0
 | .fn f ks,u=>∃ us,relP bm ks us/\u=.func (.func f) #[] us.toArray
def relL (bm:BM) (w:World):List LF->List Value->Prop
 | [],[]=>True
 | x :: l,u :: us=>rel1 bm w x u/\relL bm w l us
 | _,_=>False
def relK (bm:BM) (w:World):KK->Value->Prop
 | .c x,u=>rel1 bm w x u
 | .g xs,u=>∃ us:List Value,u=.agg us.toArray/\relL bm w (flats xs) us
def relKs (bm:BM) (w:World):List KK->List Value->Prop
 | [],[]=>True
 | x :: l,u :: us=>relK bm w x u/\relKs bm w l us
 | _,_=>False
def relV (bm:BM) (w:World):KV->Value->Prop
 | .u,_=>True
 | .k x,u=>relK bm w x u
 | .t xs,u=>∃ us:List Value,u=.tuple us.toArray/\relKs bm w xs us
section
variable {bm bm':BM} {w w':World}
theorem rel1.one {x:LF} {u:Value} (h:rel1 bm w x u):u.oneCell'=true:=by
 cases x with
 | v x=>obtain ⟨rfl,h⟩:=h; exact h
 | sl l=>obtain ⟨a,c,rfl⟩:=SlU.form h; rfl
 | p k off=>obtain ⟨b,_,rfl⟩:=h; rfl
 | s k off n c sz=>obtain ⟨b,c',a,_,rfl,_⟩:=h; rfl
 | e0=>obtain ⟨a,rfl⟩:=h; rfl
 | fn f ks=>obtain ⟨us,_,rfl⟩:=h; rfl
 | I z=>exact h.elim
theorem relL.len:∀ {l:List LF} {us:List Value},relL bm w l us->l.length=us.length
 | [],[],_=>rfl
 | _ :: _,_ :: _,h=>by rw [List.length_cons,List.length_cons,relL.len h.2]
 | [],_ :: _,h=>h.elim
 | _ :: _,[],h=>h.elim
theorem relKs.len:∀ {l:List KK} {us:List Value},relKs bm w l us->l.length=us.length
 | [],[],_=>rfl
 | _ :: _,_ :: _,h=>by rw [List.length_cons,List.length_cons,relKs.len h.2]
 | [],_ :: _,h=>h.elim
 | _ :: _,[],h=>h.elim
theorem relL.append:∀ {a b:List LF} {us vs:List Value},relL bm w a us->relL bm w b vs->relL bm w (a ++ b) (us ++ vs)
 | [],_,[],_,_,h=>h
 | _ :: _,_,_ :: _,_,h,k=>⟨h.1,relL.append h.2 k⟩
 | [],_,_ :: _,_,h,_=>h.elim
 | _ :: _,_,[],_,h,_=>h.elim
theorem relL.drop:∀ {a:List LF} {us:List Value} (n:Nat),relL bm w a us->relL bm w (a.drop n) (us.drop n)
 | _,_,0,h=>h
 | [],[],_+1,_=>trivial
 | _ :: _,_ :: _,n+1,h=>relL.drop n h.2
 | [],_ :: _,_+1,h=>h.elim
 | _ :: _,[],_+1,h=>h.elim
theorem relL.take:∀ {a:List LF} {us:List Value} (n:Nat),relL bm w a us->relL bm w (a.take n) (us.take n)
 | _,_,0,_=>by simp [relL]
 | [],[],_+1,_=>trivial
 | _ :: _,_ :: _,n+1,h=>⟨h.1,relL.take n h.2⟩
 | [],_ :: _,_+1,h=>h.elim
 | _ :: _,[],_+1,h=>h.elim
theorem relL.one:∀ {a:List LF} {us:List Value},relL bm w a us->∀ u ∈ us,u.oneCell'=true
 | [],[],_,_,hu=>by cases hu
 | _ :: _,_ :: _,h,u,hu=>by
   rcases List.mem_cons.1 hu with rfl | hu
   ·exact rel1.one h.1
   ·exact relL.one h.2 u hu
 | [],_ :: _,h,_,_=>h.elim
 | _ :: _,[],h,_,_=>h.elim
theorem relKs.get:∀ {a:List KK} {us:List Value} {i:Nat} {x:KK},relKs bm w a us->a[i]?=some x->∃ u,us[i]?=some u/\relK bm w x u
 | [],[],_,_,_,hi=>by simp at hi
 | y :: _,v :: _,0,x,h,hi=>⟨v,rfl,by have e:y=x:=(by simpa using hi); subst e; exact h.1⟩
 | _ :: _,_ :: _,i+1,_,h,hi=>by
   obtain ⟨u,h1,h2⟩:=relKs.get h.2 (by simpa using hi)
   exact ⟨u,by simpa using h1,h2⟩
 | [],_ :: _,_,_,h,_=>h.elim
 | _ :: _,[],_,_,h,_=>h.elim
structure Keep (bm bm':BM) (w w':World):Prop where
 sl:∀ u l,SlU w u l->SlU w' u l
 bm:∀ (k b:Nat),bm k=some b->bm' k=some b
 sz:∀ (b N:Nat),SzAt w b N->SzAt w' b N
theorem Keep.refl (bm:BM) (w:World):Keep bm bm w w:=⟨fun _ _ h=>h,fun _ _ h=>h,fun _ _ h=>h⟩
theorem Keep.trans {a b c:BM} {x y z:World} (h:Keep a b x y) (k:Keep b c y z):Keep a c x z:=⟨fun u l e=>k.sl u l (h.sl u l e),fun i d e=>k.bm i d (h.bm i d e),fun b N e=>k.sz b N (h.sz b N e)⟩
theorem Keep.relP (h:Keep bm bm' w w'):∀ {ks:List (Nat × Nat)} {us:List Value},relP bm ks us->relP bm' ks us
 | [],[],_=>trivial
 | _ :: _,_ :: _,⟨⟨b,e1,e2⟩,k⟩=>⟨⟨b,h.bm _ _ e1,e2⟩,h.relP k⟩
 | [],_ :: _,k=>k.elim
 | _ :: _,[],k=>k.elim
theorem Keep.rel1 (h:Keep bm bm' w w'):∀ {x:LF} {u:Value},rel1 bm w x u->rel1 bm' w' x u
 | .v _,_,k=>k
 | .sl _,_,k=>h.sl _ _ k
 | .p _ _,_,⟨b,k,e⟩=>⟨b,h.bm _ _ k,e⟩
 | .s _ _ _ _ _,_,⟨b,c',a,k,e,h1,h2,h3⟩=>⟨b,c',a,h.bm _ _ k,e,h1,h2,fun hc=>⟨(h3 hc).1,h.sz _ _ (h3 hc).2⟩⟩
 | .e0,_,k=>k
 | .fn _ _,_,⟨us,k,e⟩=>⟨us,h.relP k,e⟩
 | .I _,_,k=>k
theorem Keep.relL (h:Keep bm bm' w w'):∀ {x:List LF} {u:List Value},relL bm w x u->relL bm' w' x u
 | [],[],_=>trivial
 | _ :: _,_ :: _,k=>⟨h.rel1 k.1,h.relL k.2⟩
 | [],_ :: _,k=>k.elim
 | _ :: _,[],k=>k.elim
theorem Keep.relK (h:Keep bm bm' w w'):∀ {x:KK} {u:Value},relK bm w x u->relK bm' w' x u
 | .c _,_,k=>h.rel1 k
 | .g _,_,⟨us,e,k⟩=>⟨us,e,h.relL k⟩
theorem Keep.relKs (h:Keep bm bm' w w'):∀ {x:List KK} {u:List Value},relKs bm w x u->relKs bm' w' x u
 | [],[],_=>trivial
 | _ :: _,_ :: _,k=>⟨h.relK k.1,h.relKs k.2⟩
 | [],_ :: _,k=>k.elim
 | _ :: _,[],k=>k.elim
theorem Keep.relV (h:Keep bm bm' w w'):∀ {x:KV} {u:Value},relV bm w x u->relV bm' w' x u
 | .u,_,_=>trivial
 | .k _,_,k=>h.relK k
 | .t _,_,⟨us,e,k⟩=>⟨us,e,h.relKs k⟩
end
abbrev notU:=@Vc.notU
def LF.soft:LF->Bool
 | .v (.int .u32 _)=>false
 | _=>true
noncomputable def softs (l:List LF):Bool:=List.rec true (fun x _ ih=>x.soft && ih) l
theorem softs_cons (x:LF) (l:List LF):softs (x :: l)=(x.soft && softs l):=rfl
theorem soft_rel {bm:BM} {w:World}:∀ {x:LF} {u:Value},x.soft=true->rel1 bm w x u->notU u
 | .v x,u,hs,h=>by
   obtain ⟨rfl,_⟩:=h
   intro n e
   subst e
   simp [LF.soft] at hs
 | .sl _,_,_,h=>by obtain ⟨a,c,rfl⟩:=SlU.form h; intro n e; cases e
 | .p _ _,_,_,⟨_,_,h⟩=>by subst h; intro n e; cases e
 | .s _ _ _ _ _,_,_,⟨_,_,_,_,h,_⟩=>by subst h; intro n e; cases e
 | .e0,_,_,⟨_,h⟩=>by subst h; intro n e; cases e
 | .fn _ _,_,_,⟨_,_,h⟩=>by subst h; intro n e; cases e
 | .I _,_,_,h=>h.elim
theorem flat_soft:∀ {x:LF},x.soft=true->∀ y ∈ x.flat,y.soft=true
 | .I _,_,y,hy=>by simp only [LF.flat,List.mem_cons,List.not_mem_nil,or_false] at hy; rcases hy with rfl | rfl <;> rfl
 | .v _,h,y,hy | .sl _,h,y,hy | .p _ _,h,y,hy | .s _ _ _ _ _,h,y,hy | .e0,h,y,hy | .fn _ _,h,y,hy=>by simp only [LF.flat,List.mem_singleton] at hy; subst hy; exact h
theorem softs_flat:∀ {l:List LF},softs l=true->∀ y ∈ flats l,y.soft=true
 | [],_,y,hy=>by simp [flats_nil] at hy
 | x :: l,h,y,hy=>by
   simp only [softs_cons,Bool.and_eq_true] at h
   simp only [flats_cons,List.mem_append] at hy
   rcases hy with hy | hy
   ·exact flat_soft h.1 y hy
   ·exact softs_flat h.2 y hy
theorem softs_rel {bm:BM} {w:World}:∀ {l:List LF} {us:List Value},(∀ y ∈ l,y.soft=true)->relL bm w l us->∀ u ∈ us,notU u
 | [],[],_,_,_,hu=>by cases hu
 | x :: _,_ :: _,hs,h,u,hu=>by
   rcases List.mem_cons.1 hu with rfl | hu
   ·exact soft_rel (hs x (List.mem_cons_self ..)) h.1
   ·exact softs_rel (fun y hy=>hs y (List.mem_cons_of_mem _ hy)) h.2 u hu
 | [],_ :: _,_,h,_,_=>h.elim
 | _ :: _,[],_,h,_,_=>h.elim
def BoxAt (bm:BM) (w:World) (b:Nat) (x:Bx):Prop :=
 ∃ vs rs:List Value,w.heap[b]?=some (.cells (vs ++ rs).toArray x.T (0,0))/\relL bm w (flats x.cs) vs/\∀ u ∈ vs ++ rs,notU u
def SoftAt (w:World) (b:Nat):Prop:=∃ (vs:Array Value) (T:TypeId),w.heap[b]?=some (.cells vs T (0,0))/\∀ u ∈ vs,notU u
structure Ok (H:Hp Bx) (bm:BM) (w:World):Prop where
 box:∀ k b x,bm k=some b->H.get k=some x->BoxAt bm w b x
 soft:∀ k b,bm k=some b->SoftAt w b
 inj:∀ k j b x y,bm k=some b->bm j=some b->H.get k=some x->H.get j=some y->k=j
theorem SoftAt.lt {w:World} {b:Nat} (h:SoftAt w b):b < w.heap.size:=by
 obtain ⟨vs,T,h,_⟩:=h
 rcases Nat.lt_or_ge b w.heap.size with h' | h'
 ·exact h'
 ·rw [Array.getElem?_eq_none h'] at h; cases h
structure Frame (m n:Nat) (bm:BM) (w w':World):Prop where
 le:w.heap.size <= w'.heap.size
 same:∀ b,b < w.heap.size->(∀ k,m <= k->k < n->bm k ≠ some b)->w'.heap[b]?=w.heap[b]?
 sz:∀ b N,SzAt w b N->SzAt w' b N
 soft:∀ b,SoftAt w b->SoftAt w' b
 env:w'.os=w.os/\w'.tape=w.tape/\w'.output=w.output
structure Grow (m n n':Nat) (w:World) (bm bm':BM):Prop where
 le:n <= n'
 same:∀ k,¬ (n <= k/\k < n')->bm' k=bm k
 fresh:∀ k b,n <= k->k < n'->bm' k=some b->w.heap.size <= b \/ ∃ j,m <= j/\j < n/\bm j=some b
theorem Frame.refl (m n:Nat) (bm:BM) (w:World):Frame m n bm w w:=⟨Nat.le_refl _,fun _ _ _=>rfl,fun _ _ h=>h,fun _ h=>h,rfl,rfl,rfl⟩
theorem Grow.refl (m n:Nat) (w:World) (bm:BM):Grow m n n w bm bm:=⟨Nat.le_refl _,fun _ _=>rfl,fun k b h1 h2 _=>by omega⟩
theorem Frame.mono {m m' n:Nat} {bm:BM} {w w':World} (h:Frame m' n bm w w') (hm:m <= m'):Frame m n bm w w' :=
 ⟨h.le,fun b hb hk=>h.same b hb fun k h1 h2=>hk k (by omega) h2,h.sz,h.soft,h.env⟩
theorem Grow.mono {m m' n n':Nat} {w:World} {bm bm':BM} (h:Grow m' n n' w bm bm') (hm:m <= m'):Grow m n n' w bm bm' :=
 ⟨h.le,h.same,fun k b h1 h2 h3=>(h.fresh k b h1 h2 h3).imp id fun ⟨j,g1,g2,g3⟩=>⟨j,by omega,g2,g3⟩⟩
theorem Frame.of_ext {m n:Nat} {bm:BM} {w w':World} (h:Ext w w'):Frame m n bm w w':=by
 have hs:∀ b,b < w.heap.size->w'.heap[b]?=w.heap[b]?:=fun b hb=>by
  have hx:w.heap[b]?=some w.heap[b]:=by simp [hb]
  rw [hx]
  exact heap_keep hx h
 refine ⟨h.size,fun b hb _=>hs b hb,fun b N ⟨vs,T,h1,h2⟩=>⟨vs,T,heap_keep h1 h,h2⟩,fun b ⟨vs,T,h1,h2⟩=>⟨vs,T,heap_keep h1 h,h2⟩,h.os,h.tape,h.output⟩
theorem Grow.trans {m n n1 n2:Nat} {w w1:World} {bm bm1 bm2:BM} (h:Grow m n n1 w bm bm1) (hw:w.heap.size <= w1.heap.size) (k:Grow m n1 n2 w1 bm1 bm2):Grow m n n2 w bm bm2:=by
 refine ⟨Nat.le_trans h.le k.le,fun i hi=>?_,fun i b h1 h2 hb=>?_⟩
 ·have h1:=h.le; have h2:=k.le
  rw [k.same i (by omega),h.same i (by omega)]
 ·rcases Nat.lt_or_ge i n1 with hlt | hge
  ·rw [k.same i (by omega)] at hb
   exact h.fresh i b h1 hlt hb
  ·rcases k.fresh i b hge h2 hb with h3 | ⟨j,hmj,hj,hbj⟩
   ·exact .inl (by omega)
   ·rcases Nat.lt_or_ge j n with hjn | hjn
    ·rw [h.same j (by omega)] at hbj
     exact .inr ⟨j,hmj,hjn,hbj⟩
    ·exact h.fresh j b hjn hj hbj
theorem Frame.trans {m n n1:Nat} {w w1 w2:World} {bm bm1:BM} (g:Grow m n n1 w bm bm1) (h:Frame m n bm w w1) (k:Frame m n1 bm1 w1 w2):Frame m n bm w w2:=by
 refine ⟨Nat.le_trans h.le k.le,fun b hb hn=>?_,fun b N e=>k.sz b N (h.sz b N e),fun b e=>k.soft b (h.soft b e),k.env.1.trans h.env.1,k.env.2.1.trans h.env.2.1,k.env.2.2.trans h.env.2.2⟩
 rw [k.same b (Nat.lt_of_lt_of_le hb h.le) (fun i hm hi e=>?_),h.same b hb hn]
 rcases Nat.lt_or_ge i n with hin | hin
 ·rw [g.same i (by omega)] at e
  exact hn i hm hin e
 ·rcases g.fresh i b hin hi e with h1 | ⟨j,hmj,hj,hbj⟩
  ·omega
  ·exact hn j hmj hj hbj
theorem Keep.of {m n n':Nat} {w w':World} {bm bm':BM} {H:Hp Bx} (ok:Ok H bm w) (g:Grow m n n' w bm bm') (hn:∀ k,n <= k->k < n'->bm k=none) (f:Frame m n bm w w'):Keep bm bm' w w':=by
 refine ⟨fun u l h=>?_,fun k b h=>?_,f.sz⟩
 ·rcases h.cases with ⟨rfl,a,cap,rfl,hc⟩ | ⟨h0,b,off,cap,rfl,hcap,hb,hcell⟩
  ·exact SlU.empty hc
  ·refine SlU.mk rfl hcap (fun _=>Nat.lt_of_lt_of_le hb f.le) fun i hi=>?_
   rw [<- hcell i hi]
   unfold World.cell?
   simp only
   rw [f.same b hb fun k _ _ e=>?_]
   obtain ⟨vs,T,h1,h2⟩:=ok.soft k b e
   have:=hcell i hi
   rw [Lib.cell_of_heap h1] at this
   exact h2 _ (Array.mem_of_getElem? this) _ rfl
 ·rw [g.same k fun h'=>by rw [hn k h'.1 h'.2] at h; cases h]
  exact h
end Zc
end Go.Proofs.YtkdjilgddbjcaaaGreat
