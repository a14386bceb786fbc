import Derived.Test.YtbohkigffejhoaaGreatR25
import Derived.Test.YtbohkigffejhoaaGreatR22
import Derived.Test.YtbohkigffejhoaaGreatR24
namespace Go.Proofs.YtbohkigffejhoaaGreat
open Go.RowKit
set_option maxHeartbeats 4000000
namespace Vc
attribute [local irreducible] owes a1v
def aYr (_:Bool):Prop:=True
def a3u (c d:Ux):Ux:=Ux.mk c.arc c.l c.k c.cw c.f d.t
def MeU (v:Ux):Prop:=okU v/\(v.arc=false->v.l.lb=0->a0S (a04 v.f) (a04 v.t)=0)/\a0g v.f v.t < 0
theorem aZe {v:Ux} (h:MeU v):a5C v:=fun ha hv hb=>by
 have e:=h.2.1 ha hb
 unfold a1Y a4F at hv
 rw [ha,e] at hv
 cases hv
def aFu (p_:Ux):=((((!p_.arc)=(!p_.arc))/\(((!p_.arc)=(!p_.arc))/\((!p_.arc)=(!p_.arc))))/\(((p_.arc=p_.arc)/\((p_.arc=p_.arc)/\(p_.arc=p_.arc)))/\((True/\(True/\(True/\(True/\True))))/\(True/\(True/\(True/\(True/\True)))))))
def a8Q (x2:List Ux × Nat × Nat):=(x2.1.getD (((x2.2.2:Nat):Int).toNat) dfU)
def aAb (x2:List Ux × Nat × Nat):=(decide (((x2.2.2:Nat):Int) > (0:Int)))
def a8P (x2:List Ux × Nat × Nat):=(((x2.2.2:Nat):Int) - (1:Int))
def a7v (x2:List Ux × Nat × Nat):=(x2.1.getD ((a8P x2).toNat) dfU)
def aKS (x2:List Ux × Nat × Nat):=(0 <= ((x2.2.2:Nat):Int)/\((x2.2.2:Nat):Int) < (x2.1.length:Int))
def aPr (x2:List Ux × Nat × Nat) (l:List Ux) (x1:List Ux × Nat):=(((aKS x2)/\(((aFu (a7v x2))/\((0 <= ((x2.2.2:Nat):Int) - (1:Int)/\((x2.2.2:Nat):Int) - (1:Int) < ((x2.1.set (((x2.2.2:Nat):Int).toNat) (a7v x2)).length:Int))/\(((aFu (a8Q x2))/\((inR .i64 (a8P x2))/\(∃ y2:List Ux × Nat × Nat,((((∀ v ∈ y2.1,MeU v)/\y2.1.length=l.length/\y2.2.1 < l.length)/\(y2.2.1:Int)=((x1.2:Nat):Int)/\y2.2.2 <= y2.2.1)/\((y2.2.2 < x2.2.2)/\(((((x2.1.set (((x2.2.2:Nat):Int).toNat) (a7v x2)).set ((a8P x2).toNat) (a8Q x2))=y2.1)/\((Value.int .i64 ((x2.2.1:Nat):Int)=(.int .i64 ((y2.2.1:Nat):Int)))/\((Value.int .i64 (a8P x2)=(.int .i64 ((y2.2.2:Nat):Int)))/\True)))/\True))))))/\True)))/\True))/\True)
theorem aBx (l:List Ux) (hp:(∀ v ∈ l,MeU v)/\l.length <= 1000000):a1v LTL WP1 [.inv 3 (List Ux × Nat) (fun ξ=>⟨[.u,.u,.u,.k (.c (.ow 0 52 .U (ξ.1))),.k (.c (.v (.int .i64 (((ξ.2:Nat):Int))))),.u,.u,.u,.u,.u,.u,.u,.u,.u,.u,.u,.u,.u,.u,.u,.u,.u,.u,.u,.u,.u,.u,.u,.u,.u,.u,.u,.u,.u,.u,.u,.u,.u,.u,.u,.u,.u,.u,.u,.u,.u,.u,.u,.u,.u],[]⟩) (fun _ ξ=>(∀ v ∈ ξ.1,MeU v)/\ξ.1.length=l.length/\ξ.2 <= l.length) (fun ξ=>l.length - ξ.2),.inv 6 (List Ux × Nat × Nat) (fun ξ=>⟨[.u,.u,.u,.k (.c (.ow 0 52 .U (ξ.1))),.k (.c (.v (.int .i64 (((ξ.2.1:Nat):Int))))),.k (.c (.v (.int .i64 (((ξ.2.2:Nat):Int))))),.u,.u,.u,.u,.u,.u,.u,.u,.u,.u,.u,.u,.u,.u,.u,.u,.u,.u,.u,.u,.u,.u,.u,.u,.u,.u,.u,.u,.u,.u,.u,.u,.u,.u,.u,.u,.u,.u,.u,.u,.u,.u,.u,.u],[]⟩) (fun σ ξ=>((∀ v ∈ ξ.1,MeU v)/\ξ.1.length=l.length/\ξ.2.1 < l.length)/\(ξ.2.1:Int)=(tmI σ 4)/\ξ.2.2 <= ξ.2.1) (fun ξ=>ξ.2.2),.cut 8 1000] Tryz.f49 (bd Tryz.f49) [.c (.rd .U (false) (l))] (fun a:List Ux=>(∀ v ∈ a,MeU v)/\a.length=l.length) (fun a=>.k (.c (.rd .U (false) (a)))):=by
 refine a1J (show (True/\((([]:List Ux).length+l.length <= 10000000)/\((∃ x1:List Ux × Nat,(((∀ v ∈ x1.1,MeU v)/\x1.1.length=l.length/\x1.2 <= l.length)/\((((([]:List Ux) ++ l)=x1.1)/\((Value.int .i64 (0:Int)=(.int .i64 ((x1.2:Nat):Int)))/\True))/\True)))/\(∀ x1:List Ux × Nat,((∀ v ∈ x1.1,MeU v)/\x1.1.length=l.length/\x1.2 <= l.length->(((decide (((x1.2:Nat):Int) < (x1.1.length:Int)))=true->((∃ x2:List Ux × Nat × Nat,((((∀ v ∈ x2.1,MeU v)/\x2.1.length=l.length/\x2.2.1 < l.length)/\(x2.2.1:Int)=((x1.2:Nat):Int)/\x2.2.2 <= x2.2.1)/\(((x1.1=x2.1)/\((Value.int .i64 ((x1.2:Nat):Int)=(.int .i64 ((x2.2.1:Nat):Int)))/\((Value.int .i64 ((x1.2:Nat):Int)=(.int .i64 ((x2.2.2:Nat):Int)))/\True)))/\True)))/\(∀ x2:List Ux × Nat × Nat,(((∀ v ∈ x2.1,MeU v)/\x2.1.length=l.length/\x2.2.1 < l.length)/\(x2.2.1:Int)=((x1.2:Nat):Int)/\x2.2.2 <= x2.2.1->((((aAb x2) == true)=true->(aKS x2))/\((((aAb x2) == true)=true->(inR .i64 (a8P x2)))/\((((aAb x2) == true)=true->(0 <= ((x2.2.2:Nat):Int) - (1:Int)/\((x2.2.2:Nat):Int) - (1:Int) < (x2.1.length:Int)))/\((((aAb x2) == true)=true->((aFu (a8Q x2))/\(aFu (a7v x2))/\(okU (a8Q x2)/\okU (a7v x2))/\a5C (a8Q x2)/\a5C (a7v x2)))/\(((bif (aAb x2) then (decide ((a1g (a8Q x2) (a7v x2)) < (0:Int))) else false)=true->((inR .i64 (a8P x2))/\((inR .i64 (a8P x2))/\((0 <= ((x2.2.2:Nat):Int) - (1:Int)/\((x2.2.2:Nat):Int) - (1:Int) < (x2.1.length:Int))/\((aKS x2)/\((aPr x2 l x1)/\((aPr x2 l x1)/\True)))))))/\((bif (aAb x2) then (decide ((a1g (a8Q x2) (a7v x2)) < (0:Int))) else false)=false->((inR .i64 (((x2.2.1:Nat):Int)+(1:Int)))/\(∃ y1:List Ux × Nat,(((∀ v ∈ y1.1,MeU v)/\y1.1.length=l.length/\y1.2 <= l.length)/\((l.length - y1.2 < l.length - x1.2)/\(((x2.1=y1.1)/\((Value.int .i64 (((x2.2.1:Nat):Int)+(1:Int))=(.int .i64 ((y1.2:Nat):Int)))/\True))/\True)))))))))))))))/\((decide (((x1.2:Nat):Int) < (x1.1.length:Int)))=false->(∃ a:List Ux,(((∀ v ∈ a,MeU v)/\a.length=l.length)/\(x1.1=a))))))))))=_ by kernel_rfl) ?_
 delta aPr aKS a7v a8P aAb a8Q aFu
 simp only [true_and,and_true,aA5,aJP,Int.toNat_natCast,Value.int.injEq,decide_eq_true_eq,decide_eq_false_iff_not,beq_true,Int.natCast_nonneg,Int.ofNat_lt,Int.ofNat_inj,List.nil_append,gt_iff_lt]
 obtain ⟨hl,hn⟩:=hp
 refine ⟨by simp only [List.length_nil]; omega,⟨(l,0),⟨hl,rfl,Nat.zero_le _⟩,rfl,rfl⟩,fun x1 h1=>⟨fun hlt=>⟨⟨(x1.1,x1.2,x1.2),⟨⟨h1.1,h1.2.1,by have:=h1.2.1; dsimp only; omega⟩,rfl,Nat.le_refl _⟩,rfl,rfl,rfl⟩,fun x2 h2=>?_⟩,fun hge=>⟨_,⟨h1.1,h1.2.1⟩,rfl⟩⟩⟩
 obtain ⟨⟨hM,hL,hi⟩,he,hk⟩:=h2
 have q:((x2.2.2:Int) - 1).toNat=x2.2.2 - 1:=by omega
 rw [q]
 have m1:x2.2.2 < x2.1.length:=by omega
 have g1:=hM _ (a1k (d:=dfU) m1)
 have g2:=hM _ (a1k (d:=dfU) (show x2.2.2 - 1 < x2.1.length by omega))
 have hnew:∀ v ∈ (x2.1.set x2.2.2 (x2.1.getD (x2.2.2 - 1) dfU)).set (x2.2.2 - 1) (x2.1.getD x2.2.2 dfU),MeU v:=fun v hv=>by
  rcases List.mem_or_eq_of_mem_set hv with hv | rfl
  ·rcases List.mem_or_eq_of_mem_set hv with hv | rfl
   ·exact hM v hv
   ·exact g2
  ·exact g1
 refine ⟨fun _=>m1,fun _=>by unfold inR; omega,fun _=>⟨by omega,by omega⟩,fun _=>⟨⟨g1.1,g2.1⟩,aZe g1,aZe g2⟩,fun hc=>?_,fun _=>⟨by unfold inR; omega,(x2.1,x2.2.1+1),⟨hM,hL,hi⟩,by dsimp only; omega,rfl,by simp⟩⟩
 have hc1:=hc.1
 repeat' apply And.intro
 all_goals try (simp only [List.length_set]; omega)
 all_goals try omega
 all_goals exact ⟨(_,x2.2.1,x2.2.2 - 1),⟨⟨hnew,by simp only [List.length_set]; exact hL,hi⟩,he,(by dsimp only; omega)⟩,(by dsimp only; omega),rfl,rfl,(by dsimp only; omega)⟩
def aGw:Ctr:=⟨49,spE (lU.c r0) (List Ux) (fun (l,_)=>(∀ v ∈ l,MeU v)/\l.length <= 1000000) (fun (l,_) a=>(∀ v ∈ a,MeU v)/\a.length=l.length) (fun _ a=>.k (.c (.rd .U (false) (a))))⟩
theorem aGv:CtrOK Tryz.prog aGw:=eOK a2s aCG Tryz.func49 fun x hp=>aBx x.1 hp
def a6x (x3:Nat × Nat × Nat × Nat) (p_:Ux):=(([p_.f,p_.t]).getD (((x3.2.1:Nat):Int).toNat) dfP)
def a7u:=(True/\(True/\(True/\(True/\True))))
def aKR (y3:Nat × Nat × Nat × Nat) (l:List Ux) (x2:Nat × Nat):=((y3.1 < l.length/\(y3.1:Int)=((x2.1:Nat):Int))/\(y3.2.1 < 2/\(y3.2.1:Int)=((x2.2:Nat):Int))/\y3.2.2.1 <= 2*y3.2.2.2/\y3.2.2.2 <= l.length)
def aCg (p_ q_:Ux):=(([p_.f,p_.t])=([q_.f,q_.t]))
def aKQ (x3:Nat × Nat × Nat × Nat) (p_:Ux):=(0 <= ((x3.2.1:Nat):Int)/\((x3.2.1:Nat):Int) < (([p_.f,p_.t]).length:Int))
def a6w (x3:Nat × Nat × Nat × Nat):=(((x3.2.2.2:Nat):Int).toNat)
def aKP (x3:Nat × Nat × Nat × Nat) (y3:Nat × Nat × Nat × Nat):=((Value.int .i64 (((x3.2.2.2:Nat):Int)+(1:Int))=(.int .i64 ((y3.2.2.2:Nat):Int)))/\True)
def aKO (x3:Nat × Nat × Nat × Nat) (l:List Ux):=(0 <= ((x3.2.2.2:Nat):Int)/\((x3.2.2.2:Nat):Int) < (l.length:Int))
def aCf (x3:Nat × Nat × Nat × Nat):=(((x3.2.2.1:Nat):Int)+(1:Int))
def aPq (x3:Nat × Nat × Nat × Nat) (l:List Ux) (x2:Nat × Nat):=((inR .i64 (((x3.2.2.2:Nat):Int)+(1:Int)))/\(∃ y3:Nat × Nat × Nat × Nat,((aKR y3 l x2)/\((l.length - y3.2.2.2 < l.length - x3.2.2.2)/\(((l=l)/\((Value.int .i64 ((x3.1:Nat):Int)=(.int .i64 ((y3.1:Nat):Int)))/\((aCg (l.getD x3.1 dfU) (l.getD y3.1 dfU))/\((Value.int .i64 ((x3.2.1:Nat):Int)=(.int .i64 ((y3.2.1:Nat):Int)))/\((Value.int .i64 (aCf x3)=(.int .i64 ((y3.2.2.1:Nat):Int)))/\(aKP x3 y3))))))/\True)))))
theorem aGz (l:List Ux) (hp:(∀ v ∈ l,okU v)/\l.length <= 1000000):a1v LTL WP1 [.inv 2 (Nat) (fun ξ=>⟨[.k (.c (.rd .U (false) (l))),.u,.u,.k (.c (.v (.int .i64 (((ξ:Nat):Int))))),.u,.u,.u,.u,.u,.u,.u,.u,.u,.u,.u,.u,.u,.u,.u,.u,.u,.u,.u,.u,.u,.u,.u,.u,.u,.u,.u,.u,.u,.u,.u,.u,.u,.u,.u,.u,.u,.u,.u,.u,.u,.u,.u,.u,.u,.u,.u,.u,.u,.u,.u,.u,.u,.u,.u,.u,.u,.u],[]⟩) (fun _ ξ=>ξ <= l.length) (fun ξ=>l.length - ξ),.inv 6 (Nat × Nat) (fun ξ=>⟨[.k (.c (.rd .U (false) (l))),.u,.u,.k (.c (.v (.int .i64 (((ξ.1:Nat):Int))))),.k (.c (.rd .P (false) ([(l.getD ξ.1 dfU).f,(l.getD ξ.1 dfU).t]))),.k (.c (.v (.int .i64 (((ξ.2:Nat):Int))))),.u,.u,.u,.u,.u,.u,.u,.u,.u,.u,.u,.u,.u,.u,.u,.u,.u,.u,.u,.u,.u,.u,.u,.u,.u,.u,.u,.u,.u,.u,.u,.u,.u,.u,.u,.u,.u,.u,.u,.u,.u,.u,.u,.u,.u,.u,.u,.u,.u,.u,.u,.u,.u,.u,.u,.u],[]⟩) (fun σ ξ=>(ξ.1 < l.length/\(ξ.1:Int)=(tmI σ 3))/\ξ.2 <= 2) (fun ξ=>2 - ξ.2),.inv 10 (Nat × Nat × Nat × Nat) (fun ξ=>⟨[.k (.c (.rd .U (false) (l))),.u,.u,.k (.c (.v (.int .i64 (((ξ.1:Nat):Int))))),.k (.c (.rd .P (false) ([(l.getD ξ.1 dfU).f,(l.getD ξ.1 dfU).t]))),.k (.c (.v (.int .i64 (((ξ.2.1:Nat):Int))))),.k (.c (.v (.int .i64 (((ξ.2.2.1:Nat):Int))))),.k (.c (.v (.int .i64 (((ξ.2.2.2:Nat):Int))))),.u,.u,.u,.u,.u,.u,.u,.u,.u,.u,.u,.u,.u,.u,.u,.u,.u,.u,.u,.u,.u,.u,.u,.u,.u,.u,.u,.u,.u,.u,.u,.u,.u,.u,.u,.u,.u,.u,.u,.u,.u,.u,.u,.u,.u,.u,.u,.u,.u,.u,.u,.u,.u,.u],[]⟩) (fun σ ξ=>(ξ.1 < l.length/\(ξ.1:Int)=(tmI σ 3))/\(ξ.2.1 < 2/\(ξ.2.1:Int)=(tmI σ 5))/\ξ.2.2.1 <= 2*ξ.2.2.2/\ξ.2.2.2 <= l.length) (fun ξ=>l.length - ξ.2.2.2)] Tryz.f48 (bd Tryz.f48) [.c (.rd .U (false) (l))] (fun a:Bool=>aYr a) (fun a=>.k (.c (.v (.bool (a))))):=by
 refine a1J (show ((∃ x1:Nat,((x1 <= l.length)/\(((l=l)/\((Value.int .i64 (0:Int)=(.int .i64 ((x1:Nat):Int)))/\True))/\True)))/\(∀ x1:Nat,((x1 <= l.length)->(((decide (((x1:Nat):Int) < (l.length:Int)))=true->((0 <= ((x1:Nat):Int)/\((x1:Nat):Int) < (l.length:Int))/\((0 <= ((x1:Nat):Int)/\((x1:Nat):Int) < (l.length:Int))/\((a7u/\a7u/\True)/\((∃ x2:Nat × Nat,(((x2.1 < l.length/\(x2.1:Int)=((x1:Nat):Int))/\x2.2 <= 2)/\(((l=l)/\((Value.int .i64 ((x1:Nat):Int)=(.int .i64 ((x2.1:Nat):Int)))/\((([(l.getD (((x1:Nat):Int).toNat) dfU).f,(l.getD (((x1:Nat):Int).toNat) dfU).t]:List Px)=([(l.getD x2.1 dfU).f,(l.getD x2.1 dfU).t]))/\((Value.int .i64 (0:Int)=(.int .i64 ((x2.2:Nat):Int)))/\True))))/\True)))/\(∀ x2:Nat × Nat,((x2.1 < l.length/\(x2.1:Int)=((x1:Nat):Int))/\x2.2 <= 2->(((decide (((x2.2:Nat):Int) < (2:Int)))=true->((∃ x3:Nat × Nat × Nat × Nat,(((x3.1 < l.length/\(x3.1:Int)=((x2.1:Nat):Int))/\(x3.2.1 < 2/\(x3.2.1:Int)=((x2.2:Nat):Int))/\x3.2.2.1 <= 2*x3.2.2.2/\x3.2.2.2 <= l.length)/\(((l=l)/\((Value.int .i64 ((x2.1:Nat):Int)=(.int .i64 ((x3.1:Nat):Int)))/\((aCg (l.getD x2.1 dfU) (l.getD x3.1 dfU))/\((Value.int .i64 ((x2.2:Nat):Int)=(.int .i64 ((x3.2.1:Nat):Int)))/\((Value.int .i64 (0:Int)=(.int .i64 ((x3.2.2.1:Nat):Int)))/\((Value.int .i64 (0:Int)=(.int .i64 ((x3.2.2.2:Nat):Int)))/\True))))))/\True)))/\(∀ x3:Nat × Nat × Nat × Nat,((x3.1 < l.length/\(x3.1:Int)=((x2.1:Nat):Int))/\(x3.2.1 < 2/\(x3.2.1:Int)=((x2.2:Nat):Int))/\x3.2.2.1 <= 2*x3.2.2.2/\x3.2.2.2 <= l.length->(((decide (((x3.2.2.2:Nat):Int) < (l.length:Int)))=true->((aKO x3 l)/\((aKQ x3 (l.getD x3.1 dfU))/\((a7u/\a7u/\((l.getD (a6w x3) dfU).f).sz+(a6x x3 (l.getD x3.1 dfU)).sz <= 14500)/\(((a0G ((l.getD (a6w x3) dfU).f) (a6x x3 (l.getD x3.1 dfU)))=true->((inR .i64 (aCf x3))/\((aKO x3 l)/\((aKQ x3 (l.getD x3.1 dfU))/\((a7u/\a7u/\((l.getD (a6w x3) dfU).t).sz+(a6x x3 (l.getD x3.1 dfU)).sz <= 14500)/\(((a0G ((l.getD (a6w x3) dfU).t) (a6x x3 (l.getD x3.1 dfU)))=true->((inR .i64 ((aCf x3)+(1:Int)))/\((inR .i64 (((x3.2.2.2:Nat):Int)+(1:Int)))/\(∃ y3:Nat × Nat × Nat × Nat,((aKR y3 l x2)/\((l.length - y3.2.2.2 < l.length - x3.2.2.2)/\(((l=l)/\((Value.int .i64 ((x3.1:Nat):Int)=(.int .i64 ((y3.1:Nat):Int)))/\((aCg (l.getD x3.1 dfU) (l.getD y3.1 dfU))/\((Value.int .i64 ((x3.2.1:Nat):Int)=(.int .i64 ((y3.2.1:Nat):Int)))/\((Value.int .i64 ((aCf x3)+(1:Int))=(.int .i64 ((y3.2.2.1:Nat):Int)))/\(aKP x3 y3))))))/\True)))))))/\((a0G ((l.getD (a6w x3) dfU).t) (a6x x3 (l.getD x3.1 dfU)))=false->(aPq x3 l x2))))))))/\((a0G ((l.getD (a6w x3) dfU).f) (a6x x3 (l.getD x3.1 dfU)))=false->((aKO x3 l)/\((aKQ x3 (l.getD x3.1 dfU))/\((a7u/\a7u/\((l.getD (a6w x3) dfU).t).sz+(a6x x3 (l.getD x3.1 dfU)).sz <= 14500)/\(((a0G ((l.getD (a6w x3) dfU).t) (a6x x3 (l.getD x3.1 dfU)))=true->((inR .i64 (aCf x3))/\(aPq x3 l x2)))/\((a0G ((l.getD (a6w x3) dfU).t) (a6x x3 (l.getD x3.1 dfU)))=false->((inR .i64 (((x3.2.2.2:Nat):Int)+(1:Int)))/\(∃ y3:Nat × Nat × Nat × Nat,((aKR y3 l x2)/\((l.length - y3.2.2.2 < l.length - x3.2.2.2)/\(((l=l)/\((Value.int .i64 ((x3.1:Nat):Int)=(.int .i64 ((y3.1:Nat):Int)))/\((aCg (l.getD x3.1 dfU) (l.getD y3.1 dfU))/\((Value.int .i64 ((x3.2.1:Nat):Int)=(.int .i64 ((y3.2.1:Nat):Int)))/\((Value.int .i64 ((x3.2.2.1:Nat):Int)=(.int .i64 ((y3.2.2.1:Nat):Int)))/\(aKP x3 y3))))))/\True))))))))))))))))/\((decide (((x3.2.2.2:Nat):Int) < (l.length:Int)))=false->((0 <= ((x3.2.2.1:Nat):Int)/\0 < (2:Int))/\((((((x3.2.2.1:Nat):Int) % (2:Int)) == (1:Int))=true->(∃ a:Bool,((aYr a)/\(Value.bool true=(.bool a)))))/\(((((x3.2.2.1:Nat):Int) % (2:Int)) == (1:Int))=false->((inR .i64 (((x3.2.1:Nat):Int)+(1:Int)))/\(∃ y2:Nat × Nat,(((y2.1 < l.length/\(y2.1:Int)=((x1:Nat):Int))/\y2.2 <= 2)/\((2 - y2.2 < 2 - x2.2)/\(((l=l)/\((Value.int .i64 ((x3.1:Nat):Int)=(.int .i64 ((y2.1:Nat):Int)))/\((aCg (l.getD x3.1 dfU) (l.getD y2.1 dfU))/\((Value.int .i64 (((x3.2.1:Nat):Int)+(1:Int))=(.int .i64 ((y2.2:Nat):Int)))/\True))))/\True))))))))))))))/\((decide (((x2.2:Nat):Int) < (2:Int)))=false->((inR .i64 (((x2.1:Nat):Int)+(1:Int)))/\(∃ y1:Nat,((y1 <= l.length)/\((l.length - y1 < l.length - x1)/\(((l=l)/\((Value.int .i64 (((x2.1:Nat):Int)+(1:Int))=(.int .i64 ((y1:Nat):Int)))/\True))/\True))))))))))))))/\((decide (((x1:Nat):Int) < (l.length:Int)))=false->(∃ a:Bool,((aYr a)/\(Value.bool false=(.bool a)))))))))=_ by kernel_rfl) ?_
 delta aPq aCf aKO aKP a6w aKQ aCg aKR a7u a6x
 simp only [true_and,and_true,Int.toNat_natCast,Value.int.injEq,Value.bool.injEq,decide_eq_true_eq,decide_eq_false_iff_not,Int.natCast_nonneg,Int.ofNat_lt,Int.ofNat_inj]
 obtain ⟨hl,hn⟩:=hp
 have sz:∀ i,i < l.length->(l.getD i dfU).f.sz <= 730/\(l.getD i dfU).t.sz <= 730:=fun i hi=>by
  have h:=hl _ (a1k (d:=dfU) hi)
  exact ⟨a1Q h.2.2.1,a1Q h.2.2.2.1⟩
 refine ⟨⟨0,Nat.zero_le _,rfl⟩,fun x1 h1=>⟨fun hlt=>⟨hlt,hlt,⟨(x1,0),⟨⟨hlt,rfl⟩,Nat.zero_le _⟩,rfl,rfl,rfl⟩,fun x2 h2=>?_⟩,fun _=>⟨false,trivial,rfl⟩⟩⟩
 obtain ⟨⟨a1,a2⟩,a3⟩:=h2
 refine ⟨fun hj=>⟨⟨(x2.1,x2.2,0,0),⟨⟨a1,rfl⟩,⟨by dsimp only; omega,rfl⟩,Nat.zero_le _,Nat.zero_le _⟩,rfl,rfl,rfl,rfl,rfl⟩,fun x3 h3=>?_⟩,fun _=>⟨by unfold inR; omega,x2.1+1,a1,by omega,by simp⟩⟩
 obtain ⟨⟨b1,b2⟩,⟨b3,b4⟩,b5,b6⟩:=h3
 have sj:=sz _ b1
 have ej:(([(l.getD x3.1 dfU).f,(l.getD x3.1 dfU).t]:List Px).getD x3.2.1 dfP).sz <= 730:=by
  rcases (show x3.2.1=0 \/ x3.2.1=1 by omega) with e | e
  ·rw [e]; exact sj.1
  ·rw [e]; exact sj.2
 generalize hE:([(l.getD x3.1 dfU).f,(l.getD x3.1 dfU).t]:List Px).getD x3.2.1 dfP=E at *
 refine ⟨fun hk=>?_,fun _=>?_⟩
 ·have sk:=sz _ hk
  repeat' first | apply And.intro | (intro _)
  all_goals try omega
  all_goals try exact b3
  all_goals first | exact ⟨(x3.1,x3.2.1,x3.2.2.1+1+1,x3.2.2.2+1),⟨⟨b1,b2⟩,⟨b3,b4⟩,(by dsimp only; omega),hk⟩,(by dsimp only; omega),rfl,rfl,rfl,rfl,rfl⟩ | exact ⟨(x3.1,x3.2.1,x3.2.2.1+1,x3.2.2.2+1),⟨⟨b1,b2⟩,⟨b3,b4⟩,(by dsimp only; omega),hk⟩,(by dsimp only; omega),rfl,rfl,rfl,rfl,rfl⟩ | exact ⟨(x3.1,x3.2.1,x3.2.2.1,x3.2.2.2+1),⟨⟨b1,b2⟩,⟨b3,b4⟩,(by dsimp only; omega),hk⟩,(by dsimp only; omega),rfl,rfl,rfl,rfl,rfl⟩
 ·repeat' first | apply And.intro | (intro _)
  all_goals try omega
  all_goals first | exact ⟨true,trivial,rfl⟩ | exact ⟨(x3.1,x3.2.1+1),⟨⟨b1,(by dsimp only; omega)⟩,b3⟩,(by dsimp only; omega),rfl,rfl,rfl⟩
def aQX:Ctr:=⟨48,spE (lU.c r0) (Bool) (fun (l,_)=>(∀ v ∈ l,okU v)/\l.length <= 1000000) (fun _ a=>aYr a) (fun _ a=>.k (.c (.v (.bool (a)))))⟩
theorem aNr:CtrOK Tryz.prog aQX:=eOK a2s aCG Tryz.func48 fun x hp=>aGz x.1 hp
end Vc
end Go.Proofs.YtbohkigffejhoaaGreat
namespace Go.Proofs.YtbohkigffejhoaaGreat
namespace Lm
abbrev Sq:=Nat->Rat
def Pos (x:Sq):Prop:=∃ d:Rat,0 < d/\∃ K,∀ k,K <= k->d <= x k
def Zer (x:Sq):Prop:=∀ d:Rat,0 < d->∃ K,∀ k,K <= k->-d <= x k/\x k <= d
def Bdd (x:Sq):Prop:=∃ M:Rat,0 < M/\∀ k,-M <= x k/\x k <= M
theorem tot (a b:Rat):a <= b \/ b <= a:=Rat.le_total
theorem aUT {x y d e:Rat} (hd:0 <= d) (he:0 <= e) (h1:d <= x) (h2:e <= y):d*e <= x*y:=by
 have a:=Rat.mul_nonneg (show 0 <= x - d by grind) (show 0 <= y by grind)
 have b:=Rat.mul_nonneg hd (show 0 <= y - e by grind)
 grind
theorem aO7 {x y d e:Rat} (h1:-d <= x/\x <= d) (h2:-e <= y/\y <= e):-(d*e) <= x*y/\x*y <= d*e:=by
 have a:=Rat.mul_nonneg (show 0 <= d - x by grind) (show 0 <= e+y by grind)
 have b:=Rat.mul_nonneg (show 0 <= d+x by grind) (show 0 <= e - y by grind)
 have a':=Rat.mul_nonneg (show 0 <= d - x by grind) (show 0 <= e - y by grind)
 have b':=Rat.mul_nonneg (show 0 <= d+x by grind) (show 0 <= e+y by grind)
 constructor <;> grind
theorem div_pos {d m:Rat} (hd:0 < d) (hm:0 < m):0 < d / m/\d / m*m=d:=by
 have e:d / m*m=d:=Rat.div_mul_cancel (by grind)
 refine ⟨?_,e⟩
 rcases tot (d / m) 0 with h | h
 ·have:=Rat.mul_nonneg (show 0 <= -(d / m) by grind) (show 0 <= m by grind)
  grind
 ·rcases Rat.le_iff_lt_or_eq.1 h with h | h
  ·exact h
  ·rw [<- h] at e; grind
theorem Pos.not_zer {x:Sq} (h:Pos x) (k:Zer x):False:=by
 obtain ⟨d,hd,K,h⟩:=h
 obtain ⟨K',k⟩:=k (d / 2) (by grind)
 have h1:=h (max K K') (Nat.le_max_left ..)
 have h2:=(k (max K K') (Nat.le_max_right ..)).2
 grind
theorem Pos.not_neg {x:Sq} (h:Pos x) (k:Pos fun n=>-x n):False:=by
 obtain ⟨d,hd,K,h⟩:=h
 obtain ⟨e,he,K',k⟩:=k
 have h1:=h (max K K') (Nat.le_max_left ..)
 have h2:=k (max K K') (Nat.le_max_right ..)
 grind
theorem Pos.congr {x y:Sq} (h:Pos x) (e:∀ k,x k=y k):Pos y:=by
 obtain rfl:x=y:=funext e
 exact h
theorem Zer.congr {x y:Sq} (h:Zer x) (e:∀ k,x k=y k):Zer y:=by
 obtain rfl:x=y:=funext e
 exact h
theorem Bdd.congr {x y:Sq} (h:Bdd x) (e:∀ k,x k=y k):Bdd y:=by
 obtain rfl:x=y:=funext e
 exact h
theorem Pos.add {x y:Sq} (h:Pos x) (k:Pos y):Pos fun n=>x n+y n:=by
 obtain ⟨d,hd,K,h⟩:=h
 obtain ⟨e,he,K',k⟩:=k
 refine ⟨d,hd,max K K',fun n hn=>?_⟩
 have h1:=h n (by omega)
 have h2:=k n (by omega)
 grind
theorem Pos.add_zer {x y:Sq} (h:Pos x) (k:Zer y):Pos fun n=>x n+y n:=by
 obtain ⟨d,hd,K,h⟩:=h
 obtain ⟨K',k⟩:=k (d / 2) (by grind)
 refine ⟨d / 2,by grind,max K K',fun n hn=>?_⟩
 have h1:=h n (by omega)
 have h2:=(k n (by omega)).1
 grind
theorem Pos.add_nn {x y:Sq} (h:Pos x) (k:∀ n,0 <= y n):Pos fun n=>x n+y n:=by
 obtain ⟨d,hd,K,h⟩:=h
 refine ⟨d,hd,K,fun n hn=>?_⟩
 have h1:=h n hn
 have h2:=k n
 grind
theorem Zer.add {x y:Sq} (h:Zer x) (k:Zer y):Zer fun n=>x n+y n:=fun d hd=>by
 obtain ⟨K,h⟩:=h (d / 2) (by grind)
 obtain ⟨K',k⟩:=k (d / 2) (by grind)
 refine ⟨max K K',fun n hn=>?_⟩
 have h1:=h n (by omega)
 have h2:=k n (by omega)
 constructor <;> grind
theorem Zer.neg {x:Sq} (h:Zer x):Zer fun n=>-x n:=fun d hd=>by
 obtain ⟨K,h⟩:=h d hd
 refine ⟨K,fun n hn=>?_⟩
 have h1:=h n hn
 constructor <;> grind
theorem Zer.mul {x y:Sq} (h:Zer x) (k:Bdd y):Zer fun n=>x n*y n:=fun d hd=>by
 obtain ⟨M,hM,k⟩:=k
 obtain ⟨p,e⟩:=div_pos hd hM
 obtain ⟨K,h⟩:=h (d / M) p
 refine ⟨K,fun n hn=>?_⟩
 have:=aO7 (h n hn) (k n)
 rwa [e] at this
theorem aCH:Zer fun _=>0:=fun d hd=>⟨0,fun n _=>by constructor <;> grind⟩
theorem aY0 {q:Rat} (h:0 < q):Pos fun _=>q:=⟨q,h,0,fun _ _=>Rat.le_refl⟩
theorem a3W (q:Rat):Bdd fun _=>q:=by
 rcases tot 0 q with h | h
 ·exact ⟨q+1,by grind,fun _=>by constructor <;> grind⟩
 ·exact ⟨1 - q,by grind,fun _=>by constructor <;> grind⟩
theorem Bdd.add {x y:Sq} (h:Bdd x) (k:Bdd y):Bdd fun n=>x n+y n:=by
 obtain ⟨M,hM,h⟩:=h
 obtain ⟨N,hN,k⟩:=k
 refine ⟨M+N,by grind,fun n=>?_⟩
 have h1:=h n
 have h2:=k n
 constructor <;> grind
theorem Bdd.mul {x y:Sq} (h:Bdd x) (k:Bdd y):Bdd fun n=>x n*y n:=by
 obtain ⟨M,hM,h⟩:=h
 obtain ⟨N,hN,k⟩:=k
 exact ⟨M*N,Rat.mul_pos hM hN,fun n=>aO7 (h n) (k n)⟩
theorem Pos.mul {x y:Sq} (h:Pos x) (k:Pos y):Pos fun n=>x n*y n:=by
 obtain ⟨d,hd,K,h⟩:=h
 obtain ⟨e,he,K',k⟩:=k
 exact ⟨d*e,Rat.mul_pos hd he,max K K',fun n hn=>aUT (by grind) (by grind) (h n (by omega)) (k n (by omega))⟩
theorem Pos.of_mul {x y:Sq} (h:Pos fun n=>x n*y n) (k:Pos y) (b:Bdd y):Pos x:=by
 obtain ⟨d,hd,K,h⟩:=h
 obtain ⟨e,he,K',k⟩:=k
 obtain ⟨M,hM,b⟩:=b
 obtain ⟨p,q⟩:=div_pos hd hM
 refine ⟨d / M,p,max K K',fun n hn=>?_⟩
 have h1:=h n (by omega)
 have h2:=k n (by omega)
 have h3:=(b n).2
 generalize d / M=r at *
 rcases tot r (x n) with g | g
 ·exact g
 ·rcases Rat.le_iff_lt_or_eq.1 g with g | g
  ·exfalso
   have a:=Rat.mul_pos (show 0 < r - x n by grind) (show 0 < y n by grind)
   have c:=Rat.mul_nonneg (show 0 <= r by grind) (show 0 <= M - y n by grind)
   grind
  ·rw [g]; exact Rat.le_refl
theorem Zer.of_mul {x y:Sq} (h:Zer fun n=>x n*y n) (k:Pos y):Zer x:=fun d hd=>by
 obtain ⟨e,he,K',k⟩:=k
 obtain ⟨K,h⟩:=h (d*e) (Rat.mul_pos hd he)
 refine ⟨max K K',fun n hn=>?_⟩
 have h1:=h n (by omega)
 have h2:=k n (by omega)
 constructor
 ·rcases tot (-d) (x n) with g | g
  ·exact g
  ·have a:=Rat.mul_nonneg (show 0 <= -d - x n by grind) (show 0 <= y n - e by grind)
   have c:=Rat.mul_nonneg (show 0 <= -d - x n by grind) (show 0 <= e by grind)
   have f:=Rat.mul_nonneg (show 0 <= d by grind) (show 0 <= y n - e by grind)
   rcases Rat.le_iff_lt_or_eq.1 g with g | g
   ·exfalso
    have:=Rat.mul_pos (show 0 < -d - x n by grind) (show 0 < e by grind)
    grind
   ·rw [g]; exact Rat.le_refl
 ·rcases tot (x n) d with g | g
  ·exact g
  ·have a:=Rat.mul_nonneg (show 0 <= x n - d by grind) (show 0 <= y n - e by grind)
   have f:=Rat.mul_nonneg (show 0 <= d by grind) (show 0 <= y n - e by grind)
   rcases Rat.le_iff_lt_or_eq.1 g with g | g
   ·exfalso
    have:=Rat.mul_pos (show 0 < x n - d by grind) (show 0 < e by grind)
    grind
   ·rw [<- g]; exact Rat.le_refl
theorem Zer.of_sq {x:Sq} (h:Zer fun n=>x n*x n):Zer x:=fun d hd=>by
 obtain ⟨K,h⟩:=h (d*d) (Rat.mul_pos hd hd)
 refine ⟨K,fun n hn=>?_⟩
 have h1:=(h n hn).2
 constructor
 ·rcases tot (-d) (x n) with g | g
  ·exact g
  ·rcases Rat.le_iff_lt_or_eq.1 g with g | g
   ·exfalso
    have:=Rat.mul_pos (show 0 < -d - x n by grind) (show 0 < d - x n by grind)
    grind
   ·rw [g]; exact Rat.le_refl
 ·rcases tot (x n) d with g | g
  ·exact g
  ·rcases Rat.le_iff_lt_or_eq.1 g with g | g
   ·exfalso
    have:=Rat.mul_pos (show 0 < x n - d by grind) (show 0 < x n+d by grind)
    grind
   ·rw [<- g]; exact Rat.le_refl
def Sg (x:Sq) (s:Int):Prop:=(s=1/\Pos x) \/ (s=0/\Zer x) \/ (s=-1/\Pos fun n=>-x n)
theorem Sg.congr {x y:Sq} {s:Int} (h:Sg x s) (e:∀ k,x k=y k):Sg y s:=by
 obtain rfl:x=y:=funext e
 exact h
theorem Sg.pos {x:Sq} {s:Int} (h:Sg x s):0 < s ↔ Pos x:=by
 rcases h with ⟨rfl,h⟩ | ⟨rfl,h⟩ | ⟨rfl,h⟩
 ·exact ⟨fun _=>h,fun _=>by decide⟩
 ·exact ⟨fun g=>absurd g (by decide),fun g=>(g.not_zer h).elim⟩
 ·exact ⟨fun g=>absurd g (by decide),fun g=>(g.not_neg h).elim⟩
theorem Sg.zer {x:Sq} {s:Int} (h:Sg x s):s=0 ↔ Zer x:=by
 rcases h with ⟨rfl,h⟩ | ⟨rfl,h⟩ | ⟨rfl,h⟩
 ·exact ⟨fun g=>absurd g (by decide),fun g=>(h.not_zer g).elim⟩
 ·exact ⟨fun _=>h,fun _=>rfl⟩
 ·exact ⟨fun g=>absurd g (by decide),fun g=>(h.not_zer g.neg).elim⟩
theorem Sg.lt {x:Sq} {s:Int} (h:Sg x s):s < 0 ↔ Pos fun n=>-x n:=by
 rcases h with ⟨rfl,h⟩ | ⟨rfl,h⟩ | ⟨rfl,h⟩
 ·exact ⟨fun g=>absurd g (by decide),fun g=>(h.not_neg g).elim⟩
 ·exact ⟨fun g=>absurd g (by decide),fun g=>(g.not_zer h.neg).elim⟩
 ·exact ⟨fun _=>h,fun _=>by decide⟩
theorem Sg.neg {x:Sq} {s:Int} (h:Sg x s):Sg (fun n=>-x n) (-s):=by
 rcases h with ⟨rfl,h⟩ | ⟨rfl,h⟩ | ⟨rfl,h⟩
 ·exact .inr (.inr ⟨rfl,h.congr fun k=>by grind⟩)
 ·exact .inr (.inl ⟨rfl,h.neg⟩)
 ·exact .inl ⟨rfl,h⟩
theorem Sg.add_zer {x y:Sq} {s:Int} (h:Sg x s) (k:Zer y):Sg (fun n=>x n+y n) s:=by
 rcases h with ⟨rfl,h⟩ | ⟨rfl,h⟩ | ⟨rfl,h⟩
 ·exact .inl ⟨rfl,h.add_zer k⟩
 ·exact .inr (.inl ⟨rfl,h.add k⟩)
 ·exact .inr (.inr ⟨rfl,(h.add_zer k.neg).congr fun n=>by grind⟩)
theorem Sg.of_mul {x y:Sq} {s:Int} (h:Sg (fun n=>x n*y n) s) (k:Pos y) (b:Bdd y):Sg x s:=by
 rcases h with ⟨rfl,h⟩ | ⟨rfl,h⟩ | ⟨rfl,h⟩
 ·exact .inl ⟨rfl,h.of_mul k b⟩
 ·exact .inr (.inl ⟨rfl,h.of_mul k⟩)
 ·exact .inr (.inr ⟨rfl,Pos.of_mul (x:=fun n=>-x n) (h.congr fun n=>by grind) k b⟩)
theorem Sg.mul {x y:Sq} {s:Int} (h:Sg x s) (k:Pos y) (b:Bdd y):Sg (fun n=>x n*y n) s:=by
 rcases h with ⟨rfl,h⟩ | ⟨rfl,h⟩ | ⟨rfl,h⟩
 ·exact .inl ⟨rfl,h.mul k⟩
 ·exact .inr (.inl ⟨rfl,h.mul b⟩)
 ·exact .inr (.inr ⟨rfl,(h.mul k).congr fun n=>by grind⟩)
theorem b0d (q:Rat):Sg (fun _=>q) (Rt.sg q):=by
 rcases Rt.a4a q with h | h | h
 ·have:q < 0:=Rt.aEM.1 (by omega)
  rw [h]; exact .inr (.inr ⟨rfl,aY0 (by grind)⟩)
 ·rw [h,Rt.a2F.1 h]; exact .inr (.inl ⟨rfl,aCH⟩)
 ·rw [h]; exact .inl ⟨rfl,aY0 (Rt.aBX.1 (by omega))⟩
def rt (c:Rat):Sq:=fun k=>((isq (c.num.toNat*c.den*((k+1)*(k+1))):Nat):Rat) / ((c.den*(k+1):Nat):Rat)
theorem aO6 (q:Rat):q*(q.den:Rat)=(q.num:Rat):=by
 have h4:(0:Rat) < (q.den:Rat):=Rat.natCast_pos.2 q.den_pos
 have h:q=(q.num:Rat) / (q.den:Rat):=by
  have:=Rat.divInt_eq_div q.num (q.den:Int)
  rw [Rat.num_divInt_den] at this
  exact this
 have k:=Rat.div_mul_cancel (a:=(q.num:Rat)) (b:=(q.den:Rat)) (by grind)
 rwa [<- h] at k
theorem aBU {z:Int} (h:0 <= z):((z.toNat:Nat):Rat)=(z:Rat):=by
 have e:((z.toNat:Nat):Int)=z:=by omega
 rw [<- Rat.intCast_natCast,e]
theorem b1t (q:Rat):∃ K:Nat,q <= (K:Rat):=by
 rcases tot q 0 with h | h
 ·exact ⟨0,h⟩
 ·refine ⟨q.num.toNat,?_⟩
  rw [aBU (Rat.num_nonneg.2 h),<- aO6]
  have h5:(1:Rat) <= (q.den:Rat):=(Rat.natCast_le_natCast (a:=1)).2 q.den_pos
  have:=Rat.mul_nonneg h (show 0 <= (q.den:Rat) - 1 by grind)
  grind
theorem a94 {a b p:Rat} (hp:0 < p) (h:a*p <= b*p):a <= b:=by
 rcases tot a b with g | g
 ·exact g
 ·rcases Rat.le_iff_lt_or_eq.1 g with g | g
  ·have:=Rat.mul_pos (show 0 < a - b by grind) hp
   grind
  ·rw [g]; exact Rat.le_refl
theorem aCP {c:Rat} (hc:0 <= c) (k:Nat):∃ h:Rat,0 <= rt c k/\0 < h/\h*((k:Rat)+1) <= 1/\h <= 1/\rt c k*rt c k <= c/\c <= (rt c k+h)*(rt c k+h):=by
 obtain ⟨s1,s2⟩:=a7A (c.num.toNat*c.den*((k+1)*(k+1)))
 unfold rt
 generalize isq (c.num.toNat*c.den*((k+1)*(k+1)))=s at *
 have e2:=aO6 c
 have e:=aBU (Rat.num_nonneg.2 hc)
 have p1:(1:Rat) <= (c.den:Rat):=(Rat.natCast_le_natCast (a:=1)).2 c.den_pos
 generalize c.num.toNat=m at *
 have r1:=Rat.natCast_le_natCast.2 s1
 have r2:=Rat.natCast_le_natCast.2 (Nat.le_of_lt s2)
 have p2:(0:Rat) <= (k:Rat):=Rat.natCast_nonneg
 have p3:(0:Rat) <= (s:Rat):=Rat.natCast_nonneg
 simp only [Rat.natCast_mul,Rat.natCast_add,Rat.natCast_ofNat] at r1 r2 ⊢
 rw [e,<- e2] at r1 r2
 have one:((1:Nat):Rat)=1:=rfl
 rw [one] at *
 generalize (c.den:Rat)=D at *
 generalize ((k:Nat):Rat)=n at *
 generalize (s:Rat)=x at *
 have hp:0 < D*(n+1):=Rat.mul_pos (by grind) (by grind)
 have hge:1 <= D*(n+1):=by
  have:=Rat.mul_nonneg (show 0 <= D - 1 by grind) p2
  grind
 have t1:=Rat.div_mul_cancel (a:=x) (b:=D*(n+1)) (by grind)
 have t2:=Rat.div_mul_cancel (a:=1) (b:=D*(n+1)) (by grind)
 have q1:0 <= x / (D*(n+1)):=a94 hp (by rw [t1]; grind)
 have q2:0 < 1 / (D*(n+1)):=(div_pos (by decide) hp).1
 generalize x / (D*(n+1))=y at *
 generalize 1 / (D*(n+1))=h at *
 have hpp:=Rat.mul_pos hp hp
 refine ⟨h,q1,q2,?_,?_,a94 hpp ?_,a94 hpp ?_⟩
 ·have:=Rat.mul_nonneg (show 0 <= h by grind) (Rat.mul_nonneg (show 0 <= D - 1 by grind) (show 0 <= n+1 by grind))
  grind
 ·have:=Rat.mul_nonneg (show 0 <= h by grind) (show 0 <= D*(n+1) - 1 by grind)
  grind
 ·have:y*y*(D*(n+1)*(D*(n+1)))=x*x:=by rw [<- t1]; grind
  rw [this]; grind
 ·have:(y+h)*(y+h)*(D*(n+1)*(D*(n+1)))=(x+1)*(x+1):=by
   have e1:(y+h)*(D*(n+1))=x+1:=by grind
   rw [<- e1]; grind
  rw [this]; grind
theorem aSC {c:Rat} (hc:0 <= c) (k:Nat):0 <= rt c k:=by
 obtain ⟨h,h1,_⟩:=aCP hc k
 exact h1
theorem aYP {c:Rat} (hc:0 <= c) (k:Nat):rt c k <= c+1:=by
 obtain ⟨h,h1,_,_,_,h2,_⟩:=aCP hc k
 rcases tot (rt c k) (c+1) with g | g
 ·exact g
 ·have a:=aUT (show 0 <= c+1 by grind) (show 0 <= c+1 by grind) g g
  have:=Rat.mul_nonneg hc hc
  grind
theorem a9O {c:Rat} (hc:0 <= c):Bdd (rt c):=⟨c+1,by grind,fun k=>⟨by have:=aSC hc k; grind,aYP hc k⟩⟩
theorem aBp {c:Rat} (hc:0 <= c):Zer fun k=>rt c k*rt c k - c:=fun d hd=>by
 obtain ⟨K,hK⟩:=b1t ((2*c+3) / d)
 have e:=Rat.div_mul_cancel (a:=2*c+3) (b:=d) (by grind)
 refine ⟨K,fun k hk=>?_⟩
 obtain ⟨h,h1,h2,h3,h4,h5,h6⟩:=aCP hc k
 have h7:=aYP hc k
 have hk':(K:Rat) <= (k:Rat):=Rat.natCast_le_natCast.2 hk
 show -d <= rt c k*rt c k - c/\rt c k*rt c k - c <= d
 generalize rt c k=y at *
 generalize (K:Rat)=N at *
 generalize (k:Rat)=n at *
 generalize (2*c+3) / d=q at *
 have a1:=Rat.mul_nonneg (show 0 <= n - q by grind) (show 0 <= d by grind)
 have a2:=Rat.mul_nonneg (show 0 <= n*d - (2*c+3) by grind) (show 0 <= h by grind)
 have a3:=Rat.mul_nonneg (show 0 <= 1 - h*(n+1) by grind) (show 0 <= d by grind)
 have a4:=Rat.mul_nonneg (show 0 <= c+1 - y by grind) (show 0 <= h by grind)
 have a5:=Rat.mul_nonneg (show 0 <= 1 - h by grind) (show 0 <= h by grind)
 have a6:=Rat.mul_nonneg (show 0 <= h by grind) (show 0 <= d by grind)
 constructor
 ·grind
 ·grind
end Lm
end Go.Proofs.YtbohkigffejhoaaGreat
namespace Go.Proofs.YtbohkigffejhoaaGreat
open Vc
namespace Lm
def pick (s t r:Int):Int:=(if (bif (bif (s == (0:Int)) then (true) else (t == (0:Int))) then (true) else (s == t))=true then (if (s == (0:Int))=true then t else s) else s*r)
theorem aKk {c:Rat} (hc:0 < c):Pos (rt c):=by
 obtain ⟨K,h⟩:=aBp (Rat.le_of_lt hc) (c / 2) (by grind)
 rcases tot (c / 2) 1 with g | g
 ·refine ⟨c / 2,by grind,K,fun k hk=>?_⟩
  have h1:-(c / 2) <= rt c k*rt c k - c:=(h k hk).1
  have h2:=aSC (Rat.le_of_lt hc) k
  generalize rt c k=y at *
  rcases tot (c / 2) y with q | q
  ·exact q
  ·have:=Rat.mul_nonneg h2 (show 0 <= 1 - y by grind)
   grind
 ·refine ⟨1,by decide,K,fun k hk=>?_⟩
  have h1:-(c / 2) <= rt c k*rt c k - c:=(h k hk).1
  have h2:=aSC (Rat.le_of_lt hc) k
  generalize rt c k=y at *
  rcases tot 1 y with q | q
  ·exact q
  ·have:=Rat.mul_nonneg h2 (show 0 <= 1 - y by grind)
   grind
theorem b0E:Zer (rt 0):=Zer.of_sq ((aBp (c:=0) Rat.le_refl).congr fun k=>by grind)
theorem gen {x y:Sq} {N:Rat} {s t r:Int} (hN:0 <= N) (bx:Bdd x) (by_:Bdd y) (sx:Sg x s) (sy:Sg y t) (sr:Sg (fun k=>x k*x k - y k*y k*N) r):Sg (fun k=>x k+y k*rt N k) (pick s (t*Rt.sg N) r):=by
 have bt:=a9O hN
 have key:Zer fun k=>y k*y k*(rt N k*rt N k - N):=((aBp hN).mul (by_.mul by_)).congr fun k=>by grind
 rcases Rat.le_iff_lt_or_eq.1 hN with h | h
 ·have e:Rt.sg N=1:=by
   have:=Rt.aBX.2 h
   rcases Rt.a4a N with q | q | q <;> omega
  have pt:=aKk h
  have sm:=sy.mul pt bt
  rw [e,Int.mul_one]
  rcases sx with ⟨rfl,h1⟩ | ⟨rfl,h1⟩ | ⟨rfl,h1⟩
  ·rcases sy with ⟨rfl,h2⟩ | ⟨rfl,h2⟩ | ⟨rfl,h2⟩
   ·exact .inl ⟨rfl,h1.add (h2.mul pt)⟩
   ·exact .inl ⟨rfl,h1.add_zer (h2.mul bt)⟩
   ·have hp:Pos fun k=>x k+-y k*rt N k:=h1.add (Pos.mul h2 pt)
    have hb:Bdd fun k=>x k+-y k*rt N k:=bx.add (Bdd.mul (x:=fun k=>-y k) ((a3W (-1)).mul by_ |>.congr fun k=>by grind) bt)
    refine Sg.of_mul (s:=pick 1 (-1) r) ?_ hp hb
    rw [show pick 1 (-1) r=r by unfold pick; simp]
    exact (sr.add_zer key.neg).congr fun k=>by grind
  ·rw [show pick 0 t r=t by unfold pick; simp]
   exact (sm.add_zer h1).congr fun k=>by grind
  ·rcases sy with ⟨rfl,h2⟩ | ⟨rfl,h2⟩ | ⟨rfl,h2⟩
   ·have hp:Pos fun k=>-x k+y k*rt N k:=h1.add (Pos.mul h2 pt)
    have hb:Bdd fun k=>-x k+y k*rt N k:=Bdd.add (x:=fun k=>-x k) ((a3W (-1)).mul bx |>.congr fun k=>by grind) (by_.mul bt)
    refine Sg.of_mul (s:=pick (-1) 1 r) ?_ hp hb
    rw [show pick (-1) 1 r=-r by unfold pick; simp]
    exact (sr.neg.add_zer key).congr fun k=>by grind
   ·exact .inr (.inr ⟨rfl,(h1.add_zer (h2.mul bt).neg).congr fun k=>by grind⟩)
   ·exact .inr (.inr ⟨rfl,(h1.add (Pos.mul h2 pt)).congr fun k=>by grind⟩)
 ·subst h
  have z:Zer fun k=>y k*rt 0 k:=(b0E.mul by_).congr fun k=>by grind
  rw [show pick s (t*Rt.sg 0) r=s by
   rw [show Rt.sg 0=0 from rfl,Int.mul_zero]
   unfold pick
   by_cases q:s=0 <;> simp [q]]
  exact sx.add_zer z
theorem aKd (a b:Rat) {m:Rat} (hm:0 <= m):Sg (fun k=>a+b*rt m k) (a1O a b m) :=
 gen (x:=fun _=>a) (y:=fun _=>b) hm (a3W a) (a3W b) (b0d a) (b0d b) (b0d _)
theorem aWy {q:Dx} (hm:0 <= q.dm) (hn:0 <= q.dn):Sg (fun k=>q.da+q.db*rt q.dm k+(q.dc+q.dd*rt q.dm k)*rt q.dn k) (a3i q):=by
 have e:a3i q=pick (a1O q.da q.db q.dm) (a1O q.dc q.dd q.dm*Rt.sg q.dn) (a1O (q.da*q.da+q.db*q.db*q.dm - q.dn*(q.dc*q.dc+q.dd*q.dd*q.dm)) (q.da*q.db - q.dn*(q.dc*q.dd)+(q.da*q.db - q.dn*(q.dc*q.dd))) q.dm):=by
  have h1:=Rt.a81.2 hm
  have h2:=Rt.a81.2 hn
  unfold a3i
  rw [if_neg (by rw [decide_eq_false (by omega),decide_eq_false (by omega)]; decide)]
  rfl
 rw [e]
 have bm:=a9O hm
 have z:Zer fun k=>(q.db*q.db - q.dd*q.dd*q.dn)*(rt q.dm k*rt q.dm k - q.dm):=((aBp hm).mul (a3W (q.db*q.db - q.dd*q.dd*q.dn))).congr fun k=>by grind
 exact gen (x:=fun k=>q.da+q.db*rt q.dm k) (y:=fun k=>q.dc+q.dd*rt q.dm k) hn ((a3W _).add ((a3W _).mul bm)) ((a3W _).add ((a3W _).mul bm)) (aKd _ _ hm) (aKd _ _ hm)
  (((aKd _ _ hm).add_zer z).congr fun k=>by grind)
def vR (r:Rx):Sq:=fun k=>r.ra+r.rb*rt r.rc k
theorem aVe {r s:Rx} (hr:0 <= r.rc) (hs:0 <= s.rc):Sg (fun k=>vR r k - vR s k) (a0S r s) :=
 (aWy (q:=a3B r s) hr hs).congr fun k=>by
  simp only [a3B,vR]
  have:(((0:Int)):Rat)=0:=rfl
  grind
theorem aF6 {r:Rx} (hr:0 <= r.rc) (a:Rat):Sg (fun k=>vR r k - a) (a0T r a) :=
 (aKd (r.ra - a) r.rb hr).congr fun k=>by unfold vR; grind
def vX (p:Px):Sq:=fun k=>p.a+p.b*rt p.e k
def vY (p:Px):Sq:=fun k=>p.c+p.d*rt p.e k
theorem a6b (a b c:Rat) (k:Nat):vR (a0H a b c) k=a+b*rt c k:=by
 unfold a0H vR
 split
 ·rename_i h
  have h:b=0:=Rt.a2F.1 (by simpa using h)
  simp only [a0E,a1D,h]
  have:(((0:Int)):Rat)=0:=rfl
  grind
 ·rfl
theorem a6c {c:Rat} (a b:Rat) (h:0 <= c):0 <= (a0H a b c).rc:=by
 unfold a0H
 split
 ·exact (by decide:(0:Rat) <= 0)
 ·exact h
theorem a2y {p q:Px} (hp:0 <= p.e) (hq:0 <= q.e):Sg (fun k=>vX p k - vX q k) (a0S (a04 p) (a04 q)) :=
 (aVe (a6c _ _ hp) (a6c _ _ hq)).congr fun k=>by
  show vR (a0H p.a p.b p.e) k - vR (a0H q.a q.b q.e) k=_
  rw [a6b,a6b]; rfl
theorem a8v {p q:Px} (hp:0 <= p.e) (hq:0 <= q.e):Sg (fun k=>vY p k - vY q k) (a0S (a2D p) (a2D q)) :=
 (aVe (a6c _ _ hp) (a6c _ _ hq)).congr fun k=>by
  show vR (a0H p.c p.d p.e) k - vR (a0H q.c q.d q.e) k=_
  rw [a6b,a6b]; rfl
theorem aCW {p:Px} (hp:0 <= p.e) (a:Rat):Sg (fun k=>vX p k - a) (a0T (a04 p) a) :=
 (aF6 (a6c _ _ hp) a).congr fun k=>by
  show vR (a0H p.a p.b p.e) k - a=_
  rw [a6b]; rfl
theorem a8f {p:Px} (hp:0 <= p.e) (a:Rat):Sg (fun k=>vY p k - a) (a0T (a2D p) a) :=
 (aF6 (a6c _ _ hp) a).congr fun k=>by
  show vR (a0H p.c p.d p.e) k - a=_
  rw [a6b]; rfl
structure Wk (o:Px->Px->Int):Prop where
 anti:∀ p q,0 <= p.e->0 <= q.e->o q p=-o p q
 tr:∀ p q r,0 <= p.e->0 <= q.e->0 <= r.e->o p q <= 0->o q r <= 0->o p r <= 0/\(o p q < 0 \/ o q r < 0->o p r < 0)
theorem aOq {x y:Sq} {s t:Int} (h:Sg x s) (k:Sg y t) (e:∀ n,y n=-x n):t=-s:=by
 have k:Sg (fun n=>-x n) t:=k.congr e
 have h':=h.neg
 rcases h' with ⟨h1,h2⟩ | ⟨h1,h2⟩ | ⟨h1,h2⟩
 ·have:=k.pos.2 h2
  rcases k with ⟨k1,_⟩ | ⟨k1,_⟩ | ⟨k1,_⟩ <;> omega
 ·have:=k.zer.2 h2
  omega
 ·have:=k.lt.2 h2
  rcases k with ⟨k1,_⟩ | ⟨k1,_⟩ | ⟨k1,_⟩ <;> omega
theorem aYM {x y z:Sq} {s t u:Int} (h:Sg x s) (k:Sg y t) (l:Sg z u) (e:∀ n,z n=x n+y n) (hs:s <= 0) (ht:t <= 0):u <= 0/\(s < 0 \/ t < 0->u < 0):=by
 have l:Sg (fun n=>x n+y n) u:=l.congr e
 rcases h with ⟨rfl,h⟩ | ⟨rfl,h⟩ | ⟨rfl,h⟩
 ·omega
 ·rcases k with ⟨rfl,k⟩ | ⟨rfl,k⟩ | ⟨rfl,k⟩
  ·omega
  ·have:=l.zer.2 (h.add k)
   omega
  ·have:=l.lt.2 ((k.add_zer h.neg).congr fun n=>by grind)
   omega
 ·rcases k with ⟨rfl,k⟩ | ⟨rfl,k⟩ | ⟨rfl,k⟩
  ·omega
  ·have:=l.lt.2 ((h.add_zer k.neg).congr fun n=>by grind)
   omega
  ·have:=l.lt.2 ((h.add k).congr fun n=>by grind)
   omega
theorem wkX:Wk fun p q=>a0S (a04 p) (a04 q) :=
 ⟨fun _ _ hp hq=>aOq (a2y hp hq) (a2y hq hp) fun n=>by grind,fun _ _ _ hp hq hr=>aYM (a2y hp hq) (a2y hq hr) (a2y hp hr) fun n=>by grind⟩
theorem wkY:Wk fun p q=>a0S (a2D p) (a2D q) :=
 ⟨fun _ _ hp hq=>aOq (a8v hp hq) (a8v hq hp) fun n=>by grind,fun _ _ _ hp hq hr=>aYM (a8v hp hq) (a8v hq hr) (a8v hp hr) fun n=>by grind⟩
theorem Wk.neg {o:Px->Px->Int} (h:Wk o):Wk fun p q=>(0:Int) - o p q :=
 ⟨fun p q hp hq=>by have:=h.anti p q hp hq; show 0 - o q p=-(0 - o p q); omega,fun p q r hp hq hr a b=>by
  have a:0 - o p q <= 0:=a
  have b:0 - o q r <= 0:=b
  have h1:=h.anti p q hp hq
  have h2:=h.anti q r hq hr
  have h3:=h.anti p r hp hr
  have:=h.tr r q p hr hq hp (by omega) (by omega)
  refine ⟨show 0 - o p r <= 0 by omega,fun c=>?_⟩
  have c:0 - o p q < 0 \/ 0 - o q r < 0:=c
  show 0 - o p r < 0
  have:=this.2 (by omega)
  omega⟩
theorem Wk.lex {o o':Px->Px->Int} (h:Wk o) (h':Wk o'):Wk fun p q=>if (o p q != (0:Int))=true then o p q else o' p q:=by
 have e:∀ p q,(if (o p q != (0:Int))=true then o p q else o' p q)=if o p q=0 then o' p q else o p q:=fun p q=>by
  by_cases g:o p q=0 <;> simp [g]
 simp only [e]
 refine ⟨fun p q hp hq=>?_,fun p q r hp hq hr a b=>?_⟩
 ·have h1:=h.anti p q hp hq
  have h2:=h'.anti p q hp hq
  split <;> split <;> omega
 ·have h1:=h.tr p q r hp hq hr
  have h2:=h'.tr p q r hp hq hr
  have h3:=h.tr r q p hr hq hp
  have a1:=h.anti p q hp hq
  have a2:=h.anti q r hq hr
  have a3:=h.anti p r hp hr
  split at a <;> split at b <;> split <;> omega
theorem Wk.key {f:Px->Bool} {g:Bool->Px->Px->Int} (h:∀ b,Wk (g b)):Wk fun p q=>if (f p != f q)=true then (if f q=true then (-1:Int) else 1) else g (f p) p q:=by
 refine ⟨fun p q hp hq=>?_,fun p q r hp hq hr a b=>?_⟩
 ·have h1:=(h (f p)).anti p q hp hq
  cases e1:f p <;> cases e2:f q <;> simp_all
 ·have h1:=(h (f p)).tr p q r hp hq hr
  cases e1:f p <;> cases e2:f q <;> cases e3:f r <;> simp_all
theorem wkC:Wk a0g:=wkX.lex wkY
theorem a6t (k:Kx) (p q:Px):a0M k p q=if (a0x k p != a0x k q)=true then (if a0x k q=true then (-1:Int) else 1) else (if a0x k p=true then (0:Int) - a0S (a04 p) (a04 q) else a0S (a04 p) (a04 q)):=rfl
theorem wkA (k:Kx):Wk (a0M k) :=
 Wk.key (f:=a0x k) (g:=fun b p q=>if b=true then (0:Int) - a0S (a04 p) (a04 q) else a0S (a04 p) (a04 q)) fun b=>by
  cases b
  ·exact wkX
  ·exact wkX.neg
theorem b04 (k:Kx) (f:Px):Wk (a0U k f) :=
 Wk.key (f:=fun p=>decide (a0M k p f < 0)) (g:=fun _=>a0M k) fun _=>wkA k
end Lm
end Go.Proofs.YtbohkigffejhoaaGreat
namespace Go.Proofs.YtbohkigffejhoaaGreat
open Vc
namespace Lm
theorem Sg.uniq {x:Sq} {s t:Int} (h:Sg x s) (k:Sg x t):s=t:=by
 rcases h with ⟨rfl,h⟩ | ⟨rfl,h⟩ | ⟨rfl,h⟩
 ·have:=k.pos.2 h
  rcases k with ⟨k1,_⟩ | ⟨k1,_⟩ | ⟨k1,_⟩ <;> omega
 ·have:=k.zer.2 h
  omega
 ·have:=k.lt.2 h
  rcases k with ⟨k1,_⟩ | ⟨k1,_⟩ | ⟨k1,_⟩ <;> omega
theorem a4c {p q:Px} (hp:0 <= p.e) (hq:0 <= q.e):a0g p q=0 ↔ (Zer fun k=>vX p k - vX q k)/\Zer fun k=>vY p k - vY q k:=by
 rw [<- (a2y hp hq).zer,<- (a8v hp hq).zer]
 unfold a0g
 by_cases h:a0S (a04 p) (a04 q)=0 <;> simp [h]
theorem upper_eq (k:Kx) {p q:Px} (hp:0 <= p.e) (hq:0 <= q.e) (h:a0g p q=0):a0x k p=a0x k q:=by
 obtain ⟨h1,h2⟩:=(a4c hp hq).1 h
 have e1:a0T (a04 p) k.kx=a0T (a04 q) k.kx:=((aCW hp k.kx).add_zer h1.neg).congr (y:=fun n=>vX q n - k.kx) (fun n=>by grind) |>.uniq (aCW hq k.kx)
 have e2:a0T (a2D p) k.ky=a0T (a2D q) k.ky:=((a8f hp k.ky).add_zer h2.neg).congr (y:=fun n=>vY q n - k.ky) (fun n=>by grind) |>.uniq (a8f hq k.ky)
 unfold a0x
 rw [e1,e2]
theorem aZx {p q:Px} (hp:0 <= p.e) (hq:0 <= q.e) (h:a0g p q=0):a0S (a04 p) (a04 q)=0:=(a2y hp hq).zer.2 ((a4c hp hq).1 h).1
theorem aEk (k:Kx) {p q:Px} (hp:0 <= p.e) (hq:0 <= q.e) (h:a0g p q=0):a0M k p q=0:=by
 have e:=upper_eq k hp hq h
 have x:=aZx hp hq h
 rw [a6t,e,x]
 simp
theorem aDz (k:Kx) (f:Px) (hf:0 <= f.e) {p q:Px} (hp:0 <= p.e) (hq:0 <= q.e) (h:a0g p q=0):a0U k f p q=0:=by
 have e:=aEk k hp hq h
 have a:=(wkA k).anti p q hp hq
 have h1:=(wkA k).tr p q f hp hq hf
 have h2:=(wkA k).tr q p f hq hp hf
 have:decide (a0M k p f < 0)=decide (a0M k q f < 0):=by
  apply decide_eq_decide.2
  omega
 unfold a0U
 rw [this,e]
 simp
theorem aZo {p q:Px} (hp:0 <= p.e) (hq:0 <= q.e) (h:a0g p q=0):a0g (a0v p) (a0v q)=0:=by
 obtain ⟨h1,h2⟩:=(a4c hp hq).1 h
 refine (a4c (p:=a0v p) (q:=a0v q) hp hq).2 ⟨h1.neg.congr fun n=>?_,h2⟩
 simp only [vX,a0v]
 grind
theorem aWP {u:Ux} (hf:0 <= u.f.e) {p q:Px} (hp:0 <= p.e) (hq:0 <= q.e) (h:a0g p q=0):a0Y u p q=0:=by
 unfold a0Y
 cases u.arc
 ·simp only [Bool.not_false,if_true]
  split
  ·omega
  ·exact h
 ·simp only [Bool.not_true]
  cases u.cw
  ·exact aDz u.k u.f hf hp hq h
  ·exact aDz (a0n u).k (a0n u).f hf hp hq (aZo hp hq h)
theorem aQi {p q r s:Px} (hp:0 <= p.e) (hq:0 <= q.e) (hr:0 <= r.e) (hs:0 <= s.e) (h1:a0g p q < 0) (h2:a0g q r=0) (h3:a0g r s < 0):a0g p s < 0:=by
 have a:=wkC.tr p q r hp hq hr (by omega) (by omega)
 exact (wkC.tr p r s hp hr hs a.1 (by omega)).2 (.inr h3)
theorem aZw {p q:Px} (h:a0g p q < 0):a0G p q=false:=by
 unfold a0G
 rw [beq_eq_false_iff_ne]; omega
theorem aUI {r:Rx} (h:a1l r=0):r.ra=0/\r.rb=0:=by
 rw [<- Rt.a2F,<- Rt.a2F]
 unfold a1l at h
 generalize Rt.sg r.ra=a at *
 generalize Rt.sg r.rb=b at *
 generalize Rt.sg (a1a r)=n at *
 by_cases h1:a=b
 ·subst h1
  simp at h
  omega
 ·by_cases h2:b=0
  ·subst h2
   simp at h
   omega
  ·by_cases h3:a=0
   ·subst h3
    simp [h1,h2] at h
   ·simp [h1,h2,h3] at h
    split at h <;> omega
theorem zr:(((0:Int)):Rat)=0:=rfl
theorem a7g (a b:Rat) {c:Rat} (hc:0 <= c):(Zer fun k=>vR (a0z a b c) k - (a+b*rt c k))/\0 <= (a0z a b c).rc:=by
 unfold a0z
 split
 ·rename_i h
  refine ⟨?_,by exact Rat.le_refl⟩
  by_cases h1:b=0
  ·subst h1
   exact aCH.congr fun k=>by simp only [vR,a0E,a1D]; have:=zr; grind
  ·have h2:c=0:=Rt.a2F.1 (by
    have:¬ Rt.sg b=0:=fun e=>h1 (Rt.a2F.1 e)
    simpa [this] using h)
   subst h2
   exact (b0E.mul (a3W (-b))).congr fun k=>by simp only [vR,a0E,a1D]; have:=zr; grind
 ·exact ⟨aCH.congr fun k=>by simp only [vR]; grind,hc⟩
theorem aKe {r:Rx} (hr:0 <= r.rc):(Zer fun k=>vR (a0K r) k - vR r k*vR r k)/\0 <= (a0K r).rc:=by
 have e:(a0l r r).1=r.rc:=by unfold a0l; split <;> rfl
 unfold a0K a2n
 dsimp only
 rw [e]
 obtain ⟨h1,h2⟩:=a7g (r.ra*r.ra+r.rb*r.rb*r.rc) (r.ra*r.rb+r.rb*r.ra) hr
 refine ⟨(h1.add ((aBp hr).mul (a3W (-(r.rb*r.rb))))).congr fun k=>?_,h2⟩
 simp only [vR]
 grind
theorem b0U {r s:Rx} (hr:0 <= r.rc) (hs:0 <= s.rc) (hc:(a0l r s).2=true):(Zer fun k=>vR (a3b r s).1 k - (vR r k+vR s k))/\0 <= (a3b r s).1.rc:=by
 unfold a0l at hc
 unfold a3b a0l
 dsimp only
 split
 ·rename_i h
  have h:r.rb=0:=Rt.a2F.1 (by simpa using h)
  obtain ⟨h1,h2⟩:=a7g (r.ra+s.ra) (r.rb+s.rb) hs
  exact ⟨h1.congr fun k=>by simp only [vR,h]; grind,h2⟩
 ·rename_i h
  rw [if_neg h] at hc
  obtain ⟨h1,h2⟩:=a7g (r.ra+s.ra) (r.rb+s.rb) hr
  refine ⟨h1.congr fun k=>?_,h2⟩
  by_cases g:s.rb=0
  ·simp only [vR,g]; grind
  ·have:¬ Rt.sg s.rb=0:=fun e=>g (Rt.a2F.1 e)
   have e:r.rc - s.rc=0:=Rt.a2F.1 (by simpa [this] using hc)
   have e:s.rc=r.rc:=by grind
   simp only [vR,e]; grind
theorem aZT {p:Px} (hp:0 <= p.e):Bdd (vX p):=(a3W p.a).add ((a3W p.b).mul (a9O hp))
theorem b1l {p:Px} (hp:0 <= p.e):Bdd (vY p):=(a3W p.c).add ((a3W p.d).mul (a9O hp))
theorem aTJ {k:Kx} {p:Px} (hp:0 <= p.e) (h:a2N k p=0):Zer fun n=>(vX p n - k.kx)*(vX p n - k.kx)+(vY p n - k.ky)*(vY p n - k.ky) - k.kq:=by
 have h:a1l (a2k k p)=0:=by unfold a2N at h; omega
 obtain ⟨h1,h2⟩:=aUI h
 unfold a2k a0q at h1 h2
 dsimp only at h1 h2
 have hc:=aVd (a0e p (a0R (Vx.mk k.kx k.ky)))
 unfold a1x at h1 h2
 have ex:∀ n,vR (a04 (a0e p (a0R (Vx.mk k.kx k.ky)))) n=vX p n - k.kx:=fun n=>by
  rw [a04,a6b]; simp only [a0e,a0R,vX]; grind
 have ey:∀ n,vR (a2D (a0e p (a0R (Vx.mk k.kx k.ky)))) n=vY p n - k.ky:=fun n=>by
  rw [a2D,a6b]; simp only [a0e,a0R,vY]; grind
 have cx:0 <= (a04 (a0e p (a0R (Vx.mk k.kx k.ky)))).rc:=a6c _ _ hp
 have cy:0 <= (a2D (a0e p (a0R (Vx.mk k.kx k.ky)))).rc:=a6c _ _ hp
 generalize a04 (a0e p (a0R (Vx.mk k.kx k.ky)))=x at *
 generalize a2D (a0e p (a0R (Vx.mk k.kx k.ky)))=y at *
 obtain ⟨a1,a2⟩:=aKe cx
 obtain ⟨b1,b2⟩:=aKe cy
 obtain ⟨s1,_⟩:=b0U a2 b2 hc
 have:=(s1.neg.add (a1.neg.add b1.neg)).neg
 refine ((s1.add (a1.add b1)).neg).congr fun n=>?_
 have ev:vR (a3b (a0K x) (a0K y)).1 n=k.kq:=by
  unfold vR
  rw [h2]; grind
 rw [ev,ex,ey]
 grind
theorem aEO {a b:Sq} {s t:Int} (ha:Sg a s) (hb:Sg b t) (h:(0 <= s/\0 <= t) \/ (s <= 0/\t <= 0)) (z:Zer fun n=>a n*a n - b n*b n):Zer fun n=>a n - b n:=by
 rcases ha with ⟨rfl,ha⟩ | ⟨rfl,ha⟩ | ⟨rfl,ha⟩
 ·rcases hb with ⟨rfl,hb⟩ | ⟨rfl,hb⟩ | ⟨rfl,hb⟩
  ·exact Zer.of_mul (z.congr fun n=>by grind) (ha.add hb)
  ·exact Zer.of_mul (y:=fun n=>a n+b n) (z.congr fun n=>by grind) (ha.add_zer hb)
  ·omega
 ·rcases hb with ⟨rfl,hb⟩ | ⟨rfl,hb⟩ | ⟨rfl,hb⟩
  ·exact Zer.of_mul (y:=fun n=>b n+a n) (z.congr fun n=>by grind) (hb.add_zer ha)
  ·exact (ha.add hb.neg).congr fun n=>by grind
  ·exact Zer.of_mul (y:=fun n=>-b n+-a n) (z.neg.congr fun n=>by grind) (hb.add_zer ha.neg)
 ·rcases hb with ⟨rfl,hb⟩ | ⟨rfl,hb⟩ | ⟨rfl,hb⟩
  ·omega
  ·exact Zer.of_mul (y:=fun n=>-a n+-b n) (z.neg.congr fun n=>by grind) (ha.add_zer hb.neg)
  ·exact Zer.of_mul (y:=fun n=>-a n+-b n) (z.neg.congr fun n=>by grind) (ha.add hb)
theorem aBS {k:Kx} {p q:Px} (h:a0x k p=a0x k q):(0 <= a0T (a2D p) k.ky/\0 <= a0T (a2D q) k.ky) \/ (a0T (a2D p) k.ky <= 0/\a0T (a2D q) k.ky <= 0):=by
 unfold a0x at h
 generalize a0T (a2D p) k.ky=s at *
 generalize a0T (a2D q) k.ky=t at *
 rcases Int.lt_trichotomy s 0 with a | a | a <;> rcases Int.lt_trichotomy t 0 with b | b | b <;> first | omega | (exfalso; simp [b,show ¬ s > 0 by omega,show ¬ s=0 by omega] at h; done) | (exfalso; simp [a,show ¬ t > 0 by omega,show ¬ t=0 by omega] at h; done)
theorem aHr {k:Kx} {p q:Px} (h:a0M k p q=0):a0x k p=a0x k q/\a0S (a04 p) (a04 q)=0:=by
 rw [a6t] at h
 split at h
 ·split at h <;> omega
 ·rename_i e
  refine ⟨by simpa using e,?_⟩
  split at h <;> omega
theorem aF4 {k:Kx} {f p q:Px} (h:a0U k f p q=0):a0M k p q=0:=by
 unfold a0U at h
 split at h
 ·split at h <;> omega
 ·exact h
end Lm
end Go.Proofs.YtbohkigffejhoaaGreat
namespace Go.Proofs.YtbohkigffejhoaaGreat
open Vc
namespace Lm
def OnC (k:Kx) (p:Px):Prop:=Zer fun n=>(vX p n - k.kx)*(vX p n - k.kx)+(vY p n - k.ky)*(vY p n - k.ky) - k.kq
def IsE (s:Rat) (k:Kx) (p:Px):Prop:=(Zer fun n=>vX p n - (k.kx+s*rt k.kq n))/\Zer fun n=>vY p n - k.ky
theorem aUG (z:Int):0 <= sqI z:=by unfold sqI; omega
theorem aYK (c:Rat):0 <= sqr c:=Rat.divInt_nonneg (aUG _) (aUG _)
theorem b0B {c:Rat} (h:0 <= c):∃ s,Sg (rt c) s/\0 <= s:=by
 rcases Rat.le_iff_lt_or_eq.1 h with h | h
 ·exact ⟨1,.inl ⟨rfl,aKk h⟩,by decide⟩
 ·subst h; exact ⟨0,.inr (.inl ⟨rfl,b0E⟩),by decide⟩
theorem aUL {c:Rat} (h0:0 <= c) (hq:isQ c=true):Zer fun n=>rt c n - sqr c:=by
 obtain ⟨s,h1,h2⟩:=b0B h0
 refine aEO (b:=fun _=>sqr c) h1 (b0d (sqr c)) (.inl ⟨h2,Rt.a81.2 (aYK c)⟩) ((aBp h0).congr fun n=>?_)
 rw [aYJ h0 hq]
theorem aZp {k:Kx} (hk:0 <= k.kq):IsE (-1) k (a0d k).1/\IsE 1 k (a0d k).2:=by
 have e1:(((-1:Int)):Rat)=-1:=rfl
 have e2:(((1:Int)):Rat)=1:=rfl
 have z:=zr
 unfold a0d a0t IsE
 dsimp only
 cases hq:isQ k.kq with
 | true =>
   have r:=aUL hk hq
   simp only [if_true,a2f,vX,vY,a1N,a0h,a2m,a1Z]
   refine ⟨⟨r.congr fun n=>?_,aCH.congr fun n=>?_⟩,r.neg.congr fun n=>?_,aCH.congr fun n=>?_⟩ <;> grind
 | false =>
   simp only [Bool.false_eq_true,if_false,vX,vY,a2m]
   refine ⟨⟨aCH.congr fun n=>?_,aCH.congr fun n=>?_⟩,aCH.congr fun n=>?_,aCH.congr fun n=>?_⟩ <;> grind
theorem aUQ {k:Kx} {p:Px} (hk:0 < k.kq) (c:OnC k p) {s:Rat} (hs:s=1 \/ s=-1) (h:Pos fun n=>s*(vX p n - k.kx) - rt k.kq n):False:=by
 have hk0:=Rat.le_of_lt hk
 have b:Pos fun n=>s*(vX p n - k.kx) - rt k.kq n+2*rt k.kq n:=h.add_nn fun n=>by have:=aSC hk0 n; grind
 have m:=(Pos.mul h b).add_nn (y:=fun n=>(vY p n - k.ky)*(vY p n - k.ky)) fun n=>by
  rcases tot 0 (vY p n - k.ky) with g | g
  ·exact Rat.mul_nonneg g g
  ·have:=Rat.mul_nonneg (show 0 <= -(vY p n - k.ky) by grind) (show 0 <= -(vY p n - k.ky) by grind)
   grind
 refine m.not_zer ((c.add (aBp hk0).neg).congr fun n=>?_)
 rcases hs with rfl | rfl <;> grind
theorem aOT {k:Kx} {p L:Px} (hk:0 < k.kq) (hp:0 <= p.e) (hL:0 <= L.e) (c:OnC k p) (e:IsE (-1) k L):0 <= a0S (a04 p) (a04 L):=by
 rcases Int.lt_or_le (a0S (a04 p) (a04 L)) 0 with h | h
 ·exfalso
  have h:=(a2y hp hL).lt.1 h
  exact aUQ hk c (.inr rfl) ((h.add_zer e.1.neg).congr fun n=>by grind)
 ·exact h
theorem aOU {k:Kx} {p R:Px} (hk:0 < k.kq) (hp:0 <= p.e) (hR:0 <= R.e) (c:OnC k p) (e:IsE 1 k R):a0S (a04 p) (a04 R) <= 0:=by
 rcases Int.lt_or_le 0 (a0S (a04 p) (a04 R)) with h | h
 ·exfalso
  have h:=(a2y hp hR).pos.1 h
  exact aUQ hk c (.inl rfl) ((h.add_zer e.1).congr fun n=>by grind)
 ·exact h
theorem aWQ {k:Kx} {p:Px} (hk:0 < k.kq) (hp:0 <= p.e) (c:OnC k p) {s:Rat} (hs:s=1 \/ s=-1) (h:Zer fun n=>vX p n - (k.kx+s*rt k.kq n)):IsE s k p:=by
 refine ⟨h,Zer.of_sq ?_⟩
 have hk0:=Rat.le_of_lt hk
 have b:Bdd fun n=>vX p n+(-k.kx)+s*rt k.kq n:=((aZT hp).add (a3W _)).add ((a3W s).mul (a9O hk0))
 refine ((c.add (aBp hk0).neg).add (h.mul b).neg).congr fun n=>?_
 rcases hs with rfl | rfl <;> grind
theorem a3Q {k:Kx} {p:Px} (hk:0 < k.kq) (hp:0 <= p.e):(IsE 1 k p->a0x k p=true)/\(IsE (-1) k p->a0x k p=false):=by
 have r:=aKk hk
 constructor
 ·rintro ⟨h1,h2⟩
  have y:=(a8f hp k.ky).zer.2 h2
  have x:=(aCW hp k.kx).pos.2 ((r.add_zer h1).congr fun n=>by grind)
  unfold a0x
  rw [y,decide_eq_true x]
  rfl
 ·rintro ⟨h1,h2⟩
  have y:=(a8f hp k.ky).zer.2 h2
  have x:=(aCW hp k.kx).lt.2 ((r.add_zer h1.neg).congr fun n=>by grind)
  unfold a0x
  rw [y,decide_eq_false (p:=a0T (a04 p) k.kx > 0) (by omega)]
  rfl
theorem aU0 {k:Kx} {p q:Px} {s:Rat} (hk:0 < k.kq) (hs:s=1 \/ s=-1) (hp:0 <= p.e) (hq:0 <= q.e) (c:OnC k p) (g:IsE s k q) (h:a0S (a04 p) (a04 q)=0):IsE s k p :=
 aWQ hk hp c hs ((((a2y hp hq).zer.1 h).add g.1).congr fun n=>by grind)
theorem a9D {k:Kx} {p q:Px} (h:a0x k p=false) (g:a0x k q=false):a0M k p q=a0S (a04 p) (a04 q):=by rw [a6t,h,g]; simp
theorem a9C {k:Kx} {p q:Px} (h:a0x k p=true) (g:a0x k q=true):a0M k p q=-a0S (a04 p) (a04 q):=by rw [a6t,h,g]; simp
theorem aL2 {k:Kx} {p q:Px} (h:a0x k p=false) (g:a0x k q=true):a0M k p q=-1:=by rw [a6t,h,g]; simp
theorem aEj {k:Kx} {p q:Px} (h:a0x k p=true) (g:a0x k q=false):a0M k p q=1:=by rw [a6t,h,g]; simp
theorem a4O (k:Kx) (f p q:Px):a0U k f p q=if (decide (a0M k p f < 0) != decide (a0M k q f < 0))=true then (if a0M k q f < 0 then -1 else 1) else a0M k p q:=by
 unfold a0U
 congr 1
 by_cases h:a0M k q f < 0 <;> simp [h]
theorem aIT (k:Kx) {f p:Px} (hf:0 <= f.e):¬ a0U k f p f < 0:=by
 have h0:a0M k f f=0:=aEk k hf hf ((wkC.anti f f hf hf) |> fun h=>by omega)
 rw [a4O,h0]
 by_cases h:a0M k p f < 0
 ·simp [h]
 ·simp [h]
theorem aSU {k:Kx} {L R p q:Px} (hk:0 < k.kq) (eL:0 <= L.e) (eR:0 <= R.e) (hp:0 <= p.e) (hq:0 <= q.e) (hL:IsE (-1) k L) (hR:IsE 1 k R) (cp:OnC k p) (cq:OnC k q)
    (bp:a0U k L p R <= 0) (bq:a0U k L q R <= 0) (h:a0U k L p q < 0):a0S (a04 p) (a04 q) < 0:=by
 have uL:=(a3Q hk eL).2 hL
 have uR:=(a3Q hk eR).1 hR
 have aL:∀ x:Px,0 <= x.e->OnC k x->¬ a0M k x L < 0:=fun x hx cx=>by
  cases u:a0x k x with
  | true=>rw [aEj u uL]; omega
  | false=>rw [a9D u uL]; have:=aOT hk hx eL cx hL; omega
 have cR:OnC k R:=by
  refine ((aBp (Rat.le_of_lt hk)).add ((hR.1.mul (((aZT eR).add (a3W (-k.kx))).add (a9O (Rat.le_of_lt hk)))).add (hR.2.mul ((b1l eR).add (a3W (-k.ky)))))).congr fun n=>?_
  grind
 have cyc:∀ x y:Px,0 <= x.e->0 <= y.e->OnC k x->OnC k y->a0U k L x y=a0M k x y:=fun x y hx hy cx cy=>by
  rw [a4O,decide_eq_false (aL x hx cx),decide_eq_false (aL y hy cy)]; simp
 rw [cyc p q hp hq cp cq] at h
 rw [cyc p R hp eR cp cR] at bp
 rw [cyc q R hq eR cq cR] at bq
 have top:∀ x:Px,0 <= x.e->OnC k x->a0M k x R <= 0->a0x k x=true->a0S (a04 x) (a04 R)=0:=fun x hx cx bx u=>by
  rw [a9C u uR] at bx
  have:=aOU hk hx eR cx hR
  omega
 cases up:a0x k p with
 | true =>
   cases uq:a0x k q with
   | true =>
     have e1:=top p hp cp bp up
     have e2:=top q hq cq bq uq
     have a:=wkX.tr q R p hq eR hp (by show a0S (a04 q) (a04 R) <= 0; omega) (by have:=wkX.anti p R hp eR; show a0S (a04 R) (a04 p) <= 0; (try simp only at this); omega)
     have b:=wkX.anti p q hp hq
     have a':a0S (a04 q) (a04 p) <= 0:=a.1
     try simp only at b
     rw [a9C up uq] at h
     have a2:=wkX.tr p R q hp eR hq (by show a0S (a04 p) (a04 R) <= 0; omega) (by have:=wkX.anti q R hq eR; show a0S (a04 R) (a04 q) <= 0; (try simp only at this); omega)
     have a3:a0S (a04 p) (a04 q) <= 0:=a2.1
     omega
   | false=>rw [aEj up uq] at h; omega
 | false =>
   cases uq:a0x k q with
   | false=>rwa [a9D up uq] at h
   | true =>
     have e2:=top q hq cq bq uq
     have e1:=aOU hk hp eR cp hR
     have ne:a0S (a04 p) (a04 R) ≠ 0:=fun e=>by
      have:=(a3Q hk hp).1 (aU0 hk (.inl rfl) hp eR cp hR e)
      rw [up] at this; cases this
     have a:=wkX.tr p R q hp eR hq (by show a0S (a04 p) (a04 R) <= 0; omega) (by have:=wkX.anti q R hq eR; show a0S (a04 R) (a04 q) <= 0; (try simp only at this); omega)
     exact a.2 (.inl (by show a0S (a04 p) (a04 R) < 0; omega))
theorem aSh {k:Kx} {L R p q:Px} (hk:0 < k.kq) (eL:0 <= L.e) (eR:0 <= R.e) (hp:0 <= p.e) (hq:0 <= q.e) (hL:IsE (-1) k L) (hR:IsE 1 k R) (cp:OnC k p) (cq:OnC k q)
    (bp:a0U k R p L <= 0) (bq:a0U k R q L <= 0) (h:a0U k R p q < 0):0 < a0S (a04 p) (a04 q):=by
 have uL:=(a3Q hk eL).2 hL
 have uR:=(a3Q hk eR).1 hR
 have aT:∀ x:Px,0 <= x.e->OnC k x->a0x k x=true->¬ a0M k x R < 0:=fun x hx cx u=>by
  rw [a9C u uR]; have:=aOU hk hx eR cx hR; omega
 have aF:∀ x:Px,a0x k x=false->a0M k x R < 0:=fun x u=>by rw [aL2 u uR]; omega
 have bot:∀ x:Px,0 <= x.e->OnC k x->a0U k R x L <= 0->a0x k x=false->a0S (a04 x) (a04 L)=0:=fun x hx cx bx u=>by
  rw [a4O,decide_eq_true (aF x u),decide_eq_true (aF L uL)] at bx
  simp only [bne_self_eq_false,Bool.false_eq_true,if_false] at bx
  rw [a9D u uL] at bx
  have:=aOT hk hx eL cx hL
  omega
 cases up:a0x k p with
 | true =>
   cases uq:a0x k q with
   | true =>
     rw [a4O,decide_eq_false (aT p hp cp up),decide_eq_false (aT q hq cq uq)] at h
     simp only [bne_self_eq_false,Bool.false_eq_true,if_false] at h
     rw [a9C up uq] at h
     omega
   | false =>
     have e2:=bot q hq cq bq uq
     have e1:=aOT hk hp eL cp hL
     have ne:a0S (a04 p) (a04 L) ≠ 0:=fun e=>by
      have:=(a3Q hk hp).2 (aU0 hk (.inr rfl) hp eL cp hL e)
      rw [up] at this; cases this
     have a:=wkX.tr q L p hq eL hp (by show a0S (a04 q) (a04 L) <= 0; omega) (by have:=wkX.anti p L hp eL; show a0S (a04 L) (a04 p) <= 0; (try simp only at this); omega)
     have b:a0S (a04 q) (a04 p) < 0:=a.2 (.inr (by have:=wkX.anti p L hp eL; show a0S (a04 L) (a04 p) < 0; (try simp only at this); omega))
     have c:=wkX.anti p q hp hq
     try simp only at c
     omega
 | false =>
   have e1:=bot p hp cp bp up
   cases uq:a0x k q with
   | true =>
     rw [a4O,decide_eq_true (aF p up),decide_eq_false (aT q hq cq uq)] at h
     have:=aT q hq cq uq
     simp [this] at h
   | false =>
     have e2:=bot q hq cq bq uq
     rw [a4O,decide_eq_true (aF p up),decide_eq_true (aF q uq)] at h
     simp only [bne_self_eq_false,Bool.false_eq_true,if_false] at h
     rw [a9D up uq] at h
     have a:=wkX.tr q L p hq eL hp (by show a0S (a04 q) (a04 L) <= 0; omega) (by have:=wkX.anti p L hp eL; show a0S (a04 L) (a04 p) <= 0; (try simp only at this); omega)
     have a':a0S (a04 q) (a04 p) <= 0:=a.1
     have c:=wkX.anti p q hp hq
     try simp only at c
     omega
theorem aZf (a b:Rat) {c:Rat} (hc:0 <= c):Zer fun k=>vR (a1m a b c).1 k - (a+b*rt c k):=by
 unfold a1m
 dsimp only
 cases hq:isQ c with
 | true =>
   refine ((aUL hc hq).mul (a3W (-b))).congr fun n=>?_
   simp only [if_true,vR,a0E,a1D]
   have:=zr
   grind
 | false=>exact (a7g a b hc).1
theorem aUW {l:Lx} {p:Px} (hp:0 <= p.e) (h:a2v l p=0):Zer fun n=>l.la*vX p n+l.lb*vY p n - l.lc:=by
 obtain ⟨h1,h2⟩:=aUI (r:=a2j l p) h
 refine (aZf (a1C (a2A (a0J l.la p.a) (a0J l.lb p.c)) l.lc) (a2A (a0J l.la p.b) (a0J l.lb p.d)) hp).neg.congr fun n=>?_
 unfold a2j at h1 h2
 simp only [vR,h1,h2]
 simp only [a2A,a1C,a0J,vX,vY]
 grind
theorem aN9 {l:Lx} {p q:Px} (hp:0 <= p.e) (hq:0 <= q.e) (sp:a2v l p=0) (sq:a2v l q=0) (hb:l.lb=0) (ha:l.la ≠ 0):a0S (a04 p) (a04 q)=0:=by
 refine (a2y hp hq).zer.2 ?_
 refine (((aUW hp sp).add (aUW hq sq).neg).mul (a3W (1 / l.la))).congr fun n=>?_
 have:=Rat.div_mul_cancel (a:=1) (b:=l.la) ha
 rw [hb]
 grind
end Lm
end Go.Proofs.YtbohkigffejhoaaGreat
namespace Go.Proofs.YtbohkigffejhoaaGreat
open Vc
namespace Lm
theorem aXu {c d:Ux} (hc:MeU c) (hd:MeU d) (hs:a0i c d=true) (he:a0G d.f c.t=true):MeU (a3u c d):=by
 have hcf:=a3j hc.1.2.2.1
 have hct:=a3j hc.1.2.2.2.1
 have hdf:=a3j hd.1.2.2.1
 have hdt:=a3j hd.1.2.2.2.1
 have e0:a0g d.f c.t=0:=by simpa [a0G] using he
 obtain ⟨zx,zy⟩:=(a4c hdf hct).1 e0
 have e1:a0g c.t d.f=0:=(a4c hct hdf).2 ⟨zx.neg.congr fun n=>by grind,zy.neg.congr fun n=>by grind⟩
 refine ⟨⟨hc.1.1,hc.1.2.1,hc.1.2.2.1,hd.1.2.2.2.1,hc.1.2.2.2.2⟩,fun ha hb=>?_,aQi hcf hct hdf hdt hc.2.2 e1 hd.2.2⟩
 have ha:c.arc=false:=ha
 have hb:c.l.lb=0:=hb
 have hla:c.l.la ≠ 0:=(hc.1.2.2.2.2.2 ha).resolve_right (fun h=>h hb)
 unfold a0i at hs
 rw [ha] at hs
 cases hda:d.arc with
 | true=>rw [hda] at hs; cases hs
 | false =>
   rw [hda] at hs
   have hsl:a2w c.l d.l=true:=hs
   unfold a2w at hsl
   rw [aA5,aA5] at hsl
   have h0:Rt.sg (a0J c.l.la d.l.lb - a0J c.l.lb d.l.la)=0:=by simpa using hsl.1.1
   have h1:c.l.la*d.l.lb - c.l.lb*d.l.la=0:=Rt.a2F.1 h0
   have h2:c.l.la*d.l.lb=0:=by rw [hb] at h1; grind
   have hdb:d.l.lb=0:=by
    rcases Rat.mul_eq_zero.1 h2 with h | h
    ·exact absurd h hla
    ·exact h
   have z1:=(a2y hcf hct).zer.1 (hc.2.1 ha hb)
   have z2:=(a2y hdf hdt).zer.1 (hd.2.1 hda hdb)
   exact (a2y hcf hdt).zer.2 (((z1.add zx.neg).add z2).congr fun n=>by grind)
theorem b0J {c:Ux} (hc:MeU c):a0G c.f c.t=false:=aZw hc.2.2
end Lm
end Go.Proofs.YtbohkigffejhoaaGreat
namespace Go.Proofs.YtbohkigffejhoaaGreat
open Go.RowKit
namespace Vc
attribute [local irreducible] owes a1v
structure NxI (l:List Ux) (i:Nat) (next:Int):Prop where
 h1:-1 <= next
 h2:next < (l.length:Int)
 h3:0 <= next->a0G (l.getD next.toNat dfU).f (l.getD i dfU).t=true
structure RsI (l:List Ux) (i next:Nat) (rest:List Ux) (j:Nat):Prop where
 hi:i < l.length
 hx:next < l.length
 ne:i ≠ next
 hj:j <= l.length
 hm:∀ v ∈ rest,v ∈ l
 hn:rest.length+(if i < j then 1 else 0)+(if next < j then 1 else 0)=j
 hq:a0G (l.getD next dfU).f (l.getD i dfU).t=true
 hs:a0i (l.getD i dfU) (l.getD next dfU)=true
def a3z (n:Nat):Ctr:=⟨50,fun | [.c (.rd .U _ l)]=>.ex (List Ux) ((∀ v ∈ l,MeU v)/\l.length < n) (fun a=>(∀ v ∈ a,MeU v)/\a.length <= l.length) (fun a=>.k (.c (.rd .U false a))) | _=>.no⟩
def a5R (p_ q_:Ux):=((p_.t.a=q_.t.a)/\((p_.t.b=q_.t.b)/\((p_.t.c=q_.t.c)/\((p_.t.d=q_.t.d)/\((p_.t.e=q_.t.e)/\True)))))
def aPp (p_ q_:Ux):=(((Value.bool p_.arc=(.bool q_.arc))/\(((!p_.arc)=(!q_.arc))/\((p_.l.la=q_.l.la)/\(((!p_.arc)=(!q_.arc))/\((p_.l.lb=q_.l.lb)/\(((!p_.arc)=(!q_.arc))/\((p_.l.lc=q_.l.lc)/\((p_.arc=q_.arc)/\((p_.k.kx=q_.k.kx)/\((p_.arc=q_.arc)/\((p_.k.ky=q_.k.ky)/\((p_.arc=q_.arc)/\((p_.k.kq=q_.k.kq)/\((Value.bool p_.cw=(.bool q_.cw))/\((p_.f.a=q_.f.a)/\((p_.f.b=q_.f.b)/\((p_.f.c=q_.f.c)/\((p_.f.d=q_.f.d)/\((p_.f.e=q_.f.e)/\(a5R p_ q_))))))))))))))))))))/\True)
def a7t:=(True/\(True/\(True/\(True/\True))))
def aFt (p_:Ux):=((((!p_.arc)=(!p_.arc))/\(((!p_.arc)=(!p_.arc))/\((!p_.arc)=(!p_.arc))))/\(((p_.arc=p_.arc)/\((p_.arc=p_.arc)/\(p_.arc=p_.arc)))/\(a7t/\a7t)))
def aFr (y2:Nat × Nat × Int × Nat) (l:List Ux) (x1:Nat):=((y2.1 < l.length/\(y2.1:Int)=((x1:Nat):Int))/\y2.2.1 <= 2*y2.2.2.2/\y2.2.2.2 <= l.length/\NxI l y2.1 y2.2.2.1)
def aFq (x2:Nat × Nat × Int × Nat):=(bif (((x2.2.1:Nat):Int) == (2:Int)) then (decide (x2.2.2.1 >= (0:Int))) else false)
def aFs (x2:Nat × Nat × Int × Nat) (l:List Ux):=(bif (aFq x2) then (a0i (l.getD (((x2.1:Nat):Int).toNat) dfU) (l.getD x2.2.2.1.toNat dfU)) else false)
def aFp (x2:Nat × Nat × Int × Nat) (y2:Nat × Nat × Int × Nat):=((Value.int .i64 (((x2.2.2.2:Nat):Int)+(1:Int))=(.int .i64 ((y2.2.2.2:Nat):Int)))/\True)
def a6v (x2:Nat × Nat × Int × Nat):=(((x2.2.2.2:Nat):Int).toNat)
def aFo (x2:Nat × Nat × Int × Nat) (y2:Nat × Nat × Int × Nat):=(Value.int .i64 ((x2.1:Nat):Int)=(.int .i64 ((y2.1:Nat):Int)))
def a6M (x2:Nat × Nat × Int × Nat):=(((x2.2.1:Nat):Int)+(1:Int))
def aAa (x2:Nat × Nat × Int × Nat):=(inR .i64 (((x2.2.2.2:Nat):Int)+(1:Int)))
def aDe (x2:Nat × Nat × Int × Nat) (l:List Ux):=(0 <= ((x2.2.2.2:Nat):Int)/\((x2.2.2.2:Nat):Int) < (l.length:Int))
def aIi (x3:Nat × Nat × List Ux × Nat):=(bif (((x3.2.2.2:Nat):Int) != ((x3.1:Nat):Int)) then (((x3.2.2.2:Nat):Int) != ((x3.2.1:Nat):Int)) else false)
def a99 (l:List Ux) (x3:Nat × Nat × List Ux × Nat):=([a3u (l.getD x3.1 dfU) (l.getD x3.2.1 dfU)]:List Ux)
set_option maxHeartbeats 4000000 in
theorem aBz (n:Nat) (l:List Ux) (hp:(∀ v ∈ l,MeU v)/\l.length < n+1) (hs:n <= 1000000):a1v LTL (WP1 ++ [a3z n]) [.inv 2 (Nat) (fun ξ=>⟨[.k (.c (.rd .U (false) (l))),.u,.u,.k (.c (.v (.int .i64 (((ξ:Nat):Int))))),.u,.u,.u,.u,.u,.u,.u,.u,.u,.u,.u,.u,.u,.u,.u,.u,.u,.u,.u,.u,.u,.u,.u,.u,.u,.u,.u,.u,.u,.u,.u,.u,.u,.u,.u,.u,.u,.u,.u,.u,.u,.u,.u,.u,.u,.u,.u,.u,.u,.u,.u,.u,.u,.u,.u,.u,.u,.u,.u,.u,.u,.u,.u,.u,.u,.u,.u,.u,.u,.u,.u,.u,.u,.u,.u,.u,.u,.u,.u,.u,.u,.u,.u,.u,.u,.u,.u,.u,.u,.u,.u,.u,.u,.u,.u,.u,.u,.u,.u,.u,.u,.u,.u,.u,.u,.u,.u,.u,.u,.u],[]⟩) (fun _ ξ=>ξ <= l.length) (fun ξ=>l.length - ξ),.inv 7 (Nat × Nat × Int × Nat) (fun ξ=>⟨[.k (.c (.rd .U (false) (l))),.u,.u,.k (.c (.v (.int .i64 (((ξ.1:Nat):Int))))),.k (.c (.bx 0 0)),.k (.c (.v (.int .i64 (((ξ.2.1:Nat):Int))))),.k (.c (.v (.int .i64 (ξ.2.2.1)))),.k (.c (.v (.int .i64 (((ξ.2.2.2:Nat):Int))))),.u,.u,.u,.u,.u,.u,.u,.u,.u,.u,.u,.u,.u,.u,.u,.u,.u,.u,.u,.u,.u,.u,.u,.u,.u,.u,.u,.u,.u,.u,.u,.u,.u,.u,.u,.u,.u,.u,.u,.u,.u,.u,.u,.u,.u,.u,.u,.u,.u,.u,.u,.u,.u,.u,.u,.u,.u,.u,.u,.u,.u,.u,.u,.u,.u,.u,.u,.u,.u,.u,.u,.u,.u,.u,.u,.u,.u,.u,.u,.u,.u,.u,.u,.u,.u,.u,.u,.u,.u,.u,.u,.u,.u,.u,.u,.u,.u,.u,.u,.u,.u,.u,.u,.u,.u,.u],[⟨50,(eP (l.getD ξ.1 dfU).t)⟩]⟩) (fun σ ξ=>(ξ.1 < l.length/\(ξ.1:Int)=(tmI σ 3))/\ξ.2.1 <= 2*ξ.2.2.2/\ξ.2.2.2 <= l.length/\NxI l ξ.1 ξ.2.2.1) (fun ξ=>l.length - ξ.2.2.2),.inv 18 (Nat × Nat × List Ux × Nat) (fun ξ=>⟨[.k (.c (.rd .U (false) (l))),.u,.u,.k (.c (.v (.int .i64 (((ξ.1:Nat):Int))))),.u,.u,.k (.c (.v (.int .i64 (((ξ.2.1:Nat):Int))))),.u,.k (.c (.bx 1 0)),.k (.c (.ow 0 52 .U (ξ.2.2.1))),.k (.c (.v (.int .i64 (((ξ.2.2.2:Nat):Int))))),.u,.u,.u,.u,.u,.u,.u,.u,.u,.u,.u,.u,.u,.u,.u,.u,.u,.u,.u,.u,.u,.u,.u,.u,.u,.u,.u,.u,.u,.u,.u,.u,.u,.u,.u,.u,.u,.u,.u,.u,.u,.u,.u,.u,.u,.u,.u,.u,.u,.u,.u,.u,.u,.u,.u,.u,.u,.u,.u,.u,.u,.u,.u,.u,.u,.u,.u,.u,.u,.u,.u,.u,.u,.u,.u,.u,.u,.u,.u,.u,.u,.u,.u,.u,.u,.u,.u,.u,.u,.u,.u,.u,.u,.u,.u,.u,.u,.u,.u,.u,.u,.u,.u],[⟨50,(eP (l.getD ξ.1 dfU).t)⟩,⟨52,(eU (a3u (l.getD ξ.1 dfU) (l.getD ξ.2.1 dfU)))⟩]⟩) (fun _ ξ=>RsI l ξ.1 ξ.2.1 ξ.2.2.1 ξ.2.2.2) (fun ξ=>l.length - ξ.2.2.2)] Tryz.f50 (bd Tryz.f50) [.c (.rd .U false l)] (fun a:List Ux=>(∀ v ∈ a,MeU v)/\a.length <= l.length) (fun a=>.k (.c (.rd .U false a))):=by
 refine a1J (show ((∃ x1:Nat,((x1 <= l.length)/\(((l=l)/\((Value.int .i64 (0:Int)=(.int .i64 ((x1:Nat):Int)))/\True))/\True)))/\(∀ x1:Nat,((x1 <= l.length)->(((decide (((x1:Nat):Int) < (l.length:Int)))=true->((0 <= ((x1:Nat):Int)/\((x1:Nat):Int) < (l.length:Int))/\((∃ x2:Nat × Nat × Int × Nat,(((x2.1 < l.length/\(x2.1:Int)=((x1:Nat):Int))/\x2.2.1 <= 2*x2.2.2.2/\x2.2.2.2 <= l.length/\NxI l x2.1 x2.2.2.1)/\(((l=l)/\((Value.int .i64 ((x1:Nat):Int)=(.int .i64 ((x2.1:Nat):Int)))/\(True/\((Value.int .i64 (0:Int)=(.int .i64 ((x2.2.1:Nat):Int)))/\((Value.int .i64 (-1:Int)=(.int .i64 x2.2.2.1))/\((Value.int .i64 (0:Int)=(.int .i64 ((x2.2.2.2:Nat):Int)))/\True))))))/\((a5R (l.getD (((x1:Nat):Int).toNat) dfU) (l.getD x2.1 dfU))/\True))))/\(∀ x2:Nat × Nat × Int × Nat,((x2.1 < l.length/\(x2.1:Int)=((x1:Nat):Int))/\x2.2.1 <= 2*x2.2.2.2/\x2.2.2.2 <= l.length/\NxI l x2.1 x2.2.2.1->(((decide (((x2.2.2.2:Nat):Int) < (l.length:Int)))=true->((aDe x2 l)/\((a7t/\a7t/\((l.getD (a6v x2) dfU).f).sz+((l.getD x2.1 dfU).t).sz <= 14500)/\(((a0G ((l.getD (a6v x2) dfU).f) ((l.getD x2.1 dfU).t))=true->((inR .i64 (a6M x2))/\((aDe x2 l)/\((a7t/\a7t/\((l.getD (a6v x2) dfU).t).sz+((l.getD x2.1 dfU).t).sz <= 14500)/\(((a0G ((l.getD (a6v x2) dfU).t) ((l.getD x2.1 dfU).t))=true->((inR .i64 ((a6M x2)+(1:Int)))/\((aAa x2)/\(∃ y2:Nat × Nat × Int × Nat,((aFr y2 l x1)/\((l.length - y2.2.2.2 < l.length - x2.2.2.2)/\(((l=l)/\((aFo x2 y2)/\(True/\((Value.int .i64 ((a6M x2)+(1:Int))=(.int .i64 ((y2.2.1:Nat):Int)))/\((Value.int .i64 ((x2.2.2.2:Nat):Int)=(.int .i64 y2.2.2.1))/\(aFp x2 y2))))))/\((a5R (l.getD x2.1 dfU) (l.getD y2.1 dfU))/\True))))))))/\((a0G ((l.getD (a6v x2) dfU).t) ((l.getD x2.1 dfU).t))=false->((aAa x2)/\(∃ y2:Nat × Nat × Int × Nat,((aFr y2 l x1)/\((l.length - y2.2.2.2 < l.length - x2.2.2.2)/\(((l=l)/\((aFo x2 y2)/\(True/\((Value.int .i64 (a6M x2)=(.int .i64 ((y2.2.1:Nat):Int)))/\((Value.int .i64 ((x2.2.2.2:Nat):Int)=(.int .i64 y2.2.2.1))/\(aFp x2 y2))))))/\((a5R (l.getD x2.1 dfU) (l.getD y2.1 dfU))/\True))))))))))))/\((a0G ((l.getD (a6v x2) dfU).f) ((l.getD x2.1 dfU).t))=false->((aDe x2 l)/\((a7t/\a7t/\((l.getD (a6v x2) dfU).t).sz+((l.getD x2.1 dfU).t).sz <= 14500)/\(((a0G ((l.getD (a6v x2) dfU).t) ((l.getD x2.1 dfU).t))=true->((inR .i64 (a6M x2))/\((aAa x2)/\(∃ y2:Nat × Nat × Int × Nat,((aFr y2 l x1)/\((l.length - y2.2.2.2 < l.length - x2.2.2.2)/\(((l=l)/\((aFo x2 y2)/\(True/\((Value.int .i64 (a6M x2)=(.int .i64 ((y2.2.1:Nat):Int)))/\((Value.int .i64 x2.2.2.1=(.int .i64 y2.2.2.1))/\(aFp x2 y2))))))/\((a5R (l.getD x2.1 dfU) (l.getD y2.1 dfU))/\True))))))))/\((a0G ((l.getD (a6v x2) dfU).t) ((l.getD x2.1 dfU).t))=false->((aAa x2)/\(∃ y2:Nat × Nat × Int × Nat,((aFr y2 l x1)/\((l.length - y2.2.2.2 < l.length - x2.2.2.2)/\(((l=l)/\((aFo x2 y2)/\(True/\((Value.int .i64 ((x2.2.1:Nat):Int)=(.int .i64 ((y2.2.1:Nat):Int)))/\((Value.int .i64 x2.2.2.1=(.int .i64 y2.2.2.1))/\(aFp x2 y2))))))/\((a5R (l.getD x2.1 dfU) (l.getD y2.1 dfU))/\True)))))))))))))))/\((decide (((x2.2.2.2:Nat):Int) < (l.length:Int)))=false->((((aFq x2) == true)=true->(0 <= ((x2.1:Nat):Int)/\((x2.1:Nat):Int) < (l.length:Int)))/\((((aFq x2) == true)=true->(0 <= x2.2.2.1/\x2.2.2.1 < (l.length:Int)))/\((((aFq x2) == true)=true->((aFt (l.getD (((x2.1:Nat):Int).toNat) dfU))/\(aFt (l.getD x2.2.2.1.toNat dfU))/\(l.getD (((x2.1:Nat):Int).toNat) dfU).sz+(l.getD x2.2.2.1.toNat dfU).sz <= 100000))/\((((aFs x2 l) == true)=true->(0 <= ((x2.1:Nat):Int)/\((x2.1:Nat):Int) < (l.length:Int)))/\((((aFs x2 l) == true)=true->(0 <= x2.2.2.1/\x2.2.2.1 < (l.length:Int)))/\(((bif (aFs x2 l) then (((l.getD (((x2.1:Nat):Int).toNat) dfU).cw) == ((l.getD x2.2.2.1.toNat dfU).cw)) else false)=true->((0 <= ((x2.1:Nat):Int)/\((x2.1:Nat):Int) < (l.length:Int))/\((0 <= x2.2.2.1/\x2.2.2.1 < (l.length:Int))/\((∃ x3:Nat × Nat × List Ux × Nat,((RsI l x3.1 x3.2.1 x3.2.2.1 x3.2.2.2)/\(((l=l)/\((Value.int .i64 ((x2.1:Nat):Int)=(.int .i64 ((x3.1:Nat):Int)))/\((Value.int .i64 x2.2.2.1=(.int .i64 ((x3.2.1:Nat):Int)))/\(True/\((x3.2.2.1=[])/\((Value.int .i64 (0:Int)=(.int .i64 ((x3.2.2.2:Nat):Int)))/\True))))))/\((a5R (l.getD x2.1 dfU) (l.getD x3.1 dfU))/\(((Value.bool ((l.getD (((x2.1:Nat):Int).toNat) dfU).arc)=(.bool ((a3u (l.getD x3.1 dfU) (l.getD x3.2.1 dfU)).arc)))/\(((!(l.getD (((x2.1:Nat):Int).toNat) dfU).arc)=(!(a3u (l.getD x3.1 dfU) (l.getD x3.2.1 dfU)).arc))/\(((l.getD (((x2.1:Nat):Int).toNat) dfU).l.la=(a3u (l.getD x3.1 dfU) (l.getD x3.2.1 dfU)).l.la)/\(((!(l.getD (((x2.1:Nat):Int).toNat) dfU).arc)=(!(a3u (l.getD x3.1 dfU) (l.getD x3.2.1 dfU)).arc))/\(((l.getD (((x2.1:Nat):Int).toNat) dfU).l.lb=(a3u (l.getD x3.1 dfU) (l.getD x3.2.1 dfU)).l.lb)/\(((!(l.getD (((x2.1:Nat):Int).toNat) dfU).arc)=(!(a3u (l.getD x3.1 dfU) (l.getD x3.2.1 dfU)).arc))/\(((l.getD (((x2.1:Nat):Int).toNat) dfU).l.lc=(a3u (l.getD x3.1 dfU) (l.getD x3.2.1 dfU)).l.lc)/\((((l.getD (((x2.1:Nat):Int).toNat) dfU).arc)=((a3u (l.getD x3.1 dfU) (l.getD x3.2.1 dfU)).arc))/\(((l.getD (((x2.1:Nat):Int).toNat) dfU).k.kx=(a3u (l.getD x3.1 dfU) (l.getD x3.2.1 dfU)).k.kx)/\((((l.getD (((x2.1:Nat):Int).toNat) dfU).arc)=((a3u (l.getD x3.1 dfU) (l.getD x3.2.1 dfU)).arc))/\(((l.getD (((x2.1:Nat):Int).toNat) dfU).k.ky=(a3u (l.getD x3.1 dfU) (l.getD x3.2.1 dfU)).k.ky)/\((((l.getD (((x2.1:Nat):Int).toNat) dfU).arc)=((a3u (l.getD x3.1 dfU) (l.getD x3.2.1 dfU)).arc))/\(((l.getD (((x2.1:Nat):Int).toNat) dfU).k.kq=(a3u (l.getD x3.1 dfU) (l.getD x3.2.1 dfU)).k.kq)/\((Value.bool ((l.getD (((x2.1:Nat):Int).toNat) dfU).cw)=(.bool ((a3u (l.getD x3.1 dfU) (l.getD x3.2.1 dfU)).cw)))/\(((l.getD (((x2.1:Nat):Int).toNat) dfU).f.a=(a3u (l.getD x3.1 dfU) (l.getD x3.2.1 dfU)).f.a)/\(((l.getD (((x2.1:Nat):Int).toNat) dfU).f.b=(a3u (l.getD x3.1 dfU) (l.getD x3.2.1 dfU)).f.b)/\(((l.getD (((x2.1:Nat):Int).toNat) dfU).f.c=(a3u (l.getD x3.1 dfU) (l.getD x3.2.1 dfU)).f.c)/\(((l.getD (((x2.1:Nat):Int).toNat) dfU).f.d=(a3u (l.getD x3.1 dfU) (l.getD x3.2.1 dfU)).f.d)/\(((l.getD (((x2.1:Nat):Int).toNat) dfU).f.e=(a3u (l.getD x3.1 dfU) (l.getD x3.2.1 dfU)).f.e)/\(a5R (l.getD x2.2.2.1.toNat dfU) (a3u (l.getD x3.1 dfU) (l.getD x3.2.1 dfU))))))))))))))))))))))/\True)))))/\(∀ x3:Nat × Nat × List Ux × Nat,((RsI l x3.1 x3.2.1 x3.2.2.1 x3.2.2.2)->(((decide (((x3.2.2.2:Nat):Int) < (l.length:Int)))=true->(((aIi x3)=true->((0 <= ((x3.2.2.2:Nat):Int)/\((x3.2.2.2:Nat):Int) < (l.length:Int))/\(((aFt (l.getD (((x3.2.2.2:Nat):Int).toNat) dfU))/\True)/\((x3.2.2.1.length+([(l).getD (((x3.2.2.2:Nat):Int).toNat) dfU]:List Ux).length <= 10000000)/\((inR .i64 (((x3.2.2.2:Nat):Int)+(1:Int)))/\(∃ y3:Nat × Nat × List Ux × Nat,((RsI l y3.1 y3.2.1 y3.2.2.1 y3.2.2.2)/\((l.length - y3.2.2.2 < l.length - x3.2.2.2)/\(((l=l)/\((Value.int .i64 ((x3.1:Nat):Int)=(.int .i64 ((y3.1:Nat):Int)))/\((Value.int .i64 ((x3.2.1:Nat):Int)=(.int .i64 ((y3.2.1:Nat):Int)))/\(True/\(((x3.2.2.1 ++ ([(l).getD (((x3.2.2.2:Nat):Int).toNat) dfU]:List Ux))=y3.2.2.1)/\((Value.int .i64 (((x3.2.2.2:Nat):Int)+(1:Int))=(.int .i64 ((y3.2.2.2:Nat):Int)))/\True))))))/\((a5R (l.getD x3.1 dfU) (l.getD y3.1 dfU))/\(aPp (a3u (l.getD x3.1 dfU) (l.getD x3.2.1 dfU)) (a3u (l.getD y3.1 dfU) (l.getD y3.2.1 dfU)))))))))))))/\((aIi x3)=false->((inR .i64 (((x3.2.2.2:Nat):Int)+(1:Int)))/\(∃ y3:Nat × Nat × List Ux × Nat,((RsI l y3.1 y3.2.1 y3.2.2.1 y3.2.2.2)/\((l.length - y3.2.2.2 < l.length - x3.2.2.2)/\(((l=l)/\((Value.int .i64 ((x3.1:Nat):Int)=(.int .i64 ((y3.1:Nat):Int)))/\((Value.int .i64 ((x3.2.1:Nat):Int)=(.int .i64 ((y3.2.1:Nat):Int)))/\(True/\((x3.2.2.1=y3.2.2.1)/\((Value.int .i64 (((x3.2.2.2:Nat):Int)+(1:Int))=(.int .i64 ((y3.2.2.2:Nat):Int)))/\True))))))/\((a5R (l.getD x3.1 dfU) (l.getD y3.1 dfU))/\(aPp (a3u (l.getD x3.1 dfU) (l.getD x3.2.1 dfU)) (a3u (l.getD y3.1 dfU) (l.getD y3.2.1 dfU))))))))))))/\((decide (((x3.2.2.2:Nat):Int) < (l.length:Int)))=false->(((aFt (a3u (l.getD x3.1 dfU) (l.getD x3.2.1 dfU)))/\True)/\((x3.2.2.1.length+(a99 l x3).length <= 10000000)/\(((∀ v ∈ (x3.2.2.1 ++ (a99 l x3)),MeU v)/\(x3.2.2.1 ++ (a99 l x3)).length < n)/\(∀ e4:List Ux,((∀ v ∈ e4,MeU v)/\e4.length <= (x3.2.2.1 ++ (a99 l x3)).length->(∃ a:List Ux,(((∀ v ∈ a,MeU v)/\a.length <= l.length)/\(e4=a))))))))))))))))/\((bif (aFs x2 l) then (((l.getD (((x2.1:Nat):Int).toNat) dfU).cw) == ((l.getD x2.2.2.1.toNat dfU).cw)) else false)=false->((inR .i64 (((x2.1:Nat):Int)+(1:Int)))/\(∃ y1:Nat,((y1 <= l.length)/\((l.length - y1 < l.length - x1)/\(((l=l)/\((Value.int .i64 (((x2.1:Nat):Int)+(1:Int))=(.int .i64 ((y1:Nat):Int)))/\True))/\True)))))))))))))))))))/\((decide (((x1:Nat):Int) < (l.length:Int)))=false->(∃ a:List Ux,(((∀ v ∈ a,MeU v)/\a.length <= l.length)/\(l=a))))))))=_ by kernel_rfl) ?_
 delta a99 aIi aDe aAa a6M aFo a6v aFp aFs aFq aFr aFt a7t aPp a5R
 simp only [true_and,and_true,aA5,aJP,Int.toNat_natCast,Value.int.injEq,Value.bool.injEq,decide_eq_true_eq,decide_eq_false_iff_not,beq_true,Int.natCast_nonneg,Int.ofNat_lt,Int.ofNat_inj,ge_iff_le]
 obtain ⟨hM,hlen⟩:=hp
 refine ⟨⟨0,Nat.zero_le _,rfl⟩,fun x1 h1=>⟨fun hlt=>⟨hlt,⟨(x1,0,-1,0),⟨⟨hlt,rfl⟩,Nat.zero_le _,Nat.zero_le _,⟨Int.le_refl _,by dsimp only; omega,fun h=>(by dsimp only at h; omega)⟩⟩,⟨rfl,rfl,rfl,rfl⟩,(by repeat' (first | exact rfl | apply And.intro))⟩,fun x2 h2=>?_⟩,fun _=>⟨l,⟨hM,Nat.le_refl _⟩,rfl⟩⟩⟩
 obtain ⟨⟨a1,a2⟩,a3,a4,hN⟩:=h2
 have g1:=hM _ (a1k (d:=dfU) a1)
 have z1:=a1Q g1.1.2.2.2.1
 have n1:=hN.h1
 have n2:=hN.h2
 refine ⟨fun hk=>?_,fun hk=>⟨fun _=>a1,fun h=>⟨h.2,hN.h2⟩,fun h=>?_,fun _=>a1,fun h=>⟨h.1.2,hN.h2⟩,fun h=>?_,fun _=>⟨by unfold inR; omega,x2.1+1,a1,by omega,by simp⟩⟩⟩
 ·have gk:=hM _ (a1k (d:=dfU) hk)
  have z2:=a1Q gk.1.2.2.1
  have z3:=a1Q gk.1.2.2.2.1
  have N1:a0G (l.getD x2.2.2.2 dfU).f (l.getD x2.1 dfU).t=true->NxI l x2.1 (x2.2.2.2:Int):=fun h=>⟨by omega,by omega,fun _=>by rw [Int.toNat_natCast]; exact h⟩
  refine ⟨hk,by omega,fun hf=>⟨by unfold inR; omega,hk,by omega,fun ht=>⟨by unfold inR; omega,by unfold inR; omega,(x2.1,x2.2.1+1+1,(x2.2.2.2:Int),x2.2.2.2+1),⟨⟨a1,a2⟩,by dsimp only; omega,hk,N1 hf⟩,by dsimp only; omega,⟨rfl,rfl,rfl,rfl⟩,(by repeat' (first | exact rfl | apply And.intro))⟩,fun ht=>⟨by unfold inR; omega,(x2.1,x2.2.1+1,(x2.2.2.2:Int),x2.2.2.2+1),⟨⟨a1,a2⟩,by dsimp only; omega,hk,N1 hf⟩,by dsimp only; omega,⟨rfl,rfl,rfl,rfl⟩,(by repeat' (first | exact rfl | apply And.intro))⟩⟩,fun hf=>⟨hk,by omega,fun ht=>⟨by unfold inR; omega,by unfold inR; omega,(x2.1,x2.2.1+1,x2.2.2.1,x2.2.2.2+1),⟨⟨a1,a2⟩,by dsimp only; omega,hk,hN⟩,by dsimp only; omega,⟨rfl,rfl,rfl,rfl⟩,(by repeat' (first | exact rfl | apply And.intro))⟩,fun ht=>⟨by unfold inR; omega,(x2.1,x2.2.1,x2.2.2.1,x2.2.2.2+1),⟨⟨a1,a2⟩,by dsimp only; omega,hk,hN⟩,by dsimp only; omega,⟨rfl,rfl,rfl,rfl⟩,(by repeat' (first | exact rfl | apply And.intro))⟩⟩⟩
 ·have s1:=a4r g1.1
  have h0:=h.2
  have s2:=a4r (hM _ (a1k (d:=dfU) (show x2.2.2.1.toNat < l.length by omega))).1
  omega
 ·have h0:=h.1.1.2
  have hs:=h.1.2
  have hq:=hN.h3 h0
  have hnx:x2.2.2.1.toNat < l.length:=by omega
  have ne:x2.1 ≠ x2.2.2.1.toNat:=fun e=>by
   have q:=Lm.b0J g1
   rw [<- e] at hq
   rw [hq] at q
   cases q
  refine ⟨a1,⟨h0,hN.h2⟩,⟨(x2.1,x2.2.2.1.toNat,[],0),⟨a1,hnx,ne,Nat.zero_le _,fun v hv=>(by simp at hv),by simp,hq,hs⟩,⟨rfl,by dsimp only; omega,rfl,rfl⟩,(by repeat' (first | exact rfl | apply And.intro))⟩,fun x3 h3=>?_⟩
  have c1:=h3.hn
  have c2:=h3.hj
  refine ⟨fun hj=>⟨fun hne=>⟨hj,by simp only [List.length_cons,List.length_nil]; (repeat' split at c1) <;> omega,by unfold inR; omega,(x3.1,x3.2.1,x3.2.2.1 ++ [l.getD x3.2.2.2 dfU],x3.2.2.2+1),⟨h3.hi,h3.hx,h3.ne,hj,fun v hv=>?_,?_,h3.hq,h3.hs⟩,by dsimp only; omega,⟨rfl,rfl,rfl,rfl⟩,(by repeat' (first | exact rfl | apply And.intro))⟩,fun hne=>⟨by unfold inR; omega,(x3.1,x3.2.1,x3.2.2.1,x3.2.2.2+1),⟨h3.hi,h3.hx,h3.ne,hj,h3.hm,?_,h3.hq,h3.hs⟩,by dsimp only; omega,⟨rfl,rfl,rfl,rfl⟩,(by repeat' (first | exact rfl | apply And.intro))⟩⟩,fun hj=>?_⟩
  ·rcases List.mem_append.1 hv with hv | hv
   ·exact h3.hm v hv
   ·rw [List.mem_singleton.1 hv]; exact a1k hj
  ·have d1:¬ (x3.2.2.2:Int)=(x3.1:Int):=by simpa using hne.1
   have d2:¬ (x3.2.2.2:Int)=(x3.2.1:Int):=by simpa using hne.2
   simp only [List.length_append,List.length_cons,List.length_nil]
   (repeat' split at c1) <;> (repeat' split) <;> omega
  ·have d1:¬ (x3.2.2.2:Int)=(x3.1:Int)->(x3.2.2.2:Int)=(x3.2.1:Int):=by simpa using hne
   have d2:=h3.ne
   dsimp only
   (repeat' split at c1) <;> (repeat' split) <;> omega
  ·have k1:=h3.hi
   have k2:=h3.hx
   have ln:x3.2.2.1.length+2=l.length:=by
    (repeat' split at c1) <;> omega
   refine ⟨by simp only [List.length_cons,List.length_nil]; omega,⟨fun v hv=>?_,by simp only [List.length_append,List.length_cons,List.length_nil]; omega⟩,fun e he=>⟨e,⟨he.1,by have:=he.2; simp only [List.length_append,List.length_cons,List.length_nil] at this; omega⟩,rfl⟩⟩
   rcases List.mem_append.1 hv with hv | hv
   ·exact hM v (h3.hm v hv)
   ·rw [List.mem_singleton.1 hv]
    exact Lm.aXu (hM _ (a1k k1)) (hM _ (a1k k2)) h3.hs h3.hq
end Vc
end Go.Proofs.YtbohkigffejhoaaGreat
namespace Go.Proofs.YtbohkigffejhoaaGreat
open Go.RowKit
namespace Vc
attribute [local irreducible] owes a1v
theorem a7I:∀ n:Nat,n <= 1000000->CtrOK Tryz.prog (a3z n)
 | 0,_=>.ofEx (show a3H Tryz.prog 50=true by kernel_rfl) (fun bs w xs vs α pre φ r hr hA hG h hp=>by
   simp only [a3z] at h
   split at h
   ·cases h
    exact absurd hp.2 (Nat.not_lt_zero _)
   ·cases h) (fun xs pre r=>by simp only [a3z]; split <;> (intro h; cases h))
 | n+1,hn=>.ofEx (show a3H Tryz.prog 50=true by kernel_rfl) (fun bs w xs vs α pre φ r hr hA hG h hp=>by
   have tab:∀ c ∈ WP1 ++ [a3z n],CtrOK Tryz.prog c:=a0O aCG (by
    intro c hc
    simp only [List.mem_cons,List.not_mem_nil,or_false] at hc
    subst hc
    exact a7I n (by omega))
   simp only [a3z] at h
   split at h
   ·rename_i fl l
    cases h
    exact a2U mixed a2s tab Tryz.func50 (by kernel_rfl) (aKl a3E vs hr) hA hG rfl (fun _=>rfl) (aBz n l hp (by omega))
   ·cases h) (fun xs pre r=>by simp only [a3z]; split <;> (intro h; cases h))
def WF0:List Ctr:=WP1 ++ [aGy,aVw,a3z 1000000,aGw,aQX]
theorem aHy:∀ c ∈ WF0,CtrOK Tryz.prog c:=a0O aCG (a03 aGx (a03 aQY (a03 (a7I _ (Nat.le_refl _)) (a03 aGv (a03 aNr (a2L))))))
end Vc
end Go.Proofs.YtbohkigffejhoaaGreat
namespace Go.Proofs.YtbohkigffejhoaaGreat
open Go.RowKit
namespace Vc
attribute [local irreducible] owes a1v
def aFn (a:List Ux × Int):=((∀ v ∈ a.1,MeU v)/\a.1.length <= 400)
def aPo:=(∃ a:List Ux × Int,((aFn a)/\((a.1=[])/\((Value.int .i64 (3:Int)=(.int .i64 a.2))/\True))))
set_option maxHeartbeats 4000000 in
theorem aGA (l:List Ux) (hp:(∀ u ∈ l,InU u/\u.sz <= 1500)/\(∀ v,a4U l v->MeU v)):a1v LTL WF0 [.inv 4 (Nat) (fun ξ=>⟨[.k (.c (.rd .U (false) (l))),.u,.k (.c (.bx 0 0)),.u,.k (.c (.v (.int .i64 (((ξ:Nat):Int))))),.u,.u,.u,.u,.u,.u,.u,.u,.u,.u,.u,.u,.u,.u,.u,.u,.u,.u,.u,.u,.u,.u,.u,.u,.u,.u,.u,.u,.u,.u,.u,.u],[⟨27,[.v (.slice none 0 0)]⟩]⟩) (fun _ ξ=>ξ <= l.length) (fun ξ=>l.length - ξ)] Tryz.f18 (bd Tryz.f18) [.c (.rd .U (false) (l))] (fun a:List Ux × Int=>(∀ v ∈ a.1,MeU v)/\a.1.length <= 400) (fun a=>.t [.g [.rd .U (false) (a.1)],.c (.v (.int .i64 (a.2)))]):=by
 refine a1J (show (((decide ((l.length:Int) > (400:Int)))=true->aPo)/\((decide ((l.length:Int) > (400:Int)))=false->((∃ x1:Nat,((x1 <= l.length)/\(((l=l)/\(True/\((Value.int .i64 (0:Int)=(.int .i64 ((x1:Nat):Int)))/\True)))/\(((Value.slice none 0 0=(.slice none 0 0))/\True)/\True))))/\(∀ x1:Nat,((x1 <= l.length)->(((decide (((x1:Nat):Int) < (l.length:Int)))=true->((0 <= ((x1:Nat):Int)/\((x1:Nat):Int) < (l.length:Int))/\((((((!(l.getD (((x1:Nat):Int).toNat) dfU).arc)=(!((l.getD (((x1:Nat):Int).toNat) dfU).arc)))/\(((!(l.getD (((x1:Nat):Int).toNat) dfU).arc)=(!((l.getD (((x1:Nat):Int).toNat) dfU).arc)))/\((!(l.getD (((x1:Nat):Int).toNat) dfU).arc)=(!((l.getD (((x1:Nat):Int).toNat) dfU).arc)))))/\(((((l.getD (((x1:Nat):Int).toNat) dfU).arc)=((l.getD (((x1:Nat):Int).toNat) dfU).arc))/\((((l.getD (((x1:Nat):Int).toNat) dfU).arc)=((l.getD (((x1:Nat):Int).toNat) dfU).arc))/\(((l.getD (((x1:Nat):Int).toNat) dfU).arc)=((l.getD (((x1:Nat):Int).toNat) dfU).arc))))/\((True/\(True/\(True/\(True/\True))))/\(True/\(True/\(True/\(True/\True)))))))/\0 <= (l.getD (((x1:Nat):Int).toNat) dfU).f.e/\0 <= (l.getD (((x1:Nat):Int).toNat) dfU).t.e/\(l.getD (((x1:Nat):Int).toNat) dfU).sz <= 1500)/\(((!(a4b (l.getD (((x1:Nat):Int).toNat) dfU)))=true->(∃ a:List Ux × Int,((aFn a)/\((a.1=[])/\((Value.int .i64 (1:Int)=(.int .i64 a.2))/\True)))))/\((!(a4b (l.getD (((x1:Nat):Int).toNat) dfU)))=false->((inR .i64 (((x1:Nat):Int)+(1:Int)))/\(∃ y1:Nat,((y1 <= l.length)/\((l.length - y1 < l.length - x1)/\(((l=l)/\(True/\((Value.int .i64 (((x1:Nat):Int)+(1:Int))=(.int .i64 ((y1:Nat):Int)))/\True)))/\(((Value.slice none 0 0=(.slice none 0 0))/\True)/\True)))))))))))/\((decide (((x1:Nat):Int) < (l.length:Int)))=false->(((∀ v ∈ l,okU v)/\l.length <= 1000000)/\(∀ e2:Bool,((aYr e2)->((e2=true->(∃ a:List Ux × Int,((aFn a)/\((a.1=[])/\((Value.int .i64 (8:Int)=(.int .i64 a.2))/\True)))))/\(e2=false->(((∀ u ∈ l,InU u)/\l.length <= 400)/\(∀ e3:List Ux,((∀ v ∈ e3,a4U l v)/\e3.length <= 700000->(((∀ v ∈ e3,okU v)/\e3.length <= 1000000)/\(∀ e4:List Ux,((∀ v ∈ e4,v ∈ e3)/\e4.length <= e3.length->(((∀ v ∈ e4,MeU v)/\e4.length < 1000000)/\(∀ e5:List Ux,((∀ v ∈ e5,MeU v)/\e5.length <= e4.length->(((∀ v ∈ e5,MeU v)/\e5.length <= 1000000)/\(∀ e6:List Ux,((∀ v ∈ e6,MeU v)/\e6.length=e5.length->(((decide ((e6.length:Int) > (400:Int)))=true->aPo)/\((decide ((e6.length:Int) > (400:Int)))=false->(∃ a:List Ux × Int,((aFn a)/\(((false=false)/\((e6=a.1)/\True))/\((Value.int .i64 (0:Int)=(.int .i64 a.2))/\True))))))))))))))))))))))))))))))=_ by kernel_rfl) ?_
 delta aPo aFn
 simp only [true_and,and_true,Int.toNat_natCast,Value.int.injEq,decide_eq_true_eq,decide_eq_false_iff_not,Int.natCast_nonneg,Int.ofNat_lt,gt_iff_lt]
 obtain ⟨hl,hm⟩:=hp
 have nil:∀ e:Int,∃ a:List Ux × Int,((∀ v ∈ a.1,MeU v)/\a.1.length <= 400)/\a.1=[]/\e=a.2:=fun e=>⟨([],e),⟨fun v hv=>(by simp at hv),Nat.zero_le _⟩,rfl,rfl⟩
 refine ⟨fun _=>nil _,fun h4=>⟨⟨0,Nat.zero_le _,rfl⟩,fun x1 h1=>⟨fun hlt=>?_,fun _=>⟨⟨fun v hv=>(hl v hv).1.1,by omega⟩,fun e2 _=>⟨fun _=>nil _,fun _=>⟨⟨fun u hu=>(hl u hu).1,by omega⟩,fun e3 h3=>⟨⟨fun v hv=>(hm v (h3.1 v hv)).1,by have:=h3.2; omega⟩,fun e4 h5=>⟨⟨fun v hv=>hm v (h3.1 v (h5.1 v hv)),by have:=h3.2; have:=h5.2; omega⟩,fun e5 h6=>⟨⟨h6.1,by have:=h3.2; have:=h5.2; have:=h6.2; omega⟩,fun e6 h7=>⟨fun _=>nil _,fun h8=>⟨(e6,0),⟨h7.1,by dsimp only; omega⟩,rfl,rfl⟩⟩⟩⟩⟩⟩⟩⟩⟩⟩⟩
 have hx:=hl _ (a1k (d:=dfU) hlt)
 exact ⟨hlt,⟨a3j hx.1.1.2.2.1,a3j hx.1.1.2.2.2.1,hx.2⟩,fun _=>nil _,fun _=>⟨by unfold inR; omega,x1+1,hlt,by omega,by simp⟩⟩
def aQZ:Ctr:=⟨18,spE (lU.c r0) (List Ux × Int) (fun (l,_)=>(∀ u ∈ l,InU u/\u.sz <= 1500)/\(∀ v,a4U l v->MeU v)) (fun _ a=>(∀ v ∈ a.1,MeU v)/\a.1.length <= 400) (fun _ a=>.t [.g [.rd .U (false) (a.1)],.c (.v (.int .i64 (a.2)))])⟩
theorem aNs:CtrOK Tryz.prog aQZ:=eOK a2s aHy Tryz.func18 fun x hp=>aGA x.1 hp
end Vc
end Go.Proofs.YtbohkigffejhoaaGreat
