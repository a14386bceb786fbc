import Derived.Test.YtbohkigffejhoaaGreatR21
import Derived.Test.YtbohkigffejhoaaGreatR18
import Derived.Test.YtbohkigffejhoaaGreatR20
open Int (natCast_nonneg ofNat_inj ofNat_lt toNat_natCast)
open List (length_append length_nil mem_append)
open Nat (zero_le)
open Rat (div_mul_cancel le_iff_lt_or_eq le_of_lt le_refl mul_nonneg mul_pos natCast_le_natCast)
namespace Go.Proofs.YtbohkigffejhoaaGreat
open Go.RowKit
set_option maxHeartbeats 4000000
namespace Vc
attribute [local irreducible] owes a1q
def InU (u:Ux):Prop:=okU u/\(u.arc=true->a1s u (a0e u.k).1=false/\a1s u (a0e u.k).2=false)
def a4x (l:List Ux) (v:Ux):Prop:=∃ u ∈ l,∃ p,PcO u p/\∃ c,(∀ q ∈ c,okP q/\a02 p q=true)/\aEq p c v
structure PaI (l all:List Ux) (i:Nat):Prop where
 hm:∀ p ∈ all,∃ u ∈ l,PcO u p
 hn:all.length <= i
 hi:i <= l.length
structure PbI (l all out:List Ux) (i:Nat):Prop where
 hm:∀ p ∈ all,∃ u ∈ l,PcO u p
 hn:all.length <= 400
 hi:i <= all.length
 ho:∀ v ∈ out,a4x l v
 hk:out.length <= 1700*i
structure PcJ (all:List Ux) (i:Nat) (cuts:List Px) (k:Nat):Prop where
 hc:∀ q ∈ cuts,okP q/\a02 (all.getD i dfU) q=true
 hk:cuts.length <= 4*k
 hi:k <= all.length
structure OdI (l out:List Ux) (i:Nat):Prop where
 hi:i <= l.length
 hn:out.length <= i
 hm:∀ v ∈ out,v ∈ l
theorem aLn {u v:Ux} {l:List Px} (hu:okU u) (hl:∀ q ∈ l,okP q) (h:aEq u l v):okU v:=by
 obtain ⟨x,y,rfl,_,hx,hy⟩:=h
 have m:∀ p ∈ [u.f,u.t] ++ l,okP p:=fun p hp=>by
  simp only [mem_append,List.mem_cons,List.not_mem_nil,or_false] at hp;rcases hp with (rfl | rfl) | hp
  ·exact hu.2.2.1
  ·exact hu.2.2.2.1
  ·exact hl p hp
 exact ⟨hu.1,hu.2.1,m x hx,m y hy,hu.2.2.2.2⟩
theorem aXJ {u p:Ux} (hu:okU u) (h:PcO u p):okU p:=by
 obtain ⟨w,hw,rfl⟩:=h
 have ow:okU w:=by
  rcases hw with ⟨_,rfl⟩ | ⟨_,h⟩
  ·exact hu
  ·exact aLn hu (fun q hq=>(by simp at hq)) h
 unfold nrm;split
 ·exact ⟨ow.1,ow.2.1,ow.2.2.2.1,ow.2.2.1,ow.2.2.2.2⟩
 ·exact ow
def WP1:List Ctr:=WP0 ++ [aGp]
theorem aCt:∀ c ∈ WP1,CtrOK Tryz.prog c:=a0M aWm (a0Y aGo (a3e))
def a4l (p_:Ux):=((((!p_.arc)=(!p_.arc))/\(((!p_.arc)=(!p_.arc))/\((!p_.arc)=(!p_.arc))))/\(((p_.arc=p_.arc)/\((p_.arc=p_.arc)/\(p_.arc=p_.arc)))/\((True/\(True/\(True/\(True/\True))))/\(True/\(True/\(True/\(True/\True)))))))
def aFB (l:List Ux) (y3:List Ux × List Ux × Nat × List Px × Nat) (x2:List Ux × List Ux × Nat):=((PbI l y3.1 y3.2.1 y3.2.2.1/\y3.2.2.1 < y3.1.length)/\(y3.2.2.1:Int)=((x2.2.2:Nat):Int)/\PcJ y3.1 y3.2.2.1 y3.2.2.2.1 y3.2.2.2.2)
def a7m (x3:List Ux × List Ux × Nat × List Px × Nat):=(x3.1.getD (((x3.2.2.1:Nat):Int).toNat) dfU)
def aFA (x3:List Ux × List Ux × Nat × List Px × Nat) (y3:List Ux × List Ux × Nat × List Px × Nat):=((Value.int .i64 (((x3.2.2.2.2:Nat):Int)+(1:Int))=(.int .i64 ((y3.2.2.2.2:Nat):Int)))/\True)
def aFz (x3:List Ux × List Ux × Nat × List Px × Nat) (y3:List Ux × List Ux × Nat × List Px × Nat):=(Value.int .i64 ((x3.2.2.1:Nat):Int)=(.int .i64 ((y3.2.2.1:Nat):Int)))
def a7l (l:List Ux) (x1:List Ux × Nat):=(l.getD (((x1.2:Nat):Int).toNat) dfU)
def aFy (x3:List Ux × List Ux × Nat × List Px × Nat):=(inR .i64 (((x3.2.2.2.2:Nat):Int)+(1:Int)))
def aFx (x3:List Ux × List Ux × Nat × List Px × Nat):=(x3.1.getD (((x3.2.2.2.2:Nat):Int).toNat) dfU)
def aPR (x3:List Ux × List Ux × Nat × List Px × Nat) (l:List Ux) (x2:List Ux × List Ux × Nat) (p_ q_:Ux):=(((((a4l p_)/\(a4l q_)/\okU (a7m x3)/\okU (aFx x3))/\(∀ e4:List Px × Bool,((∀ p ∈ e4.1,okP p/\a02 (a7m x3) p=true/\a02 (aFx x3) p=true)/\e4.1.length <= 4->((((((x3.2.2.2.1.length+e4.1.length <= 10000000)/\((aFy x3)/\(∃ y3:List Ux × List Ux × Nat × List Px × Nat,((aFB l y3 x2)/\((y3.1.length - y3.2.2.2.2 < x3.1.length - x3.2.2.2.2)/\(((x3.1=y3.1)/\((x3.2.1=y3.2.1)/\((aFz x3 y3)/\(((x3.2.2.2.1 ++ e4.1)=y3.2.2.2.1)/\(aFA x3 y3)))))/\True))))))/\True)/\True)/\(((((x3.2.2.2.1.length+e4.1.length <= 10000000)/\((aFy x3)/\(∃ y3:List Ux × List Ux × Nat × List Px × Nat,((aFB l y3 x2)/\((y3.1.length - y3.2.2.2.2 < x3.1.length - x3.2.2.2.2)/\(((x3.1=y3.1)/\((x3.2.1=y3.2.1)/\((aFz x3 y3)/\(((x3.2.2.2.1 ++ e4.1)=y3.2.2.2.1)/\(aFA x3 y3)))))/\True))))))/\True)/\True)/\True))/\((((((x3.2.2.2.1.length+e4.1.length <= 10000000)/\((aFy x3)/\(∃ y3:List Ux × List Ux × Nat × List Px × Nat,((aFB l y3 x2)/\((y3.1.length - y3.2.2.2.2 < x3.1.length - x3.2.2.2.2)/\(((x3.1=y3.1)/\((x3.2.1=y3.2.1)/\((aFz x3 y3)/\(((x3.2.2.2.1 ++ e4.1)=y3.2.2.2.1)/\(aFA x3 y3)))))/\True))))))/\True)/\True)/\True)/\True)))))/\True)/\True)
theorem aBk (l:List Ux) (hp:(∀ u ∈ l,InU u)/\l.length <= 400):a1q LTL WP1 [.inv 3 (List Ux × Nat) (fun ξ=>⟨[.k (.c (.rd .U (false) (l))),.u,.u,.k (.c (.ow 0 52 .U (ξ.1))),.k (.c (.v (.int .i64 (((ξ.2:Nat):Int))))),.u,.u,.u,.u,.u,.u,.u,.u,.u,.u,.u,.u,.u,.u,.u,.u,.u,.u,.u,.u,.u,.u,.u,.u,.u,.u,.u,.u,.u,.u,.u,.u,.u,.u,.u,.u,.u,.u,.u,.u,.u,.u,.u,.u,.u,.u,.u,.u,.u,.u,.u,.u,.u,.u,.u,.u,.u,.u,.u,.u,.u,.u,.u,.u],[]⟩) (fun _ ξ=>PaI l ξ.1 ξ.2) (fun ξ=>l.length - ξ.2),.inv 8 (List Ux × List Ux × Nat) (fun ξ=>⟨[.u,.u,.u,.k (.c (.rd .U (false) (ξ.1))),.u,.k (.c (.ow 0 52 .U (ξ.2.1))),.k (.c (.v (.int .i64 (((ξ.2.2:Nat):Int))))),.u,.u,.u,.u,.u,.u,.u,.u,.u,.u,.u,.u,.u,.u,.u,.u,.u,.u,.u,.u,.u,.u,.u,.u,.u,.u,.u,.u,.u,.u,.u,.u,.u,.u,.u,.u,.u,.u,.u,.u,.u,.u,.u,.u,.u,.u,.u,.u,.u,.u,.u,.u,.u,.u,.u,.u,.u,.u,.u,.u,.u,.u],[]⟩) (fun _ ξ=>PbI l ξ.1 ξ.2.1 ξ.2.2) (fun ξ=>400 - ξ.2.2),.inv 12 (List Ux × List Ux × Nat × List Px × Nat) (fun ξ=>⟨[.u,.u,.u,.k (.c (.rd .U (false) (ξ.1))),.u,.k (.c (.ow 0 52 .U (ξ.2.1))),.k (.c (.v (.int .i64 (((ξ.2.2.1:Nat):Int))))),.k (.c (.ow 1 50 .P (ξ.2.2.2.1))),.k (.c (.v (.int .i64 (((ξ.2.2.2.2:Nat):Int))))),.u,.u,.u,.u,.u,.u,.u,.u,.u,.u,.u,.u,.u,.u,.u,.u,.u,.u,.u,.u,.u,.u,.u,.u,.u,.u,.u,.u,.u,.u,.u,.u,.u,.u,.u,.u,.u,.u,.u,.u,.u,.u,.u,.u,.u,.u,.u,.u,.u,.u,.u,.u,.u,.u,.u,.u,.u,.u,.u,.u],[]⟩) (fun σ ξ=>(PbI l ξ.1 ξ.2.1 ξ.2.2.1/\ξ.2.2.1 < ξ.1.length)/\(ξ.2.2.1:Int)=(tmI σ 6)/\PcJ ξ.1 ξ.2.2.1 ξ.2.2.2.1 ξ.2.2.2.2) (fun ξ=>ξ.1.length - ξ.2.2.2.2),.cut 15 1000] Tryz.f52 (bd Tryz.f52) [.c (.rd .U (false) (l))] (fun a:List Ux=>(∀ v ∈ a,a4x l v)/\a.length <= 700000) (fun a=>.k (.c (.rd .U (false) (a)))):=by
 refine a1u (show ((∃ x1:List Ux × Nat,((PaI l x1.1 x1.2)/\(((l=l)/\((x1.1=[])/\((Value.int .i64 (0:Int)=(.int .i64 ((x1.2:Nat):Int)))/\True)))/\True)))/\(∀ x1:List Ux × Nat,((PaI l x1.1 x1.2)->(((decide (((x1.2:Nat):Int) < (l.length:Int)))=true->((0 <= ((x1.2:Nat):Int)/\((x1.2:Nat):Int) < (l.length:Int))/\(((a4l (a7l l x1))/\okU (a7l l x1)/\((a7l l x1).arc=true->a1s (a7l l x1) (a0e (a7l l x1).k).1=false/\a1s (a7l l x1) (a0e (a7l l x1).k).2=false))/\(∀ e2:List Ux,((∀ v ∈ e2,PcO (a7l l x1) v)/\e2.length <= 1->((x1.1.length+e2.length <= 10000000)/\((inR .i64 (((x1.2:Nat):Int)+(1:Int)))/\(∃ y1:List Ux × Nat,((PaI l y1.1 y1.2)/\((l.length - y1.2 < l.length - x1.2)/\(((l=l)/\(((x1.1 ++ e2)=y1.1)/\((Value.int .i64 (((x1.2:Nat):Int)+(1:Int))=(.int .i64 ((y1.2:Nat):Int)))/\True)))/\True)))))))))))/\((decide (((x1.2:Nat):Int) < (l.length:Int)))=false->((∃ x2:List Ux × List Ux × Nat,((PbI l x2.1 x2.2.1 x2.2.2)/\(((x1.1=x2.1)/\((x2.2.1=[])/\((Value.int .i64 (0:Int)=(.int .i64 ((x2.2.2:Nat):Int)))/\True)))/\True)))/\(∀ x2:List Ux × List Ux × Nat,((PbI l x2.1 x2.2.1 x2.2.2)->(((decide (((x2.2.2:Nat):Int) < (x2.1.length:Int)))=true->((∃ x3:List Ux × List Ux × Nat × List Px × Nat,(((PbI l x3.1 x3.2.1 x3.2.2.1/\x3.2.2.1 < x3.1.length)/\(x3.2.2.1:Int)=((x2.2.2:Nat):Int)/\PcJ x3.1 x3.2.2.1 x3.2.2.2.1 x3.2.2.2.2)/\(((x2.1=x3.1)/\((x2.2.1=x3.2.1)/\((Value.int .i64 ((x2.2.2:Nat):Int)=(.int .i64 ((x3.2.2.1:Nat):Int)))/\((x3.2.2.2.1=[])/\((Value.int .i64 (0:Int)=(.int .i64 ((x3.2.2.2.2:Nat):Int)))/\True)))))/\True)))/\(∀ x3:List Ux × List Ux × Nat × List Px × Nat,((PbI l x3.1 x3.2.1 x3.2.2.1/\x3.2.2.1 < x3.1.length)/\(x3.2.2.1:Int)=((x2.2.2:Nat):Int)/\PcJ x3.1 x3.2.2.1 x3.2.2.2.1 x3.2.2.2.2->(((decide (((x3.2.2.2.2:Nat):Int) < (x3.1.length:Int)))=true->(((((x3.2.2.2.2:Nat):Int) != ((x3.2.2.1:Nat):Int))=true->((0 <= ((x3.2.2.1:Nat):Int)/\((x3.2.2.1:Nat):Int) < (x3.1.length:Int))/\((0 <= ((x3.2.2.2.2:Nat):Int)/\((x3.2.2.2.2:Nat):Int) < (x3.1.length:Int))/\((aPR x3 l x2 (a7m x3) (aFx x3))/\((aPR x3 l x2 (a7m x3) (aFx x3))/\True)))))/\((((x3.2.2.2.2:Nat):Int) != ((x3.2.2.1:Nat):Int))=false->((aFy x3)/\(∃ y3:List Ux × List Ux × Nat × List Px × Nat,((aFB l y3 x2)/\((y3.1.length - y3.2.2.2.2 < x3.1.length - x3.2.2.2.2)/\(((x3.1=y3.1)/\((x3.2.1=y3.2.1)/\((aFz x3 y3)/\((x3.2.2.2.1=y3.2.2.2.1)/\(aFA x3 y3)))))/\True))))))))/\((decide (((x3.2.2.2.2:Nat):Int) < (x3.1.length:Int)))=false->((0 <= ((x3.2.2.1:Nat):Int)/\((x3.2.2.1:Nat):Int) < (x3.1.length:Int))/\(((a4l (a7m x3))/\(okU (a7m x3)/\∀ p ∈ x3.2.2.2.1,okP p)/\x3.2.2.2.1.length <= 90000)/\(∀ e4:List Ux × Int,(((∀ v ∈ e4.1,aEq (a7m x3) x3.2.2.2.1 v)/\(e4.1=[] \/ ∀ p ∈ x3.2.2.2.1,a02 (a7m x3) p=true))/\e4.1.length <= x3.2.2.2.1.length+1->((x3.2.1.length+e4.1.length <= 10000000)/\((inR .i64 (((x3.2.2.1:Nat):Int)+(1:Int)))/\(∃ y2:List Ux × List Ux × Nat,((PbI l y2.1 y2.2.1 y2.2.2)/\((400 - y2.2.2 < 400 - x2.2.2)/\(((x3.1=y2.1)/\(((x3.2.1 ++ e4.1)=y2.2.1)/\((Value.int .i64 (((x3.2.2.1:Nat):Int)+(1:Int))=(.int .i64 ((y2.2.2:Nat):Int)))/\True)))/\True))))))))))))))))/\((decide (((x2.2.2:Nat):Int) < (x2.1.length:Int)))=false->(∃ a:List Ux,(((∀ v ∈ a,a4x l v)/\a.length <= 700000)/\(x2.2.1=a)))))))))))))=_ by kernel_rfl) ?_;delta aPR aFx aFy a7l aFz aFA a7m aFB a4l;simp only [true_and,and_true,toNat_natCast,Value.int.injEq,decide_eq_true_eq,decide_eq_false_iff_not,natCast_nonneg,ofNat_lt,ofNat_inj];obtain ⟨hin,hn⟩:=hp
 have pk:∀ {all:List Ux},(∀ p ∈ all,∃ u ∈ l,PcO u p)->∀ p ∈ all,okU p:=fun hm p hp=>by
  obtain ⟨u,hu,h⟩:=hm p hp;exact aXJ (hin u hu).1 h
 refine ⟨⟨([],0),⟨fun p hp=>(by simp at hp),Nat.le_refl _,zero_le _⟩,rfl,rfl⟩,fun x1 h1=>⟨fun hlt=>⟨hlt,hin _ (a0W hlt),fun e2 h2=>⟨by have:=h1.hn; have:=h2.2; omega,by unfold inR; omega,(x1.1 ++ e2,x1.2+1),⟨fun p hp=>?_,by have:=h1.hn; have:=h2.2; simp only [length_append]; omega,hlt⟩,by dsimp only; omega,rfl,by simp⟩⟩,fun hge=>⟨⟨(x1.1,[],0),⟨h1.hm,by have:=h1.hn; have:=h1.hi; dsimp only; omega,zero_le _,fun v hv=>(by simp at hv),zero_le _⟩,rfl,rfl,rfl⟩,fun x3 h3=>⟨fun hlt=>⟨⟨(x3.1,x3.2.1,x3.2.2,[],0),⟨⟨h3,hlt⟩,rfl,⟨fun q hq=>(by simp at hq),zero_le _,zero_le _⟩⟩,rfl,rfl,rfl,rfl,rfl⟩,fun x4 h4=>?_⟩,fun hge=>⟨_,⟨h3.ho,by have:=h3.hk; have:=h3.hi; have:=h3.hn; omega⟩,rfl⟩⟩⟩⟩⟩
 ·rcases mem_append.1 hp with hp | hp
  ·exact h1.hm p hp
  ·exact ⟨_,a0W hlt,h2.1 p hp⟩
 ·obtain ⟨⟨hB,hlt4⟩,he,hJ⟩:=h4;have oi:=pk hB.hm _ (a0W (d:=dfU) hlt4);have b1:=hB.hn;have b2:=hB.hk;have b3:=hJ.hk;have b4:=hJ.hi;refine ⟨fun hlt5=>⟨fun hne=>?_,fun _=>⟨by unfold inR; omega,(x4.1,x4.2.1,x4.2.2.1,x4.2.2.2.1,x4.2.2.2.2+1),⟨⟨hB,hlt4⟩,he,⟨hJ.hc,by dsimp only; omega,hlt5⟩⟩,by dsimp only; omega,rfl,rfl,rfl,rfl,by simp⟩⟩,fun hge5=>?_⟩
  ·have ok2:=pk hB.hm _ (a0W (d:=dfU) hlt5)
   have hnew:∀ e6:List Px × Bool,((∀ p ∈ e6.1,okP p/\a02 (x4.1.getD x4.2.2.1 dfU) p=true/\a02 (x4.1.getD x4.2.2.2.2 dfU) p=true)/\e6.1.length <= 4)->PcJ x4.1 x4.2.2.1 (x4.2.2.2.1 ++ e6.1) (x4.2.2.2.2+1):=fun e6 h6=>⟨fun q hq=>by
    rcases mem_append.1 hq with hq | hq
    ·exact hJ.hc q hq
    ·exact ⟨(h6.1 q hq).1,(h6.1 q hq).2.1⟩,by have:=h6.2; simp only [length_append]; omega,hlt5⟩
   refine ⟨hlt4,hlt5,⟨⟨oi,ok2⟩,fun e6 h6=>?_⟩,⟨oi,ok2⟩,fun e6 h6=>?_⟩
   all_goals
    have h62:=h6.2
    repeat' apply And.intro
    all_goals try omega
    all_goals exact ⟨(x4.1,x4.2.1,x4.2.2.1,x4.2.2.2.1 ++ e6.1,x4.2.2.2.2+1),⟨⟨hB,hlt4⟩,he,hnew e6 h6⟩,(by dsimp only; omega),rfl,rfl,rfl,rfl,(by simp)⟩
  ·refine ⟨hlt4,⟨⟨oi,fun q hq=>(hJ.hc q hq).1⟩,by omega⟩,fun e7 h7=>⟨by have:=h7.2; omega,by unfold inR; omega,(x4.1,x4.2.1 ++ e7.1,x4.2.2.1+1),⟨hB.hm,hB.hn,hlt4,fun v hv=>?_,by have:=h7.2; simp only [length_append]; omega⟩,by dsimp only; omega,rfl,rfl,by simp⟩⟩;rcases mem_append.1 hv with hv | hv
   ·exact hB.ho v hv
   ·obtain ⟨u,hu,hpc⟩:=hB.hm _ (a0W (d:=dfU) hlt4);exact ⟨u,hu,_,hpc,_,hJ.hc,h7.1.1 v hv⟩
def aGg:Ctr:=⟨52,spE (lU.c r0) (List Ux) (fun (l,_)=>(∀ u ∈ l,InU u)/\l.length <= 400) (fun (l,_) a=>(∀ v ∈ a,a4x l v)/\a.length <= 700000) (fun _ a=>.k (.c (.rd .U (false) (a))))⟩
theorem aGf:CtrOK Tryz.prog aGg:=eOK a3d aCt Tryz.func52 fun x hp=>aBk x.1 hp
def aFw (x2:List Ux × Nat × Int × Nat):=(x2.1.getD (((x2.2.2.2:Nat):Int).toNat) dfU)
def a8L (x2:List Ux × Nat × Int × Nat):=(((x2.2.1:Nat):Int).toNat)
def aPQ (l:List Ux) (y2:List Ux × Nat × Int × Nat) (x1:List Ux × Nat):=((OdI l y2.1 y2.2.1/\y2.2.1 < l.length)/\(y2.2.1:Int)=((x1.2:Nat):Int)/\(-1 <= y2.2.2.1/\y2.2.2.1 < (y2.1.length:Int))/\y2.2.2.2 <= y2.1.length)
theorem aIR (l:List Ux) (hp:(∀ v ∈ l,okU v)/\l.length <= 1000000):a1q LTL WP1 [.inv 3 (List Ux × Nat) (fun ξ=>⟨[.k (.c (.rd .U (false) (l))),.u,.u,.k (.c (.ow 0 52 .U (ξ.1))),.k (.c (.v (.int .i64 (((ξ.2:Nat):Int))))),.u,.u,.u,.u,.u,.u,.u,.u,.u,.u,.u,.u,.u,.u,.u,.u,.u,.u,.u,.u,.u,.u,.u,.u,.u,.u,.u,.u,.u,.u,.u,.u,.u,.u,.u,.u,.u,.u,.u,.u,.u,.u],[]⟩) (fun _ ξ=>OdI l ξ.1 ξ.2) (fun ξ=>l.length - ξ.2),.inv 7 (List Ux × Nat × Int × Nat) (fun ξ=>⟨[.k (.c (.rd .U (false) (l))),.u,.u,.k (.c (.ow 0 52 .U (ξ.1))),.k (.c (.v (.int .i64 (((ξ.2.1:Nat):Int))))),.k (.c (.v (.int .i64 (ξ.2.2.1)))),.k (.c (.v (.int .i64 (((ξ.2.2.2:Nat):Int))))),.u,.u,.u,.u,.u,.u,.u,.u,.u,.u,.u,.u,.u,.u,.u,.u,.u,.u,.u,.u,.u,.u,.u,.u,.u,.u,.u,.u,.u,.u,.u,.u,.u,.u,.u,.u,.u,.u,.u,.u],[]⟩) (fun σ ξ=>(OdI l ξ.1 ξ.2.1/\ξ.2.1 < l.length)/\(ξ.2.1:Int)=(tmI σ 4)/\(-1 <= ξ.2.2.1/\ξ.2.2.1 < (ξ.1.length:Int))/\ξ.2.2.2 <= ξ.1.length) (fun ξ=>ξ.1.length - ξ.2.2.2),.cut 13 1000] Tryz.f51 (bd Tryz.f51) [.c (.rd .U (false) (l))] (fun a:List Ux=>(∀ v ∈ a,v ∈ l)/\a.length <= l.length) (fun a=>.k (.c (.rd .U (false) (a)))):=by
 refine a1u (show ((∃ x1:List Ux × Nat,((OdI l x1.1 x1.2)/\(((l=l)/\((x1.1=[])/\((Value.int .i64 (0:Int)=(.int .i64 ((x1.2:Nat):Int)))/\True)))/\True)))/\(∀ x1:List Ux × Nat,((OdI l x1.1 x1.2)->(((decide (((x1.2:Nat):Int) < (l.length:Int)))=true->((∃ x2:List Ux × Nat × Int × Nat,(((OdI l x2.1 x2.2.1/\x2.2.1 < l.length)/\(x2.2.1:Int)=((x1.2:Nat):Int)/\(-1 <= x2.2.2.1/\x2.2.2.1 < (x2.1.length:Int))/\x2.2.2.2 <= x2.1.length)/\(((l=l)/\((x1.1=x2.1)/\((Value.int .i64 ((x1.2:Nat):Int)=(.int .i64 ((x2.2.1:Nat):Int)))/\((Value.int .i64 (-1:Int)=(.int .i64 x2.2.2.1))/\((Value.int .i64 (0:Int)=(.int .i64 ((x2.2.2.2:Nat):Int)))/\True)))))/\True)))/\(∀ x2:List Ux × Nat × Int × Nat,((OdI l x2.1 x2.2.1/\x2.2.1 < l.length)/\(x2.2.1:Int)=((x1.2:Nat):Int)/\(-1 <= x2.2.2.1/\x2.2.2.1 < (x2.1.length:Int))/\x2.2.2.2 <= x2.1.length->(((decide (((x2.2.2.2:Nat):Int) < (x2.1.length:Int)))=true->((0 <= ((x2.2.2.2:Nat):Int)/\((x2.2.2.2:Nat):Int) < (x2.1.length:Int))/\((0 <= ((x2.2.1:Nat):Int)/\((x2.2.1:Nat):Int) < (l.length:Int))/\(((a4l (aFw x2))/\(a4l (l.getD (a8L x2) dfU))/\(aFw x2).sz+(l.getD (a8L x2) dfU).sz <= 14000)/\(((a4V (aFw x2) (l.getD (a8L x2) dfU))=true->((inR .i64 (((x2.2.2.2:Nat):Int)+(1:Int)))/\(∃ y2:List Ux × Nat × Int × Nat,((aPQ l y2 x1)/\((y2.1.length - y2.2.2.2 < x2.1.length - x2.2.2.2)/\(((l=l)/\((x2.1=y2.1)/\((Value.int .i64 ((x2.2.1:Nat):Int)=(.int .i64 ((y2.2.1:Nat):Int)))/\((Value.int .i64 ((x2.2.2.2:Nat):Int)=(.int .i64 y2.2.2.1))/\((Value.int .i64 (((x2.2.2.2:Nat):Int)+(1:Int))=(.int .i64 ((y2.2.2.2:Nat):Int)))/\True)))))/\True))))))/\((a4V (aFw x2) (l.getD (a8L x2) dfU))=false->((inR .i64 (((x2.2.2.2:Nat):Int)+(1:Int)))/\(∃ y2:List Ux × Nat × Int × Nat,((aPQ l y2 x1)/\((y2.1.length - y2.2.2.2 < x2.1.length - x2.2.2.2)/\(((l=l)/\((x2.1=y2.1)/\((Value.int .i64 ((x2.2.1:Nat):Int)=(.int .i64 ((y2.2.1:Nat):Int)))/\((Value.int .i64 x2.2.2.1=(.int .i64 y2.2.2.1))/\((Value.int .i64 (((x2.2.2.2:Nat):Int)+(1:Int))=(.int .i64 ((y2.2.2.2:Nat):Int)))/\True)))))/\True)))))))))))/\((decide (((x2.2.2.2:Nat):Int) < (x2.1.length:Int)))=false->(((decide (x2.2.2.1 < (0:Int)))=true->((0 <= ((x2.2.1:Nat):Int)/\((x2.2.1:Nat):Int) < (l.length:Int))/\(((a4l (l.getD (a8L x2) dfU))/\True)/\((x2.1.length+([(l).getD (a8L x2) dfU]:List Ux).length <= 10000000)/\((inR .i64 (((x2.2.1:Nat):Int)+(1:Int)))/\(∃ y1:List Ux × Nat,((OdI l y1.1 y1.2)/\((l.length - y1.2 < l.length - x1.2)/\(((l=l)/\(((x2.1 ++ ([(l).getD (a8L x2) dfU]:List Ux))=y1.1)/\((Value.int .i64 (((x2.2.1:Nat):Int)+(1:Int))=(.int .i64 ((y1.2:Nat):Int)))/\True)))/\True)))))))))/\((decide (x2.2.2.1 < (0:Int)))=false->((0 <= x2.2.2.1/\x2.2.2.1 <= (x2.1.length:Int))/\((inR .i64 (x2.2.2.1+(1:Int)))/\((0 <= x2.2.2.1+(1:Int)/\x2.2.2.1+(1:Int) <= (x2.1.length:Int))/\((((x2.1.take x2.2.2.1.toNat).length+(x2.1.drop (x2.2.2.1+(1:Int)).toNat).length <= 10000000)/\(((inR .i64 (((x2.2.1:Nat):Int)+(1:Int)))/\(∃ y1:List Ux × Nat,((OdI l y1.1 y1.2)/\((l.length - y1.2 < l.length - x1.2)/\(((l=l)/\((((x2.1.take x2.2.2.1.toNat) ++ (x2.1.drop (x2.2.2.1+(1:Int)).toNat))=y1.1)/\((Value.int .i64 (((x2.2.1:Nat):Int)+(1:Int))=(.int .i64 ((y1.2:Nat):Int)))/\True)))/\True)))))/\True))/\True))))))))))))/\((decide (((x1.2:Nat):Int) < (l.length:Int)))=false->(∃ a:List Ux,(((∀ v ∈ a,v ∈ l)/\a.length <= l.length)/\(x1.1=a))))))))=_ by kernel_rfl) ?_;delta aPQ a8L aFw a4l;simp only [true_and,and_true,toNat_natCast,Value.int.injEq,decide_eq_true_eq,decide_eq_false_iff_not,natCast_nonneg,ofNat_lt,ofNat_inj];obtain ⟨hl,hn⟩:=hp;refine ⟨⟨([],0),⟨zero_le _,Nat.le_refl _,fun v hv=>(by simp at hv)⟩,rfl,rfl⟩,fun x1 h1=>⟨fun hlt=>⟨⟨(x1.1,x1.2,-1,0),⟨⟨h1,hlt⟩,rfl,⟨Int.le_refl _,by dsimp only; omega⟩,zero_le _⟩,rfl,rfl,rfl,rfl⟩,fun x2 h2=>?_⟩,fun hge=>⟨_,⟨h1.hm,by have:=h1.hn; have:=h1.hi; omega⟩,rfl⟩⟩⟩;obtain ⟨⟨hO,hlt2⟩,he,⟨a1,a2⟩,hk⟩:=h2;have o1:=hO.hn;have o2:=hO.hi;have hx:l.getD x2.2.1 dfU ∈ l:=a0W hlt2
 refine ⟨fun hlt3=>?_,fun hge=>⟨fun hneg=>⟨hlt2,by simp only [List.length_cons,length_nil]; omega,by unfold inR; omega,(x2.1 ++ [l.getD x2.2.1 dfU],x2.2.1+1),⟨hlt2,by simp only [length_append,List.length_cons,length_nil]; omega,fun v hv=>?_⟩,by dsimp only; omega,rfl,by simp⟩,fun hpos=>⟨⟨by omega,by omega⟩,by unfold inR; omega,⟨by omega,by omega⟩,by simp only [List.length_take,List.length_drop]; omega,by unfold inR; omega,(_,x2.2.1+1),⟨hlt2,by simp only [length_append,List.length_take,List.length_drop]; omega,fun v hv=>?_⟩,by dsimp only; omega,rfl,by simp⟩⟩⟩
 ·have s1:=a3S (hl _ (hO.hm _ (a0W (d:=dfU) hlt3)));have s2:=a3S (hl _ hx);refine ⟨hlt3,hlt2,by omega,fun _=>⟨by unfold inR; omega,(x2.1,x2.2.1,(x2.2.2.2:Int),x2.2.2.2+1),⟨⟨hO,hlt2⟩,he,⟨by dsimp only; omega,by dsimp only; omega⟩,hlt3⟩,by dsimp only; omega,rfl,rfl,rfl,by simp⟩,fun _=>⟨by unfold inR; omega,(x2.1,x2.2.1,x2.2.2.1,x2.2.2.2+1),⟨⟨hO,hlt2⟩,he,⟨a1,a2⟩,hlt3⟩,by dsimp only; omega,rfl,rfl,rfl,by simp⟩⟩
 ·rcases mem_append.1 hv with hv | hv
  ·exact hO.hm v hv
  ·rw [List.mem_singleton.1 hv]; exact hx
 ·rcases mem_append.1 hv with hv | hv
  ·exact hO.hm v (List.mem_of_mem_take hv)
  ·exact hO.hm v (List.mem_of_mem_drop hv)
def aVU:Ctr:=⟨51,spE (lU.c r0) (List Ux) (fun (l,_)=>(∀ v ∈ l,okU v)/\l.length <= 1000000) (fun (l,_) a=>(∀ v ∈ a,v ∈ l)/\a.length <= l.length) (fun _ a=>.k (.c (.rd .U (false) (a))))⟩
theorem aRs:CtrOK Tryz.prog aVU:=eOK a3d aCt Tryz.func51 fun x hp=>aIR x.1 hp
def b0j (_:Bool):Prop:=True
def a2Y (c d:Ux):Ux:=Ux.mk c.arc c.l c.k c.cw c.f d.t
def MeU (v:Ux):Prop:=okU v/\(v.arc=false->v.l.lb=0->a0H (a0Q v.f) (a0Q v.t)=0)/\a0g v.f v.t < 0
theorem b1A {v:Ux} (h:MeU v):aA7 v:=fun ha hv hb=>by
 have e:=h.2.1 ha hb;unfold a1J a4f at hv;rw [ha,e] at hv;cases hv
def a8K (x2:List Ux × Nat × Nat):=(x2.1.getD (((x2.2.2:Nat):Int).toNat) dfU)
def aAb (x2:List Ux × Nat × Nat):=(decide (((x2.2.2:Nat):Int) > (0:Int)))
def a8J (x2:List Ux × Nat × Nat):=(((x2.2.2:Nat):Int) - (1:Int))
def a7k (x2:List Ux × Nat × Nat):=(x2.1.getD ((a8J x2).toNat) dfU)
def aKU (x2:List Ux × Nat × Nat):=(0 <= ((x2.2.2:Nat):Int)/\((x2.2.2:Nat):Int) < (x2.1.length:Int))
def aPP (x2:List Ux × Nat × Nat) (l:List Ux) (x1:List Ux × Nat):=(((aKU x2)/\(((a4l (a7k x2))/\((0 <= ((x2.2.2:Nat):Int) - (1:Int)/\((x2.2.2:Nat):Int) - (1:Int) < ((x2.1.set (((x2.2.2:Nat):Int).toNat) (a7k x2)).length:Int))/\(((a4l (a8K x2))/\((inR .i64 (a8J x2))/\(∃ y2:List Ux × Nat × Nat,((((∀ v ∈ y2.1,MeU v)/\y2.1.length=l.length/\y2.2.1 < l.length)/\(y2.2.1:Int)=((x1.2:Nat):Int)/\y2.2.2 <= y2.2.1)/\((y2.2.2 < x2.2.2)/\(((((x2.1.set (((x2.2.2:Nat):Int).toNat) (a7k x2)).set ((a8J x2).toNat) (a8K x2))=y2.1)/\((Value.int .i64 ((x2.2.1:Nat):Int)=(.int .i64 ((y2.2.1:Nat):Int)))/\((Value.int .i64 (a8J x2)=(.int .i64 ((y2.2.2:Nat):Int)))/\True)))/\True))))))/\True)))/\True))/\True)
theorem aBj (l:List Ux) (hp:(∀ v ∈ l,MeU v)/\l.length <= 1000000):a1q LTL WP1 [.inv 3 (List Ux × Nat) (fun ξ=>⟨[.u,.u,.u,.k (.c (.ow 0 52 .U (ξ.1))),.k (.c (.v (.int .i64 (((ξ.2:Nat):Int))))),.u,.u,.u,.u,.u,.u,.u,.u,.u,.u,.u,.u,.u,.u,.u,.u,.u,.u,.u,.u,.u,.u,.u,.u,.u,.u,.u,.u,.u,.u,.u,.u,.u,.u,.u,.u,.u,.u,.u,.u,.u,.u,.u,.u,.u],[]⟩) (fun _ ξ=>(∀ v ∈ ξ.1,MeU v)/\ξ.1.length=l.length/\ξ.2 <= l.length) (fun ξ=>l.length - ξ.2),.inv 6 (List Ux × Nat × Nat) (fun ξ=>⟨[.u,.u,.u,.k (.c (.ow 0 52 .U (ξ.1))),.k (.c (.v (.int .i64 (((ξ.2.1:Nat):Int))))),.k (.c (.v (.int .i64 (((ξ.2.2:Nat):Int))))),.u,.u,.u,.u,.u,.u,.u,.u,.u,.u,.u,.u,.u,.u,.u,.u,.u,.u,.u,.u,.u,.u,.u,.u,.u,.u,.u,.u,.u,.u,.u,.u,.u,.u,.u,.u,.u,.u,.u,.u,.u,.u,.u,.u],[]⟩) (fun σ ξ=>((∀ v ∈ ξ.1,MeU v)/\ξ.1.length=l.length/\ξ.2.1 < l.length)/\(ξ.2.1:Int)=(tmI σ 4)/\ξ.2.2 <= ξ.2.1) (fun ξ=>ξ.2.2),.cut 8 1000] Tryz.f49 (bd Tryz.f49) [.c (.rd .U (false) (l))] (fun a:List Ux=>(∀ v ∈ a,MeU v)/\a.length=l.length) (fun a=>.k (.c (.rd .U (false) (a)))):=by
 refine a1u (show (True/\((([]:List Ux).length+l.length <= 10000000)/\((∃ x1:List Ux × Nat,(((∀ v ∈ x1.1,MeU v)/\x1.1.length=l.length/\x1.2 <= l.length)/\((((([]:List Ux) ++ l)=x1.1)/\((Value.int .i64 (0:Int)=(.int .i64 ((x1.2:Nat):Int)))/\True))/\True)))/\(∀ x1:List Ux × Nat,((∀ v ∈ x1.1,MeU v)/\x1.1.length=l.length/\x1.2 <= l.length->(((decide (((x1.2:Nat):Int) < (x1.1.length:Int)))=true->((∃ x2:List Ux × Nat × Nat,((((∀ v ∈ x2.1,MeU v)/\x2.1.length=l.length/\x2.2.1 < l.length)/\(x2.2.1:Int)=((x1.2:Nat):Int)/\x2.2.2 <= x2.2.1)/\(((x1.1=x2.1)/\((Value.int .i64 ((x1.2:Nat):Int)=(.int .i64 ((x2.2.1:Nat):Int)))/\((Value.int .i64 ((x1.2:Nat):Int)=(.int .i64 ((x2.2.2:Nat):Int)))/\True)))/\True)))/\(∀ x2:List Ux × Nat × Nat,(((∀ v ∈ x2.1,MeU v)/\x2.1.length=l.length/\x2.2.1 < l.length)/\(x2.2.1:Int)=((x1.2:Nat):Int)/\x2.2.2 <= x2.2.1->((((aAb x2) == true)=true->(aKU x2))/\((((aAb x2) == true)=true->(inR .i64 (a8J x2)))/\((((aAb x2) == true)=true->(0 <= ((x2.2.2:Nat):Int) - (1:Int)/\((x2.2.2:Nat):Int) - (1:Int) < (x2.1.length:Int)))/\((((aAb x2) == true)=true->((a4l (a8K x2))/\(a4l (a7k x2))/\(okU (a8K x2)/\okU (a7k x2))/\aA7 (a8K x2)/\aA7 (a7k x2)))/\(((bif (aAb x2) then (decide ((a1N (a8K x2) (a7k x2)) < (0:Int))) else false)=true->((inR .i64 (a8J x2))/\((inR .i64 (a8J x2))/\((0 <= ((x2.2.2:Nat):Int) - (1:Int)/\((x2.2.2:Nat):Int) - (1:Int) < (x2.1.length:Int))/\((aKU x2)/\((aPP x2 l x1)/\((aPP x2 l x1)/\True)))))))/\((bif (aAb x2) then (decide ((a1N (a8K x2) (a7k x2)) < (0:Int))) else false)=false->((inR .i64 (((x2.2.1:Nat):Int)+(1:Int)))/\(∃ y1:List Ux × Nat,(((∀ v ∈ y1.1,MeU v)/\y1.1.length=l.length/\y1.2 <= l.length)/\((l.length - y1.2 < l.length - x1.2)/\(((x2.1=y1.1)/\((Value.int .i64 (((x2.2.1:Nat):Int)+(1:Int))=(.int .i64 ((y1.2:Nat):Int)))/\True))/\True)))))))))))))))/\((decide (((x1.2:Nat):Int) < (x1.1.length:Int)))=false->(∃ a:List Ux,(((∀ v ∈ a,MeU v)/\a.length=l.length)/\(x1.1=a))))))))))=_ by kernel_rfl) ?_;delta aPP aKU a7k a8J aAb a8K a4l;simp only [true_and,and_true,aBG,aNB,toNat_natCast,Value.int.injEq,decide_eq_true_eq,decide_eq_false_iff_not,beq_true,natCast_nonneg,ofNat_lt,ofNat_inj,List.nil_append,gt_iff_lt];obtain ⟨hl,hn⟩:=hp;refine ⟨by simp only [length_nil]; omega,⟨(l,0),⟨hl,rfl,zero_le _⟩,rfl,rfl⟩,fun x1 h1=>⟨fun hlt=>⟨⟨(x1.1,x1.2,x1.2),⟨⟨h1.1,h1.2.1,by have:=h1.2.1; dsimp only; omega⟩,rfl,Nat.le_refl _⟩,rfl,rfl,rfl⟩,fun x2 h2=>?_⟩,fun hge=>⟨_,⟨h1.1,h1.2.1⟩,rfl⟩⟩⟩;obtain ⟨⟨hM,hL,hi⟩,he,hk⟩:=h2
 have q:((x2.2.2:Int) - 1).toNat=x2.2.2 - 1:=by omega
 rw [q]
 have m1:x2.2.2 < x2.1.length:=by omega
 have g1:=hM _ (a0W (d:=dfU) m1);have g2:=hM _ (a0W (d:=dfU) (show x2.2.2 - 1 < x2.1.length by omega))
 have hnew:∀ v ∈ (x2.1.set x2.2.2 (x2.1.getD (x2.2.2 - 1) dfU)).set (x2.2.2 - 1) (x2.1.getD x2.2.2 dfU),MeU v:=fun v hv=>by
  rcases List.mem_or_eq_of_mem_set hv with hv | rfl
  ·rcases List.mem_or_eq_of_mem_set hv with hv | rfl
   ·exact hM v hv
   ·exact g2
  ·exact g1
 refine ⟨fun _=>m1,fun _=>by unfold inR; omega,fun _=>⟨by omega,by omega⟩,fun _=>⟨⟨g1.1,g2.1⟩,b1A g1,b1A g2⟩,fun hc=>?_,fun _=>⟨by unfold inR; omega,(x2.1,x2.2.1+1),⟨hM,hL,hi⟩,by dsimp only; omega,rfl,by simp⟩⟩;have hc1:=hc.1
 repeat' apply And.intro
 all_goals try (simp only [List.length_set]; omega)
 all_goals try omega
 all_goals exact ⟨(_,x2.2.1,x2.2.2 - 1),⟨⟨hnew,by simp only [List.length_set]; exact hL,hi⟩,he,(by dsimp only; omega)⟩,(by dsimp only; omega),rfl,rfl,(by dsimp only; omega)⟩
def aGe:Ctr:=⟨49,spE (lU.c r0) (List Ux) (fun (l,_)=>(∀ v ∈ l,MeU v)/\l.length <= 1000000) (fun (l,_) a=>(∀ v ∈ a,MeU v)/\a.length=l.length) (fun _ a=>.k (.c (.rd .U (false) (a))))⟩
theorem aGd:CtrOK Tryz.prog aGe:=eOK a3d aCt Tryz.func49 fun x hp=>aBj x.1 hp
def a6n (x3:Nat × Nat × Nat × Nat) (p_:Ux):=(([p_.f,p_.t]).getD (((x3.2.1:Nat):Int).toNat) dfP)
def aKT (y3:Nat × Nat × Nat × Nat) (l:List Ux) (x2:Nat × Nat):=((y3.1 < l.length/\(y3.1:Int)=((x2.1:Nat):Int))/\(y3.2.1 < 2/\(y3.2.1:Int)=((x2.2:Nat):Int))/\y3.2.2.1 <= 2*y3.2.2.2/\y3.2.2.2 <= l.length)
def aB9 (p_ q_:Ux):=(([p_.f,p_.t])=([q_.f,q_.t]))
def aKS (x3:Nat × Nat × Nat × Nat) (p_:Ux):=(0 <= ((x3.2.1:Nat):Int)/\((x3.2.1:Nat):Int) < (([p_.f,p_.t]).length:Int))
def a6m (x3:Nat × Nat × Nat × Nat):=(((x3.2.2.2:Nat):Int).toNat)
def aKR (x3:Nat × Nat × Nat × Nat) (y3:Nat × Nat × Nat × Nat):=((Value.int .i64 (((x3.2.2.2:Nat):Int)+(1:Int))=(.int .i64 ((y3.2.2.2:Nat):Int)))/\True)
def aKQ (x3:Nat × Nat × Nat × Nat) (l:List Ux):=(0 <= ((x3.2.2.2:Nat):Int)/\((x3.2.2.2:Nat):Int) < (l.length:Int))
def aB8 (x3:Nat × Nat × Nat × Nat):=(((x3.2.2.1:Nat):Int)+(1:Int))
def aPO (x3:Nat × Nat × Nat × Nat) (l:List Ux) (x2:Nat × Nat):=((inR .i64 (((x3.2.2.2:Nat):Int)+(1:Int)))/\(∃ y3:Nat × Nat × Nat × Nat,((aKT y3 l x2)/\((l.length - y3.2.2.2 < l.length - x3.2.2.2)/\(((l=l)/\((Value.int .i64 ((x3.1:Nat):Int)=(.int .i64 ((y3.1:Nat):Int)))/\((aB9 (l.getD x3.1 dfU) (l.getD y3.1 dfU))/\((Value.int .i64 ((x3.2.1:Nat):Int)=(.int .i64 ((y3.2.1:Nat):Int)))/\((Value.int .i64 (aB8 x3)=(.int .i64 ((y3.2.2.1:Nat):Int)))/\(aKR x3 y3))))))/\True)))))
theorem aGh (l:List Ux) (hp:(∀ v ∈ l,okU v)/\l.length <= 1000000):a1q LTL WP1 [.inv 2 (Nat) (fun ξ=>⟨[.k (.c (.rd .U (false) (l))),.u,.u,.k (.c (.v (.int .i64 (((ξ:Nat):Int))))),.u,.u,.u,.u,.u,.u,.u,.u,.u,.u,.u,.u,.u,.u,.u,.u,.u,.u,.u,.u,.u,.u,.u,.u,.u,.u,.u,.u,.u,.u,.u,.u,.u,.u,.u,.u,.u,.u,.u,.u,.u,.u,.u,.u,.u,.u,.u,.u,.u,.u,.u,.u,.u,.u,.u,.u,.u,.u],[]⟩) (fun _ ξ=>ξ <= l.length) (fun ξ=>l.length - ξ),.inv 6 (Nat × Nat) (fun ξ=>⟨[.k (.c (.rd .U (false) (l))),.u,.u,.k (.c (.v (.int .i64 (((ξ.1:Nat):Int))))),.k (.c (.rd .P (false) ([(l.getD ξ.1 dfU).f,(l.getD ξ.1 dfU).t]))),.k (.c (.v (.int .i64 (((ξ.2:Nat):Int))))),.u,.u,.u,.u,.u,.u,.u,.u,.u,.u,.u,.u,.u,.u,.u,.u,.u,.u,.u,.u,.u,.u,.u,.u,.u,.u,.u,.u,.u,.u,.u,.u,.u,.u,.u,.u,.u,.u,.u,.u,.u,.u,.u,.u,.u,.u,.u,.u,.u,.u,.u,.u,.u,.u,.u,.u],[]⟩) (fun σ ξ=>(ξ.1 < l.length/\(ξ.1:Int)=(tmI σ 3))/\ξ.2 <= 2) (fun ξ=>2 - ξ.2),.inv 10 (Nat × Nat × Nat × Nat) (fun ξ=>⟨[.k (.c (.rd .U (false) (l))),.u,.u,.k (.c (.v (.int .i64 (((ξ.1:Nat):Int))))),.k (.c (.rd .P (false) ([(l.getD ξ.1 dfU).f,(l.getD ξ.1 dfU).t]))),.k (.c (.v (.int .i64 (((ξ.2.1:Nat):Int))))),.k (.c (.v (.int .i64 (((ξ.2.2.1:Nat):Int))))),.k (.c (.v (.int .i64 (((ξ.2.2.2:Nat):Int))))),.u,.u,.u,.u,.u,.u,.u,.u,.u,.u,.u,.u,.u,.u,.u,.u,.u,.u,.u,.u,.u,.u,.u,.u,.u,.u,.u,.u,.u,.u,.u,.u,.u,.u,.u,.u,.u,.u,.u,.u,.u,.u,.u,.u,.u,.u,.u,.u,.u,.u,.u,.u,.u,.u],[]⟩) (fun σ ξ=>(ξ.1 < l.length/\(ξ.1:Int)=(tmI σ 3))/\(ξ.2.1 < 2/\(ξ.2.1:Int)=(tmI σ 5))/\ξ.2.2.1 <= 2*ξ.2.2.2/\ξ.2.2.2 <= l.length) (fun ξ=>l.length - ξ.2.2.2)] Tryz.f48 (bd Tryz.f48) [.c (.rd .U (false) (l))] (fun a:Bool=>b0j a) (fun a=>.k (.c (.v (.bool (a))))):=by
 refine a1u (show ((∃ x1:Nat,((x1 <= l.length)/\(((l=l)/\((Value.int .i64 (0:Int)=(.int .i64 ((x1:Nat):Int)))/\True))/\True)))/\(∀ x1:Nat,((x1 <= l.length)->(((decide (((x1:Nat):Int) < (l.length:Int)))=true->((0 <= ((x1:Nat):Int)/\((x1:Nat):Int) < (l.length:Int))/\((0 <= ((x1:Nat):Int)/\((x1:Nat):Int) < (l.length:Int))/\((a0o/\a0o/\True)/\((∃ x2:Nat × Nat,(((x2.1 < l.length/\(x2.1:Int)=((x1:Nat):Int))/\x2.2 <= 2)/\(((l=l)/\((Value.int .i64 ((x1:Nat):Int)=(.int .i64 ((x2.1:Nat):Int)))/\((([(l.getD (((x1:Nat):Int).toNat) dfU).f,(l.getD (((x1:Nat):Int).toNat) dfU).t]:List Px)=([(l.getD x2.1 dfU).f,(l.getD x2.1 dfU).t]))/\((Value.int .i64 (0:Int)=(.int .i64 ((x2.2:Nat):Int)))/\True))))/\True)))/\(∀ x2:Nat × Nat,((x2.1 < l.length/\(x2.1:Int)=((x1:Nat):Int))/\x2.2 <= 2->(((decide (((x2.2:Nat):Int) < (2:Int)))=true->((∃ x3:Nat × Nat × Nat × Nat,(((x3.1 < l.length/\(x3.1:Int)=((x2.1:Nat):Int))/\(x3.2.1 < 2/\(x3.2.1:Int)=((x2.2:Nat):Int))/\x3.2.2.1 <= 2*x3.2.2.2/\x3.2.2.2 <= l.length)/\(((l=l)/\((Value.int .i64 ((x2.1:Nat):Int)=(.int .i64 ((x3.1:Nat):Int)))/\((aB9 (l.getD x2.1 dfU) (l.getD x3.1 dfU))/\((Value.int .i64 ((x2.2:Nat):Int)=(.int .i64 ((x3.2.1:Nat):Int)))/\((Value.int .i64 (0:Int)=(.int .i64 ((x3.2.2.1:Nat):Int)))/\((Value.int .i64 (0:Int)=(.int .i64 ((x3.2.2.2:Nat):Int)))/\True))))))/\True)))/\(∀ x3:Nat × Nat × Nat × Nat,((x3.1 < l.length/\(x3.1:Int)=((x2.1:Nat):Int))/\(x3.2.1 < 2/\(x3.2.1:Int)=((x2.2:Nat):Int))/\x3.2.2.1 <= 2*x3.2.2.2/\x3.2.2.2 <= l.length->(((decide (((x3.2.2.2:Nat):Int) < (l.length:Int)))=true->((aKQ x3 l)/\((aKS x3 (l.getD x3.1 dfU))/\((a0o/\a0o/\((l.getD (a6m x3) dfU).f).sz+(a6n x3 (l.getD x3.1 dfU)).sz <= 14500)/\(((a0x ((l.getD (a6m x3) dfU).f) (a6n x3 (l.getD x3.1 dfU)))=true->((inR .i64 (aB8 x3))/\((aKQ x3 l)/\((aKS x3 (l.getD x3.1 dfU))/\((a0o/\a0o/\((l.getD (a6m x3) dfU).t).sz+(a6n x3 (l.getD x3.1 dfU)).sz <= 14500)/\(((a0x ((l.getD (a6m x3) dfU).t) (a6n x3 (l.getD x3.1 dfU)))=true->((inR .i64 ((aB8 x3)+(1:Int)))/\((inR .i64 (((x3.2.2.2:Nat):Int)+(1:Int)))/\(∃ y3:Nat × Nat × Nat × Nat,((aKT y3 l x2)/\((l.length - y3.2.2.2 < l.length - x3.2.2.2)/\(((l=l)/\((Value.int .i64 ((x3.1:Nat):Int)=(.int .i64 ((y3.1:Nat):Int)))/\((aB9 (l.getD x3.1 dfU) (l.getD y3.1 dfU))/\((Value.int .i64 ((x3.2.1:Nat):Int)=(.int .i64 ((y3.2.1:Nat):Int)))/\((Value.int .i64 ((aB8 x3)+(1:Int))=(.int .i64 ((y3.2.2.1:Nat):Int)))/\(aKR x3 y3))))))/\True)))))))/\((a0x ((l.getD (a6m x3) dfU).t) (a6n x3 (l.getD x3.1 dfU)))=false->(aPO x3 l x2))))))))/\((a0x ((l.getD (a6m x3) dfU).f) (a6n x3 (l.getD x3.1 dfU)))=false->((aKQ x3 l)/\((aKS x3 (l.getD x3.1 dfU))/\((a0o/\a0o/\((l.getD (a6m x3) dfU).t).sz+(a6n x3 (l.getD x3.1 dfU)).sz <= 14500)/\(((a0x ((l.getD (a6m x3) dfU).t) (a6n x3 (l.getD x3.1 dfU)))=true->((inR .i64 (aB8 x3))/\(aPO x3 l x2)))/\((a0x ((l.getD (a6m x3) dfU).t) (a6n x3 (l.getD x3.1 dfU)))=false->((inR .i64 (((x3.2.2.2:Nat):Int)+(1:Int)))/\(∃ y3:Nat × Nat × Nat × Nat,((aKT y3 l x2)/\((l.length - y3.2.2.2 < l.length - x3.2.2.2)/\(((l=l)/\((Value.int .i64 ((x3.1:Nat):Int)=(.int .i64 ((y3.1:Nat):Int)))/\((aB9 (l.getD x3.1 dfU) (l.getD y3.1 dfU))/\((Value.int .i64 ((x3.2.1:Nat):Int)=(.int .i64 ((y3.2.1:Nat):Int)))/\((Value.int .i64 ((x3.2.2.1:Nat):Int)=(.int .i64 ((y3.2.2.1:Nat):Int)))/\(aKR x3 y3))))))/\True))))))))))))))))/\((decide (((x3.2.2.2:Nat):Int) < (l.length:Int)))=false->((0 <= ((x3.2.2.1:Nat):Int)/\0 < (2:Int))/\((((((x3.2.2.1:Nat):Int) % (2:Int)) == (1:Int))=true->(∃ a:Bool,((b0j a)/\(Value.bool true=(.bool a)))))/\(((((x3.2.2.1:Nat):Int) % (2:Int)) == (1:Int))=false->((inR .i64 (((x3.2.1:Nat):Int)+(1:Int)))/\(∃ y2:Nat × Nat,(((y2.1 < l.length/\(y2.1:Int)=((x1:Nat):Int))/\y2.2 <= 2)/\((2 - y2.2 < 2 - x2.2)/\(((l=l)/\((Value.int .i64 ((x3.1:Nat):Int)=(.int .i64 ((y2.1:Nat):Int)))/\((aB9 (l.getD x3.1 dfU) (l.getD y2.1 dfU))/\((Value.int .i64 (((x3.2.1:Nat):Int)+(1:Int))=(.int .i64 ((y2.2:Nat):Int)))/\True))))/\True))))))))))))))/\((decide (((x2.2:Nat):Int) < (2:Int)))=false->((inR .i64 (((x2.1:Nat):Int)+(1:Int)))/\(∃ y1:Nat,((y1 <= l.length)/\((l.length - y1 < l.length - x1)/\(((l=l)/\((Value.int .i64 (((x2.1:Nat):Int)+(1:Int))=(.int .i64 ((y1:Nat):Int)))/\True))/\True))))))))))))))/\((decide (((x1:Nat):Int) < (l.length:Int)))=false->(∃ a:Bool,((b0j a)/\(Value.bool false=(.bool a)))))))))=_ by kernel_rfl) ?_
 delta aPO aB8 aKQ aKR a6m aKS aB9 aKT a0o a6n;simp only [true_and,and_true,toNat_natCast,Value.int.injEq,Value.bool.injEq,decide_eq_true_eq,decide_eq_false_iff_not,natCast_nonneg,ofNat_lt,ofNat_inj];obtain ⟨hl,hn⟩:=hp
 have sz:∀ i,i < l.length->(l.getD i dfU).f.sz <= 730/\(l.getD i dfU).t.sz <= 730:=fun i hi=>by
  have h:=hl _ (a0W (d:=dfU) hi);exact ⟨a1B h.2.2.1,a1B h.2.2.2.1⟩
 refine ⟨⟨0,zero_le _,rfl⟩,fun x1 h1=>⟨fun hlt=>⟨hlt,hlt,⟨(x1,0),⟨⟨hlt,rfl⟩,zero_le _⟩,rfl,rfl,rfl⟩,fun x2 h2=>?_⟩,fun _=>⟨false,trivial,rfl⟩⟩⟩;obtain ⟨⟨a1,a2⟩,a3⟩:=h2;refine ⟨fun hj=>⟨⟨(x2.1,x2.2,0,0),⟨⟨a1,rfl⟩,⟨by dsimp only; omega,rfl⟩,zero_le _,zero_le _⟩,rfl,rfl,rfl,rfl,rfl⟩,fun x3 h3=>?_⟩,fun _=>⟨by unfold inR; omega,x2.1+1,a1,by omega,by simp⟩⟩;obtain ⟨⟨b1,b2⟩,⟨b3,b4⟩,b5,b6⟩:=h3;have sj:=sz _ b1
 have ej:(([(l.getD x3.1 dfU).f,(l.getD x3.1 dfU).t]:List Px).getD x3.2.1 dfP).sz <= 730:=by
  rcases (show x3.2.1=0 \/ x3.2.1=1 by omega) with e | e
  ·rw [e]; exact sj.1
  ·rw [e]; exact sj.2
 generalize hE:([(l.getD x3.1 dfU).f,(l.getD x3.1 dfU).t]:List Px).getD x3.2.1 dfP=E at *
 refine ⟨fun hk=>?_,fun _=>?_⟩
 ·have sk:=sz _ hk
  repeat' first | apply And.intro | (intro _)
  all_goals try omega
  all_goals try exact b3
  all_goals first | exact ⟨(x3.1,x3.2.1,x3.2.2.1+1+1,x3.2.2.2+1),⟨⟨b1,b2⟩,⟨b3,b4⟩,(by dsimp only; omega),hk⟩,(by dsimp only; omega),rfl,rfl,rfl,rfl,rfl⟩ | exact ⟨(x3.1,x3.2.1,x3.2.2.1+1,x3.2.2.2+1),⟨⟨b1,b2⟩,⟨b3,b4⟩,(by dsimp only; omega),hk⟩,(by dsimp only; omega),rfl,rfl,rfl,rfl,rfl⟩ | exact ⟨(x3.1,x3.2.1,x3.2.2.1,x3.2.2.2+1),⟨⟨b1,b2⟩,⟨b3,b4⟩,(by dsimp only; omega),hk⟩,(by dsimp only; omega),rfl,rfl,rfl,rfl,rfl⟩
 ·repeat' first | apply And.intro | (intro _)
  all_goals try omega
  all_goals first | exact ⟨true,trivial,rfl⟩ | exact ⟨(x3.1,x3.2.1+1),⟨⟨b1,(by dsimp only; omega)⟩,b3⟩,(by dsimp only; omega),rfl,rfl,rfl⟩
def aRr:Ctr:=⟨48,spE (lU.c r0) (Bool) (fun (l,_)=>(∀ v ∈ l,okU v)/\l.length <= 1000000) (fun _ a=>b0j a) (fun _ a=>.k (.c (.v (.bool (a)))))⟩
theorem aNd:CtrOK Tryz.prog aRr:=eOK a3d aCt Tryz.func48 fun x hp=>aGh x.1 hp
end Vc
end Go.Proofs.YtbohkigffejhoaaGreat
namespace Go.Proofs.YtbohkigffejhoaaGreat
namespace Lm
abbrev Sq:=Nat->Rat
def Pos (x:Sq):Prop:=∃ d:Rat,0 < d/\∃ K,∀ k,K <= k->d <= x k
def Zer (x:Sq):Prop:=∀ d:Rat,0 < d->∃ K,∀ k,K <= k->-d <= x k/\x k <= d
def Bdd (x:Sq):Prop:=∃ M:Rat,0 < M/\∀ k,-M <= x k/\x k <= M
theorem tot (a b:Rat):a <= b \/ b <= a:=Rat.le_total
theorem aVf {x y d e:Rat} (hd:0 <= d) (he:0 <= e) (h1:d <= x) (h2:e <= y):d*e <= x*y:=by
 have a:=mul_nonneg (show 0 <= x - d by grind) (show 0 <= y by grind);have b:=mul_nonneg hd (show 0 <= y - e by grind);grind
theorem aPo {x y d e:Rat} (h1:-d <= x/\x <= d) (h2:-e <= y/\y <= e):-(d*e) <= x*y/\x*y <= d*e:=by
 have a:=mul_nonneg (show 0 <= d - x by grind) (show 0 <= e+y by grind);have b:=mul_nonneg (show 0 <= d+x by grind) (show 0 <= e - y by grind);have a':=mul_nonneg (show 0 <= d - x by grind) (show 0 <= e - y by grind);have b':=mul_nonneg (show 0 <= d+x by grind) (show 0 <= e+y by grind);constructor <;> grind
theorem div_pos {d m:Rat} (hd:0 < d) (hm:0 < m):0 < d / m/\d / m*m=d:=by
 have e:d / m*m=d:=div_mul_cancel (by grind);refine ⟨?_,e⟩;rcases tot (d / m) 0 with h | h
 ·have:=mul_nonneg (show 0 <= -(d / m) by grind) (show 0 <= m by grind);grind
 ·rcases le_iff_lt_or_eq.1 h with h | h
  ·exact h
  ·rw [<- h] at e; grind
theorem Pos.not_zer {x:Sq} (h:Pos x) (k:Zer x):False:=by
 obtain ⟨d,hd,K,h⟩:=h;obtain ⟨K',k⟩:=k (d / 2) (by grind);have h1:=h (max K K') (Nat.le_max_left ..);have h2:=(k (max K K') (Nat.le_max_right ..)).2;grind
theorem Pos.not_neg {x:Sq} (h:Pos x) (k:Pos fun n=>-x n):False:=by
 obtain ⟨d,hd,K,h⟩:=h;obtain ⟨e,he,K',k⟩:=k;have h1:=h (max K K') (Nat.le_max_left ..);have h2:=k (max K K') (Nat.le_max_right ..);grind
theorem Pos.congr {x y:Sq} (h:Pos x) (e:∀ k,x k=y k):Pos y:=by
 obtain rfl:x=y:=funext e;exact h
theorem Zer.congr {x y:Sq} (h:Zer x) (e:∀ k,x k=y k):Zer y:=by
 obtain rfl:x=y:=funext e;exact h
theorem Bdd.congr {x y:Sq} (h:Bdd x) (e:∀ k,x k=y k):Bdd y:=by
 obtain rfl:x=y:=funext e;exact h
theorem Pos.add {x y:Sq} (h:Pos x) (k:Pos y):Pos fun n=>x n+y n:=by
 obtain ⟨d,hd,K,h⟩:=h;obtain ⟨e,he,K',k⟩:=k;refine ⟨d,hd,max K K',fun n hn=>?_⟩;have h1:=h n (by omega);have h2:=k n (by omega);grind
theorem Pos.add_zer {x y:Sq} (h:Pos x) (k:Zer y):Pos fun n=>x n+y n:=by
 obtain ⟨d,hd,K,h⟩:=h;obtain ⟨K',k⟩:=k (d / 2) (by grind);refine ⟨d / 2,by grind,max K K',fun n hn=>?_⟩;have h1:=h n (by omega);have h2:=(k n (by omega)).1;grind
theorem Pos.add_nn {x y:Sq} (h:Pos x) (k:∀ n,0 <= y n):Pos fun n=>x n+y n:=by
 obtain ⟨d,hd,K,h⟩:=h;refine ⟨d,hd,K,fun n hn=>?_⟩;have h1:=h n hn;have h2:=k n;grind
theorem Zer.add {x y:Sq} (h:Zer x) (k:Zer y):Zer fun n=>x n+y n:=fun d hd=>by
 obtain ⟨K,h⟩:=h (d / 2) (by grind);obtain ⟨K',k⟩:=k (d / 2) (by grind);refine ⟨max K K',fun n hn=>?_⟩;have h1:=h n (by omega);have h2:=k n (by omega);constructor <;> grind
theorem Zer.neg {x:Sq} (h:Zer x):Zer fun n=>-x n:=fun d hd=>by
 obtain ⟨K,h⟩:=h d hd;refine ⟨K,fun n hn=>?_⟩;have h1:=h n hn;constructor <;> grind
theorem Zer.mul {x y:Sq} (h:Zer x) (k:Bdd y):Zer fun n=>x n*y n:=fun d hd=>by
 obtain ⟨M,hM,k⟩:=k;obtain ⟨p,e⟩:=div_pos hd hM;obtain ⟨K,h⟩:=h (d / M) p;refine ⟨K,fun n hn=>?_⟩;have:=aPo (h n hn) (k n);rwa [e] at this
theorem aCw:Zer fun _=>0:=fun d hd=>⟨0,fun n _=>by constructor <;> grind⟩
theorem b1i {q:Rat} (h:0 < q):Pos fun _=>q:=⟨q,h,0,fun _ _=>le_refl⟩
theorem a3D (q:Rat):Bdd fun _=>q:=by
 rcases tot 0 q with h | h
 ·exact ⟨q+1,by grind,fun _=>by constructor <;> grind⟩
 ·exact ⟨1 - q,by grind,fun _=>by constructor <;> grind⟩
theorem Bdd.add {x y:Sq} (h:Bdd x) (k:Bdd y):Bdd fun n=>x n+y n:=by
 obtain ⟨M,hM,h⟩:=h;obtain ⟨N,hN,k⟩:=k;refine ⟨M+N,by grind,fun n=>?_⟩;have h1:=h n;have h2:=k n;constructor <;> grind
theorem Bdd.mul {x y:Sq} (h:Bdd x) (k:Bdd y):Bdd fun n=>x n*y n:=by
 obtain ⟨M,hM,h⟩:=h;obtain ⟨N,hN,k⟩:=k;exact ⟨M*N,mul_pos hM hN,fun n=>aPo (h n) (k n)⟩
theorem Pos.mul {x y:Sq} (h:Pos x) (k:Pos y):Pos fun n=>x n*y n:=by
 obtain ⟨d,hd,K,h⟩:=h;obtain ⟨e,he,K',k⟩:=k;exact ⟨d*e,mul_pos hd he,max K K',fun n hn=>aVf (by grind) (by grind) (h n (by omega)) (k n (by omega))⟩
theorem Pos.of_mul {x y:Sq} (h:Pos fun n=>x n*y n) (k:Pos y) (b:Bdd y):Pos x:=by
 obtain ⟨d,hd,K,h⟩:=h;obtain ⟨e,he,K',k⟩:=k;obtain ⟨M,hM,b⟩:=b;obtain ⟨p,q⟩:=div_pos hd hM;refine ⟨d / M,p,max K K',fun n hn=>?_⟩;have h1:=h n (by omega);have h2:=k n (by omega);have h3:=(b n).2
 generalize d / M=r at *
 rcases tot r (x n) with g | g
 ·exact g
 ·rcases le_iff_lt_or_eq.1 g with g | g
  ·exfalso;have a:=mul_pos (show 0 < r - x n by grind) (show 0 < y n by grind);have c:=mul_nonneg (show 0 <= r by grind) (show 0 <= M - y n by grind);grind
  ·rw [g]; exact le_refl
theorem Zer.of_mul {x y:Sq} (h:Zer fun n=>x n*y n) (k:Pos y):Zer x:=fun d hd=>by
 obtain ⟨e,he,K',k⟩:=k;obtain ⟨K,h⟩:=h (d*e) (mul_pos hd he);refine ⟨max K K',fun n hn=>?_⟩;have h1:=h n (by omega);have h2:=k n (by omega);constructor
 ·rcases tot (-d) (x n) with g | g
  ·exact g
  ·have a:=mul_nonneg (show 0 <= -d - x n by grind) (show 0 <= y n - e by grind);have c:=mul_nonneg (show 0 <= -d - x n by grind) (show 0 <= e by grind);have f:=mul_nonneg (show 0 <= d by grind) (show 0 <= y n - e by grind);rcases le_iff_lt_or_eq.1 g with g | g
   ·exfalso;have:=mul_pos (show 0 < -d - x n by grind) (show 0 < e by grind);grind
   ·rw [g]; exact le_refl
 ·rcases tot (x n) d with g | g
  ·exact g
  ·have a:=mul_nonneg (show 0 <= x n - d by grind) (show 0 <= y n - e by grind);have f:=mul_nonneg (show 0 <= d by grind) (show 0 <= y n - e by grind);rcases le_iff_lt_or_eq.1 g with g | g
   ·exfalso;have:=mul_pos (show 0 < x n - d by grind) (show 0 < e by grind);grind
   ·rw [<- g]; exact le_refl
theorem Zer.of_sq {x:Sq} (h:Zer fun n=>x n*x n):Zer x:=fun d hd=>by
 obtain ⟨K,h⟩:=h (d*d) (mul_pos hd hd);refine ⟨K,fun n hn=>?_⟩;have h1:=(h n hn).2;constructor
 ·rcases tot (-d) (x n) with g | g
  ·exact g
  ·rcases le_iff_lt_or_eq.1 g with g | g
   ·exfalso;have:=mul_pos (show 0 < -d - x n by grind) (show 0 < d - x n by grind);grind
   ·rw [g]; exact le_refl
 ·rcases tot (x n) d with g | g
  ·exact g
  ·rcases le_iff_lt_or_eq.1 g with g | g
   ·exfalso;have:=mul_pos (show 0 < x n - d by grind) (show 0 < x n+d by grind);grind
   ·rw [<- g]; exact le_refl
def Sg (x:Sq) (s:Int):Prop:=(s=1/\Pos x) \/ (s=0/\Zer x) \/ (s=-1/\Pos fun n=>-x n)
theorem Sg.congr {x y:Sq} {s:Int} (h:Sg x s) (e:∀ k,x k=y k):Sg y s:=by
 obtain rfl:x=y:=funext e;exact h
theorem Sg.pos {x:Sq} {s:Int} (h:Sg x s):0 < s ↔ Pos x:=by
 rcases h with ⟨rfl,h⟩ | ⟨rfl,h⟩ | ⟨rfl,h⟩
 ·exact ⟨fun _=>h,fun _=>by decide⟩
 ·exact ⟨fun g=>absurd g (by decide),fun g=>(g.not_zer h).elim⟩
 ·exact ⟨fun g=>absurd g (by decide),fun g=>(g.not_neg h).elim⟩
theorem Sg.zer {x:Sq} {s:Int} (h:Sg x s):s=0 ↔ Zer x:=by
 rcases h with ⟨rfl,h⟩ | ⟨rfl,h⟩ | ⟨rfl,h⟩
 ·exact ⟨fun g=>absurd g (by decide),fun g=>(h.not_zer g).elim⟩
 ·exact ⟨fun _=>h,fun _=>rfl⟩
 ·exact ⟨fun g=>absurd g (by decide),fun g=>(h.not_zer g.neg).elim⟩
theorem Sg.lt {x:Sq} {s:Int} (h:Sg x s):s < 0 ↔ Pos fun n=>-x n:=by
 rcases h with ⟨rfl,h⟩ | ⟨rfl,h⟩ | ⟨rfl,h⟩
 ·exact ⟨fun g=>absurd g (by decide),fun g=>(h.not_neg g).elim⟩
 ·exact ⟨fun g=>absurd g (by decide),fun g=>(g.not_zer h.neg).elim⟩
 ·exact ⟨fun _=>h,fun _=>by decide⟩
theorem Sg.neg {x:Sq} {s:Int} (h:Sg x s):Sg (fun n=>-x n) (-s):=by
 rcases h with ⟨rfl,h⟩ | ⟨rfl,h⟩ | ⟨rfl,h⟩
 ·exact .inr (.inr ⟨rfl,h.congr fun k=>by grind⟩)
 ·exact .inr (.inl ⟨rfl,h.neg⟩)
 ·exact .inl ⟨rfl,h⟩
theorem Sg.add_zer {x y:Sq} {s:Int} (h:Sg x s) (k:Zer y):Sg (fun n=>x n+y n) s:=by
 rcases h with ⟨rfl,h⟩ | ⟨rfl,h⟩ | ⟨rfl,h⟩
 ·exact .inl ⟨rfl,h.add_zer k⟩
 ·exact .inr (.inl ⟨rfl,h.add k⟩)
 ·exact .inr (.inr ⟨rfl,(h.add_zer k.neg).congr fun n=>by grind⟩)
theorem Sg.of_mul {x y:Sq} {s:Int} (h:Sg (fun n=>x n*y n) s) (k:Pos y) (b:Bdd y):Sg x s:=by
 rcases h with ⟨rfl,h⟩ | ⟨rfl,h⟩ | ⟨rfl,h⟩
 ·exact .inl ⟨rfl,h.of_mul k b⟩
 ·exact .inr (.inl ⟨rfl,h.of_mul k⟩)
 ·exact .inr (.inr ⟨rfl,Pos.of_mul (x:=fun n=>-x n) (h.congr fun n=>by grind) k b⟩)
theorem Sg.mul {x y:Sq} {s:Int} (h:Sg x s) (k:Pos y) (b:Bdd y):Sg (fun n=>x n*y n) s:=by
 rcases h with ⟨rfl,h⟩ | ⟨rfl,h⟩ | ⟨rfl,h⟩
 ·exact .inl ⟨rfl,h.mul k⟩
 ·exact .inr (.inl ⟨rfl,h.mul b⟩)
 ·exact .inr (.inr ⟨rfl,(h.mul k).congr fun n=>by grind⟩)
theorem b3L (q:Rat):Sg (fun _=>q) (Rt.sg q):=by
 rcases Rt.a6V q with h | h | h
 ·have:q < 0:=Rt.aOA.1 (by omega);rw [h]; exact .inr (.inr ⟨rfl,b1i (by grind)⟩)
 ·rw [h,Rt.a3y.1 h]; exact .inr (.inl ⟨rfl,aCw⟩)
 ·rw [h]; exact .inl ⟨rfl,b1i (Rt.aKd.1 (by omega))⟩
def rt (c:Rat):Sq:=fun k=>((isq (c.num.toNat*c.den*((k+1)*(k+1))):Nat):Rat) / ((c.den*(k+1):Nat):Rat)
theorem aPn (q:Rat):q*(q.den:Rat)=(q.num:Rat):=by
 have h4:(0:Rat) < (q.den:Rat):=Rat.natCast_pos.2 q.den_pos
 have h:q=(q.num:Rat) / (q.den:Rat):=by
  have:=Rat.divInt_eq_div q.num (q.den:Int);rw [Rat.num_divInt_den] at this;exact this
 have k:=div_mul_cancel (a:=(q.num:Rat)) (b:=(q.den:Rat)) (by grind);rwa [<- h] at k
theorem aBL {z:Int} (h:0 <= z):((z.toNat:Nat):Rat)=(z:Rat):=by
 have e:((z.toNat:Nat):Int)=z:=by omega
 rw [<- Rat.intCast_natCast,e]
theorem b7b (q:Rat):∃ K:Nat,q <= (K:Rat):=by
 rcases tot q 0 with h | h
 ·exact ⟨0,h⟩
 ·refine ⟨q.num.toNat,?_⟩;rw [aBL (Rat.num_nonneg.2 h),<- aPn];have h5:(1:Rat) <= (q.den:Rat):=(natCast_le_natCast (a:=1)).2 q.den_pos;have:=mul_nonneg h (show 0 <= (q.den:Rat) - 1 by grind);grind
theorem a9Z {a b p:Rat} (hp:0 < p) (h:a*p <= b*p):a <= b:=by
 rcases tot a b with g | g
 ·exact g
 ·rcases le_iff_lt_or_eq.1 g with g | g
  ·have:=mul_pos (show 0 < a - b by grind) hp;grind
  ·rw [g]; exact le_refl
theorem aCG {c:Rat} (hc:0 <= c) (k:Nat):∃ h:Rat,0 <= rt c k/\0 < h/\h*((k:Rat)+1) <= 1/\h <= 1/\rt c k*rt c k <= c/\c <= (rt c k+h)*(rt c k+h):=by
 obtain ⟨s1,s2⟩:=a7o (c.num.toNat*c.den*((k+1)*(k+1)));unfold rt
 generalize isq (c.num.toNat*c.den*((k+1)*(k+1)))=s at *
 have e2:=aPn c;have e:=aBL (Rat.num_nonneg.2 hc);have p1:(1:Rat) <= (c.den:Rat):=(natCast_le_natCast (a:=1)).2 c.den_pos
 generalize c.num.toNat=m at *
 have r1:=natCast_le_natCast.2 s1;have r2:=natCast_le_natCast.2 (Nat.le_of_lt s2);have p2:(0:Rat) <= (k:Rat):=Rat.natCast_nonneg;have p3:(0:Rat) <= (s:Rat):=Rat.natCast_nonneg;simp only [Rat.natCast_mul,Rat.natCast_add,Rat.natCast_ofNat] at r1 r2 ⊢;rw [e,<- e2] at r1 r2;have one:((1:Nat):Rat)=1:=rfl
 rw [one] at *
 generalize (c.den:Rat)=D at *
 generalize ((k:Nat):Rat)=n at *
 generalize (s:Rat)=x at *
 have hp:0 < D*(n+1):=mul_pos (by grind) (by grind)
 have hge:1 <= D*(n+1):=by
  have:=mul_nonneg (show 0 <= D - 1 by grind) p2;grind
 have t1:=div_mul_cancel (a:=x) (b:=D*(n+1)) (by grind);have t2:=div_mul_cancel (a:=1) (b:=D*(n+1)) (by grind);have q1:0 <= x / (D*(n+1)):=a9Z hp (by rw [t1]; grind);have q2:0 < 1 / (D*(n+1)):=(div_pos (by decide) hp).1
 generalize x / (D*(n+1))=y at *
 generalize 1 / (D*(n+1))=h at *
 have hpp:=mul_pos hp hp;refine ⟨h,q1,q2,?_,?_,a9Z hpp ?_,a9Z hpp ?_⟩
 ·have:=mul_nonneg (show 0 <= h by grind) (mul_nonneg (show 0 <= D - 1 by grind) (show 0 <= n+1 by grind));grind
 ·have:=mul_nonneg (show 0 <= h by grind) (show 0 <= D*(n+1) - 1 by grind);grind
 ·have:y*y*(D*(n+1)*(D*(n+1)))=x*x:=by rw [<- t1]; grind
  rw [this]; grind
 ·have:(y+h)*(y+h)*(D*(n+1)*(D*(n+1)))=(x+1)*(x+1):=by
   have e1:(y+h)*(D*(n+1))=x+1:=by grind
   rw [<- e1]; grind
  rw [this]; grind
theorem aTn {c:Rat} (hc:0 <= c) (k:Nat):0 <= rt c k:=by
 obtain ⟨h,h1,_⟩:=aCG hc k;exact h1
theorem b0W {c:Rat} (hc:0 <= c) (k:Nat):rt c k <= c+1:=by
 obtain ⟨h,h1,_,_,_,h2,_⟩:=aCG hc k;rcases tot (rt c k) (c+1) with g | g
 ·exact g
 ·have a:=aVf (show 0 <= c+1 by grind) (show 0 <= c+1 by grind) g g;have:=mul_nonneg hc hc;grind
theorem a9I {c:Rat} (hc:0 <= c):Bdd (rt c):=⟨c+1,by grind,fun k=>⟨by have:=aTn hc k; grind,b0W hc k⟩⟩
theorem aBe {c:Rat} (hc:0 <= c):Zer fun k=>rt c k*rt c k - c:=fun d hd=>by
 obtain ⟨K,hK⟩:=b7b ((2*c+3) / d);have e:=div_mul_cancel (a:=2*c+3) (b:=d) (by grind);refine ⟨K,fun k hk=>?_⟩;obtain ⟨h,h1,h2,h3,h4,h5,h6⟩:=aCG hc k;have h7:=b0W hc k;have hk':(K:Rat) <= (k:Rat):=natCast_le_natCast.2 hk;show -d <= rt c k*rt c k - c/\rt c k*rt c k - c <= d
 generalize rt c k=y at *
 generalize (K:Rat)=N at *
 generalize (k:Rat)=n at *
 generalize (2*c+3) / d=q at *
 have a1:=mul_nonneg (show 0 <= n - q by grind) (show 0 <= d by grind);have a2:=mul_nonneg (show 0 <= n*d - (2*c+3) by grind) (show 0 <= h by grind);have a3:=mul_nonneg (show 0 <= 1 - h*(n+1) by grind) (show 0 <= d by grind);have a4:=mul_nonneg (show 0 <= c+1 - y by grind) (show 0 <= h by grind);have a5:=mul_nonneg (show 0 <= 1 - h by grind) (show 0 <= h by grind);have a6:=mul_nonneg (show 0 <= h by grind) (show 0 <= d by grind);constructor
 ·grind
 ·grind
open Vc
def pick (s t r:Int):Int:=(if (bif (bif (s == (0:Int)) then (true) else (t == (0:Int))) then (true) else (s == t))=true then (if (s == (0:Int))=true then t else s) else s*r)
theorem aKh {c:Rat} (hc:0 < c):Pos (rt c):=by
 obtain ⟨K,h⟩:=aBe (le_of_lt hc) (c / 2) (by grind);rcases tot (c / 2) 1 with g | g
 ·refine ⟨c / 2,by grind,K,fun k hk=>?_⟩;have h1:-(c / 2) <= rt c k*rt c k - c:=(h k hk).1;have h2:=aTn (le_of_lt hc) k
  generalize rt c k=y at *
  rcases tot (c / 2) y with q | q
  ·exact q
  ·have:=mul_nonneg h2 (show 0 <= 1 - y by grind);grind
 ·refine ⟨1,by decide,K,fun k hk=>?_⟩;have h1:-(c / 2) <= rt c k*rt c k - c:=(h k hk).1;have h2:=aTn (le_of_lt hc) k
  generalize rt c k=y at *
  rcases tot 1 y with q | q
  ·exact q
  ·have:=mul_nonneg h2 (show 0 <= 1 - y by grind);grind
theorem b4w:Zer (rt 0):=Zer.of_sq ((aBe (c:=0) le_refl).congr fun k=>by grind)
theorem gen {x y:Sq} {N:Rat} {s t r:Int} (hN:0 <= N) (bx:Bdd x) (by_:Bdd y) (sx:Sg x s) (sy:Sg y t) (sr:Sg (fun k=>x k*x k - y k*y k*N) r):Sg (fun k=>x k+y k*rt N k) (pick s (t*Rt.sg N) r):=by
 have bt:=a9I hN
 have key:Zer fun k=>y k*y k*(rt N k*rt N k - N):=((aBe hN).mul (by_.mul by_)).congr fun k=>by grind
 rcases le_iff_lt_or_eq.1 hN with h | h
 ·have e:Rt.sg N=1:=by
   have:=Rt.aKd.2 h;rcases Rt.a6V N with q | q | q <;> omega
  have pt:=aKh h;have sm:=sy.mul pt bt;rw [e,Int.mul_one]
  rcases sx with ⟨rfl,h1⟩ | ⟨rfl,h1⟩ | ⟨rfl,h1⟩
  ·rcases sy with ⟨rfl,h2⟩ | ⟨rfl,h2⟩ | ⟨rfl,h2⟩
   ·exact .inl ⟨rfl,h1.add (h2.mul pt)⟩
   ·exact .inl ⟨rfl,h1.add_zer (h2.mul bt)⟩
   ·have hp:Pos fun k=>x k+-y k*rt N k:=h1.add (Pos.mul h2 pt);have hb:Bdd fun k=>x k+-y k*rt N k:=bx.add (Bdd.mul (x:=fun k=>-y k) ((a3D (-1)).mul by_ |>.congr fun k=>by grind) bt);refine Sg.of_mul (s:=pick 1 (-1) r) ?_ hp hb;rw [show pick 1 (-1) r=r by unfold pick; simp]
    exact (sr.add_zer key.neg).congr fun k=>by grind
  ·rw [show pick 0 t r=t by unfold pick; simp]
   exact (sm.add_zer h1).congr fun k=>by grind
  ·rcases sy with ⟨rfl,h2⟩ | ⟨rfl,h2⟩ | ⟨rfl,h2⟩
   ·have hp:Pos fun k=>-x k+y k*rt N k:=h1.add (Pos.mul h2 pt);have hb:Bdd fun k=>-x k+y k*rt N k:=Bdd.add (x:=fun k=>-x k) ((a3D (-1)).mul bx |>.congr fun k=>by grind) (by_.mul bt);refine Sg.of_mul (s:=pick (-1) 1 r) ?_ hp hb;rw [show pick (-1) 1 r=-r by unfold pick; simp]
    exact (sr.neg.add_zer key).congr fun k=>by grind
   ·exact .inr (.inr ⟨rfl,(h1.add_zer (h2.mul bt).neg).congr fun k=>by grind⟩)
   ·exact .inr (.inr ⟨rfl,(h1.add (Pos.mul h2 pt)).congr fun k=>by grind⟩)
 ·subst h
  have z:Zer fun k=>y k*rt 0 k:=(b4w.mul by_).congr fun k=>by grind
  rw [show pick s (t*Rt.sg 0) r=s by
   rw [show Rt.sg 0=0 from rfl,Int.mul_zero];unfold pick
   by_cases q:s=0 <;> simp [q]]
  exact sx.add_zer z
theorem aJ5 (a b:Rat) {m:Rat} (hm:0 <= m):Sg (fun k=>a+b*rt m k) (a1y a b m) :=
 gen (x:=fun _=>a) (y:=fun _=>b) hm (a3D a) (a3D b) (b3L a) (b3L b) (b3L _)
theorem aXi {q:Dx} (hm:0 <= q.dm) (hn:0 <= q.dn):Sg (fun k=>q.da+q.db*rt q.dm k+(q.dc+q.dd*rt q.dm k)*rt q.dn k) (a2L q):=by
 have e:a2L q=pick (a1y q.da q.db q.dm) (a1y q.dc q.dd q.dm*Rt.sg q.dn) (a1y (q.da*q.da+q.db*q.db*q.dm - q.dn*(q.dc*q.dc+q.dd*q.dd*q.dm)) (q.da*q.db - q.dn*(q.dc*q.dd)+(q.da*q.db - q.dn*(q.dc*q.dd))) q.dm):=by
  have h1:=Rt.aBc.2 hm;have h2:=Rt.aBc.2 hn;unfold a2L;rw [if_neg (by rw [decide_eq_false (by omega),decide_eq_false (by omega)]; decide)];rfl
 rw [e];have bm:=a9I hm
 have z:Zer fun k=>(q.db*q.db - q.dd*q.dd*q.dn)*(rt q.dm k*rt q.dm k - q.dm):=((aBe hm).mul (a3D (q.db*q.db - q.dd*q.dd*q.dn))).congr fun k=>by grind
 exact gen (x:=fun k=>q.da+q.db*rt q.dm k) (y:=fun k=>q.dc+q.dd*rt q.dm k) hn ((a3D _).add ((a3D _).mul bm)) ((a3D _).add ((a3D _).mul bm)) (aJ5 _ _ hm) (aJ5 _ _ hm)
  (((aJ5 _ _ hm).add_zer z).congr fun k=>by grind)
def vR (r:Rx):Sq:=fun k=>r.ra+r.rb*rt r.rc k
theorem aVK {r s:Rx} (hr:0 <= r.rc) (hs:0 <= s.rc):Sg (fun k=>vR r k - vR s k) (a0H r s) :=
 (aXi (q:=a3g r s) hr hs).congr fun k=>by
  simp only [a3g,vR];have:(((0:Int)):Rat)=0:=rfl;grind
theorem aF0 {r:Rx} (hr:0 <= r.rc) (a:Rat):Sg (fun k=>vR r k - a) (a0J r a) :=
 (aJ5 (r.ra - a) r.rb hr).congr fun k=>by unfold vR; grind
def vX (p:Px):Sq:=fun k=>p.a+p.b*rt p.e k
def vY (p:Px):Sq:=fun k=>p.c+p.d*rt p.e k
theorem a5K (a b c:Rat) (k:Nat):vR (a0y a b c) k=a+b*rt c k:=by
 unfold a0y vR;split
 ·rename_i h;have h:b=0:=Rt.a3y.1 (by simpa using h);simp only [a0v,a1p,h];have:(((0:Int)):Rat)=0:=rfl;grind
 ·rfl
theorem a5L {c:Rat} (a b:Rat) (h:0 <= c):0 <= (a0y a b c).rc:=by
 unfold a0y;split
 ·exact (by decide:(0:Rat) <= 0)
 ·exact h
theorem a2f {p q:Px} (hp:0 <= p.e) (hq:0 <= q.e):Sg (fun k=>vX p k - vX q k) (a0H (a0Q p) (a0Q q)) :=
 (aVK (a5L _ _ hp) (a5L _ _ hq)).congr fun k=>by
  show vR (a0y p.a p.b p.e) k - vR (a0y q.a q.b q.e) k=_;rw [a5K,a5K]; rfl
theorem a8k {p q:Px} (hp:0 <= p.e) (hq:0 <= q.e):Sg (fun k=>vY p k - vY q k) (a0H (a2m p) (a2m q)) :=
 (aVK (a5L _ _ hp) (a5L _ _ hq)).congr fun k=>by
  show vR (a0y p.c p.d p.e) k - vR (a0y q.c q.d q.e) k=_;rw [a5K,a5K]; rfl
theorem aCK {p:Px} (hp:0 <= p.e) (a:Rat):Sg (fun k=>vX p k - a) (a0J (a0Q p) a) :=
 (aF0 (a5L _ _ hp) a).congr fun k=>by
  show vR (a0y p.a p.b p.e) k - a=_;rw [a5K]; rfl
theorem a7W {p:Px} (hp:0 <= p.e) (a:Rat):Sg (fun k=>vY p k - a) (a0J (a2m p) a) :=
 (aF0 (a5L _ _ hp) a).congr fun k=>by
  show vR (a0y p.c p.d p.e) k - a=_;rw [a5K]; rfl
structure Wk (o:Px->Px->Int):Prop where
 anti:∀ p q,0 <= p.e->0 <= q.e->o q p=-o p q
 tr:∀ p q r,0 <= p.e->0 <= q.e->0 <= r.e->o p q <= 0->o q r <= 0->o p r <= 0/\(o p q < 0 \/ o q r < 0->o p r < 0)
theorem aOB {x y:Sq} {s t:Int} (h:Sg x s) (k:Sg y t) (e:∀ n,y n=-x n):t=-s:=by
 have k:Sg (fun n=>-x n) t:=k.congr e;have h':=h.neg
 rcases h' with ⟨h1,h2⟩ | ⟨h1,h2⟩ | ⟨h1,h2⟩
 ·have:=k.pos.2 h2;rcases k with ⟨k1,_⟩ | ⟨k1,_⟩ | ⟨k1,_⟩ <;> omega
 ·have:=k.zer.2 h2;omega
 ·have:=k.lt.2 h2;rcases k with ⟨k1,_⟩ | ⟨k1,_⟩ | ⟨k1,_⟩ <;> omega
theorem b0U {x y z:Sq} {s t u:Int} (h:Sg x s) (k:Sg y t) (l:Sg z u) (e:∀ n,z n=x n+y n) (hs:s <= 0) (ht:t <= 0):u <= 0/\(s < 0 \/ t < 0->u < 0):=by
 have l:Sg (fun n=>x n+y n) u:=l.congr e
 rcases h with ⟨rfl,h⟩ | ⟨rfl,h⟩ | ⟨rfl,h⟩
 ·omega
 ·rcases k with ⟨rfl,k⟩ | ⟨rfl,k⟩ | ⟨rfl,k⟩
  ·omega
  ·have:=l.zer.2 (h.add k);omega
  ·have:=l.lt.2 ((k.add_zer h.neg).congr fun n=>by grind);omega
 ·rcases k with ⟨rfl,k⟩ | ⟨rfl,k⟩ | ⟨rfl,k⟩
  ·omega
  ·have:=l.lt.2 ((h.add_zer k.neg).congr fun n=>by grind);omega
  ·have:=l.lt.2 ((h.add k).congr fun n=>by grind);omega
theorem wkX:Wk fun p q=>a0H (a0Q p) (a0Q q) :=
 ⟨fun _ _ hp hq=>aOB (a2f hp hq) (a2f hq hp) fun n=>by grind,fun _ _ _ hp hq hr=>b0U (a2f hp hq) (a2f hq hr) (a2f hp hr) fun n=>by grind⟩
theorem wkY:Wk fun p q=>a0H (a2m p) (a2m q) :=
 ⟨fun _ _ hp hq=>aOB (a8k hp hq) (a8k hq hp) fun n=>by grind,fun _ _ _ hp hq hr=>b0U (a8k hp hq) (a8k hq hr) (a8k hp hr) fun n=>by grind⟩
theorem Wk.neg {o:Px->Px->Int} (h:Wk o):Wk fun p q=>(0:Int) - o p q :=
 ⟨fun p q hp hq=>by have:=h.anti p q hp hq; show 0 - o q p=-(0 - o p q); omega,fun p q r hp hq hr a b=>by
  have a:0 - o p q <= 0:=a;have b:0 - o q r <= 0:=b;have h1:=h.anti p q hp hq;have h2:=h.anti q r hq hr;have h3:=h.anti p r hp hr;have:=h.tr r q p hr hq hp (by omega) (by omega);refine ⟨show 0 - o p r <= 0 by omega,fun c=>?_⟩;have c:0 - o p q < 0 \/ 0 - o q r < 0:=c;show 0 - o p r < 0;have:=this.2 (by omega)
  omega⟩
theorem Wk.lex {o o':Px->Px->Int} (h:Wk o) (h':Wk o'):Wk fun p q=>if (o p q != (0:Int))=true then o p q else o' p q:=by
 have e:∀ p q,(if (o p q != (0:Int))=true then o p q else o' p q)=if o p q=0 then o' p q else o p q:=fun p q=>by
  by_cases g:o p q=0 <;> simp [g]
 simp only [e];refine ⟨fun p q hp hq=>?_,fun p q r hp hq hr a b=>?_⟩
 ·have h1:=h.anti p q hp hq;have h2:=h'.anti p q hp hq;split <;> split <;> omega
 ·have h1:=h.tr p q r hp hq hr;have h2:=h'.tr p q r hp hq hr;have h3:=h.tr r q p hr hq hp;have a1:=h.anti p q hp hq;have a2:=h.anti q r hq hr;have a3:=h.anti p r hp hr;split at a <;> split at b <;> split <;> omega
theorem Wk.key {f:Px->Bool} {g:Bool->Px->Px->Int} (h:∀ b,Wk (g b)):Wk fun p q=>if (f p != f q)=true then (if f q=true then (-1:Int) else 1) else g (f p) p q:=by
 refine ⟨fun p q hp hq=>?_,fun p q r hp hq hr a b=>?_⟩
 ·have h1:=(h (f p)).anti p q hp hq;cases e1:f p <;> cases e2:f q <;> simp_all
 ·have h1:=(h (f p)).tr p q r hp hq hr;cases e1:f p <;> cases e2:f q <;> cases e3:f r <;> simp_all
theorem wkC:Wk a0g:=wkX.lex wkY
theorem a6e (k:Kx) (p q:Px):a0D k p q=if (a0s k p != a0s k q)=true then (if a0s k q=true then (-1:Int) else 1) else (if a0s k p=true then (0:Int) - a0H (a0Q p) (a0Q q) else a0H (a0Q p) (a0Q q)):=rfl
theorem wkA (k:Kx):Wk (a0D k) :=
 Wk.key (f:=a0s k) (g:=fun b p q=>if b=true then (0:Int) - a0H (a0Q p) (a0Q q) else a0H (a0Q p) (a0Q q)) fun b=>by
  cases b
  ·exact wkX
  ·exact wkX.neg
theorem b5H (k:Kx) (f:Px):Wk (a0L k f) :=
 Wk.key (f:=fun p=>decide (a0D k p f < 0)) (g:=fun _=>a0D k) fun _=>wkA k
theorem Sg.uniq {x:Sq} {s t:Int} (h:Sg x s) (k:Sg x t):s=t:=by
 rcases h with ⟨rfl,h⟩ | ⟨rfl,h⟩ | ⟨rfl,h⟩
 ·have:=k.pos.2 h;rcases k with ⟨k1,_⟩ | ⟨k1,_⟩ | ⟨k1,_⟩ <;> omega
 ·have:=k.zer.2 h;omega
 ·have:=k.lt.2 h;rcases k with ⟨k1,_⟩ | ⟨k1,_⟩ | ⟨k1,_⟩ <;> omega
theorem a3H {p q:Px} (hp:0 <= p.e) (hq:0 <= q.e):a0g p q=0 ↔ (Zer fun k=>vX p k - vX q k)/\Zer fun k=>vY p k - vY q k:=by
 rw [<- (a2f hp hq).zer,<- (a8k hp hq).zer];unfold a0g;by_cases h:a0H (a0Q p) (a0Q q)=0 <;> simp [h]
theorem upper_eq (k:Kx) {p q:Px} (hp:0 <= p.e) (hq:0 <= q.e) (h:a0g p q=0):a0s k p=a0s k q:=by
 obtain ⟨h1,h2⟩:=(a3H hp hq).1 h;have e1:a0J (a0Q p) k.kx=a0J (a0Q q) k.kx:=((aCK hp k.kx).add_zer h1.neg).congr (y:=fun n=>vX q n - k.kx) (fun n=>by grind) |>.uniq (aCK hq k.kx);have e2:a0J (a2m p) k.ky=a0J (a2m q) k.ky:=((a7W hp k.ky).add_zer h2.neg).congr (y:=fun n=>vY q n - k.ky) (fun n=>by grind) |>.uniq (a7W hq k.ky);unfold a0s;rw [e1,e2]
theorem b2u {p q:Px} (hp:0 <= p.e) (hq:0 <= q.e) (h:a0g p q=0):a0H (a0Q p) (a0Q q)=0:=(a2f hp hq).zer.2 ((a3H hp hq).1 h).1
theorem aEb (k:Kx) {p q:Px} (hp:0 <= p.e) (hq:0 <= q.e) (h:a0g p q=0):a0D k p q=0:=by
 have e:=upper_eq k hp hq h;have x:=b2u hp hq h;rw [a6e,e,x];simp
theorem aDq (k:Kx) (f:Px) (hf:0 <= f.e) {p q:Px} (hp:0 <= p.e) (hq:0 <= q.e) (h:a0g p q=0):a0L k f p q=0:=by
 have e:=aEb k hp hq h;have a:=(wkA k).anti p q hp hq;have h1:=(wkA k).tr p q f hp hq hf;have h2:=(wkA k).tr q p f hq hp hf
 have:decide (a0D k p f < 0)=decide (a0D k q f < 0):=by
  apply decide_eq_decide.2;omega
 unfold a0L;rw [this,e];simp
theorem b2j {p q:Px} (hp:0 <= p.e) (hq:0 <= q.e) (h:a0g p q=0):a0g (a0r p) (a0r q)=0:=by
 obtain ⟨h1,h2⟩:=(a3H hp hq).1 h;refine (a3H (p:=a0r p) (q:=a0r q) hp hq).2 ⟨h1.neg.congr fun n=>?_,h2⟩;simp only [vX,a0r];grind
theorem aXO {u:Ux} (hf:0 <= u.f.e) {p q:Px} (hp:0 <= p.e) (hq:0 <= q.e) (h:a0g p q=0):a0P u p q=0:=by
 unfold a0P;cases u.arc
 ·simp only [Bool.not_false,if_true];split
  ·omega
  ·exact h
 ·simp only [Bool.not_true];cases u.cw
  ·exact aDq u.k u.f hf hp hq h
  ·exact aDq (a0k u).k (a0k u).f hf hp hq (b2j hp hq h)
theorem aQV {p q r s:Px} (hp:0 <= p.e) (hq:0 <= q.e) (hr:0 <= r.e) (hs:0 <= s.e) (h1:a0g p q < 0) (h2:a0g q r=0) (h3:a0g r s < 0):a0g p s < 0:=by
 have a:=wkC.tr p q r hp hq hr (by omega) (by omega);exact (wkC.tr p r s hp hr hs a.1 (by omega)).2 (.inr h3)
theorem b2t {p q:Px} (h:a0g p q < 0):a0x p q=false:=by
 unfold a0x;rw [beq_eq_false_iff_ne]; omega
theorem aU5 {r:Rx} (h:a04 r=0):r.ra=0/\r.rb=0:=by
 rw [<- Rt.a3y,<- Rt.a3y];unfold a04 at h
 generalize Rt.sg r.ra=a at *
 generalize Rt.sg r.rb=b at *
 generalize Rt.sg (a0V r)=n at *
 by_cases h1:a=b
 ·subst h1;simp at h;omega
 ·by_cases h2:b=0
  ·subst h2;simp at h;omega
  ·by_cases h3:a=0
   ·subst h3;simp [h1,h2] at h
   ·simp [h1,h2,h3] at h;split at h <;> omega
theorem zr:(((0:Int)):Rat)=0:=rfl
theorem a6Y (a b:Rat) {c:Rat} (hc:0 <= c):(Zer fun k=>vR (a0t a b c) k - (a+b*rt c k))/\0 <= (a0t a b c).rc:=by
 unfold a0t;split
 ·rename_i h;refine ⟨?_,by exact le_refl⟩;by_cases h1:b=0
  ·subst h1
   exact aCw.congr fun k=>by simp only [vR,a0v,a1p]; have:=zr; grind
  ·have h2:c=0:=Rt.a3y.1 (by
    have:¬ Rt.sg b=0:=fun e=>h1 (Rt.a3y.1 e)
    simpa [this] using h)
   subst h2
   exact (b4w.mul (a3D (-b))).congr fun k=>by simp only [vR,a0v,a1p]; have:=zr; grind
 ·exact ⟨aCw.congr fun k=>by simp only [vR]; grind,hc⟩
theorem aJ9 {r:Rx} (hr:0 <= r.rc):(Zer fun k=>vR (a0A r) k - vR r k*vR r k)/\0 <= (a0A r).rc:=by
 have e:(a0i r r).1=r.rc:=by unfold a0i; split <;> rfl
 unfold a0A a13;dsimp only;rw [e];obtain ⟨h1,h2⟩:=a6Y (r.ra*r.ra+r.rb*r.rb*r.rc) (r.ra*r.rb+r.rb*r.ra) hr;refine ⟨(h1.add ((aBe hr).mul (a3D (-(r.rb*r.rb))))).congr fun k=>?_,h2⟩;simp only [vR];grind
theorem b4Z {r s:Rx} (hr:0 <= r.rc) (hs:0 <= s.rc) (hc:(a0i r s).2=true):(Zer fun k=>vR (a2G r s).1 k - (vR r k+vR s k))/\0 <= (a2G r s).1.rc:=by
 unfold a0i at hc;unfold a2G a0i;dsimp only;split
 ·rename_i h;have h:r.rb=0:=Rt.a3y.1 (by simpa using h);obtain ⟨h1,h2⟩:=a6Y (r.ra+s.ra) (r.rb+s.rb) hs;exact ⟨h1.congr fun k=>by simp only [vR,h]; grind,h2⟩
 ·rename_i h;rw [if_neg h] at hc;obtain ⟨h1,h2⟩:=a6Y (r.ra+s.ra) (r.rb+s.rb) hr;refine ⟨h1.congr fun k=>?_,h2⟩;by_cases g:s.rb=0
  ·simp only [vR,g]; grind
  ·have:¬ Rt.sg s.rb=0:=fun e=>g (Rt.a3y.1 e);have e:r.rc - s.rc=0:=Rt.a3y.1 (by simpa [this] using hc)
   have e:s.rc=r.rc:=by grind
   simp only [vR,e]; grind
theorem b2I {p:Px} (hp:0 <= p.e):Bdd (vX p):=(a3D p.a).add ((a3D p.b).mul (a9I hp))
theorem b6y {p:Px} (hp:0 <= p.e):Bdd (vY p):=(a3D p.c).add ((a3D p.d).mul (a9I hp))
theorem aUg {k:Kx} {p:Px} (hp:0 <= p.e) (h:a2t k p=0):Zer fun n=>(vX p n - k.kx)*(vX p n - k.kx)+(vY p n - k.ky)*(vY p n - k.ky) - k.kq:=by
 have h:a04 (a1V k p)=0:=by unfold a2t at h; omega
 obtain ⟨h1,h2⟩:=aU5 h;unfold a1V a0n at h1 h2;dsimp only at h1 h2;have hc:=aVJ (a0f p (a0G (Vx.mk k.kx k.ky)));unfold a1e at h1 h2
 have ex:∀ n,vR (a0Q (a0f p (a0G (Vx.mk k.kx k.ky)))) n=vX p n - k.kx:=fun n=>by
  rw [a0Q,a5K]; simp only [a0f,a0G,vX]; grind
 have ey:∀ n,vR (a2m (a0f p (a0G (Vx.mk k.kx k.ky)))) n=vY p n - k.ky:=fun n=>by
  rw [a2m,a5K]; simp only [a0f,a0G,vY]; grind
 have cx:0 <= (a0Q (a0f p (a0G (Vx.mk k.kx k.ky)))).rc:=a5L _ _ hp;have cy:0 <= (a2m (a0f p (a0G (Vx.mk k.kx k.ky)))).rc:=a5L _ _ hp
 generalize a0Q (a0f p (a0G (Vx.mk k.kx k.ky)))=x at *
 generalize a2m (a0f p (a0G (Vx.mk k.kx k.ky)))=y at *
 obtain ⟨a1,a2⟩:=aJ9 cx;obtain ⟨b1,b2⟩:=aJ9 cy;obtain ⟨s1,_⟩:=b4Z a2 b2 hc;have:=(s1.neg.add (a1.neg.add b1.neg)).neg;refine ((s1.add (a1.add b1)).neg).congr fun n=>?_
 have ev:vR (a2G (a0A x) (a0A y)).1 n=k.kq:=by
  unfold vR;rw [h2]; grind
 rw [ev,ex,ey];grind
theorem aEQ {a b:Sq} {s t:Int} (ha:Sg a s) (hb:Sg b t) (h:(0 <= s/\0 <= t) \/ (s <= 0/\t <= 0)) (z:Zer fun n=>a n*a n - b n*b n):Zer fun n=>a n - b n:=by
 rcases ha with ⟨rfl,ha⟩ | ⟨rfl,ha⟩ | ⟨rfl,ha⟩
 ·rcases hb with ⟨rfl,hb⟩ | ⟨rfl,hb⟩ | ⟨rfl,hb⟩
  ·exact Zer.of_mul (z.congr fun n=>by grind) (ha.add hb)
  ·exact Zer.of_mul (y:=fun n=>a n+b n) (z.congr fun n=>by grind) (ha.add_zer hb)
  ·omega
 ·rcases hb with ⟨rfl,hb⟩ | ⟨rfl,hb⟩ | ⟨rfl,hb⟩
  ·exact Zer.of_mul (y:=fun n=>b n+a n) (z.congr fun n=>by grind) (hb.add_zer ha)
  ·exact (ha.add hb.neg).congr fun n=>by grind
  ·exact Zer.of_mul (y:=fun n=>-b n+-a n) (z.neg.congr fun n=>by grind) (hb.add_zer ha.neg)
 ·rcases hb with ⟨rfl,hb⟩ | ⟨rfl,hb⟩ | ⟨rfl,hb⟩
  ·omega
  ·exact Zer.of_mul (y:=fun n=>-a n+-b n) (z.neg.congr fun n=>by grind) (ha.add_zer hb.neg)
  ·exact Zer.of_mul (y:=fun n=>-a n+-b n) (z.neg.congr fun n=>by grind) (ha.add hb)
theorem aBK {k:Kx} {p q:Px} (h:a0s k p=a0s k q):(0 <= a0J (a2m p) k.ky/\0 <= a0J (a2m q) k.ky) \/ (a0J (a2m p) k.ky <= 0/\a0J (a2m q) k.ky <= 0):=by
 unfold a0s at h
 generalize a0J (a2m p) k.ky=s at *
 generalize a0J (a2m q) k.ky=t at *
 rcases Int.lt_trichotomy s 0 with a | a | a <;> rcases Int.lt_trichotomy t 0 with b | b | b <;> first | omega | (exfalso; simp [b,show ¬ s > 0 by omega,show ¬ s=0 by omega] at h; done) | (exfalso; simp [a,show ¬ t > 0 by omega,show ¬ t=0 by omega] at h; done)
theorem aHc {k:Kx} {p q:Px} (h:a0D k p q=0):a0s k p=a0s k q/\a0H (a0Q p) (a0Q q)=0:=by
 rw [a6e] at h;split at h
 ·split at h <;> omega
 ·rename_i e;refine ⟨by simpa using e,?_⟩;split at h <;> omega
theorem aFZ {k:Kx} {f p q:Px} (h:a0L k f p q=0):a0D k p q=0:=by
 unfold a0L at h;split at h
 ·split at h <;> omega
 ·exact h
def OnC (k:Kx) (p:Px):Prop:=Zer fun n=>(vX p n - k.kx)*(vX p n - k.kx)+(vY p n - k.ky)*(vY p n - k.ky) - k.kq
def IsE (s:Rat) (k:Kx) (p:Px):Prop:=(Zer fun n=>vX p n - (k.kx+s*rt k.kq n))/\Zer fun n=>vY p n - k.ky
theorem aU4 (z:Int):0 <= sqI z:=by unfold sqI; omega
theorem b0Q (c:Rat):0 <= sqr c:=Rat.divInt_nonneg (aU4 _) (aU4 _)
theorem b4t {c:Rat} (h:0 <= c):∃ s,Sg (rt c) s/\0 <= s:=by
 rcases le_iff_lt_or_eq.1 h with h | h
 ·exact ⟨1,.inl ⟨rfl,aKh h⟩,by decide⟩
 ·subst h; exact ⟨0,.inr (.inl ⟨rfl,b4w⟩),by decide⟩
theorem aU7 {c:Rat} (h0:0 <= c) (hq:isQ c=true):Zer fun n=>rt c n - sqr c:=by
 obtain ⟨s,h1,h2⟩:=b4t h0;refine aEQ (b:=fun _=>sqr c) h1 (b3L (sqr c)) (.inl ⟨h2,Rt.aBc.2 (b0Q c)⟩) ((aBe h0).congr fun n=>?_);rw [b0P h0 hq]
theorem b2k {k:Kx} (hk:0 <= k.kq):IsE (-1) k (a0e k).1/\IsE 1 k (a0e k).2:=by
 have e1:(((-1:Int)):Rat)=-1:=rfl;have e2:(((1:Int)):Rat)=1:=rfl;have z:=zr;unfold a0e a0p IsE;dsimp only
 cases hq:isQ k.kq with
 | true =>
   have r:=aU7 hk hq;simp only [if_true,a1Q,vX,vY,a1x,a0h,a1Z,a1K]
   refine ⟨⟨r.congr fun n=>?_,aCw.congr fun n=>?_⟩,r.neg.congr fun n=>?_,aCw.congr fun n=>?_⟩ <;> grind
 | false =>
   simp only [Bool.false_eq_true,if_false,vX,vY,a1Z];refine ⟨⟨aCw.congr fun n=>?_,aCw.congr fun n=>?_⟩,aCw.congr fun n=>?_,aCw.congr fun n=>?_⟩ <;> grind
theorem aVc {k:Kx} {p:Px} (hk:0 < k.kq) (c:OnC k p) {s:Rat} (hs:s=1 \/ s=-1) (h:Pos fun n=>s*(vX p n - k.kx) - rt k.kq n):False:=by
 have hk0:=le_of_lt hk
 have b:Pos fun n=>s*(vX p n - k.kx) - rt k.kq n+2*rt k.kq n:=h.add_nn fun n=>by have:=aTn hk0 n; grind
 have m:=(Pos.mul h b).add_nn (y:=fun n=>(vY p n - k.ky)*(vY p n - k.ky)) fun n=>by
  rcases tot 0 (vY p n - k.ky) with g | g
  ·exact mul_nonneg g g
  ·have:=mul_nonneg (show 0 <= -(vY p n - k.ky) by grind) (show 0 <= -(vY p n - k.ky) by grind);grind
 refine m.not_zer ((c.add (aBe hk0).neg).congr fun n=>?_);rcases hs with rfl | rfl <;> grind
theorem aPa {k:Kx} {p L:Px} (hk:0 < k.kq) (hp:0 <= p.e) (hL:0 <= L.e) (c:OnC k p) (e:IsE (-1) k L):0 <= a0H (a0Q p) (a0Q L):=by
 rcases Int.lt_or_le (a0H (a0Q p) (a0Q L)) 0 with h | h
 ·exfalso;have h:=(a2f hp hL).lt.1 h;exact aVc hk c (.inr rfl) ((h.add_zer e.1.neg).congr fun n=>by grind)
 ·exact h
theorem aPb {k:Kx} {p R:Px} (hk:0 < k.kq) (hp:0 <= p.e) (hR:0 <= R.e) (c:OnC k p) (e:IsE 1 k R):a0H (a0Q p) (a0Q R) <= 0:=by
 rcases Int.lt_or_le 0 (a0H (a0Q p) (a0Q R)) with h | h
 ·exfalso;have h:=(a2f hp hR).pos.1 h;exact aVc hk c (.inl rfl) ((h.add_zer e.1).congr fun n=>by grind)
 ·exact h
theorem aXP {k:Kx} {p:Px} (hk:0 < k.kq) (hp:0 <= p.e) (c:OnC k p) {s:Rat} (hs:s=1 \/ s=-1) (h:Zer fun n=>vX p n - (k.kx+s*rt k.kq n)):IsE s k p:=by
 refine ⟨h,Zer.of_sq ?_⟩;have hk0:=le_of_lt hk;have b:Bdd fun n=>vX p n+(-k.kx)+s*rt k.kq n:=((b2I hp).add (a3D _)).add ((a3D s).mul (a9I hk0));refine ((c.add (aBe hk0).neg).add (h.mul b).neg).congr fun n=>?_;rcases hs with rfl | rfl <;> grind
theorem a3s {k:Kx} {p:Px} (hk:0 < k.kq) (hp:0 <= p.e):(IsE 1 k p->a0s k p=true)/\(IsE (-1) k p->a0s k p=false):=by
 have r:=aKh hk;constructor
 ·rintro ⟨h1,h2⟩;have y:=(a7W hp k.ky).zer.2 h2;have x:=(aCK hp k.kx).pos.2 ((r.add_zer h1).congr fun n=>by grind);unfold a0s;rw [y,decide_eq_true x];rfl
 ·rintro ⟨h1,h2⟩;have y:=(a7W hp k.ky).zer.2 h2;have x:=(aCK hp k.kx).lt.2 ((r.add_zer h1.neg).congr fun n=>by grind);unfold a0s;rw [y,decide_eq_false (p:=a0J (a0Q p) k.kx > 0) (by omega)];rfl
theorem aVq {k:Kx} {p q:Px} {s:Rat} (hk:0 < k.kq) (hs:s=1 \/ s=-1) (hp:0 <= p.e) (hq:0 <= q.e) (c:OnC k p) (g:IsE s k q) (h:a0H (a0Q p) (a0Q q)=0):IsE s k p :=
 aXP hk hp c hs ((((a2f hp hq).zer.1 h).add g.1).congr fun n=>by grind)
theorem a9x {k:Kx} {p q:Px} (h:a0s k p=false) (g:a0s k q=false):a0D k p q=a0H (a0Q p) (a0Q q):=by rw [a6e,h,g]; simp
theorem a9w {k:Kx} {p q:Px} (h:a0s k p=true) (g:a0s k q=true):a0D k p q=-a0H (a0Q p) (a0Q q):=by rw [a6e,h,g]; simp
theorem aLY {k:Kx} {p q:Px} (h:a0s k p=false) (g:a0s k q=true):a0D k p q=-1:=by rw [a6e,h,g]; simp
theorem aEa {k:Kx} {p q:Px} (h:a0s k p=true) (g:a0s k q=false):a0D k p q=1:=by rw [a6e,h,g]; simp
theorem a4n (k:Kx) (f p q:Px):a0L k f p q=if (decide (a0D k p f < 0) != decide (a0D k q f < 0))=true then (if a0D k q f < 0 then -1 else 1) else a0D k p q:=by
 unfold a0L;congr 1;by_cases h:a0D k q f < 0 <;> simp [h]
theorem aIB (k:Kx) {f p:Px} (hf:0 <= f.e):¬ a0L k f p f < 0:=by
 have h0:a0D k f f=0:=aEb k hf hf ((wkC.anti f f hf hf) |> fun h=>by omega);rw [a4n,h0];by_cases h:a0D k p f < 0
 ·simp [h]
 ·simp [h]
theorem aTL {k:Kx} {L R p q:Px} (hk:0 < k.kq) (eL:0 <= L.e) (eR:0 <= R.e) (hp:0 <= p.e) (hq:0 <= q.e) (hL:IsE (-1) k L) (hR:IsE 1 k R) (cp:OnC k p) (cq:OnC k q)
    (bp:a0L k L p R <= 0) (bq:a0L k L q R <= 0) (h:a0L k L p q < 0):a0H (a0Q p) (a0Q q) < 0:=by
 have uL:=(a3s hk eL).2 hL;have uR:=(a3s hk eR).1 hR
 have aL:∀ x:Px,0 <= x.e->OnC k x->¬ a0D k x L < 0:=fun x hx cx=>by
  cases u:a0s k x with
  | true=>rw [aEa u uL]; omega
  | false=>rw [a9x u uL]; have:=aPa hk hx eL cx hL; omega
 have cR:OnC k R:=by
  refine ((aBe (le_of_lt hk)).add ((hR.1.mul (((b2I eR).add (a3D (-k.kx))).add (a9I (le_of_lt hk)))).add (hR.2.mul ((b6y eR).add (a3D (-k.ky)))))).congr fun n=>?_;grind
 have cyc:∀ x y:Px,0 <= x.e->0 <= y.e->OnC k x->OnC k y->a0L k L x y=a0D k x y:=fun x y hx hy cx cy=>by
  rw [a4n,decide_eq_false (aL x hx cx),decide_eq_false (aL y hy cy)]; simp
 rw [cyc p q hp hq cp cq] at h;rw [cyc p R hp eR cp cR] at bp;rw [cyc q R hq eR cq cR] at bq
 have top:∀ x:Px,0 <= x.e->OnC k x->a0D k x R <= 0->a0s k x=true->a0H (a0Q x) (a0Q R)=0:=fun x hx cx bx u=>by
  rw [a9w u uR] at bx;have:=aPb hk hx eR cx hR;omega
 cases up:a0s k p with
 | true =>
   cases uq:a0s k q with
   | true =>
     have e1:=top p hp cp bp up;have e2:=top q hq cq bq uq;have a:=wkX.tr q R p hq eR hp (by show a0H (a0Q q) (a0Q R) <= 0; omega) (by have:=wkX.anti p R hp eR; show a0H (a0Q R) (a0Q p) <= 0; (try simp only at this); omega);have b:=wkX.anti p q hp hq;have a':a0H (a0Q q) (a0Q p) <= 0:=a.1
     try simp only at b
     rw [a9w up uq] at h;have a2:=wkX.tr p R q hp eR hq (by show a0H (a0Q p) (a0Q R) <= 0; omega) (by have:=wkX.anti q R hq eR; show a0H (a0Q R) (a0Q q) <= 0; (try simp only at this); omega);have a3:a0H (a0Q p) (a0Q q) <= 0:=a2.1
     omega
   | false=>rw [aEa up uq] at h; omega
 | false =>
   cases uq:a0s k q with
   | false=>rwa [a9x up uq] at h
   | true =>
     have e2:=top q hq cq bq uq;have e1:=aPb hk hp eR cp hR
     have ne:a0H (a0Q p) (a0Q R) ≠ 0:=fun e=>by
      have:=(a3s hk hp).1 (aVq hk (.inl rfl) hp eR cp hR e);rw [up] at this; cases this
     have a:=wkX.tr p R q hp eR hq (by show a0H (a0Q p) (a0Q R) <= 0; omega) (by have:=wkX.anti q R hq eR; show a0H (a0Q R) (a0Q q) <= 0; (try simp only at this); omega);exact a.2 (.inl (by show a0H (a0Q p) (a0Q R) < 0; omega))
theorem aS9 {k:Kx} {L R p q:Px} (hk:0 < k.kq) (eL:0 <= L.e) (eR:0 <= R.e) (hp:0 <= p.e) (hq:0 <= q.e) (hL:IsE (-1) k L) (hR:IsE 1 k R) (cp:OnC k p) (cq:OnC k q)
    (bp:a0L k R p L <= 0) (bq:a0L k R q L <= 0) (h:a0L k R p q < 0):0 < a0H (a0Q p) (a0Q q):=by
 have uL:=(a3s hk eL).2 hL;have uR:=(a3s hk eR).1 hR
 have aT:∀ x:Px,0 <= x.e->OnC k x->a0s k x=true->¬ a0D k x R < 0:=fun x hx cx u=>by
  rw [a9w u uR]; have:=aPb hk hx eR cx hR; omega
 have aF:∀ x:Px,a0s k x=false->a0D k x R < 0:=fun x u=>by rw [aLY u uR]; omega
 have bot:∀ x:Px,0 <= x.e->OnC k x->a0L k R x L <= 0->a0s k x=false->a0H (a0Q x) (a0Q L)=0:=fun x hx cx bx u=>by
  rw [a4n,decide_eq_true (aF x u),decide_eq_true (aF L uL)] at bx;simp only [bne_self_eq_false,Bool.false_eq_true,if_false] at bx;rw [a9x u uL] at bx;have:=aPa hk hx eL cx hL;omega
 cases up:a0s k p with
 | true =>
   cases uq:a0s k q with
   | true =>
     rw [a4n,decide_eq_false (aT p hp cp up),decide_eq_false (aT q hq cq uq)] at h;simp only [bne_self_eq_false,Bool.false_eq_true,if_false] at h;rw [a9w up uq] at h
     omega
   | false =>
     have e2:=bot q hq cq bq uq;have e1:=aPa hk hp eL cp hL
     have ne:a0H (a0Q p) (a0Q L) ≠ 0:=fun e=>by
      have:=(a3s hk hp).2 (aVq hk (.inr rfl) hp eL cp hL e);rw [up] at this; cases this
     have a:=wkX.tr q L p hq eL hp (by show a0H (a0Q q) (a0Q L) <= 0; omega) (by have:=wkX.anti p L hp eL; show a0H (a0Q L) (a0Q p) <= 0; (try simp only at this); omega);have b:a0H (a0Q q) (a0Q p) < 0:=a.2 (.inr (by have:=wkX.anti p L hp eL; show a0H (a0Q L) (a0Q p) < 0; (try simp only at this); omega));have c:=wkX.anti p q hp hq
     try simp only at c
     omega
 | false =>
   have e1:=bot p hp cp bp up
   cases uq:a0s k q with
   | true =>
     rw [a4n,decide_eq_true (aF p up),decide_eq_false (aT q hq cq uq)] at h;have:=aT q hq cq uq
     simp [this] at h
   | false =>
     have e2:=bot q hq cq bq uq;rw [a4n,decide_eq_true (aF p up),decide_eq_true (aF q uq)] at h;simp only [bne_self_eq_false,Bool.false_eq_true,if_false] at h;rw [a9x up uq] at h;have a:=wkX.tr q L p hq eL hp (by show a0H (a0Q q) (a0Q L) <= 0; omega) (by have:=wkX.anti p L hp eL; show a0H (a0Q L) (a0Q p) <= 0; (try simp only at this); omega);have a':a0H (a0Q q) (a0Q p) <= 0:=a.1;have c:=wkX.anti p q hp hq
     try simp only at c
     omega
theorem b1B (a b:Rat) {c:Rat} (hc:0 <= c):Zer fun k=>vR (a05 a b c).1 k - (a+b*rt c k):=by
 unfold a05;dsimp only
 cases hq:isQ c with
 | true =>
   refine ((aU7 hc hq).mul (a3D (-b))).congr fun n=>?_;simp only [if_true,vR,a0v,a1p];have:=zr
   grind
 | false=>exact (a6Y a b hc).1
theorem aVj {l:Lx} {p:Px} (hp:0 <= p.e) (h:a2c l p=0):Zer fun n=>l.la*vX p n+l.lb*vY p n - l.lc:=by
 obtain ⟨h1,h2⟩:=aU5 (r:=a1U l p) h;refine (b1B (a1n (a2h (a0z l.la p.a) (a0z l.lb p.c)) l.lc) (a2h (a0z l.la p.b) (a0z l.lb p.d)) hp).neg.congr fun n=>?_;unfold a1U at h1 h2;simp only [vR,h1,h2];simp only [a2h,a1n,a0z,vX,vY];grind
theorem aOi {l:Lx} {p q:Px} (hp:0 <= p.e) (hq:0 <= q.e) (sp:a2c l p=0) (sq:a2c l q=0) (hb:l.lb=0) (ha:l.la ≠ 0):a0H (a0Q p) (a0Q q)=0:=by
 refine (a2f hp hq).zer.2 ?_;refine (((aVj hp sp).add (aVj hq sq).neg).mul (a3D (1 / l.la))).congr fun n=>?_;have:=div_mul_cancel (a:=1) (b:=l.la) ha;rw [hb];grind
theorem aYS {c d:Ux} (hc:MeU c) (hd:MeU d) (hs:a0j c d=true) (he:a0x d.f c.t=true):MeU (a2Y c d):=by
 have hcf:=a2N hc.1.2.2.1;have hct:=a2N hc.1.2.2.2.1;have hdf:=a2N hd.1.2.2.1;have hdt:=a2N hd.1.2.2.2.1
 have e0:a0g d.f c.t=0:=by simpa [a0x] using he
 obtain ⟨zx,zy⟩:=(a3H hdf hct).1 e0;have e1:a0g c.t d.f=0:=(a3H hct hdf).2 ⟨zx.neg.congr fun n=>by grind,zy.neg.congr fun n=>by grind⟩;refine ⟨⟨hc.1.1,hc.1.2.1,hc.1.2.2.1,hd.1.2.2.2.1,hc.1.2.2.2.2⟩,fun ha hb=>?_,aQV hcf hct hdf hdt hc.2.2 e1 hd.2.2⟩;have ha:c.arc=false:=ha;have hb:c.l.lb=0:=hb;have hla:c.l.la ≠ 0:=(hc.1.2.2.2.2.2 ha).resolve_right (fun h=>h hb);unfold a0j at hs;rw [ha] at hs
 cases hda:d.arc with
 | true=>rw [hda] at hs; cases hs
 | false =>
   rw [hda] at hs;have hsl:a2d c.l d.l=true:=hs;unfold a2d at hsl;rw [aBG,aBG] at hsl
   have h0:Rt.sg (a0z c.l.la d.l.lb - a0z c.l.lb d.l.la)=0:=by simpa using hsl.1.1
   have h1:c.l.la*d.l.lb - c.l.lb*d.l.la=0:=Rt.a3y.1 h0
   have h2:c.l.la*d.l.lb=0:=by rw [hb] at h1; grind
   have hdb:d.l.lb=0:=by
    rcases Rat.mul_eq_zero.1 h2 with h | h
    ·exact absurd h hla
    ·exact h
   have z1:=(a2f hcf hct).zer.1 (hc.2.1 ha hb);have z2:=(a2f hdf hdt).zer.1 (hd.2.1 hda hdb);exact (a2f hcf hdt).zer.2 (((z1.add zx.neg).add z2).congr fun n=>by grind)
theorem b4F {c:Ux} (hc:MeU c):a0x c.f c.t=false:=b2t hc.2.2
