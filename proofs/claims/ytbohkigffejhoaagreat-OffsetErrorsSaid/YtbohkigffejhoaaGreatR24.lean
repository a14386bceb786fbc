import Derived.Test.YtbohkigffejhoaaGreatR23
import Derived.Test.YtbohkigffejhoaaGreatR04
import Derived.Test.YtbohkigffejhoaaGreatRows
import Derived.Test.YtbohkigffejhoaaGreatR13
open List (length_append length_cons length_map length_nil mem_cons)
open Nat (lt_or_ge zero_le)
open Go.Proofs.Tryz (f106 f108 prog)
noncomputable section
namespace Go.Proofs.YtbohkigffejhoaaGreat
open Go.RowKit
set_option maxHeartbeats 4000000
namespace Vc
attribute [local irreducible] owes a1q
attribute [local irreducible] aJu awp b2K
def LTN:List Lay:=LTL ++ [
 ⟨5,1,false,7,0,[.v (.int .u8 0)],[]⟩]
theorem a8Q:∀ l ∈ LTN,a1I prog l:=by
 have h:LTN.all (aYE prog)=true:=by kernel_rfl
 intro l hl;exact a90 (List.all_eq_true.1 h l hl)
def b8 (i:Int):Prop:=-128 <= i/\i <= 127
def aH1 (f:Fx):Prop:=(0 <= f.fk/\f.fk <= 255)/\(0 <= f.fu/\f.fu <= 255)/\(b8 f.fa/\b8 f.fb/\b8 f.fc/\b8 f.fd)/\∀ p ∈ f.fl,b8 p.1/\b8 p.2
def fr (x u:Int):Rat:=Rat.divInt x (u % 4+1)
theorem aQC {x u:Int} (hx:b8 x):szR (fr x u) <= 2:=by
 have m1:=Int.emod_nonneg u (show (4:Int) ≠ 0 by decide);have m2:=Int.emod_lt_of_pos u (show (0:Int) < 4 by decide);obtain ⟨h1,h2⟩:=hx;have h3:=aJ7 (n:=x) (d:=u % 4+1) (by omega);have h4:szI x <= 1:=a5i (by unfold Lb.B; omega);have h5:szI (u % 4+1) <= 1:=a5i (by unfold Lb.B; omega);unfold fr;omega
structure CvI (l:List (Int × Int)) (out:List Vx) (i:Nat):Prop where
 ho:∀ v ∈ out,okV v
 hn:out.length=i
 hi:i <= l.length
structure AlI (s:List Fx) (out:List Ux) (i:Nat):Prop where
 ho:∀ u ∈ out,a6K u
 hn:out.length <= 8*i
 hi:i <= s.length
 h4:0 < i->s.length <= 4
def WJ0:List Ctr:=WG1 ++ [a6b]
theorem aSo:∀ c ∈ WJ0,CtrOK prog c:=a0M aWr (a0Y aDC (a3e))
def aR1:Ctr:=⟨7,spY (rI.c (rI.c r0)) (fun (n,d,_)=>(-9223372036854775808 <= n/\n <= 9223372036854775807)/\1 <= d/\d <= 9223372036854775807) (fun (n,d,_)=>.k (.g [.R ((Rat.divInt n d))]))⟩
theorem aGZ (n:Int) (d:Int) (hp:(-9223372036854775808 <= n/\n <= 9223372036854775807)/\1 <= d/\d <= 9223372036854775807):owes LTN WJ0 [] Tryz.f7 (bd Tryz.f7) [.c (.v (.int .i64 (n))),.c (.v (.int .i64 (d)))] (.k (.g [.R ((Rat.divInt n d))])):=by
 refine Eq.mp (show (((d == (0:Int))=true->((-9223372036854775808 <= (0:Int)/\(0:Int) <= 9223372036854775807)/\((-9223372036854775808 <= (1:Int)/\(1:Int) <= 9223372036854775807)/\(((1:Int) ≠ 0/\szI (0:Int) <= 5000000/\szI (1:Int) <= 5000000)/\(((Rat.divInt (0:Int) (1:Int))=(Rat.divInt n d))/\True)))))/\((d == (0:Int))=false->((-9223372036854775808 <= n/\n <= 9223372036854775807)/\((-9223372036854775808 <= d/\d <= 9223372036854775807)/\((d ≠ 0/\szI n <= 5000000/\szI d <= 5000000)/\(((Rat.divInt n d)=(Rat.divInt n d))/\True))))))=_ by kernel_rfl) ?_;obtain ⟨⟨h1,h2⟩,h3,h4⟩:=hp
 have hd:(d == (0:Int))=false:=by simp; omega
 have s1:=aOt h1 h2;have s2:=aOt (n:=d) (by omega) h4;exact ⟨fun h=>(by rw [hd] at h; cases h),fun _=>⟨⟨h1,h2⟩,⟨by omega,h4⟩,⟨by omega,by omega,by omega⟩,rfl,trivial⟩⟩
theorem aNA:CtrOK prog aR1:=yOK a8Q aSo Tryz.func7 fun _ hp=>aGZ _ _ hp
def aGj:Ctr:=⟨108,spY (gR.c (gR.c r0)) (fun _=>True) (fun (p,q,_)=>.k (.g [.R (p),.R (q)]))⟩
theorem aBm (p:Rat) (q:Rat):owes LTN WJ0 [] f108 (bd f108) [.g [.R (p)],.g [.R (q)]] (.k (.g [.R (p),.R (q)])):=by
 refine Eq.mp (show ((p=p)/\((q=q)/\True))=_ by kernel_rfl) ?_;exact ⟨rfl,rfl,trivial⟩
theorem aGi:CtrOK prog aGj:=yOK a8Q aSo Tryz.func108 fun _ _=>aBm _ _
def WJ1:List Ctr:=WJ0 ++ [aR1,aGj]
theorem aWq:∀ c ∈ WJ1,CtrOK prog c:=a0M aSo (a0Y aNA (a0Y aGi (a3e)))
def aUs:Ctr:=⟨106,fun | [.c (.v (.int .i8 (x))),.c (.v (.int .i8 (y))),.c (.v (.int .u8 (u)))]=>.yes ((b8 x/\b8 y)/\0 <= u/\u <= 255) (.k (.g [.R ((fr x u)),.R ((fr y u))])) | _=>.no⟩
theorem aNe (x:Int) (y:Int) (u:Int) (hp:(b8 x/\b8 y)/\0 <= u/\u <= 255):owes LTN WJ1 [] f106 (bd f106) [.c (.v (.int .i8 (x))),.c (.v (.int .i8 (y))),.c (.v (.int .u8 (u)))] (.k (.g [.R ((fr x u)),.R ((fr y u))])):=by
 refine Eq.mp (show ((0 <= u/\0 < (4:Int))/\((inR .i64 (u % (4:Int)))/\((inR .i64 ((u % (4:Int))+(1:Int)))/\((inR .i64 x)/\(((-9223372036854775808 <= x/\x <= 9223372036854775807)/\1 <= ((u % (4:Int))+(1:Int))/\((u % (4:Int))+(1:Int)) <= 9223372036854775807)/\((inR .i64 y)/\(((-9223372036854775808 <= y/\y <= 9223372036854775807)/\1 <= ((u % (4:Int))+(1:Int))/\((u % (4:Int))+(1:Int)) <= 9223372036854775807)/\(True/\(((Rat.divInt x ((u % (4:Int))+(1:Int)))=(fr x u))/\(((Rat.divInt y ((u % (4:Int))+(1:Int)))=(fr y u))/\True))))))))))=_ by kernel_rfl) ?_;obtain ⟨⟨⟨x1,x2⟩,y1,y2⟩,u1,u2⟩:=hp;have m1:=Int.emod_nonneg u (show (4:Int) ≠ 0 by decide);have m2:=Int.emod_lt_of_pos u (show (0:Int) < 4 by decide);exact ⟨⟨u1,by decide⟩,by unfold inR; omega,by unfold inR; omega,by unfold inR; omega,⟨⟨by omega,by omega⟩,by omega,by omega⟩,by unfold inR; omega,⟨⟨by omega,by omega⟩,by omega,by omega⟩,trivial,rfl,rfl,trivial⟩
theorem aUr:CtrOK prog aUs:=.of (by kernel_rfl) (fun bs w xs vs pre r hr hA hG h hp=>by
 simp only [aUs] at h;split at h
 ·cases h;exact a2j mixed a8Q aWq Tryz.func106 (by kernel_rfl) hr hA hG rfl rfl (aNe _ _ _ hp)
 ·cases h) (fun xs α pre φ r=>by simp only [aUs]; split <;> (intro h; cases h))
def WJ2:List Ctr:=WJ1 ++ [aUs]
theorem aWp:∀ c ∈ WJ2,CtrOK prog c:=a0M aWq (a0Y aUr (a3e))
def aFm (x:Int) (n:Int) (y:Int) (z:Int) (t:Int):=([Vx.mk (fr x n) (fr y n),Vx.mk (fr z n) (fr y n),Vx.mk (fr z n) (fr t n),Vx.mk (fr x n) (fr t n)]:List Vx)
def a98 (l:List (Int × Int)) (x1:List Vx × Nat × Vx × Vx):=(l.getD (((x1.2.1:Nat):Int).toNat) ((0,0):Int × Int))
def aPH (k:Int) (n:Int) (x:Int) (y:Int) (z:Int) (t:Int) (l:List (Int × Int)):=((Value.int .u8 k=(.int .u8 k))/\((Value.int .u8 n=(.int .u8 n))/\((Value.int .i8 x=(.int .i8 x))/\((Value.int .i8 y=(.int .i8 y))/\((Value.int .i8 z=(.int .i8 z))/\((Value.int .i8 t=(.int .i8 t))/\((false=false)/\((l=l)/\True))))))))
def aFl (a:List Ux):=((∀ u ∈ a,a6K u)/\a.length <= 8)
theorem aBn (k:Int) (n:Int) (x:Int) (y:Int) (z:Int) (t:Int) (l:List (Int × Int)) (hp:aH1 ⟨k,n,x,y,z,t,l⟩/\l.length <= 4):a1q LTN WJ2 [.inv 12 (List Vx × Nat × Vx × Vx) (fun ξ=>⟨[.u,.k (.c (.bx 0 0)),.u,.k (.c (.bx 1 0)),.k (.c (.bx 2 0)),.k (.c (.ow 0 73 .V (ξ.1))),.k (.c (.v (.int .i64 (((ξ.2.1:Nat):Int))))),.u,.u,.u,.u,.u,.u,.u,.u,.u,.u,.u,.u,.u,.u,.u,.u,.u,.u,.u,.u,.u,.u,.u,.u,.u,.u,.u,.u,.u,.u,.u,.u,.u,.u,.u,.u,.u,.u,.u,.u,.u,.u,.u,.u,.u,.u,.u,.u,.u,.u,.u,.u,.u,.u,.u,.u,.u,.u,.u,.u,.u,.u,.u,.u,.u,.u,.u,.u,.u,.u,.u,.u,.u,.u],[⟨103,[.v (.int .u8 (k)),.v (.int .u8 (n)),.v (.int .i8 (x)),.v (.int .i8 (y)),.v (.int .i8 (z)),.v (.int .i8 (t)),.rd .C (false) (l)]⟩,⟨73,(eV ξ.2.2.1)⟩,⟨73,(eV ξ.2.2.2)⟩]⟩) (fun _ ξ=>CvI l ξ.1 ξ.2.1) (fun ξ=>l.length - ξ.2.1),.cut 14 17,.cut 5 13] Tryz.f46 (bd Tryz.f46) [.g [.v (.int .u8 (k)),.v (.int .u8 (n)),.v (.int .i8 (x)),.v (.int .i8 (y)),.v (.int .i8 (z)),.v (.int .i8 (t)),.rd .C (false) (l)]] (fun a:List Ux=>(∀ u ∈ a,a6K u)/\a.length <= 8) (fun a=>.k (.c (.rd .U (false) (a)))):=by
 refine a1u (show (((b8 x/\b8 y)/\0 <= n/\n <= 255)/\(((b8 z/\b8 t)/\0 <= n/\n <= 255)/\((0 <= k/\0 < (3:Int))/\((((k % (3:Int)) == (0:Int))=true->(True/\(True/\(((True/\True)/\(True/\True)/\(True/\True)/\(True/\True)/\True)/\(((∀ v ∈ (aFm x n y z t),okV v)/\(aFm x n y z t).length <= 2000000)/\(∀ e1:List Ux,((∀ u ∈ e1,aWs (aFm x n y z t) u)/\e1.length <= (aFm x n y z t).length->(∃ a:List Ux,((aFl a)/\(e1=a))))))))))/\(((k % (3:Int)) == (0:Int))=false->((((k % (3:Int)) == (1:Int))=true->((True/\True)/\(((decide ((Rt.sg (fr z n)) <= (0:Int)))=true->(∃ a:List Ux,((aFl a)/\(a=[]))))/\((decide ((Rt.sg (fr z n)) <= (0:Int)))=false->(((True/\(True/\True))/\okK (Kx.mk (fr x n) (fr y n) (fr z n))/\0 <= (Kx.mk (fr x n) (fr y n) (fr z n)).kq)/\(∀ e1:List Ux,((e1=a6z (Kx.mk (fr x n) (fr y n) (fr z n)))->(∃ a:List Ux,((aFl a)/\(e1=a))))))))))/\(((k % (3:Int)) == (1:Int))=false->((∃ x1:List Vx × Nat × Vx × Vx,((CvI l x1.1 x1.2.1)/\((True/\(True/\(True/\((x1.1=[])/\((Value.int .i64 (0:Int)=(.int .i64 ((x1.2.1:Nat):Int)))/\True)))))/\((aPH k n x y z t l)/\((((fr x n)=x1.2.2.1.vx)/\(((fr y n)=x1.2.2.1.vy)/\True))/\((((fr z n)=x1.2.2.2.vx)/\(((fr t n)=x1.2.2.2.vy)/\True))/\True))))))/\(∀ x1:List Vx × Nat × Vx × Vx,((CvI l x1.1 x1.2.1)->(((decide (((x1.2.1:Nat):Int) < (l.length:Int)))=true->((0 <= ((x1.2.1:Nat):Int)/\((x1.2.1:Nat):Int) < (l.length:Int))/\((0 <= ((x1.2.1:Nat):Int)/\((x1.2.1:Nat):Int) < (l.length:Int))/\(((b8 ((a98 l x1).1)/\b8 ((a98 l x1).2))/\0 <= n/\n <= 255)/\(((True/\True)/\True)/\((x1.1.length+([Vx.mk (fr ((a98 l x1).1) n) (fr ((a98 l x1).2) n)]:List Vx).length <= 10000000)/\((inR .i64 (((x1.2.1:Nat):Int)+(1:Int)))/\(∃ y1:List Vx × Nat × Vx × Vx,((CvI l y1.1 y1.2.1)/\((l.length - y1.2.1 < l.length - x1.2.1)/\((True/\(True/\(True/\(((x1.1 ++ ([Vx.mk (fr ((a98 l x1).1) n) (fr ((a98 l x1).2) n)]:List Vx))=y1.1)/\((Value.int .i64 (((x1.2.1:Nat):Int)+(1:Int))=(.int .i64 ((y1.2.1:Nat):Int)))/\True)))))/\((aPH k n x y z t l)/\(((x1.2.2.1.vx=y1.2.2.1.vx)/\((x1.2.2.1.vy=y1.2.2.1.vy)/\True))/\(((x1.2.2.2.vx=y1.2.2.2.vx)/\((x1.2.2.2.vy=y1.2.2.2.vy)/\True))/\True))))))))))))))/\((decide (((x1.2.1:Nat):Int) < (l.length:Int)))=false->(((∀ v ∈ x1.1,okV v)/\x1.1.length <= 2000000)/\(∀ e2:List Ux,((∀ u ∈ e2,aWs x1.1 u)/\e2.length <= x1.1.length->(∃ a:List Ux,((aFl a)/\(e2=a))))))))))))))))))=_ by kernel_rfl) ?_;delta aFl aPH a98 aFm;simp only [true_and,and_true,Int.toNat_natCast,Value.int.injEq,decide_eq_true_eq,decide_eq_false_iff_not,Int.natCast_nonneg,Int.ofNat_lt];obtain ⟨⟨⟨k0,k1⟩,n0,⟨hx,hy,hz,ht⟩,hl⟩,h4⟩:=hp
 have vv:∀ {a b:Int},b8 a->b8 b->okV ⟨fr a n,fr b n⟩:=fun h1 h2=>⟨Nat.le_succ_of_le (aQC h1),Nat.le_succ_of_le (aQC h2)⟩
 have hV:∀ v ∈ [(⟨fr x n,fr y n⟩:Vx),⟨fr z n,fr y n⟩,⟨fr z n,fr t n⟩,⟨fr x n,fr t n⟩],okV v:=by
  intro v hv;simp only [mem_cons,List.not_mem_nil,or_false] at hv;rcases hv with rfl | rfl | rfl | rfl
  ·exact vv hx hy
  ·exact vv hz hy
  ·exact vv hz ht
  ·exact vv hx ht
 refine ⟨⟨⟨hx,hy⟩,n0⟩,⟨⟨hz,ht⟩,n0⟩,⟨k0,by decide⟩,fun _=>⟨⟨hV,by simp only [length_cons,length_nil]; omega⟩,fun e1 h1=>⟨e1,⟨fun u hu=>aEP hV (h1.1 u hu),by have:=h1.2; simp only [length_cons,length_nil] at this; omega⟩,rfl⟩⟩,fun _=>⟨fun _=>⟨fun _=>⟨[],⟨fun u hu=>(by cases hu),zero_le _⟩,rfl⟩,fun hs=>?_⟩,fun _=>⟨⟨([],0,⟨_,_⟩,⟨_,_⟩),⟨fun v hv=>(by cases hv),rfl,zero_le _⟩,⟨rfl,rfl⟩,⟨rfl,rfl⟩,rfl,rfl⟩,fun x1 h1=>⟨fun hlt=>?_,fun _=>?_⟩⟩⟩⟩
 ·have h0:(0:Rat) < fr z n:=Rt.aKd.1 (by omega)
  have hk:okK ⟨fr x n,fr y n,fr z n⟩:=⟨aQC hx,aQC hy,Nat.le_succ_of_le (aQC hz)⟩
  exact ⟨⟨hk,Rat.le_of_lt h0⟩,fun e1 h1=>⟨e1,⟨fun u hu=>aQz hk h0 u (by rw [<- h1]; exact hu),by rw [h1]; show 2 <= 8; decide⟩,rfl⟩⟩
 ·have hm:=hl _ (a0W (d:=((0,0):Int × Int)) hlt);have n1:=h1.hn;refine ⟨hlt,hlt,⟨hm,n0⟩,by simp only [length_cons,length_nil]; omega,by unfold inR; omega,(_,x1.2.1+1,x1.2.2.1,x1.2.2.2),⟨fun v hv=>?_,by simp only [length_append,length_cons,length_nil]; omega,hlt⟩,by dsimp only; omega,⟨rfl,by simp⟩,⟨rfl,rfl⟩,rfl,rfl⟩;rcases List.mem_append.1 hv with hv | hv
  ·exact h1.ho v hv
  ·rw [List.mem_singleton.1 hv];exact vv hm.1 hm.2
 ·have n1:=h1.hn;have n2:=h1.hi;exact ⟨⟨h1.ho,by omega⟩,fun e2 h2=>⟨e2,⟨fun u hu=>aEP h1.ho (h2.1 u hu),by have:=h2.2; omega⟩,rfl⟩⟩
def a7x:Ctr:=⟨46,fun | [.g [.v (.int .u8 k),.v (.int .u8 n),.v (.int .i8 x),.v (.int .i8 y),.v (.int .i8 z),.v (.int .i8 t),.rd .C false l]]=>.ex (List Ux) (aH1 ⟨k,n,x,y,z,t,l⟩/\l.length <= 4) (fun a=>(∀ u ∈ a,a6K u)/\a.length <= 8) (fun a=>.k (.c (.rd .U (false) (a)))) | _=>.no⟩
theorem aGl:CtrOK prog a7x:=.ofEx (by kernel_rfl) (fun bs w xs vs α pre φ r hr hA hG h hp=>by
 simp only [a7x] at h;split at h
 ·rename_i k n x y z t l;cases h;exact a18 mixed a8Q aWp Tryz.func46 (by kernel_rfl) hr hA hG rfl (fun _=>rfl) (aBn k n x y z t l hp)
 ·cases h) (fun xs pre r=>by simp only [a7x]; split <;> (intro h; cases h))
def WJ3:List Ctr:=WJ2 ++ [a7x]
theorem aWo:∀ c ∈ WJ3,CtrOK prog c:=a0M aWp (a0Y aGl (a3e))
def a5C (s:List Fx) (x1:List Ux × Nat):=(s.getD (((x1.2:Nat):Int).toNat) (Sc.d .F))
theorem aIV (s:List Fx) (hp:∀ f ∈ s,aH1 f):a1q LTN WJ3 [.inv 3 (List Ux × Nat) (fun ξ=>⟨[.k (.c (.rd .F (false) (s))),.k (.c (.v (.int .i64 (4)))),.u,.u,.u,.u,.k (.c (.ow 0 52 .U (ξ.1))),.k (.c (.v (.int .i64 (((ξ.2:Nat):Int))))),.u,.u,.u,.u,.u,.u,.u,.u,.u,.u,.u,.u,.u,.u,.u,.u,.u,.u,.u,.u,.u,.u,.u,.u,.u,.u,.u,.u,.u,.u,.u,.u],[]⟩) (fun _ ξ=>AlI s ξ.1 ξ.2) (fun ξ=>s.length - ξ.2)] Tryz.f17 (bd Tryz.f17) [.c (.rd .F (false) (s)),.c (.v (.int .i64 (4)))] (fun a:List Ux × Bool=>∀ u ∈ a.1,a6K u) (fun a=>.t [.c (.rd .U (false) (a.1)),.c (.v (.bool (a.2)))]):=by
 refine a1u (show ((∃ x1:List Ux × Nat,((AlI s x1.1 x1.2)/\(((s=s)/\((Value.int .i64 (4)=(.int .i64 (4)))/\((x1.1=[])/\((Value.int .i64 (0:Int)=(.int .i64 ((x1.2:Nat):Int)))/\True))))/\True)))/\(∀ x1:List Ux × Nat,((AlI s x1.1 x1.2)->(((decide (((x1.2:Nat):Int) < (s.length:Int)))=true->((((decide ((s.length:Int) > (4))) == false)=true->(0 <= ((x1.2:Nat):Int)/\((x1.2:Nat):Int) < (s.length:Int)))/\(((bif (decide ((s.length:Int) > (4))) then true else (decide ((((a5C s x1).fl).length:Int) > (4))))=true->(∃ a:List Ux × Bool,((∀ u ∈ a.1,a6K u)/\((a.1=[])/\((Value.bool false=(.bool a.2))/\True)))))/\((bif (decide ((s.length:Int) > (4))) then true else (decide ((((a5C s x1).fl).length:Int) > (4))))=false->((0 <= ((x1.2:Nat):Int)/\((x1.2:Nat):Int) < (s.length:Int))/\((aH1 ⟨((a5C s x1).fk),((a5C s x1).fu),((a5C s x1).fa),((a5C s x1).fb),((a5C s x1).fc),((a5C s x1).fd),((a5C s x1).fl)⟩/\((a5C s x1).fl).length <= 4)/\(∀ e2:List Ux,((∀ u ∈ e2,a6K u)/\e2.length <= 8->((x1.1.length+e2.length <= 10000000)/\((inR .i64 (((x1.2:Nat):Int)+(1:Int)))/\(∃ y1:List Ux × Nat,((AlI s y1.1 y1.2)/\((s.length - y1.2 < s.length - x1.2)/\(((s=s)/\((Value.int .i64 (4)=(.int .i64 (4)))/\(((x1.1 ++ e2)=y1.1)/\((Value.int .i64 (((x1.2:Nat):Int)+(1:Int))=(.int .i64 ((y1.2:Nat):Int)))/\True))))/\True))))))))))))))/\((decide (((x1.2:Nat):Int) < (s.length:Int)))=false->(∃ a:List Ux × Bool,((∀ u ∈ a.1,a6K u)/\((x1.1=a.1)/\((Value.bool (decide ((x1.1.length:Int) <= (4)))=(.bool a.2))/\True)))))))))=_ by kernel_rfl) ?_;delta a5C;simp only [true_and,and_true,Int.toNat_natCast,Value.int.injEq,Value.bool.injEq,decide_eq_true_eq,decide_eq_false_iff_not,Int.natCast_nonneg,Int.ofNat_lt,gt_iff_lt];refine ⟨⟨([],0),⟨fun u hu=>(by cases hu),zero_le _,zero_le _,fun h=>absurd h (Nat.lt_irrefl 0)⟩,rfl,rfl⟩,fun x1 h1=>⟨fun hlt=>⟨fun _=>hlt,fun _=>⟨([],false),fun u hu=>(by cases hu),rfl,rfl⟩,fun hb=>?_⟩,fun _=>⟨(x1.1,_),h1.ho,rfl,rfl⟩⟩⟩
 have key:∀ {a b:Bool},(bif a then true else b)=false->a=false/\b=false:=by intro a b h; cases a <;> cases b <;> simp_all
 have q1:=of_decide_eq_false (key hb).1;have q2:=of_decide_eq_false (key hb).2;have n1:=h1.hn;refine ⟨hlt,⟨hp _ (a0W hlt),by omega⟩,fun e2 h2=>⟨by have:=h2.2; omega,by unfold inR; omega,(x1.1 ++ e2,x1.2+1),⟨fun u hu=>?_,by have:=h2.2; simp only [length_append]; omega,hlt,fun _=>by omega⟩,by dsimp only; omega,rfl,by simp⟩⟩;rcases List.mem_append.1 hu with hu | hu
 ·exact h1.ho u hu
 ·exact h2.1 u hu
def aLC:Ctr:=⟨17,fun | [.c (.rd .F false s),.c (.v (.int .i64 4))]=>.ex (List Ux × Bool) (∀ f ∈ s,aH1 f) (fun a=>∀ u ∈ a.1,a6K u) (fun a=>.t [.c (.rd .U (false) (a.1)),.c (.v (.bool (a.2)))]) | _=>.no⟩
theorem aRu:CtrOK prog aLC:=.ofEx (by kernel_rfl) (fun bs w xs vs α pre φ r hr hA hG h hp=>by
 simp only [aLC] at h;split at h
 ·rename_i s;cases h;exact a18 mixed a8Q aWo Tryz.func17 (by kernel_rfl) hr hA hG rfl (fun _=>rfl) (aIV s hp)
 ·cases h) (fun xs pre r=>by simp only [aLC]; split <;> (intro h; cases h))
def WJ4:List Ctr:=WJ3 ++ [aLC,aRt]
theorem aSn:∀ c ∈ WJ4,CtrOK prog c:=a0M aWo (a0Y aRu (a0Y aNf (a3e)))
theorem aIT (s:List Fx) (hp:∀ f ∈ s,aH1 f):aJu LTN WJ4 [] (fun u:List Ux × Int=>(∀ v ∈ u.1,MeU v)/\u.1.length <= 400) (fun u:List Ux × Int=>(⟨[.u,.k (.c (.v (.int .i64 (4)))),.u,.u,.k (.c (.bx 0 0)),.u,.u,.u,.k (.c (.bx 1 0)),.k (.c (.v (.int .i64 (u.2)))),.u,.u,.u,.u,.u,.u,.u,.u,.u,.u,.u,.u,.u,.u,.u,.u,.u,.u,.u,.u,.u,.u,.u,.u],[⟨27,[.v (.slice none 0 0)]⟩,⟨27,[.rd .U (false) (u.1)]⟩]⟩:St)) (a5P LTN Tryz.f5 (fun a:List Ux × Bool=>(∀ v ∈ a.1,MeU v)/\a.1.length <= 400) (fun a=>.t [.g [.rd .U (false) (a.1)],.c (.v (.bool (a.2)))])) 4 (bd Tryz.f5) (st0 Tryz.f5 [.c (.rd .F (false) (s)),.c (.v (.int .i64 (4)))]):=by
 refine Eq.mp (show ((∀ f ∈ s,aH1 f)/\(∀ e1:List Ux × Bool,((∀ u ∈ e1.1,a6K u)->(((!e1.2)=true->(∃ a:List Ux × Bool,(((∀ v ∈ a.1,MeU v)/\a.1.length <= 400)/\((a.1=[])/\((Value.bool false=(.bool a.2))/\True)))))/\((!e1.2)=false->(((∀ u ∈ e1.1,InU u/\u.sz <= 1500)/\(∀ v,a4x e1.1 v->MeU v))/\(∀ e2:List Ux × Int,((∀ v ∈ e2.1,MeU v)/\e2.1.length <= 400->(∃ u:List Ux × Int,(((∀ v ∈ u.1,MeU v)/\u.1.length <= 400)/\(((Value.int .i64 (4)=(.int .i64 (4)))/\(True/\(True/\((Value.int .i64 e2.2=(.int .i64 u.2))/\True))))/\(((Value.slice none 0 0=(.slice none 0 0))/\True)/\(((false=false)/\((e2.1=u.1)/\True))/\True)))))))))))))=_ by kernel_rfl) ?_;simp only [true_and,and_true,Value.int.injEq,Value.bool.injEq]
 have nil:∃ a:List Ux × Bool,((∀ v ∈ a.1,MeU v)/\a.1.length <= 400)/\a.1=[]/\false=a.2:=⟨([],false),⟨fun v hv=>(by simp at hv),zero_le _⟩,rfl,rfl⟩
 refine ⟨hp,fun e1 h1=>⟨fun _=>nil,fun _=>⟨⟨fun u hu=>⟨Lm.b0O (h1 u hu).1,(h1 u hu).2⟩,fun v hv=>Lm.aTB (fun u hu=>(h1 u hu).1) hv⟩,fun e2 h2=>⟨e2,h2,rfl,rfl⟩⟩⟩⟩
def a97 (u:List Ux × Int):=((∃ a:List Ux × Bool,(((∀ v ∈ a.1,MeU v)/\a.1.length <= 400)/\(((false=false)/\((u.1=a.1)/\True))/\((Value.bool (decide ((u.1.length:Int) <= (4)))=(.bool a.2))/\True))))/\True)
theorem aIS (_s:List Fx) (u:List Ux × Int) (hu:(∀ v ∈ u.1,MeU v)/\u.1.length <= 400):b2K LTN WJ4 [] (a5P LTN Tryz.f5 (fun a:List Ux × Bool=>(∀ v ∈ a.1,MeU v)/\a.1.length <= 400) (fun a=>.t [.g [.rd .U (false) (a.1)],.c (.v (.bool (a.2)))])) (aTu 4 (bd Tryz.f5)) (⟨[.u,.k (.c (.v (.int .i64 (4)))),.u,.u,.k (.c (.bx 0 0)),.u,.u,.u,.k (.c (.bx 1 0)),.k (.c (.v (.int .i64 (u.2)))),.u,.u,.u,.u,.u,.u,.u,.u,.u,.u,.u,.u,.u,.u,.u,.u,.u,.u,.u,.u,.u,.u,.u,.u],[⟨27,[.v (.slice none 0 0)]⟩,⟨27,[.rd .U (false) (u.1)]⟩]⟩:St):=by
 refine Eq.mp (show ((((u.2 == (0:Int))=true)->((((a97 u)/\((a97 u)/\True))/\(((a97 u)/\True)/\True))/\((((a97 u)/\((a97 u)/\True))/\(((a97 u)/\True)/\True))/\True)))/\(((u.2 == (0:Int))=false)->(((∃ a:List Ux × Bool,(((∀ v ∈ a.1,MeU v)/\a.1.length <= 400)/\(((false=false)/\((u.1=a.1)/\True))/\((Value.bool false=(.bool a.2))/\True))))/\True)/\True)))=_ by kernel_rfl) ?_;delta a97;simp only [true_and,and_true,Value.bool.injEq]
 have fin:∀ b:Bool,∃ a:List Ux × Bool,((∀ v ∈ a.1,MeU v)/\a.1.length <= 400)/\u.1=a.1/\b=a.2:=fun b=>⟨(u.1,b),hu,rfl,rfl⟩
 repeat' first | exact fin _ | apply And.intro | (intro _)
def a9t:Ctr:=⟨5,fun | [.c (.rd .F false s),.c (.v (.int .i64 4))]=>.ex (List Ux × Bool) (∀ f ∈ s,aH1 f) (fun a=>(∀ v ∈ a.1,MeU v)/\a.1.length <= 400) (fun a=>.t [.g [.rd .U (false) (a.1)],.c (.v (.bool (a.2)))]) | _=>.no⟩
theorem aIU:CtrOK prog a9t:=.ofEx (by kernel_rfl) (fun bs w xs vs α pre φ r hr hA hG h hp=>by
 simp only [a9t] at h;split at h
 ·rename_i s;cases h;exact a3M (P:=prog) (body:=(bd Tryz.f5)) a8Q Tryz.func5 (by kernel_rfl) hr hA hG rfl (fun _=>rfl) (a5b mixed a8Q aSn (aIT s hp) fun v hv=>aQv mixed a8Q aSn (aIS s v hv) w)
 ·cases h) (fun xs pre r=>by simp only [a9t]; split <;> (intro h; cases h))
def LTO:List Lay:=[
 ⟨43,2,true,0,0,[.v (.int .i64 0),.v (.int .i64 0)],[(0,1),(1,1)]⟩,
 ⟨44,1,false,10,43,[.v (.slice none 0 0)],[]⟩] ++ LTN
theorem a4L:∀ l ∈ LTO,a1I prog l:=by
 have h:LTO.all (aYE prog)=true:=by kernel_rfl
 intro l hl;exact a90 (List.all_eq_true.1 h l hl)
theorem aTw {bs:Bs} {w:World} {i n:Nat} {xs ys:List AK} (k:∀ vs,relKs bs w xs vs->relKs bs w ys vs):∀ vs,relKs bs w (.c (.ba i n) :: xs) vs->relKs bs w (.c (.ln n) :: ys) vs
 | [],e=>e.elim
 | _ :: vs,e=>⟨by
   obtain ⟨b,_,h⟩:=e.1
   exact ⟨_,_,h⟩,k vs e.2⟩
def a5M (r e:Rat):Bool:=bif decide (Rt.sg r < 0) then true else decide (Rt.sg e <= 0)
def WK0:List Ctr:=WJ4 ++ [a9t,aVM]
theorem aSm:∀ c ∈ WK0,CtrOK prog c:=a0M aSn (a0Y aIU (a0Y aQZ (a3e)))
def b2x:Ctr:=⟨27,spY (gR.c (gR.c r0)) (fun _=>True) (fun (r,e,_)=>.k (.c (.v (.bool ((a5M r e))))))⟩
theorem aMO (r:Rat) (e:Rat):owes LTO WK0 [] Tryz.f27 (bd Tryz.f27) [.g [.R (r)],.g [.R (e)]] (.k (.c (.v (.bool ((a5M r e)))))):=by
 refine Eq.mp (show (True/\((((decide ((Rt.sg r) < (0:Int))) == false)=true->True)/\(Value.bool (bif (decide ((Rt.sg r) < (0:Int))) then true else (decide ((Rt.sg e) <= (0:Int))))=(.bool (a5M r e)))))=_ by kernel_rfl) ?_;exact ⟨trivial,fun _=>trivial,rfl⟩
theorem aUj:CtrOK prog b2x:=yOK a4L aSm Tryz.func27 fun _ _=>aMO _ _
def aLB:Ctr:=⟨8,spY (gR.c (gR.c r0)) (fun _=>True) (fun (r,e,_)=>.k (.c (.v (.int .i64 ((if a5M r e=true then (1:Int) else 0))))))⟩
theorem aDB (r:Rat) (e:Rat):owes LTO WK0 [] Tryz.f8 (bd Tryz.f8) [.g [.R (r)],.g [.R (e)]] (.k (.c (.v (.int .i64 ((if a5M r e=true then (1:Int) else 0)))))):=by
 refine Eq.mp (show ((True/\True)/\((((decide ((Rt.sg r) < (0:Int))) == false)=true->(True/\True))/\(((bif (decide ((Rt.sg r) < (0:Int))) then true else (decide ((Rt.sg e) <= (0:Int))))=true->(Value.int .i64 (1:Int)=(.int .i64 (if a5M r e=true then (1:Int) else 0))))/\((bif (decide ((Rt.sg r) < (0:Int))) then true else (decide ((Rt.sg e) <= (0:Int))))=false->(Value.int .i64 (0:Int)=(.int .i64 (if a5M r e=true then (1:Int) else 0)))))))=_ by kernel_rfl) ?_;exact ⟨⟨trivial,trivial⟩,fun _=>⟨trivial,trivial⟩,fun h=>(by rw [show a5M r e=true from h]; rfl),fun h=>(by rw [show a5M r e=false from h]; rfl)⟩
theorem aIQ:CtrOK prog aLB:=yOK a4L aSm Tryz.func8 fun _ _=>aDB _ _
def WK1:List Ctr:=WK0 ++ [b2x,aLB]
theorem aHj:∀ c ∈ WK1,CtrOK prog c:=a0M aSm (a0Y aUj (a0Y aIQ (a3e)))
theorem aQ2 (l:List Ux) (r:Rat) (e:Rat) (hp:a5M r e=true):aJu LTO WK1 [] (fun _:Unit=>False) (fun _:Unit=>(⟨[.u,.u,.u,.u,.u,.u,.u,.u,.u,.u,.u,.u,.u,.u,.u,.u,.u,.u,.u,.u,.u],[]⟩:St)) (a5P LTO Tryz.f9 (fun _:Unit=>True) (fun _=>.t [.g [.rd .U (false) (([]:List Ux))],.c (.v (.int .i64 ((1:Int))))])) 2 (bd Tryz.f9) (st0 Tryz.f9 [.g [.rd .U (false) (l)],.g [.R (r)],.g [.R (e)]]):=by
 refine Eq.mp (show (True/\(((a5M r e)=true->(∃ a:Unit,(True/\((([]:List Ux)=[])/\((Value.int .i64 (1:Int)=(.int .i64 (1:Int)))/\True)))))/\((a5M r e)=false->(∃ u:Unit,(False/\(True/\True))))))=_ by kernel_rfl) ?_;simp only [true_and,and_true];exact ⟨fun _=>⟨(),trivial⟩,fun h=>(by rw [hp] at h; cases h)⟩
def aLp:Ctr:=⟨9,fun | [.g [.rd .U false _],.g [.R r],.g [.R e]]=>.ex (Unit) (a5M r e=true) (fun _=>True) (fun _=>.t [.g [.rd .U (false) (([]:List Ux))],.c (.v (.int .i64 ((1:Int))))]) | _=>.no⟩
theorem aQ3:CtrOK prog aLp:=.ofEx (by kernel_rfl) (fun bs w xs vs α pre φ r hr hA hG h hp=>by
 simp only [aLp] at h;split at h
 ·rename_i l r e;cases h;exact a3M (P:=prog) (body:=(bd Tryz.f9)) a4L Tryz.func9 (by kernel_rfl) hr hA hG rfl (fun _=>rfl) (a5b mixed a4L aHj (aQ2 l r e hp) fun _ hv=>hv.elim)
 ·cases h) (fun xs pre r=>by simp only [aLp]; split <;> (intro h; cases h))
theorem aID (l:List Ux) (r:Rat) (e:Rat) (hp:a5M r e=true):aJu LTO WK1 [] (fun _:Unit=>False) (fun _:Unit=>(⟨[.u,.u,.u,.u,.u,.u,.u,.u,.u,.u,.u,.u,.u,.u,.u,.u,.u,.u,.u,.u,.u,.u,.u,.u,.u,.u,.u,.u,.u,.u,.u,.u],[]⟩:St)) (a5P LTO Tryz.f10 (fun _:Unit=>True) (fun _=>.t [.g [.rd .U (false) (([]:List Ux))],.c (.v (.int .i64 ((1:Int))))])) 2 (bd Tryz.f10) (st0 Tryz.f10 [.g [.rd .U (false) (l)],.g [.R (r)],.g [.R (e)]]):=by
 refine Eq.mp (show (True/\(((a5M r e)=true->(∃ a:Unit,(True/\((([]:List Ux)=[])/\((Value.int .i64 (1:Int)=(.int .i64 (1:Int)))/\True)))))/\((a5M r e)=false->(∃ u:Unit,(False/\(True/\True))))))=_ by kernel_rfl) ?_;simp only [true_and,and_true];exact ⟨fun _=>⟨(),trivial⟩,fun h=>(by rw [hp] at h; cases h)⟩
def a9q:Ctr:=⟨10,fun | [.g [.rd .U false _],.g [.R r],.g [.R e]]=>.ex (Unit) (a5M r e=true) (fun _=>True) (fun _=>.t [.g [.rd .U (false) (([]:List Ux))],.c (.v (.int .i64 ((1:Int))))]) | _=>.no⟩
theorem aIE:CtrOK prog a9q:=.ofEx (by kernel_rfl) (fun bs w xs vs α pre φ r hr hA hG h hp=>by
 simp only [a9q] at h;split at h
 ·rename_i l r e;cases h;exact a3M (P:=prog) (body:=(bd Tryz.f10)) a4L Tryz.func10 (by kernel_rfl) hr hA hG rfl (fun _=>rfl) (a5b mixed a4L aHj (aID l r e hp) fun _ hv=>hv.elim)
 ·cases h) (fun xs pre r=>by simp only [a9q]; split <;> (intro h; cases h))
def WK2:List Ctr:=WK1 ++ [a9q]
theorem aWn:∀ c ∈ WK2,CtrOK prog c:=a0M aHj (a0Y aIE (a3e))
theorem aQ0 (l:List Ux) (r:Rat) (e:Rat) (hp:a5M r e=true):aJu LTO WK2 [] (fun _:Unit=>False) (fun _:Unit=>(⟨[.u,.u,.u,.u,.u,.u,.u,.u,.u,.u,.u,.u,.u,.u,.u,.u,.u,.u,.u,.u,.u,.u,.u,.u,.u,.u],[]⟩:St)) (a5P LTO Tryz.f11 (fun _:Unit=>True) (fun _=>.t [.g [.rd .U (false) (([]:List Ux))],.c (.v (.int .i64 ((1:Int))))])) 3 (bd Tryz.f11) (st0 Tryz.f11 [.g [.rd .U (false) (l)],.g [.R (r)],.g [.R (e)]]):=by
 refine Eq.mp (show ((a5M r e=true)/\(∀ e1:Unit,(True->((((1:Int) != (0:Int))=true->(∃ a:Unit,(True/\((([]:List Ux)=[])/\((Value.int .i64 (1:Int)=(.int .i64 (1:Int)))/\True)))))/\(((1:Int) != (0:Int))=false->(∃ u:Unit,(False/\(True/\True))))))))=_ by kernel_rfl) ?_;simp only [and_true];exact ⟨hp,fun _ _=>⟨fun _=>⟨(),trivial⟩,fun h=>(by cases h)⟩⟩
def aLo:Ctr:=⟨11,fun | [.g [.rd .U false _],.g [.R r],.g [.R e]]=>.ex (Unit) (a5M r e=true) (fun _=>True) (fun _=>.t [.g [.rd .U (false) (([]:List Ux))],.c (.v (.int .i64 ((1:Int))))]) | _=>.no⟩
theorem aQ1:CtrOK prog aLo:=.ofEx (by kernel_rfl) (fun bs w xs vs α pre φ r hr hA hG h hp=>by
 simp only [aLo] at h;split at h
 ·rename_i l r e;cases h;exact a3M (P:=prog) (body:=(bd Tryz.f11)) a4L Tryz.func11 (by kernel_rfl) hr hA hG rfl (fun _=>rfl) (a5b mixed a4L aWn (aQ0 l r e hp) fun _ hv=>hv.elim)
 ·cases h) (fun xs pre r=>by simp only [aLo]; split <;> (intro h; cases h))
theorem aMP (n:Nat) (r:Rat) (e:Rat) (hp:a5M r e=true):aJu LTO WK1 [] (fun _:Unit=>False) (fun _:Unit=>(⟨[.u,.u,.u,.u,.u,.u,.u,.u,.u,.u,.u,.u,.u,.u,.u,.u,.u,.u,.u,.u,.u],[]⟩:St)) (a5P LTO Tryz.f12 (fun _:Unit=>True) (fun _=>.t [.g [.rd .U (false) (([]:List Ux))],.c (.v (.int .i64 ((1:Int))))])) 2 (bd Tryz.f12) (st0 Tryz.f12 [.c (.ln (n)),.g [.R (r)],.g [.R (e)]]):=by
 refine Eq.mp (show (True/\(((a5M r e)=true->(∃ a:Unit,(True/\((([]:List Ux)=[])/\((Value.int .i64 (1:Int)=(.int .i64 (1:Int)))/\True)))))/\((a5M r e)=false->(∃ u:Unit,(False/\(True/\True))))))=_ by kernel_rfl) ?_;simp only [true_and,and_true];exact ⟨fun _=>⟨(),trivial⟩,fun h=>(by rw [hp] at h; cases h)⟩
def aDu:Ctr:=⟨12,fun | [.c (.ba _ _),.g [.R r],.g [.R e]]=>.ex (Unit) (a5M r e=true) (fun _=>True) (fun _=>.t [.g [.rd .U (false) (([]:List Ux))],.c (.v (.int .i64 ((1:Int))))]) | _=>.no⟩
theorem aMQ:CtrOK prog aDu:=.ofEx (by kernel_rfl) (fun bs w xs vs α pre φ r hr hA hG h hp=>by
 simp only [aDu] at h;split at h
 ·rename_i i n r e;cases h;exact a3M (P:=prog) (body:=(bd Tryz.f12)) a4L Tryz.func12 (by kernel_rfl) (aTw (fun _ h=>h) vs hr) hA hG rfl (fun _=>rfl) (a5b mixed a4L aHj (aMP n r e hp) fun _ hv=>hv.elim)
 ·cases h) (fun xs pre r=>by simp only [aDu]; split <;> (intro h; cases h))
theorem aF3 (u:Ux) (r:Rat) (e:Rat) (hp:a5M r e=true):aJu LTO WK1 [] (fun _:Unit=>False) (fun _:Unit=>(⟨[.u,.u,.u,.u,.u,.u,.u,.u,.u,.u,.u,.u,.u,.u,.u,.u,.u,.u,.u],[]⟩:St)) (a5P LTO Tryz.f13 (fun _:Unit=>True) (fun _=>.t [.g [.rd .U (false) (([]:List Ux))],.c (.v (.int .i64 ((1:Int))))])) 2 (bd Tryz.f13) (st0 Tryz.f13 [.g (eU u),.g [.R (r)],.g [.R (e)]]):=by
 refine Eq.mp (show (True/\(((a5M r e)=true->(∃ a:Unit,(True/\((([]:List Ux)=[])/\((Value.int .i64 (1:Int)=(.int .i64 (1:Int)))/\True)))))/\((a5M r e)=false->(∃ u:Unit,(False/\(True/\True))))))=_ by kernel_rfl) ?_;simp only [true_and,and_true];exact ⟨fun _=>⟨(),trivial⟩,fun h=>(by rw [hp] at h; cases h)⟩
def a7v:Ctr:=⟨13,fun | [.g u_,.g [.R r],.g [.R e]]=>(match rdU u_ with | some (qu,_)=>.ex (Unit) (qu/\a5M r e=true) (fun _=>True) (fun _=>.t [.g [.rd .U (false) (([]:List Ux))],.c (.v (.int .i64 ((1:Int))))]) | _=>.no) | _=>.no⟩
theorem aF4:CtrOK prog a7v:=.ofEx (by kernel_rfl) (fun bs w xs vs α pre φ r hr hA hG h hp=>by
 simp only [a7v] at h;split at h
 ·rename_i u_ r e;split at h
  ·rename_i qu u eu;cases h;obtain ⟨kku,hp⟩:=hp;exact a3M (P:=prog) (body:=(bd Tryz.f13)) a4L Tryz.func13 (by kernel_rfl) (a1k (aOR eu kku) (fun _ h=>h) vs hr) hA hG rfl (fun _=>rfl) (a5b mixed a4L aHj (aF3 u r e hp) fun _ hv=>hv.elim)
  ·cases h
 ·cases h) (fun xs pre r=>by simp only [a7v]; split <;> (try split) <;> (intro h; cases h))
def WK3:List Ctr:=WK2 ++ [aLp,aLo,aDu,a7v]
theorem b26:∀ c ∈ WK3,CtrOK prog c:=a0M aWn (a0Y aQ3 (a0Y aQ1 (a0Y aMQ (a0Y aF4 (a3e)))))
end Vc
end Go.Proofs.YtbohkigffejhoaaGreat
namespace Go.Proofs.YtbohkigffejhoaaGreat
open Go.RowKit
namespace Vc
attribute [local irreducible] owes a1q
def a9s:Ctr:=⟨6,fun | []=>.yes True (.k (.c (.v (.bool true)))) | _=>.no⟩
def WK4:List Ctr:=WK3 ++ [a9s]
def a8I (r:Int) (e:Int):=(if a5M (Rat.divInt r (4:Int)) (Rat.divInt e (4:Int))=true then (1:Int) else 0)
def a3U:=(([]:List Ux).length:Int)
def aPG (r:Int) (e:Int):=(bif (bif (bif (bif (decide ((((a3U+a3U)+a3U)+a3U) > (0:Int))) then true else ((1:Int) != (a8I r e))) then true else ((1:Int) != (a8I r e))) then true else ((1:Int) != (a8I r e))) then true else ((1:Int) != (a8I r e)))
def aFk (r:Int) (e:Int):=(a5M (Rat.divInt r (4:Int)) (Rat.divInt e (4:Int))=true)
def aKO:=(∃ a:Bool,((a=true)/\(Value.bool true=(.bool a))))
def aPF:=(bif ((1:Int) != (1:Int)) then true else (decide (a3U > (0:Int))))
set_option maxHeartbeats 4000000 in
theorem aIP (s:List Fx) (r:Int) (e:Int) (hp:(∀ f ∈ s,aH1 f)/\b8 r/\b8 e):a1q LTO WK4 [.inv 15 (List Ux × Nat) (fun ξ=>⟨[.u,.u,.u,.u,.u,.u,.u,.k (.c (.bx 0 0)),.u,.k (.c (.bx 1 0)),.k (.c (.bx 2 0)),.k (.c (.v (.int .i64 ((1:Int))))),.u,.u,.u,.u,.u,.u,.u,.u,.u,.u,.u,.u,.u,.u,.u,.u,.u,.u,.u,.u,.u,.u,.u,.u,.u,.u,.u,.u,.u,.u,.u,.u,.u,.u,.u,.u,.u,.u,.u,.u,.u,.u,.u,.u,.u,.u,.u,.u,.u,.u,.u,.u,.u,.u,.u,.u,.u,.u,.u,.u,.u,.u,.u,.u,.u,.u,.u,.u,.u,.u,.u,.u,.u,.u,.u,.u,.u,.u,.u,.u,.u,.u,.u,.u,.u,.u,.u,.u,.u,.u,.u,.u,.u,.u,.u,.u,.u,.u,.u,.u,.u,.k (.c (.rd .U (false) (ξ.1))),.k (.c (.v (.int .i64 (((ξ.1.length:Nat):Int))))),.k (.c (.v (.int .i64 (((ξ.2:Nat):Int))))),.u,.u,.u,.u,.u,.u,.u,.u,.u,.u,.u,.u,.u,.u,.u,.u,.u,.u,.u,.u],[⟨27,[.rd .U (false) (ξ.1)]⟩,⟨35,[.R ((Rat.divInt r 4))]⟩,⟨35,[.R ((Rat.divInt e 4))]⟩]⟩) (fun _ ξ=>ξ.2 <= ξ.1.length/\ξ.1.length <= 400) (fun ξ=>ξ.1.length - ξ.2)] Tryz.f3 (bd Tryz.f3) [.c (.rd .F (false) (s)),.c (.v (.int .i8 (r))),.c (.v (.int .i8 (e)))] (fun a:Bool=>a=true) (fun a=>.k (.c (.v (.bool (a))))):=by
 refine a1u (show ((∀ f ∈ s,aH1 f)/\(∀ e1:List Ux × Bool,((∀ v ∈ e1.1,MeU v)/\e1.1.length <= 400->(True/\(((bif (!true) then true else (!e1.2))=true->(True/\aKO))/\((bif (!true) then true else (!e1.2))=false->((inR .i64 r)/\(((-9223372036854775808 <= r/\r <= 9223372036854775807)/\1 <= (4:Int)/\(4:Int) <= 9223372036854775807)/\((inR .i64 e)/\(((-9223372036854775808 <= e/\e <= 9223372036854775807)/\1 <= (4:Int)/\(4:Int) <= 9223372036854775807)/\(True/\((((a8I r e) == (0:Int))=true->aKO)/\(((a8I r e) == (0:Int))=false->((aFk r e)/\(∀ e2:Unit,(True->((aFk r e)/\(∀ e3:Unit,(True->((aFk r e)/\(∀ e4:Unit,(True->((aFk r e)/\(∀ e5:Unit,(True->((inR .i64 (a3U+a3U))/\((inR .i64 ((a3U+a3U)+a3U))/\((inR .i64 (((a3U+a3U)+a3U)+a3U))/\(((aPG r e)=true->(∃ a:Bool,((a=true)/\(Value.bool false=(.bool a)))))/\((aPG r e)=false->((∃ x6:List Ux × Nat,((x6.2 <= x6.1.length/\x6.1.length <= 400)/\((True/\(True/\(True/\((Value.int .i64 (a8I r e)=(.int .i64 (1:Int)))/\((e1.1=x6.1)/\((Value.int .i64 (e1.1.length:Int)=(.int .i64 ((x6.1.length:Nat):Int)))/\((Value.int .i64 (0:Int)=(.int .i64 ((x6.2:Nat):Int)))/\True)))))))/\(((false=false)/\((e1.1=x6.1)/\True))/\((((Rat.divInt r (4:Int))=(Rat.divInt r 4))/\True)/\((((Rat.divInt e (4:Int))=(Rat.divInt e 4))/\True)/\True))))))/\(∀ x6:List Ux × Nat,((x6.2 <= x6.1.length/\x6.1.length <= 400)->(((decide (((x6.2:Nat):Int) < ((x6.1.length:Nat):Int)))=true->((0 <= ((x6.2:Nat):Int)/\((x6.2:Nat):Int) < (x6.1.length:Int))/\((((((!(x6.1.getD (((x6.2:Nat):Int).toNat) dfU).arc)=(!((x6.1.getD (((x6.2:Nat):Int).toNat) dfU).arc)))/\(((!(x6.1.getD (((x6.2:Nat):Int).toNat) dfU).arc)=(!((x6.1.getD (((x6.2:Nat):Int).toNat) dfU).arc)))/\((!(x6.1.getD (((x6.2:Nat):Int).toNat) dfU).arc)=(!((x6.1.getD (((x6.2:Nat):Int).toNat) dfU).arc)))))/\(((((x6.1.getD (((x6.2:Nat):Int).toNat) dfU).arc)=((x6.1.getD (((x6.2:Nat):Int).toNat) dfU).arc))/\((((x6.1.getD (((x6.2:Nat):Int).toNat) dfU).arc)=((x6.1.getD (((x6.2:Nat):Int).toNat) dfU).arc))/\(((x6.1.getD (((x6.2:Nat):Int).toNat) dfU).arc)=((x6.1.getD (((x6.2:Nat):Int).toNat) dfU).arc))))/\((True/\(True/\(True/\(True/\True))))/\(True/\(True/\(True/\(True/\True)))))))/\a5M (Rat.divInt r 4) (Rat.divInt e 4)=true)/\(∀ e7:Unit,(True->((aPF=true->(∃ a:Bool,((a=true)/\(Value.bool false=(.bool a)))))/\(aPF=false->((inR .i64 (((x6.2:Nat):Int)+(1:Int)))/\(∃ y6:List Ux × Nat,((y6.2 <= y6.1.length/\y6.1.length <= 400)/\((y6.1.length - y6.2 < x6.1.length - x6.2)/\((True/\(True/\(True/\((Value.int .i64 (1:Int)=(.int .i64 (1:Int)))/\((x6.1=y6.1)/\((Value.int .i64 ((x6.1.length:Nat):Int)=(.int .i64 ((y6.1.length:Nat):Int)))/\((Value.int .i64 (((x6.2:Nat):Int)+(1:Int))=(.int .i64 ((y6.2:Nat):Int)))/\True)))))))/\(((false=false)/\((x6.1=y6.1)/\True))/\((((Rat.divInt r 4)=(Rat.divInt r 4))/\True)/\((((Rat.divInt e 4)=(Rat.divInt e 4))/\True)/\True)))))))))))))))/\((decide (((x6.2:Nat):Int) < ((x6.1.length:Nat):Int)))=false->aKO)))))))))))))))))))))))))))))))))))=_ by kernel_rfl) ?_;delta aPF aKO aFk aPG a3U a8I;simp only [true_and,and_true,Int.toNat_natCast,Value.int.injEq,Value.bool.injEq,decide_eq_true_eq,decide_eq_false_iff_not,Int.natCast_nonneg,Int.ofNat_lt,Int.ofNat_inj,gt_iff_lt];obtain ⟨hs,⟨r1,r2⟩,e1',e2'⟩:=hp;refine ⟨hs,fun e1 h1=>⟨fun _=>⟨true,rfl,rfl⟩,fun _=>⟨by unfold inR; omega,⟨⟨by omega,by omega⟩,by decide,by decide⟩,by unfold inR; omega,⟨⟨by omega,by omega⟩,by decide,by decide⟩,fun _=>⟨true,rfl,rfl⟩,fun hb=>?_⟩⟩⟩
 have hb':a5M (Rat.divInt r 4) (Rat.divInt e 4)=true:=by
  cases h:a5M (Rat.divInt r 4) (Rat.divInt e 4) with
  | true=>rfl
  | false=>rw [h] at hb; exact absurd hb (by decide)
 rw [hb'];refine ⟨rfl,fun _ _=>⟨rfl,fun _ _=>⟨rfl,fun _ _=>⟨rfl,fun _ _=>⟨by unfold inR; decide,by unfold inR; decide,by unfold inR; decide,fun h=>absurd h (by decide),fun _=>?_⟩⟩⟩⟩⟩;refine ⟨⟨(e1.1,0),⟨zero_le _,h1.2⟩,⟨rfl,rfl,rfl,rfl⟩,rfl⟩,fun x6 h6=>⟨fun hlt=>⟨hlt,rfl,fun _ _=>⟨fun h=>absurd h (by decide),fun _=>⟨by have:=h6.2; unfold inR; omega,(x6.1,x6.2+1),⟨hlt,h6.2⟩,by dsimp only; omega,⟨rfl,rfl,by simp⟩,rfl⟩⟩⟩,fun _=>⟨true,rfl,rfl⟩⟩⟩
end Vc
end Go.Proofs.YtbohkigffejhoaaGreat
namespace Go.Proofs.YtbohkigffejhoaaGreat
open Go.ChangeShapes Go.WideShapes Go.ChangeAt Go.RowKit Go.Joins Go.Deep
set_option maxRecDepth 8000
def cC (p:Int × Int):List Value:=[.int .i8 p.1,.int .i8 p.2]
def cF (m:Vc.Fx × Value):List Value:=[.int .u8 m.1.fk,.int .u8 m.1.fu,.int .i8 m.1.fa,.int .i8 m.1.fb,.int .i8 m.1.fc,.int .i8 m.1.fd,m.2]
section
variable {H:Type} {enc:TypeId × Value->H} {W:World} {base:Nat} {v:Value} {d:DataW H} {p:List MemPlace} {t:TypeId}
theorem aMF {n:Nat} {c:Value} {y:DataW H × List MemPlace} (h:DataW.trod enc prog W 0 (fun _=>true) true n 24 [c]=some y):∃ x:Int,c=.int .i8 x/\Vc.b8 x:=by
 obtain ⟨x,h1,_,h2⟩:=DataW.trod_int Tryz.underlying24 h;simp only [Lit.wf,Bool.and_eq_true,decide_eq_true_eq] at h2;simp only [List.cons.injEq,and_true] at h1;exact ⟨x,h1,h2⟩
theorem b0F {n:Nat} {c:Value} {y:DataW H × List MemPlace} (h:DataW.trod enc prog W 0 (fun _=>true) true n 5 [c]=some y):∃ x:Int,c=.int .u8 x/\0 <= x/\x <= 255:=by
 obtain ⟨x,h1,_,h2⟩:=DataW.trod_int Tryz.underlying5 h;simp only [Lit.wf,Bool.and_eq_true,decide_eq_true_eq] at h2;simp only [List.cons.injEq,and_true] at h1;exact ⟨x,h1,h2⟩
theorem aQU {n:Nat} {cs:List Value} {y:DataW H × List MemPlace} (h:DataW.trod enc prog W 0 (fun _=>true) true n 86 cs=some y):∃ m:Int × Int,(Vc.b8 m.1/\Vc.b8 m.2)/\cs=cC m:=by
 obtain ⟨ys,m,_,_,hs,hl,hf⟩:=DataW.trod_array Tryz.underlying86 h
 have k1:prog.cellsOf 24=1:=by kernel_rfl
 have k2:prog.cellsOf 86=2:=by kernel_rfl
 rw [k2] at hs
 match cs,hs with
 | [c0,c1],_ =>
   have f0:=hf 0 (by decide);have f1:=hf 1 (by decide);rw [k1] at f0 f1;simp only [Nat.zero_mul,Nat.one_mul,List.drop_zero,List.drop_succ_cons,List.take_succ_cons,List.take_zero] at f0 f1;rw [List.getElem?_eq_getElem (by omega)] at f0 f1;obtain ⟨x,rfl,hx⟩:=aMF f0;obtain ⟨y,rfl,hy⟩:=aMF f1;exact ⟨(x,y),⟨hx,hy⟩,rfl⟩
theorem aOS {α:Type} {k:Nat} {cells:α->List Value} {z:α} {s:Vc.Sc} {R:Vc.AC->Value->Prop} {g:α->s.T} {a:Option Addr} {n cap b off:Nat} {l:List α} (hk:s.k=k) (hc:∀ m,(cells m).length=k)
    (hn:n=l.length) (g3:n=0 \/ a=some ⟨b,off,none⟩) (g5:n <= cap) (g6:a=none->cap=0) (g8:∀ i,i < n->b < W.heap.size/\∀ j,j < k->W.cell? ⟨b,off+i*k+j,none⟩=(cells (l.getD i z))[j]?)
    (hr:∀ m ∈ l,Vc.relR R (Vc.a0d (s.enc (g m))) (cells m)):Vc.RdR R (Vc.Fz ⟨W.heap.size,[],[],[]⟩ W) W (.slice a n cap) s false (l.map g):=by
 refine ⟨a,cap,b,off,by rw [hn,length_map],(fun h=>by cases h),by rw [length_map,<- hn]; exact g3,g6,by rw [length_map,<- hn]; exact g5,fun i m hm=>?_⟩;rw [List.getElem?_map] at hm
 have hi:i < l.length:=by
  rcases lt_or_ge i l.length with h' | h'
  ·exact h'
  ·rw [List.getElem?_eq_none h'] at hm; cases hm
 rw [List.getElem?_eq_getElem hi] at hm;cases hm;obtain ⟨q1,q2⟩:=g8 i (by omega)
 have e:l.getD i z=l[i]:=by simp [List.getD_eq_getElem?_getD,hi]
 rw [e] at q2;refine ⟨⟨q1,by simp,by simp,by simp,by simp⟩,cells l[i],fun j u hu=>?_,hr _ (List.getElem_mem hi)⟩
 have hj:j < k:=by
  rcases lt_or_ge j (cells l[i]).length with h' | h'
  ·rw [hc] at h'; exact h'
  ·rw [List.getElem?_eq_none h'] at hu; cases hu
 have:=q2 j hj;rw [hk];exact this.trans hu
theorem aML {n:Nat} {c:Value} {x:DataW H × List MemPlace} (h:DataW.trod enc prog W 0 (fun _=>true) true n 55 [c]=some x) :
    ∃ l:List (Int × Int),Vc.RdR (Vc.rel0 W) (Vc.Fz ⟨W.heap.size,[],[],[]⟩ W) W c .C false l/\∀ m ∈ l,Vc.b8 m.1/\Vc.b8 m.2:=by
 obtain ⟨a,k,cap,b,off,l,hcs,hn,g3,g5,g6,_,gq,g8,_⟩:=row_of cC (fun m=>Vc.b8 m.1/\Vc.b8 m.2) (0,0) Tryz.underlying55 (k:=2) (by kernel_rfl) (by decide) (fun m=>⟨_,rfl⟩) aQU h;simp only [List.cons.injEq,and_true] at hcs;subst hcs
 have:=aOS (s:=.C) (R:=Vc.rel0 W) (g:=fun m=>m) rfl (fun _=>rfl) hn g3 g5 g6 g8 fun m _=>⟨⟨rfl,rfl,fun _ h=>(by cases h)⟩,⟨rfl,rfl,fun _ h=>(by cases h)⟩,trivial⟩
 rw [List.map_id'] at this;exact ⟨l,this,gq⟩
theorem aYY {n:Nat} {cs:List Value} {y:DataW H × List MemPlace} (h:DataW.trod enc prog W 0 (fun _=>true) true n 103 cs=some y) :
    ∃ m:Vc.Fx × Value,(Vc.aH1 m.1/\Vc.RdR (Vc.rel0 W) (Vc.Fz ⟨W.heap.size,[],[],[]⟩ W) W m.2 .C false m.1.fl)/\cs=cF m:=by
 obtain ⟨ys,m,_,hd,hs,hl,hf⟩:=DataW.trod_struct Tryz.underlying103 h
 have kk:prog.cellsOf 103=7:=by kernel_rfl
 have k1:prog.cellsOf 55=1:=by kernel_rfl
 have ki:prog.cellsOf 24=1:=by kernel_rfl
 have ku:prog.cellsOf 5=1:=by kernel_rfl
 rw [kk] at hs
 match cs,hs with
 | [c0,c1,c2,c3,c4,c5,c6],_ =>
   have f0:DataW.trod enc prog W 0 (fun _=>true) true m 5 (([c0,c1,c2,c3,c4,c5,c6].drop 0).take (prog.cellsOf 5))=ys[0]?:=hf 0 _ rfl;have f1:DataW.trod enc prog W 0 (fun _=>true) true m 5 (([c0,c1,c2,c3,c4,c5,c6].drop 1).take (prog.cellsOf 5))=ys[1]?:=hf 1 _ rfl;have f2:DataW.trod enc prog W 0 (fun _=>true) true m 24 (([c0,c1,c2,c3,c4,c5,c6].drop 2).take (prog.cellsOf 24))=ys[2]?:=hf 2 _ rfl;have f3:DataW.trod enc prog W 0 (fun _=>true) true m 24 (([c0,c1,c2,c3,c4,c5,c6].drop 3).take (prog.cellsOf 24))=ys[3]?:=hf 3 _ rfl;have f4:DataW.trod enc prog W 0 (fun _=>true) true m 24 (([c0,c1,c2,c3,c4,c5,c6].drop 4).take (prog.cellsOf 24))=ys[4]?:=hf 4 _ rfl;have f5:DataW.trod enc prog W 0 (fun _=>true) true m 24 (([c0,c1,c2,c3,c4,c5,c6].drop 5).take (prog.cellsOf 24))=ys[5]?:=hf 5 _ rfl;have f6:DataW.trod enc prog W 0 (fun _=>true) true m 55 (([c0,c1,c2,c3,c4,c5,c6].drop 6).take (prog.cellsOf 55))=ys[6]?:=hf 6 _ rfl;rw [ku] at f0 f1;rw [ki] at f2 f3 f4 f5;rw [k1] at f6;simp only [List.drop_zero,List.drop_succ_cons,List.take_succ_cons,List.take_zero] at f0 f1 f2 f3 f4 f5 f6;have hl:ys.length=7:=hl;rw [List.getElem?_eq_getElem (by omega)] at f0 f1 f2 f3 f4 f5 f6;obtain ⟨x0,rfl,h0⟩:=b0F f0;obtain ⟨x1,rfl,h1⟩:=b0F f1;obtain ⟨x2,rfl,h2⟩:=aMF f2;obtain ⟨x3,rfl,h3⟩:=aMF f3;obtain ⟨x4,rfl,h4⟩:=aMF f4;obtain ⟨x5,rfl,h5⟩:=aMF f5;obtain ⟨l,r1,r2⟩:=aML f6;exact ⟨(⟨x0,x1,x2,x3,x4,x5,l⟩,c6),⟨⟨h0,h1,⟨h2,h3,h4,h5⟩,r2⟩,r1⟩,rfl⟩
theorem aTf (hv:Value.okWide prog W .any base 23 v) (h:DataW.Trod enc prog W 0 (fun _=>true) true 23 v d p) :
    ∃ l:List Vc.Fx,Vc.relK ⟨W.heap.size,[],[],[]⟩ W (.c (.rd .F false l)) v/\∀ f ∈ l,Vc.aH1 f:=by
 obtain ⟨a0,len,cap,rfl⟩:=okWide_slice Tryz.underlying23 hv;obtain ⟨fuel,hf⟩:=h;obtain ⟨aa,n,c,b,off,wl,hcs,hn,g3,g5,g6,g7,gq,g8,_⟩:=row_of cF (fun m=>Vc.aH1 m.1/\Vc.RdR (Vc.rel0 W) (Vc.Fz ⟨W.heap.size,[],[],[]⟩ W) W m.2 .C false m.1.fl) (⟨0,0,0,0,0,0,[]⟩,undef) Tryz.underlying23 (k:=7) (by kernel_rfl) (by decide) (fun m=>⟨_,rfl⟩) aYY hf;simp only [Value.cells,List.cons.injEq,and_true] at hcs;rw [hcs]
 have hi:∀ {k:IntKind} {x:Int},k ≠ .u32->Vc.rel0 W (.v (.int k x)) (.int k x):=fun hk=>⟨rfl,rfl,fun _ h=>hk (by cases h; rfl)⟩
 have key:=aOS (s:=.F) (R:=Vc.relE ⟨W.heap.size,[],[],[]⟩ W) (g:=fun m:Vc.Fx × Value=>m.1) rfl (fun _=>rfl) hn g3 g5 g6 g8 fun m hm=>⟨hi (k:=.u8) (by decide),hi (k:=.u8) (by decide),hi (k:=.i8) (by decide),hi (k:=.i8) (by decide),hi (k:=.i8) (by decide),hi (k:=.i8) (by decide),(gq m hm).2,trivial⟩
 refine ⟨_,key,fun f hf=>?_⟩;obtain ⟨m,hm,rfl⟩:=List.mem_map.1 hf;exact (gq m hm).1
end
end Go.Proofs.YtbohkigffejhoaaGreat
namespace Go.Proofs.YtbohkigffejhoaaGreat
open Go.RowKit
namespace Zc
inductive D8
 | d0 | d1 | d2 | d3 | d4 | d5 | d6 | d7
structure N8 (α:Type) where
 (a0 a1 a2 a3 a4 a5 a6 a7:α)
def D8.no:D8->Nat
 | .d0=>0
 | .d1=>1
 | .d2=>2
 | .d3=>3
 | .d4=>4
 | .d5=>5
 | .d6=>6
 | .d7=>7
def D8.of (n:Nat):D8:=Nat.rec (motive:=fun _=>D8) .d0 (fun n _=>Nat.rec (motive:=fun _=>D8) .d1 (fun n _=>Nat.rec (motive:=fun _=>D8) .d2 (fun n _=>Nat.rec (motive:=fun _=>D8) .d3 (fun n _=>Nat.rec (motive:=fun _=>D8) .d4 (fun n _=>Nat.rec (motive:=fun _=>D8) .d5 (fun n _=>Nat.rec (motive:=fun _=>D8) .d6 (fun n _=>Nat.rec (motive:=fun _=>D8) .d7 (fun _ _=>.d0) n) n) n) n) n) n) n) n
theorem D8.no_of:∀ i,i < 8->(D8.of i).no=i
 | 0,_=>rfl
 | 1,_=>rfl
 | 2,_=>rfl
 | 3,_=>rfl
 | 4,_=>rfl
 | 5,_=>rfl
 | 6,_=>rfl
 | 7,_=>rfl
 | n+8,h=>absurd h (by omega)
section
variable {α:Type}
def N8.sel (d:D8) (t:N8 α):α:=D8.rec (motive:=fun _=>N8 α->α) (fun t=>t.a0) (fun t=>t.a1) (fun t=>t.a2) (fun t=>t.a3) (fun t=>t.a4) (fun t=>t.a5) (fun t=>t.a6) (fun t=>t.a7) d t
def N8.upd (d:D8) (x:α) (t:N8 α):N8 α:=D8.rec (motive:=fun _=>α->N8 α->N8 α) (fun x t=>N8.rec (motive:=fun _=>α->N8 α) (fun _ a1 a2 a3 a4 a5 a6 a7 x=>⟨x,a1,a2,a3,a4,a5,a6,a7⟩) t x)
 (fun x t=>N8.rec (motive:=fun _=>α->N8 α) (fun a0 _ a2 a3 a4 a5 a6 a7 x=>⟨a0,x,a2,a3,a4,a5,a6,a7⟩) t x)
 (fun x t=>N8.rec (motive:=fun _=>α->N8 α) (fun a0 a1 _ a3 a4 a5 a6 a7 x=>⟨a0,a1,x,a3,a4,a5,a6,a7⟩) t x)
 (fun x t=>N8.rec (motive:=fun _=>α->N8 α) (fun a0 a1 a2 _ a4 a5 a6 a7 x=>⟨a0,a1,a2,x,a4,a5,a6,a7⟩) t x)
 (fun x t=>N8.rec (motive:=fun _=>α->N8 α) (fun a0 a1 a2 a3 _ a5 a6 a7 x=>⟨a0,a1,a2,a3,x,a5,a6,a7⟩) t x)
 (fun x t=>N8.rec (motive:=fun _=>α->N8 α) (fun a0 a1 a2 a3 a4 _ a6 a7 x=>⟨a0,a1,a2,a3,a4,x,a6,a7⟩) t x)
 (fun x t=>N8.rec (motive:=fun _=>α->N8 α) (fun a0 a1 a2 a3 a4 a5 _ a7 x=>⟨a0,a1,a2,a3,a4,a5,x,a7⟩) t x)
 (fun x t=>N8.rec (motive:=fun _=>α->N8 α) (fun a0 a1 a2 a3 a4 a5 a6 _ x=>⟨a0,a1,a2,a3,a4,a5,a6,x⟩) t x) d x t
def N8.all (x:α):N8 α:=⟨x,x,x,x,x,x,x,x⟩
theorem N8.sel_upd (d:D8) (x:α) (t:N8 α):(t.upd d x).sel d=x:=by cases t; cases d <;> rfl
theorem N8.sel_upd_ne {d e:D8} (h:e ≠ d) (x:α) (t:N8 α):(t.upd d x).sel e=t.sel e:=by
 cases t
 cases d <;> cases e <;> first | rfl | exact absurd rfl h
theorem N8.sel_all (d:D8) (x:α):(N8.all x).sel d=x:=by cases d <;> rfl
inductive P3
 | out
 | go (a b c:D8)
def pt3 (i:Nat):P3:=bif Nat.ble 512 i then .out else .go (D8.of (Nat.div i 64)) (D8.of (Nat.mod (Nat.div i 8) 8)) (D8.of (Nat.mod i 8))
theorem aXG {i j:Nat} {a b c:D8} (h:pt3 i=.go a b c) (k:pt3 j=.go a b c):i=j:=by
 have key:∀ n,pt3 n=.go a b c->n=a.no*64+b.no*8+c.no:=fun n h=>by
  unfold pt3 at h
  cases hn:Nat.ble 512 n with
  | true=>rw [hn] at h; cases h
  | false =>
    rw [hn] at h
    have hlt:n < 512:=by
     rcases lt_or_ge n 512 with q | q
     ·exact q
     ·rw [Nat.ble_eq_true_of_le q] at hn; cases hn
    simp only [cond_false,P3.go.injEq] at h;obtain ⟨rfl,rfl,rfl⟩:=h;have e1:=D8.no_of (Nat.div n 64) (by show n / 64 < 8; omega);have e2:=D8.no_of (Nat.mod (Nat.div n 8) 8) (by show n / 8 % 8 < 8; omega);have e3:=D8.no_of (Nat.mod n 8) (by show n % 8 < 8; omega);rw [e1,e2,e3];show n=n / 64*64+n / 8 % 8*8+n % 8;omega
 rw [key i h,key j k]
abbrev Fr (α:Type):=N8 (N8 (N8 (Option α)))
def Fr.get (t:Fr α) (i:Nat):Option α:=P3.rec (motive:=fun _=>Fr α->Option α) (fun _=>none) (fun a b c t=>N8.sel c (N8.sel b (N8.sel a t))) (pt3 i) t
def Fr.put (t:Fr α) (i:Nat) (x:Option α):Fr α:=P3.rec (motive:=fun _=>Option α->Fr α->Fr α) (fun _ t=>t) (fun a b c x t=>N8.upd a (N8.upd b (N8.upd c x (N8.sel b (N8.sel a t))) (N8.sel a t)) t) (pt3 i) x t
def Fr.mk0:Fr α:=N8.all (N8.all (N8.all none))
theorem Fr.put_ne (t:Fr α) (i j:Nat) (x:Option α) (h:j ≠ i):(Fr.put t i x).get j=t.get j:=by
 unfold Fr.get Fr.put
 cases hi:pt3 i with
 | out=>rfl
 | go a b c =>
   cases hj:pt3 j with
   | out=>rfl
   | go a' b' c' =>
     show N8.sel c' (N8.sel b' (N8.sel a' (N8.upd a _ t)))=N8.sel c' (N8.sel b' (N8.sel a' t));by_cases ea:a'=a
     ·subst ea;rw [N8.sel_upd];by_cases eb:b'=b
      ·subst eb;rw [N8.sel_upd];by_cases ec:c'=c
       ·subst ec;exact absurd (aXG hj hi) h
       ·rw [N8.sel_upd_ne ec]
      ·rw [N8.sel_upd_ne eb]
     ·rw [N8.sel_upd_ne ea]
theorem Fr.put_eq (t:Fr α) (i:Nat) (x:Option α) (y:α) (h:(Fr.put t i x).get i=some y):x=some y:=by
 unfold Fr.get Fr.put at h
 cases hi:pt3 i with
 | out=>rw [hi] at h; cases h
 | go a b c =>
   rw [hi] at h;have h':N8.sel c (N8.sel b (N8.sel a (N8.upd a (N8.upd b (N8.upd c x (N8.sel b (N8.sel a t))) (N8.sel a t)) t)))=some y:=h;rwa [N8.sel_upd,N8.sel_upd,N8.sel_upd] at h'
theorem Fr.mk_none (i:Nat):(Fr.mk0:Fr α).get i=none:=by
 unfold Fr.get
 cases hi:pt3 i with
 | out=>rfl
 | go a b c =>
   show N8.sel c (N8.sel b (N8.sel a (Fr.mk0:Fr α)))=none;unfold Fr.mk0;rw [N8.sel_all,N8.sel_all,N8.sel_all]
inductive P2
 | out
 | go (a b:D8)
def pt2 (i:Nat):P2:=bif Nat.ble 32768 i then .out else .go (D8.of (Nat.div i 4096)) (D8.of (Nat.mod (Nat.div i 512) 8))
theorem aXH {i j:Nat} {a b:D8} (h:pt2 i=.go a b) (k:pt2 j=.go a b) (e:Nat.mod i 512=Nat.mod j 512):i=j:=by
 have key:∀ n,pt2 n=.go a b->n=a.no*4096+b.no*512+Nat.mod n 512:=fun n h=>by
  unfold pt2 at h
  cases hn:Nat.ble 32768 n with
  | true=>rw [hn] at h; cases h
  | false =>
    rw [hn] at h
    have hlt:n < 32768:=by
     rcases lt_or_ge n 32768 with q | q
     ·exact q
     ·rw [Nat.ble_eq_true_of_le q] at hn; cases hn
    simp only [cond_false,P2.go.injEq] at h;obtain ⟨rfl,rfl⟩:=h;have e1:=D8.no_of (Nat.div n 4096) (by show n / 4096 < 8; omega);have e2:=D8.no_of (Nat.mod (Nat.div n 512) 8) (by show n / 512 % 8 < 8; omega);rw [e1,e2];show n=n / 4096*4096+n / 512 % 8*512+n % 512;omega
 rw [key i h,key j k,e]
abbrev Hp (α:Type):=N8 (N8 (Fr α))
def Hp.get (t:Hp α) (i:Nat):Option α:=P2.rec (motive:=fun _=>Nat->Hp α->Option α) (fun _ _=>none) (fun a b j t=>Fr.get (N8.sel b (N8.sel a t)) j) (pt2 i) (Nat.mod i 512) t
def Hp.put (t:Hp α) (i:Nat) (x:Option α):Hp α:=P2.rec (motive:=fun _=>Nat->Option α->Hp α->Hp α) (fun _ _ t=>t) (fun a b j x t=>N8.upd a (N8.upd b (Fr.put (N8.sel b (N8.sel a t)) j x) (N8.sel a t)) t) (pt2 i) (Nat.mod i 512) x t
def Hp.mk0:Hp α:=N8.all (N8.all Fr.mk0)
theorem Hp.put_ne (t:Hp α) (i j:Nat) (x:Option α) (h:j ≠ i):(Hp.put t i x).get j=t.get j:=by
 unfold Hp.get Hp.put
 cases hi:pt2 i with
 | out=>rfl
 | go a b =>
   cases hj:pt2 j with
   | out=>rfl
   | go a' b' =>
     show Fr.get (N8.sel b' (N8.sel a' (N8.upd a (N8.upd b (Fr.put (N8.sel b (N8.sel a t)) (Nat.mod i 512) x) (N8.sel a t)) t))) (Nat.mod j 512)=Fr.get (N8.sel b' (N8.sel a' t)) (Nat.mod j 512);by_cases ea:a'=a
     ·subst ea;rw [N8.sel_upd];by_cases eb:b'=b
      ·subst eb;rw [N8.sel_upd];exact Fr.put_ne _ _ _ _ fun e=>h (aXH hj hi e)
      ·rw [N8.sel_upd_ne eb]
     ·rw [N8.sel_upd_ne ea]
theorem Hp.put_eq (t:Hp α) (i:Nat) (x:Option α) (y:α) (h:(Hp.put t i x).get i=some y):x=some y:=by
 unfold Hp.get Hp.put at h
 cases hi:pt2 i with
 | out=>rw [hi] at h; cases h
 | go a b =>
   rw [hi] at h;have h':Fr.get (N8.sel b (N8.sel a (N8.upd a (N8.upd b (Fr.put (N8.sel b (N8.sel a t)) (Nat.mod i 512) x) (N8.sel a t)) t))) (Nat.mod i 512)=some y:=h;rw [N8.sel_upd,N8.sel_upd] at h';exact Fr.put_eq _ _ _ _ h'
theorem Hp.mk_none (i:Nat):(Hp.mk0:Hp α).get i=none:=by
 unfold Hp.get
 cases hi:pt2 i with
 | out=>rfl
 | go a b =>
   show Fr.get (N8.sel b (N8.sel a (Hp.mk0:Hp α))) _=none;unfold Hp.mk0;rw [N8.sel_all,N8.sel_all];exact Fr.mk_none _
end
inductive Tr (α:Type)
 | l
 | n (v:Option α) (a b:Tr α)
def Tr.get {α:Type} (t:Tr α):Nat->Option α :=
 Tr.rec (fun _=>none) (fun v _ _ ia ib i=>bif Nat.beq i 0 then v else bif Nat.beq (Nat.mod i 2) 1 then ia (Nat.div (Nat.sub i 1) 2) else ib (Nat.div (Nat.sub i 1) 2)) t
def Tr.put {α:Type} (t:Tr α) (i:Nat) (x:Option α):Tr α :=
 Tr.rec (fun _=>.l) (fun v a b ia ib i=>bif Nat.beq i 0 then .n x a b else bif Nat.beq (Nat.mod i 2) 1 then .n v (ia (Nat.div (Nat.sub i 1) 2)) b else .n v a (ib (Nat.div (Nat.sub i 1) 2))) t i
def Tr.mk {α:Type} (x:Option α):Nat->Tr α
 | 0=>.l
 | d+1=>.n x (Tr.mk x d) (Tr.mk x d)
theorem a5x {a b:Nat} (h:¬ a=b):Nat.beq a b=false:=by
 cases hb:Nat.beq a b with
 | false=>rfl
 | true=>exact absurd (Nat.eq_of_beq_eq_true hb) h
theorem aE9 (a:Nat):Nat.beq a a=true:=Nat.beq_refl a
section
variable {α:Type}
theorem Tr.get_l (i:Nat):(Tr.l:Tr α).get i=none:=rfl
theorem Tr.get_n (v:Option α) (a b:Tr α) (i:Nat):(Tr.n v a b).get i=if i=0 then v else if i % 2=1 then a.get ((i - 1) / 2) else b.get ((i - 1) / 2):=by
 show (bif Nat.beq i 0 then v else bif Nat.beq (Nat.mod i 2) 1 then a.get (Nat.div (Nat.sub i 1) 2) else b.get (Nat.div (Nat.sub i 1) 2))=_;rw [show Nat.mod i 2=i % 2 from rfl,show Nat.div (Nat.sub i 1) 2=(i - 1) / 2 from rfl];by_cases h:i=0
 ·subst h; rfl
 ·rw [a5x h,if_neg h];by_cases h2:i % 2=1
  ·rw [h2,if_pos rfl]; rfl
  ·rw [a5x h2,if_neg h2]; rfl
theorem Tr.put_l (i:Nat) (x:Option α):(Tr.l:Tr α).put i x=Tr.l:=rfl
theorem Tr.put_n (v:Option α) (a b:Tr α) (i:Nat) (x:Option α):(Tr.n v a b).put i x=if i=0 then Tr.n x a b else if i % 2=1 then Tr.n v (a.put ((i - 1) / 2) x) b else Tr.n v a (b.put ((i - 1) / 2) x):=by
 show (bif Nat.beq i 0 then Tr.n x a b else bif Nat.beq (Nat.mod i 2) 1 then Tr.n v (a.put (Nat.div (Nat.sub i 1) 2) x) b else Tr.n v a (b.put (Nat.div (Nat.sub i 1) 2) x))=_;rw [show Nat.mod i 2=i % 2 from rfl,show Nat.div (Nat.sub i 1) 2=(i - 1) / 2 from rfl];by_cases h:i=0
 ·subst h; rfl
 ·rw [a5x h,if_neg h];by_cases h2:i % 2=1
  ·rw [h2,if_pos rfl]; rfl
  ·rw [a5x h2,if_neg h2]; rfl
theorem Tr.put_ne:∀ (t:Tr α) (i j:Nat) (x:Option α),j ≠ i->(t.put i x).get j=t.get j
 | .l,_,_,_,_=>rfl
 | .n v a b,i,j,x,h=>by
   rw [Tr.put_n];by_cases h0:i=0
   ·rw [if_pos h0,Tr.get_n,Tr.get_n]
    have:¬ j=0:=by omega
    simp [this]
   ·rw [if_neg h0];by_cases h1:i % 2=1
    ·rw [if_pos h1,Tr.get_n,Tr.get_n];by_cases j0:j=0
     ·simp [j0]
     ·by_cases j1:j % 2=1
      ·simp only [j0,j1,if_true,if_false];exact Tr.put_ne a _ _ x (by omega)
      ·simp [j0,j1]
    ·rw [if_neg h1,Tr.get_n,Tr.get_n];by_cases j0:j=0
     ·simp [j0]
     ·by_cases j1:j % 2=1
      ·simp [j0,j1]
      ·simp only [j0,j1,if_false];exact Tr.put_ne b _ _ x (by omega)
theorem Tr.put_eq:∀ (t:Tr α) (i:Nat) (x:Option α) (y:α),(t.put i x).get i=some y->x=some y
 | .l,_,_,_,h=>by simp [Tr.put_l,Tr.get_l] at h
 | .n v a b,i,x,y,h=>by
   rw [Tr.put_n] at h;by_cases h0:i=0
   ·rw [if_pos h0,Tr.get_n,if_pos h0] at h;exact h
   ·rw [if_neg h0] at h;by_cases h1:i % 2=1
    ·rw [if_pos h1,Tr.get_n,if_neg h0,if_pos h1] at h;exact Tr.put_eq a _ x y h
    ·rw [if_neg h1,Tr.get_n,if_neg h0,if_neg h1] at h;exact Tr.put_eq b _ x y h
theorem Tr.mk_none:∀ (d i:Nat),(Tr.mk (α:=α) none d).get i=none
 | 0,_=>rfl
 | d+1,i=>by
   rw [Tr.mk,Tr.get_n,Tr.mk_none d];simp
end
inductive LF
 | v (x:Value)
 | sl (l:List Nat)
 | I (z:Int)
 | p (k off:Nat)
 | s (k off n c sz:Nat)
 | e0
 | fn (f:Nat) (ks:List (Nat × Nat))
 | q (x:Nat)
inductive KK
 | c (x:LF)
 | g (xs:List LF)
inductive KV
 | u
 | k (x:KK)
 | t (xs:List KK)
structure Bx where
 T:Nat
 cs:List LF
def LF.width:LF->Nat
 | .I _=>2
 | _=>1
def LF.flat:LF->List LF
 | .I z=>[.v (.bool (decide (z < 0))),.sl (Lb.limbs z.natAbs)]
 | x=>[x]
def a0d (l:List LF):List LF:=List.rec [] (fun x _ ih=>x.flat ++ ih) l
def wid (l:List LF):Nat:=List.rec 0 (fun x _ ih=>Nat.add x.width ih) l
theorem a7q:a0d []=[]:=rfl
theorem a1a (x:LF) (l:List LF):a0d (x :: l)=x.flat ++ a0d l:=rfl
theorem aS6 (x:LF) (l:List LF):wid (x :: l)=x.width+wid l:=rfl
theorem a0I:∀ a b,a0d (a ++ b)=a0d a ++ a0d b
 | [],_=>rfl
 | x :: a,b=>by rw [List.cons_append,a1a,a1a,a0I a b,List.append_assoc]
theorem a2v (x:LF):x.flat.length=x.width:=by cases x <;> rfl
theorem a2E:∀ l,(a0d l).length=wid l
 | []=>rfl
 | x :: l=>by rw [a1a,length_append,a2v,a2E l,aS6]
structure BM where
 f:Nat->Option Nat
 z:Nat->Prop
instance:CoeFun BM fun _=>Nat->Option Nat:=⟨BM.f⟩
def SlZ (bm:BM) (w:World) (l:List Nat) (u:Value):Prop:=SlU w u l/\(l=[] \/ ∃ b,u.ownBlock=some b/\bm.z b)
def SzAt (w:World) (b N:Nat):Prop:=∃ (vs:Array Value) (T:TypeId),w.heap[b]?=some (.cells vs T (0,0))/\N <= vs.size
def relP (bm:BM):List (Nat × Nat)->List Value->Prop
 | [],[]=>True
 | x :: l,u :: us=>(∃ b,bm x.1=some b/\u=.pointer (some ⟨b,x.2,none⟩))/\relP bm l us
 | _,_=>False
def rel1 (bm:BM) (w:World):LF->Value->Prop
 | .v x,u=>u=x/\x.oneCell'=true
 | .sl l,u=>SlZ bm w l u
 | .I _,_=>False
 | .p k off,u=>∃ b,bm k=some b/\u=.pointer (some ⟨b,off,none⟩)
 | .s k off n c sz,u=>∃ b c' a,bm k=some b/\u=.slice a n c'/\c <= c'/\n <= c'/\(c' ≠ 0->a=some ⟨b,off,none⟩/\SzAt w b (off+c'*sz))
 | .e0,u=>∃ a,u=.slice a 0 0
 | .fn f ks,u=>∃ us,relP bm ks us/\u=.func (.func f) #[] us.toArray
 | .q x,u=>∃ b off,u=.pointer (some ⟨b,off,none⟩)/\bm.z b/\w.cell? ⟨b,off,none⟩=some (.int .u32 (x:Int))
def relL (bm:BM) (w:World):List LF->List Value->Prop
 | [],[]=>True
 | x :: l,u :: us=>rel1 bm w x u/\relL bm w l us
 | _,_=>False
def relK (bm:BM) (w:World):KK->Value->Prop
 | .c x,u=>rel1 bm w x u
 | .g xs,u=>∃ us:List Value,u=.agg us.toArray/\relL bm w (a0d xs) us
def relKs (bm:BM) (w:World):List KK->List Value->Prop
 | [],[]=>True
 | x :: l,u :: us=>relK bm w x u/\relKs bm w l us
 | _,_=>False
def relV (bm:BM) (w:World):KV->Value->Prop
 | .u,_=>True
 | .k x,u=>relK bm w x u
 | .t xs,u=>∃ us:List Value,u=.tuple us.toArray/\relKs bm w xs us
section
variable {bm bm':BM} {w w':World}
theorem rel1.one {x:LF} {u:Value} (h:rel1 bm w x u):u.oneCell'=true:=by
 cases x with
 | v x=>obtain ⟨rfl,h⟩:=h; exact h
 | sl l=>obtain ⟨a,c,rfl⟩:=SlU.form h.1; rfl
 | p k off=>obtain ⟨b,_,rfl⟩:=h; rfl
 | s k off n c sz=>obtain ⟨b,c',a,_,rfl,_⟩:=h; rfl
 | e0=>obtain ⟨a,rfl⟩:=h; rfl
 | fn f ks=>obtain ⟨us,_,rfl⟩:=h; rfl
 | q x=>obtain ⟨b,off,rfl,_⟩:=h; rfl
 | I z=>exact h.elim
theorem relL.len:∀ {l:List LF} {us:List Value},relL bm w l us->l.length=us.length
 | [],[],_=>rfl
 | _ :: _,_ :: _,h=>by rw [length_cons,length_cons,relL.len h.2]
 | [],_ :: _,h=>h.elim
 | _ :: _,[],h=>h.elim
theorem relKs.len:∀ {l:List KK} {us:List Value},relKs bm w l us->l.length=us.length
 | [],[],_=>rfl
 | _ :: _,_ :: _,h=>by rw [length_cons,length_cons,relKs.len h.2]
 | [],_ :: _,h=>h.elim
 | _ :: _,[],h=>h.elim
theorem relL.append:∀ {a b:List LF} {us vs:List Value},relL bm w a us->relL bm w b vs->relL bm w (a ++ b) (us ++ vs)
 | [],_,[],_,_,h=>h
 | _ :: _,_,_ :: _,_,h,k=>⟨h.1,relL.append h.2 k⟩
 | [],_,_ :: _,_,h,_=>h.elim
 | _ :: _,_,[],_,h,_=>h.elim
theorem relL.drop:∀ {a:List LF} {us:List Value} (n:Nat),relL bm w a us->relL bm w (a.drop n) (us.drop n)
 | _,_,0,h=>h
 | [],[],_+1,_=>trivial
 | _ :: _,_ :: _,n+1,h=>relL.drop n h.2
 | [],_ :: _,_+1,h=>h.elim
 | _ :: _,[],_+1,h=>h.elim
theorem relL.take:∀ {a:List LF} {us:List Value} (n:Nat),relL bm w a us->relL bm w (a.take n) (us.take n)
 | _,_,0,_=>by simp [relL]
 | [],[],_+1,_=>trivial
 | _ :: _,_ :: _,n+1,h=>⟨h.1,relL.take n h.2⟩
 | [],_ :: _,_+1,h=>h.elim
 | _ :: _,[],_+1,h=>h.elim
theorem relL.one:∀ {a:List LF} {us:List Value},relL bm w a us->∀ u ∈ us,u.oneCell'=true
 | [],[],_,_,hu=>by cases hu
 | _ :: _,_ :: _,h,u,hu=>by
   rcases mem_cons.1 hu with rfl | hu
   ·exact rel1.one h.1
   ·exact relL.one h.2 u hu
 | [],_ :: _,h,_,_=>h.elim
 | _ :: _,[],h,_,_=>h.elim
theorem relKs.get:∀ {a:List KK} {us:List Value} {i:Nat} {x:KK},relKs bm w a us->a[i]?=some x->∃ u,us[i]?=some u/\relK bm w x u
 | [],[],_,_,_,hi=>by simp at hi
 | y :: _,v :: _,0,x,h,hi=>⟨v,rfl,by have e:y=x:=(by simpa using hi); subst e; exact h.1⟩
 | _ :: _,_ :: _,i+1,_,h,hi=>by
   obtain ⟨u,h1,h2⟩:=relKs.get h.2 (by simpa using hi)
   exact ⟨u,by simpa using h1,h2⟩
 | [],_ :: _,_,_,h,_=>h.elim
 | _ :: _,[],_,_,h,_=>h.elim
theorem SlZ.cases {bm:BM} {l:List Nat} {u:Value} (h:SlZ bm w l u):(l=[]/\∃ a cap,u=.slice a 0 cap/\(a=none->cap=0)) \/
    (0 < l.length/\∃ b off cap,u=.slice (some ⟨b,off,none⟩) l.length cap/\l.length <= cap/\b < w.heap.size/\bm.z b/\∀ i (hi:i < l.length),w.cell? ⟨b,off+i,none⟩=some (.int .u32 (l[i]:Int))):=by
 obtain ⟨h,hb⟩:=h
 rcases h.cases with h | ⟨h0,b,off,cap,rfl,hcap,hlt,hcell⟩
 ·exact .inl h
 ·obtain ⟨b',e,k⟩:=hb.resolve_left fun e=>by simp [e] at h0
  cases e;exact .inr ⟨h0,b,off,cap,rfl,hcap,hlt,k,hcell⟩
theorem SlZ.same {bm bm':BM} {l:List Nat} {u:Value} (h:SlZ bm w l u) (hs:∀ b,bm.z b->w'.heap[b]?=w.heap[b]?) (hz:∀ b,bm.z b->bm'.z b):SlZ bm' w' l u:=by
 rcases h.cases with ⟨rfl,a,cap,rfl,hc⟩ | ⟨h0,b,off,cap,rfl,hcap,hlt,k,hcell⟩
 ·exact ⟨SlU.empty hc,.inl rfl⟩
 ·have hq:=hs b k
  have hx:w.heap[b]?=some w.heap[b]:=by simp [hlt]
  refine ⟨SlU.mk rfl hcap (fun _=>?_) fun i hi=>?_,.inr ⟨b,rfl,hz b k⟩⟩
  ·rw [hx] at hq;exact (Array.getElem?_eq_some_iff.1 hq).1
  ·rw [<- hcell i hi];unfold World.cell?;simp only;rw [hq]
structure Keep (bm bm':BM) (w w':World):Prop where
 same:∀ b,bm.z b->w'.heap[b]?=w.heap[b]?
 z:∀ b,bm.z b->bm'.z b
 bm:∀ (k b:Nat),bm k=some b->bm' k=some b
 sz:∀ (b N:Nat),SzAt w b N->SzAt w' b N
theorem Keep.refl (bm:BM) (w:World):Keep bm bm w w:=⟨fun _ _=>rfl,fun _ h=>h,fun _ _ h=>h,fun _ _ h=>h⟩
theorem Keep.trans {a b c:BM} {x y z:World} (h:Keep a b x y) (k:Keep b c y z):Keep a c x z:=⟨fun i e=>(k.same i (h.z i e)).trans (h.same i e),fun i e=>k.z i (h.z i e),fun i d e=>k.bm i d (h.bm i d e),fun b N e=>k.sz b N (h.sz b N e)⟩
theorem Keep.relP (h:Keep bm bm' w w'):∀ {ks:List (Nat × Nat)} {us:List Value},relP bm ks us->relP bm' ks us
 | [],[],_=>trivial
 | _ :: _,_ :: _,⟨⟨b,e1,e2⟩,k⟩=>⟨⟨b,h.bm _ _ e1,e2⟩,h.relP k⟩
 | [],_ :: _,k=>k.elim
 | _ :: _,[],k=>k.elim
theorem Keep.rel1 (h:Keep bm bm' w w'):∀ {x:LF} {u:Value},rel1 bm w x u->rel1 bm' w' x u
 | .v _,_,k=>k
 | .sl _,_,k=>k.same h.same h.z
 | .p _ _,_,⟨b,k,e⟩=>⟨b,h.bm _ _ k,e⟩
 | .s _ _ _ _ _,_,⟨b,c',a,k,e,h1,h2,h3⟩=>⟨b,c',a,h.bm _ _ k,e,h1,h2,fun hc=>⟨(h3 hc).1,h.sz _ _ (h3 hc).2⟩⟩
 | .e0,_,k=>k
 | .fn _ _,_,⟨us,k,e⟩=>⟨us,h.relP k,e⟩
 | .q _,_,⟨b,off,e,k,c⟩=>⟨b,off,e,h.z b k,by rw [<- c]; unfold World.cell?; simp only; rw [h.same b k]⟩
 | .I _,_,k=>k
theorem Keep.relL (h:Keep bm bm' w w'):∀ {x:List LF} {u:List Value},relL bm w x u->relL bm' w' x u
 | [],[],_=>trivial
 | _ :: _,_ :: _,k=>⟨h.rel1 k.1,h.relL k.2⟩
 | [],_ :: _,k=>k.elim
 | _ :: _,[],k=>k.elim
theorem Keep.relK (h:Keep bm bm' w w'):∀ {x:KK} {u:Value},relK bm w x u->relK bm' w' x u
 | .c _,_,k=>h.rel1 k
 | .g _,_,⟨us,e,k⟩=>⟨us,e,h.relL k⟩
theorem Keep.relKs (h:Keep bm bm' w w'):∀ {x:List KK} {u:List Value},relKs bm w x u->relKs bm' w' x u
 | [],[],_=>trivial
 | _ :: _,_ :: _,k=>⟨h.relK k.1,h.relKs k.2⟩
 | [],_ :: _,k=>k.elim
 | _ :: _,[],k=>k.elim
theorem Keep.relV (h:Keep bm bm' w w'):∀ {x:KV} {u:Value},relV bm w x u->relV bm' w' x u
 | .u,_,_=>trivial
 | .k _,_,k=>h.relK k
 | .t _,_,⟨us,e,k⟩=>⟨us,e,h.relKs k⟩
end
def BoxAt (bm:BM) (w:World) (b:Nat) (x:Bx):Prop :=
 ∃ vs rs:List Value,w.heap[b]?=some (.cells (vs ++ rs).toArray x.T (0,0))/\relL bm w (a0d x.cs) vs
structure Ok (H:Hp Bx) (bm:BM) (w:World):Prop where
 box:∀ k b x,bm k=some b->H.get k=some x->BoxAt bm w b x
 lt:∀ k b,bm k=some b->b < w.heap.size
 nz:∀ k b,bm k=some b->¬ bm.z b
 inj:∀ k j b x y,bm k=some b->bm j=some b->H.get k=some x->H.get j=some y->k=j
 zlt:∀ b,bm.z b->b < w.heap.size
structure Frame (m n:Nat) (bm:BM) (w w':World):Prop where
 le:w.heap.size <= w'.heap.size
 same:∀ b,b < w.heap.size->(∀ k,m <= k->k < n->bm k ≠ some b)->w'.heap[b]?=w.heap[b]?
 sz:∀ b N,SzAt w b N->SzAt w' b N
 env:w'.os=w.os/\w'.tape=w.tape/\w'.output=w.output
structure Grow (m n n':Nat) (w:World) (bm bm':BM):Prop where
 le:n <= n'
 same:∀ k,¬ (n <= k/\k < n')->bm' k=bm k
 fresh:∀ k b,n <= k->k < n'->bm' k=some b->w.heap.size <= b \/ ∃ j,m <= j/\j < n/\bm j=some b
 z:∀ b,bm.z b->bm'.z b
 zn:∀ b,bm'.z b->bm.z b \/ w.heap.size <= b
theorem Frame.refl (m n:Nat) (bm:BM) (w:World):Frame m n bm w w:=⟨Nat.le_refl _,fun _ _ _=>rfl,fun _ _ h=>h,rfl,rfl,rfl⟩
theorem Grow.refl (m n:Nat) (w:World) (bm:BM):Grow m n n w bm bm:=⟨Nat.le_refl _,fun _ _=>rfl,fun k b h1 h2 _=>by omega,fun _ h=>h,fun _ h=>.inl h⟩
theorem Frame.mono {m m' n:Nat} {bm:BM} {w w':World} (h:Frame m' n bm w w') (hm:m <= m'):Frame m n bm w w' :=
 ⟨h.le,fun b hb hk=>h.same b hb fun k h1 h2=>hk k (by omega) h2,h.sz,h.env⟩
theorem Grow.mono {m m' n n':Nat} {w:World} {bm bm':BM} (h:Grow m' n n' w bm bm') (hm:m <= m'):Grow m n n' w bm bm' :=
 ⟨h.le,h.same,fun k b h1 h2 h3=>(h.fresh k b h1 h2 h3).imp id fun ⟨j,g1,g2,g3⟩=>⟨j,by omega,g2,g3⟩,h.z,h.zn⟩
theorem Frame.of_ext {m n:Nat} {bm:BM} {w w':World} (h:Ext w w'):Frame m n bm w w':=by
 have hs:∀ b,b < w.heap.size->w'.heap[b]?=w.heap[b]?:=fun b hb=>by
  have hx:w.heap[b]?=some w.heap[b]:=by simp [hb]
  rw [hx];exact a3t hx h
 exact ⟨h.size,fun b hb _=>hs b hb,fun b N ⟨vs,T,h1,h2⟩=>⟨vs,T,a3t h1 h,h2⟩,h.os,h.tape,h.output⟩
theorem Grow.trans {m n n1 n2:Nat} {w w1:World} {bm bm1 bm2:BM} (h:Grow m n n1 w bm bm1) (hw:w.heap.size <= w1.heap.size) (k:Grow m n1 n2 w1 bm1 bm2):Grow m n n2 w bm bm2:=by
 refine ⟨Nat.le_trans h.le k.le,fun i hi=>?_,fun i b h1 h2 hb=>?_,fun b e=>k.z b (h.z b e),fun b e=>(k.zn b e).elim (h.zn b) fun e=>.inr (by omega)⟩
 ·have h1:=h.le; have h2:=k.le;rw [k.same i (by omega),h.same i (by omega)]
 ·rcases lt_or_ge i n1 with hlt | hge
  ·rw [k.same i (by omega)] at hb;exact h.fresh i b h1 hlt hb
  ·rcases k.fresh i b hge h2 hb with h3 | ⟨j,hmj,hj,hbj⟩
   ·exact .inl (by omega)
   ·rcases lt_or_ge j n with hjn | hjn
    ·rw [h.same j (by omega)] at hbj;exact .inr ⟨j,hmj,hjn,hbj⟩
    ·exact h.fresh j b hjn hj hbj
theorem Frame.trans {m n n1:Nat} {w w1 w2:World} {bm bm1:BM} (g:Grow m n n1 w bm bm1) (h:Frame m n bm w w1) (k:Frame m n1 bm1 w1 w2):Frame m n bm w w2:=by
 refine ⟨Nat.le_trans h.le k.le,fun b hb hn=>?_,fun b N e=>k.sz b N (h.sz b N e),k.env.1.trans h.env.1,k.env.2.1.trans h.env.2.1,k.env.2.2.trans h.env.2.2⟩;rw [k.same b (Nat.lt_of_lt_of_le hb h.le) (fun i hm hi e=>?_),h.same b hb hn];rcases lt_or_ge i n with hin | hin
 ·rw [g.same i (by omega)] at e;exact hn i hm hin e
 ·rcases g.fresh i b hin hi e with h1 | ⟨j,hmj,hj,hbj⟩
  ·omega
  ·exact hn j hmj hj hbj
theorem Keep.of {m n n':Nat} {w w':World} {bm bm':BM} {H:Hp Bx} (ok:Ok H bm w) (g:Grow m n n' w bm bm') (hn:∀ k,n <= k->k < n'->bm k=none) (f:Frame m n bm w w'):Keep bm bm' w w':=by
 refine ⟨fun b h=>f.same b (ok.zlt b h) fun k _ _ e=>ok.nz k b e h,g.z,fun k b h=>?_,f.sz⟩;rw [g.same k fun h'=>by rw [hn k h'.1 h'.2] at h; cases h];exact h
