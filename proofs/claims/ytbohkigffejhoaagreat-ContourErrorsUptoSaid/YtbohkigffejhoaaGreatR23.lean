import Derived.Test.YtbohkigffejhoaaGreatR22
namespace Go.Proofs.YtbohkigffejhoaaGreat
open Go.RowKit
set_option maxHeartbeats 4000000
namespace Vc
attribute [local irreducible] owes
theorem aTI (r:Rx):(a0l r r).2=true:=by
 unfold a0l
 split
 ·rfl
 ·have:r.rc - r.rc=0:=by grind
  simp only [this]
  cases h:(Rt.sg r.rb == (0:Int)) <;> rfl
def a0K (r:Rx):Rx:=(a2n r r).1
theorem aBO (r:Rx) (hp:r.sz <= 25000):owes LTD DT8 [] Tryz.f474 (bd Tryz.f474) [.g (eR r)] (.k (.g (eR (a0K r)))):=by
 refine a0p (show (((True/\(True/\True))/\(True/\(True/\True))/\(a0l r r).2=true/\r.sz+r.sz <= 60000)/\(((a2n r r).1.ra=(a0K r).ra)/\(((a2n r r).1.rb=(a0K r).rb)/\(((a2n r r).1.rc=(a0K r).rc)/\True))))=_ by kernel_rfl) ?_
 have hc:=aTI r
 have g1:=a2Z r
 repeat' first | trivial | with_reducible apply And.intro | (intro _)
 all_goals first | rfl | omega | assumption | (with_reducible apply a0N; (repeat' first | exact a2c | exact a2b | exact a2a | exact a0Z _ | exact a0Q .. | exact a0r .. | exact a0k .. | exact a0I .. | exact a0m .. | exact a07 .. | exact a0o .. | apply a0u | apply a0w); done) | (unfold a0K; (repeat' first | rfl | rw [a06 (by assumption)] | rw [a05 (by assumption)]); done) | (simp_all; done)
def aG8:Ctr:=⟨474,spY (rR.c r0) (fun (r,_)=>r.sz <= 25000) (fun (r,_)=>.k (.g (eR (a0K r))))⟩
theorem aG7:CtrOK Tryz.prog aG8:=yOK a0F a4x Tryz.func474 fun x hp=>aBO x.1 hp
theorem a6Y (r:Rx):(a0K r).sz <= 8*(r.sz)+20:=by
 have g1:=@aWg r r
 have g2:=a2Z (a2n r r).1
 have g3:=a2Z r
 unfold a0K
 repeat' split
 all_goals first | omega | (dsimp only; omega)
def a2M (l:Lx):Bool:=bif (bif (bif ((true)) then ((true)) else (false)) then ((true)) else (false)) then (bif ((((Rt.sg (l.la)))) != ((0:Int))) then (true) else ((((Rt.sg (l.lb)))) != ((0:Int)))) else (false)
theorem a8z (l:Lx) (hp:l.sz <= 100000):owes LTD DT8 [] Tryz.f112 (bd Tryz.f112) [.g (eL l)] (.k (.c (.v (.bool ((a2M l)))))):=by
 refine a0p (show ((szR l.la <= 1000000)/\(((true == true)=true->(szR l.lb <= 1000000))/\((((bif true then true else false) == true)=true->(szR l.lc <= 1000000))/\((((bif (bif true then true else false) then true else false) == true)=true->(True/\True))/\(((((bif (bif true then true else false) then true else false) == true) && (((Rt.sg l.la) != (0:Int)) == false))=true->(True/\True))/\(Value.bool (bif (bif (bif true then true else false) then true else false) then (bif ((Rt.sg l.la) != (0:Int)) then true else ((Rt.sg l.lb) != (0:Int))) else false)=(.bool (a2M l))))))))=_ by kernel_rfl) ?_
 have g1:=aHT l
 repeat' first | trivial | with_reducible apply And.intro | (intro _)
 all_goals first | rfl | omega | assumption | (with_reducible apply a0N; (repeat' first | exact a2c | exact a2b | exact a2a | exact a0Z _ | exact a0Q .. | exact a0r .. | exact a0k .. | exact a0I .. | exact a0m .. | exact a07 .. | exact a0o .. | apply a0u | apply a0w); done) | (unfold a2M; (repeat' first | rfl | rw [a06 (by assumption)] | rw [a05 (by assumption)]); done) | (simp_all; done)
def a8U:Ctr:=⟨112,spY (rL.c r0) (fun (l,_)=>l.sz <= 100000) (fun (l,_)=>.k (.c (.v (.bool ((a2M l))))))⟩
theorem aAW:CtrOK Tryz.prog a8U:=yOK a0F a4x Tryz.func112 fun x hp=>a8z x.1 hp
def a1V (k:Kx):Bool:=bif (bif (bif ((true)) then ((true)) else (false)) then ((true)) else (false)) then (decide ((((Rt.sg (k.kq)))) > ((0:Int)))) else (false)
theorem a6T (k:Kx) (hp:k.sz <= 100000):owes LTD DT8 [] Tryz.f111 (bd Tryz.f111) [.g (eK k)] (.k (.c (.v (.bool ((a1V k)))))):=by
 refine a0p (show ((szR k.kx <= 1000000)/\(((true == true)=true->(szR k.ky <= 1000000))/\((((bif true then true else false) == true)=true->(szR k.kq <= 1000000))/\((((bif (bif true then true else false) then true else false) == true)=true->(True/\True))/\(Value.bool (bif (bif (bif true then true else false) then true else false) then (decide ((Rt.sg k.kq) > (0:Int))) else false)=(.bool (a1V k)))))))=_ by kernel_rfl) ?_
 have g1:=aBW k
 repeat' first | trivial | with_reducible apply And.intro | (intro _)
 all_goals first | rfl | omega | assumption | (with_reducible apply a0N; (repeat' first | exact a2c | exact a2b | exact a2a | exact a0Z _ | exact a0Q .. | exact a0r .. | exact a0k .. | exact a0I .. | exact a0m .. | exact a07 .. | exact a0o .. | apply a0u | apply a0w); done) | (unfold a1V; (repeat' first | rfl | rw [a06 (by assumption)] | rw [a05 (by assumption)]); done) | (simp_all; done)
def a6D:Ctr:=⟨111,spY (rKx.c r0) (fun (k,_)=>k.sz <= 100000) (fun (k,_)=>.k (.c (.v (.bool ((a1V k))))))⟩
theorem a8A:CtrOK Tryz.prog a6D:=yOK a0F a4x Tryz.func111 fun x hp=>a6T x.1 hp
def a2w (l:Lx) (m:Lx):Bool:=bif (bif ((((Rt.sg ((a0J l.la m.lb) - (a0J l.lb m.la))))) == ((0:Int))) then ((((Rt.sg ((a0J l.la m.lc) - (a0J l.lc m.la))))) == ((0:Int))) else (false)) then ((((Rt.sg ((a0J l.lb m.lc) - (a0J l.lc m.lb))))) == ((0:Int))) else (false)
def aPP (l:Lx) (m:Lx):=((Rt.sg ((a0J l.la m.lb) - (a0J l.lb m.la))) == (0:Int))
def aPQ (l:Lx) (m:Lx):=(bif (aPP l m) then ((Rt.sg ((a0J l.la m.lc) - (a0J l.lc m.la))) == (0:Int)) else false)
theorem a9n (l:Lx) (m:Lx) (hp:l.sz+m.sz <= 100000):owes LTD DT8 [] Tryz.f205 (bd Tryz.f205) [.g (eL l),.g (eL m)] (.k (.c (.v (.bool ((a2w l m)))))):=by
 refine a0p (show ((True/\True/\szR l.la+szR m.lb <= 500000)/\((True/\True/\szR l.lb+szR m.la <= 500000)/\((True/\True/\(szR (a0J l.la m.lb) <= 1000000/\szR (a0J l.lb m.la) <= 1000000))/\((((aPP l m) == true)=true->(True/\True/\szR l.la+szR m.lc <= 500000))/\((((aPP l m) == true)=true->(True/\True/\szR l.lc+szR m.la <= 500000))/\((((aPP l m) == true)=true->(True/\True/\(szR (a0J l.la m.lc) <= 1000000/\szR (a0J l.lc m.la) <= 1000000)))/\((((aPQ l m) == true)=true->(True/\True/\szR l.lb+szR m.lc <= 500000))/\((((aPQ l m) == true)=true->(True/\True/\szR l.lc+szR m.lb <= 500000))/\((((aPQ l m) == true)=true->(True/\True/\(szR (a0J l.lb m.lc) <= 1000000/\szR (a0J l.lc m.lb) <= 1000000)))/\(Value.bool (bif (aPQ l m) then ((Rt.sg ((a0J l.lb m.lc) - (a0J l.lc m.lb))) == (0:Int)) else false)=(.bool (a2w l m))))))))))))=_ by kernel_rfl) ?_
 delta aPQ aPP
 have g1:=aHT l
 have g2:=aHT m
 have g3:=@a4z l.la m.lb
 have g4:=@a4z l.lb m.la
 have g5:=@a4z l.la m.lc
 have g6:=@a4z l.lc m.la
 have g7:=@a4z l.lb m.lc
 have g8:=@a4z l.lc m.lb
 repeat' first | trivial | with_reducible apply And.intro | (intro _)
 all_goals first | rfl | omega | assumption | (with_reducible apply a0N; (repeat' first | exact a2c | exact a2b | exact a2a | exact a0Z _ | exact a0Q .. | exact a0r .. | exact a0k .. | exact a0I .. | exact a0m .. | exact a07 .. | exact a0o .. | apply a0u | apply a0w); done) | (unfold a2w; (repeat' first | rfl | rw [a06 (by assumption)] | rw [a05 (by assumption)]); done) | (simp_all; done)
def aAY:Ctr:=⟨205,spY (rL.c (rL.c r0)) (fun (l,m,_)=>l.sz+m.sz <= 100000) (fun (l,m,_)=>.k (.c (.v (.bool ((a2w l m))))))⟩
theorem aBG:CtrOK Tryz.prog aAY:=yOK a0F a4x Tryz.func205 fun x hp=>a9n x.1 x.2.1 hp
def a2x (k:Kx) (m:Kx):Bool:=bif (bif ((((Rt.sg ((k.kx) - (m.kx))))) == ((0:Int))) then ((((Rt.sg ((k.ky) - (m.ky))))) == ((0:Int))) else (false)) then ((((Rt.sg ((k.kq) - (m.kq))))) == ((0:Int))) else (false)
theorem a7P (k:Kx) (m:Kx) (hp:k.sz+m.sz <= 100000):owes LTD DT8 [] Tryz.f204 (bd Tryz.f204) [.g (eK k),.g (eK m)] (.k (.c (.v (.bool ((a2x k m)))))):=by
 refine a0p (show ((True/\True/\(szR k.kx <= 1000000/\szR m.kx <= 1000000))/\(((((Rt.sg (k.kx - m.kx)) == (0:Int)) == true)=true->(True/\True/\(szR k.ky <= 1000000/\szR m.ky <= 1000000)))/\((((bif ((Rt.sg (k.kx - m.kx)) == (0:Int)) then ((Rt.sg (k.ky - m.ky)) == (0:Int)) else false) == true)=true->(True/\True/\(szR k.kq <= 1000000/\szR m.kq <= 1000000)))/\(Value.bool (bif (bif ((Rt.sg (k.kx - m.kx)) == (0:Int)) then ((Rt.sg (k.ky - m.ky)) == (0:Int)) else false) then ((Rt.sg (k.kq - m.kq)) == (0:Int)) else false)=(.bool (a2x k m))))))=_ by kernel_rfl) ?_
 have g1:=aBW k
 have g2:=aBW m
 repeat' first | trivial | with_reducible apply And.intro | (intro _)
 all_goals first | rfl | omega | assumption | (with_reducible apply a0N; (repeat' first | exact a2c | exact a2b | exact a2a | exact a0Z _ | exact a0Q .. | exact a0r .. | exact a0k .. | exact a0I .. | exact a0m .. | exact a07 .. | exact a0o .. | apply a0u | apply a0w); done) | (unfold a2x; (repeat' first | rfl | rw [a06 (by assumption)] | rw [a05 (by assumption)]); done) | (simp_all; done)
def a7Q:Ctr:=⟨204,spY (rKx.c (rKx.c r0)) (fun (k,m,_)=>k.sz+m.sz <= 100000) (fun (k,m,_)=>.k (.c (.v (.bool ((a2x k m))))))⟩
theorem a9o:CtrOK Tryz.prog a7Q:=yOK a0F a4x Tryz.func204 fun x hp=>a7P x.1 x.2.1 hp
def a1A (l:Lx) (m:Lx):Rat:=a1d (a0h l.la m.lb) (a0h m.la l.lb)
theorem aD4 (l:Lx) (m:Lx) (hp:l.sz+m.sz <= 100000):owes LTD DT8 [] Tryz.f413 (bd Tryz.f413) [.g (eL l),.g (eL m)] (.k (.g [.R ((a1A l m))])):=by
 refine a0p (show ((True/\True/\szR l.la+szR m.lb <= 500000)/\((True/\True/\szR m.la+szR l.lb <= 500000)/\((True/\True/\szR (a0h l.la m.lb)+szR (a0h m.la l.lb) <= 500000)/\(((a1d (a0h l.la m.lb) (a0h m.la l.lb))=(a1A l m))/\True))))=_ by kernel_rfl) ?_
 have g1:=aHT l
 have g2:=aHT m
 have g3:=@a3A l.la m.lb
 have g4:=@a3A m.la l.lb
 repeat' first | trivial | with_reducible apply And.intro | (intro _)
 all_goals first | rfl | omega | assumption | (with_reducible apply a0N; (repeat' first | exact a2c | exact a2b | exact a2a | exact a0Z _ | exact a0Q .. | exact a0r .. | exact a0k .. | exact a0I .. | exact a0m .. | exact a07 .. | exact a0o .. | apply a0u | apply a0w); done) | (unfold a1A; (repeat' first | rfl | rw [a06 (by assumption)] | rw [a05 (by assumption)]); done) | (simp_all; done)
def aLP:Ctr:=⟨413,spY (rL.c (rL.c r0)) (fun (l,m,_)=>l.sz+m.sz <= 100000) (fun (l,m,_)=>.k (.g [.R ((a1A l m))]))⟩
theorem aJx:CtrOK Tryz.prog aLP:=yOK a0F a4x Tryz.func413 fun x hp=>aD4 x.1 x.2.1 hp
def a0V (l:Lx):Rat:=a1N (a0h l.la l.la) (a0h l.lb l.lb)
theorem aGQ (l:Lx) (hp:l.sz <= 100000):owes LTD DT8 [] Tryz.f409 (bd Tryz.f409) [.g (eL l)] (.k (.g [.R ((a0V l))])):=by
 refine a0p (show ((True/\True/\szR l.la+szR l.la <= 500000)/\((True/\True/\szR l.lb+szR l.lb <= 500000)/\((True/\True/\szR (a0h l.la l.la)+szR (a0h l.lb l.lb) <= 500000)/\(((a1N (a0h l.la l.la) (a0h l.lb l.lb))=(a0V l))/\True))))=_ by kernel_rfl) ?_
 have g1:=aHT l
 have g2:=@a3A l.la l.la
 have g3:=@a3A l.lb l.lb
 repeat' first | trivial | with_reducible apply And.intro | (intro _)
 all_goals first | rfl | omega | assumption | (with_reducible apply a0N; (repeat' first | exact a2c | exact a2b | exact a2a | exact a0Z _ | exact a0Q .. | exact a0r .. | exact a0k .. | exact a0I .. | exact a0m .. | exact a07 .. | exact a0o .. | apply a0u | apply a0w); done) | (unfold a0V; (repeat' first | rfl | rw [a06 (by assumption)] | rw [a05 (by assumption)]); done) | (simp_all; done)
def aRb:Ctr:=⟨409,spY (rL.c r0) (fun (l,_)=>l.sz <= 100000) (fun (l,_)=>.k (.g [.R ((a0V l))]))⟩
theorem aNB:CtrOK Tryz.prog aRb:=yOK a0F a4x Tryz.func409 fun x hp=>aGQ x.1 hp
theorem aWe (l:Lx):szR (a0V l) <= 4*(l.sz)+10:=by
 have g1:=@aEx (a0h l.la l.la) (a0h l.lb l.lb)
 have g2:=@a3A l.la l.la
 have g3:=aHT l
 have g4:=@a3A l.lb l.lb
 unfold a0V
 repeat' split
 all_goals first | omega | (dsimp only; omega)
def a1i (l:Lx) (x:Rat) (y:Rat):Rat:=a1d (a1N (a0h l.la x) (a0h l.lb y)) l.lc
theorem aD0 (l:Lx) (x:Rat) (y:Rat) (hp:l.sz+szR x+szR y <= 100000):owes LTD DT8 [] Tryz.f411 (bd Tryz.f411) [.g (eL l),.g [.R (x)],.g [.R (y)]] (.k (.g [.R ((a1i l x y))])):=by
 refine a0p (show ((True/\True/\szR l.la+szR x <= 500000)/\((True/\True/\szR l.lb+szR y <= 500000)/\((True/\True/\szR (a0h l.la x)+szR (a0h l.lb y) <= 500000)/\((True/\True/\szR (a1N (a0h l.la x) (a0h l.lb y))+szR l.lc <= 500000)/\(((a1d (a1N (a0h l.la x) (a0h l.lb y)) l.lc)=(a1i l x y))/\True)))))=_ by kernel_rfl) ?_
 have g1:=aHT l
 have g2:=@a3A l.la x
 have g3:=@a3A l.lb y
 have g4:=@aEx (a0h l.la x) (a0h l.lb y)
 repeat' first | trivial | with_reducible apply And.intro | (intro _)
 all_goals first | rfl | omega | assumption | (with_reducible apply a0N; (repeat' first | exact a2c | exact a2b | exact a2a | exact a0Z _ | exact a0Q .. | exact a0r .. | exact a0k .. | exact a0I .. | exact a0m .. | exact a07 .. | exact a0o .. | apply a0u | apply a0w); done) | (unfold a1i; (repeat' first | rfl | rw [a06 (by assumption)] | rw [a05 (by assumption)]); done) | (simp_all; done)
def aLN:Ctr:=⟨411,spY (rL.c (rQ.c (rQ.c r0))) (fun (l,x,y,_)=>l.sz+szR x+szR y <= 100000) (fun (l,x,y,_)=>.k (.g [.R ((a1i l x y))]))⟩
theorem aJv:CtrOK Tryz.prog aLN:=yOK a0F a4x Tryz.func411 fun x hp=>aD0 x.1 x.2.1 x.2.2.1 hp
theorem aSb (l:Lx) (x:Rat) (y:Rat):szR (a1i l x y) <= (l.sz+szR x+szR y)+10:=by
 have g1:=@aEw (a1N (a0h l.la x) (a0h l.lb y)) l.lc
 have g2:=@aEx (a0h l.la x) (a0h l.lb y)
 have g3:=@a3A l.la x
 have g4:=aHT l
 have g5:=@a3A l.lb y
 unfold a1i
 repeat' split
 all_goals first | omega | (dsimp only; omega)
def a09 (k:Kx) (m:Kx):Bool:=bif ((((Rt.sg ((k.kx) - (m.kx))))) == ((0:Int))) then ((((Rt.sg ((k.ky) - (m.ky))))) == ((0:Int))) else (false)
theorem a7M (k:Kx) (m:Kx) (hp:k.sz+m.sz <= 100000):owes LTD DT8 [] Tryz.f406 (bd Tryz.f406) [.g (eK k),.g (eK m)] (.k (.c (.v (.bool ((a09 k m)))))):=by
 refine a0p (show ((True/\True/\(szR k.kx <= 1000000/\szR m.kx <= 1000000))/\(((((Rt.sg (k.kx - m.kx)) == (0:Int)) == true)=true->(True/\True/\(szR k.ky <= 1000000/\szR m.ky <= 1000000)))/\(Value.bool (bif ((Rt.sg (k.kx - m.kx)) == (0:Int)) then ((Rt.sg (k.ky - m.ky)) == (0:Int)) else false)=(.bool (a09 k m)))))=_ by kernel_rfl) ?_
 have g1:=aBW k
 have g2:=aBW m
 repeat' first | trivial | with_reducible apply And.intro | (intro _)
 all_goals first | rfl | omega | assumption | (with_reducible apply a0N; (repeat' first | exact a2c | exact a2b | exact a2a | exact a0Z _ | exact a0Q .. | exact a0r .. | exact a0k .. | exact a0I .. | exact a0m .. | exact a07 .. | exact a0o .. | apply a0u | apply a0w); done) | (unfold a09; (repeat' first | rfl | rw [a06 (by assumption)] | rw [a05 (by assumption)]); done) | (simp_all; done)
def a7N:Ctr:=⟨406,spY (rKx.c (rKx.c r0)) (fun (k,m,_)=>k.sz+m.sz <= 100000) (fun (k,m,_)=>.k (.c (.v (.bool ((a09 k m))))))⟩
theorem a9m:CtrOK Tryz.prog a7N:=yOK a0F a4x Tryz.func406 fun x hp=>a7M x.1 x.2.1 hp
def a0v (p:Px):Px:=Px.mk (-(p.a)) (-(p.b)) p.c p.d p.e
theorem aGH (p:Px) (hp:p.sz <= 10000):owes LTD DT8 [] Tryz.f327 (bd Tryz.f327) [.g (eP p)] (.k (.g (eP (a0v p)))):=by
 refine a0p (show ((True/\(szR p.a <= 5000000))/\((True/\(szR p.b <= 5000000))/\(((-p.a)=(a0v p).a)/\(((-p.b)=(a0v p).b)/\((p.c=(a0v p).c)/\((p.d=(a0v p).d)/\((p.e=(a0v p).e)/\True)))))))=_ by kernel_rfl) ?_
 have g1:=a5A p
 repeat' first | trivial | with_reducible apply And.intro | (intro _)
 all_goals first | rfl | omega | assumption | (with_reducible apply a0N; (repeat' first | exact a2c | exact a2b | exact a2a | exact a0Z _ | exact a0Q .. | exact a0r .. | exact a0k .. | exact a0I .. | exact a0m .. | exact a07 .. | exact a0o .. | apply a0u | apply a0w); done) | (unfold a0v; (repeat' first | rfl | rw [a06 (by assumption)] | rw [a05 (by assumption)]); done) | (simp_all; done)
def aQ2:Ctr:=⟨327,spY (rP.c r0) (fun (p,_)=>p.sz <= 10000) (fun (p,_)=>.k (.g (eP (a0v p))))⟩
theorem aNv:CtrOK Tryz.prog aQ2:=yOK a0F a4x Tryz.func327 fun x hp=>aGH x.1 hp
theorem aCI (p:Px):(a0v p).sz <= (p.sz):=by
 have g1:=aHS (-(p.a)) (-(p.b)) p.c p.d p.e
 have g2:=a18 p.a
 have g3:=a5A p
 have g4:=a18 p.b
 unfold a0v
 repeat' split
 all_goals first | omega | (dsimp only; omega)
def a0s (u:Ux):Ux:=Ux.mk u.arc u.l u.k (bif (u.arc) then (!(u.cw)) else (false)) u.t u.f
theorem aAR (u:Ux):owes LTD DT8 [] Tryz.f207 (bd Tryz.f207) [.g (eU u)] (.k (.g (eU (a0s u)))):=by
 refine a0p (show ((Value.bool u.arc=(.bool ((a0s u).arc)))/\(((!u.arc)=(!(a0s u).arc))/\((u.l.la=(a0s u).l.la)/\(((!u.arc)=(!(a0s u).arc))/\((u.l.lb=(a0s u).l.lb)/\(((!u.arc)=(!(a0s u).arc))/\((u.l.lc=(a0s u).l.lc)/\((u.arc=((a0s u).arc))/\((u.k.kx=(a0s u).k.kx)/\((u.arc=((a0s u).arc))/\((u.k.ky=(a0s u).k.ky)/\((u.arc=((a0s u).arc))/\((u.k.kq=(a0s u).k.kq)/\((Value.bool (bif u.arc then (!u.cw) else false)=(.bool ((a0s u).cw)))/\((u.t.a=(a0s u).f.a)/\((u.t.b=(a0s u).f.b)/\((u.t.c=(a0s u).f.c)/\((u.t.d=(a0s u).f.d)/\((u.t.e=(a0s u).f.e)/\((u.f.a=(a0s u).t.a)/\((u.f.b=(a0s u).t.b)/\((u.f.c=(a0s u).t.c)/\((u.f.d=(a0s u).t.d)/\((u.f.e=(a0s u).t.e)/\True))))))))))))))))))))))))=_ by kernel_rfl) ?_
 repeat' first | trivial | with_reducible apply And.intro | (intro _)
 all_goals first | rfl | omega | assumption | (with_reducible apply a0N; (repeat' first | exact a2c | exact a2b | exact a2a | exact a0Z _ | exact a0Q .. | exact a0r .. | exact a0k .. | exact a0I .. | exact a0m .. | exact a07 .. | exact a0o .. | apply a0u | apply a0w); done) | (unfold a0s; (repeat' first | rfl | rw [a06 (by assumption)] | rw [a05 (by assumption)]); done) | (simp_all; done)
def aCw:Ctr:=⟨207,spY (rU.c r0) (fun _=>True) (fun (u,_)=>.k (.g (eU (a0s u))))⟩
theorem aDY:CtrOK Tryz.prog aCw:=yOK a0F a4x Tryz.func207 fun x _=>aAR x.1
def a0x (k:Kx) (p:Px):Bool:=bif (decide (((a0T (a2D p) k.ky)) > ((0:Int)))) then (true) else (bif (((a0T (a2D p) k.ky)) == ((0:Int))) then (decide (((a0T (a04 p) k.kx)) > ((0:Int)))) else (false))
def aXp (p:Px) (k:Kx):=(((decide ((a0T (a2D p) k.ky) > (0:Int))) == false) && (((a0T (a2D p) k.ky) == (0:Int)) == true))
def aPO:=(True/\(True/\True))
theorem aDV (k:Kx) (p:Px) (hp:k.sz+p.sz <= 14000):owes LTD DT8 [] Tryz.f479 (bd Tryz.f479) [.g (eK k),.g (eP p)] (.k (.c (.v (.bool ((a0x k p)))))):=by
 refine a0p (show (((True/\(True/\aPO))/\True)/\((aPO/\True/\(a2D p).sz+szR k.ky <= 60000)/\(((aXp p k)=true->((True/\(True/\aPO))/\True))/\(((aXp p k)=true->(aPO/\True/\(a04 p).sz+szR k.kx <= 60000))/\(Value.bool (bif (decide ((a0T (a2D p) k.ky) > (0:Int))) then true else (bif ((a0T (a2D p) k.ky) == (0:Int)) then (decide ((a0T (a04 p) k.kx) > (0:Int))) else false))=(.bool (a0x k p)))))))=_ by kernel_rfl) ?_
 delta aPO aXp
 have g1:=aBW k
 have g2:=@aYj p
 have g3:=a2Z (a2D p)
 have g4:=a5A p
 have g5:=@aR6 p
 have g6:=a2Z (a04 p)
 repeat' first | trivial | with_reducible apply And.intro | (intro _)
 all_goals first | rfl | omega | assumption | (with_reducible apply a0N; (repeat' first | exact a2c | exact a2b | exact a2a | exact a0Z _ | exact a0Q .. | exact a0r .. | exact a0k .. | exact a0I .. | exact a0m .. | exact a07 .. | exact a0o .. | apply a0u | apply a0w); done) | (unfold a0x; (repeat' first | rfl | rw [a06 (by assumption)] | rw [a05 (by assumption)]); done) | (simp_all; done)
def aLK:Ctr:=⟨479,spY (rKx.c (rP.c r0)) (fun (k,p,_)=>k.sz+p.sz <= 14000) (fun (k,p,_)=>.k (.c (.v (.bool ((a0x k p))))))⟩
theorem aJo:CtrOK Tryz.prog aLK:=yOK a0F a4x Tryz.func479 fun x hp=>aDV x.1 x.2.1 hp
def a1c (u:Ux):Int:=(if (!(u.arc))=true then (0:Int) else (if u.cw=true then (-1:Int) else (1:Int)))
theorem aGB (u:Ux):owes LTD DT8 [] Tryz.f405 (bd Tryz.f405) [.g (eU u)] (.k (.c (.v (.int .i64 ((a1c u)))))):=by
 refine a0p (show (((!u.arc)=true->(Value.int .i64 (0:Int)=(.int .i64 (a1c u))))/\((!u.arc)=false->((u.cw=true->(Value.int .i64 (-1:Int)=(.int .i64 (a1c u))))/\(u.cw=false->(Value.int .i64 (1:Int)=(.int .i64 (a1c u)))))))=_ by kernel_rfl) ?_
 repeat' first | trivial | with_reducible apply And.intro | (intro _)
 all_goals first | rfl | omega | assumption | (with_reducible apply a0N; (repeat' first | exact a2c | exact a2b | exact a2a | exact a0Z _ | exact a0Q .. | exact a0r .. | exact a0k .. | exact a0I .. | exact a0m .. | exact a07 .. | exact a0o .. | apply a0u | apply a0w); done) | (unfold a1c; (repeat' first | rfl | rw [a06 (by assumption)] | rw [a05 (by assumption)]); done) | (simp_all; done)
def aQ0:Ctr:=⟨405,spY (rU.c r0) (fun _=>True) (fun (u,_)=>.k (.c (.v (.int .i64 ((a1c u))))))⟩
theorem aNt:CtrOK Tryz.prog aQ0:=yOK a0F a4x Tryz.func405 fun x _=>aGB x.1
theorem a1o (u:Ux):un (a1c u):=by
 unfold a1c
 repeat' split
 all_goals (repeat' first | exact a2c | exact a2b | exact a2a | exact a0Z _ | exact a0Q .. | exact a0r .. | exact a0k .. | exact a0I .. | exact a0m .. | exact a07 .. | exact a0o .. | apply a0u | apply a0w)
def a1Y (u:Ux):Bool:=bif (!(u.arc)) then ((a4F (a04 u.f) (a04 u.t))) else (false)
theorem a9g (u:Ux) (hp:u.sz <= 14000):owes LTD DT8 [] Tryz.f125 (bd Tryz.f125) [.g (eU u)] (.k (.c (.v (.bool ((a1Y u)))))):=by
 refine a0p (show ((((!u.arc) == true)=true->((True/\(True/\(True/\(True/\True))))/\True))/\((((!u.arc) == true)=true->((True/\(True/\(True/\(True/\True))))/\True))/\((((!u.arc) == true)=true->((True/\(True/\True))/\(True/\(True/\True))/\(a04 u.f).sz+(a04 u.t).sz <= 14900))/\(Value.bool (bif (!u.arc) then (a4F (a04 u.f) (a04 u.t)) else false)=(.bool (a1Y u))))))=_ by kernel_rfl) ?_
 have g1:=@aR6 u.f
 have g2:=a2Z (a04 u.f)
 have g3:=aCM u
 have g4:=@aR6 u.t
 have g5:=a2Z (a04 u.t)
 repeat' first | trivial | with_reducible apply And.intro | (intro _)
 all_goals first | rfl | omega | assumption | (with_reducible apply a0N; (repeat' first | exact a2c | exact a2b | exact a2a | exact a0Z _ | exact a0Q .. | exact a0r .. | exact a0k .. | exact a0I .. | exact a0m .. | exact a07 .. | exact a0o .. | exact a1o .. | apply a0u | apply a0w); done) | (unfold a1Y; (repeat' first | rfl | rw [a06 (by assumption)] | rw [a05 (by assumption)]); done) | (simp_all; done)
def aAN:Ctr:=⟨125,spY (rU.c r0) (fun (u,_)=>u.sz <= 14000) (fun (u,_)=>.k (.c (.v (.bool ((a1Y u))))))⟩
theorem aBA:CtrOK Tryz.prog aAN:=yOK a0F a4x Tryz.func125 fun x hp=>a9g x.1 hp
theorem aVM {u:Ux} (h:(a1c u == (0:Int))=false):u.arc=true:=by
 cases e:u.arc with
 | true=>rfl
 | false=>exfalso; unfold a1c at h; rw [e] at h; cases h
theorem aZS {u v:Ux} (k:(a1c u != a1c v)=false) (h:(a1c u == (0:Int))=false):v.arc=true:=by
 have e:a1c u=a1c v:=by simpa using k
 exact aVM (by rw [<- e]; exact h)
def DT9:List Ctr:=DT8 ++ [aG8,a8U,a6D,aAY,a7Q,aLP,aRb,aLN,a7N,aQ2,aCw,aLK,aQ0,aAN]
theorem aBi:∀ c ∈ DT9,CtrOK Tryz.prog c:=a0O a4x (a03 aG7 (a03 aAW (a03 a8A (a03 aBG (a03 a9o (a03 aJx (a03 aNB (a03 aJv (a03 a9m (a03 aNv (a03 aDY (a03 aJo (a03 aNt (a03 aBA (a2L)))))))))))))))
theorem aVd (p:Px):(a0l (a0K (a04 p)) (a0K (a2D p))).2=true:=by
 have hs:∀ r:Rx,(a0K r).rb=0 \/ (a0K r).rc=r.rc:=fun r=>by
  unfold a0K a2n a0z
  dsimp only
  split
  ·exact .inl rfl
  ·right
   unfold a0l
   split <;> rfl
 have hx:(a04 p).rb=0 \/ (a04 p).rc=p.e:=by
  unfold a04 a0H
  split
  ·exact .inl rfl
  ·exact .inr rfl
 have hy:(a2D p).rb=0 \/ (a2D p).rc=p.e:=by
  unfold a2D a0H
  split
  ·exact .inl rfl
  ·exact .inr rfl
 have sq0:∀ r:Rx,r.rb=0->(a0K r).rb=0:=fun r h=>by
  unfold a0K a2n a0z
  dsimp only
  split
  ·rfl
  ·rename_i h1
   exfalso
   apply h1
   have:r.ra*r.rb+r.rb*r.ra=0:=by rw [h]; grind
   rw [this]
   rfl
 have z:∀ q:Rat,q=0->(Rt.sg q == (0:Int))=true:=fun q h=>by rw [h]; rfl
 generalize hX:a0K (a04 p)=x
 generalize hY:a0K (a2D p)=y
 have kx:x.rb=0 \/ x.rc=p.e:=by
  rcases hx with h | h
  ·exact .inl (by rw [<- hX]; exact sq0 _ h)
  ·rw [<- hX,<- h]; exact hs _
 have ky:y.rb=0 \/ y.rc=p.e:=by
  rcases hy with h | h
  ·exact .inl (by rw [<- hY]; exact sq0 _ h)
  ·rw [<- hY,<- h]; exact hs _
 unfold a0l
 split
 ·rfl
 ·rename_i h1
  have hb:x.rb ≠ 0:=fun h=>h1 (z _ h)
  have hc:=kx.resolve_left hb
  dsimp only
  rcases ky with h | h
  ·rw [z _ h]; rfl
  ·have e:x.rc - y.rc=0:=by rw [hc,h]; grind
   rw [z _ e]
   cases (Rt.sg y.rb == (0:Int)) <;> rfl
def a1x (p:Px) (v:Vx):Rx:=(a3b (a0K (a04 (a0e p (a0R v)))) (a0K (a2D (a0e p (a0R v))))).1
def aFO:=(True/\(True/\True))
def aTi (p:Px) (v:Vx):=(a3b (a0K (a04 (a0e p (a0R v)))) (a0K (a2D (a0e p (a0R v)))))
theorem aBK (p:Px) (v:Vx) (hp:p.sz+v.sz <= 3000):owes LTD DT9 [] Tryz.f399 (bd Tryz.f399) [.g (eP p),.g (eV v)] (.k (.g (eR (a1x p v)))):=by
 refine a0p (show (((True/\True)/\v.sz <= 200000)/\(((True/\(True/\aFO))/\(True/\True)/\p.sz+(a0R v).sz <= 200000)/\(((True/\(True/\aFO))/\True)/\((aFO/\(a04 (a0e p (a0R v))).sz <= 25000)/\(((True/\(True/\aFO))/\True)/\((aFO/\(a2D (a0e p (a0R v))).sz <= 25000)/\((aFO/\aFO/\(a0l (a0K (a04 (a0e p (a0R v)))) (a0K (a2D (a0e p (a0R v))))).2=true/\(a0K (a04 (a0e p (a0R v)))).sz+(a0K (a2D (a0e p (a0R v)))).sz <= 60000)/\(((aTi p v).1.ra=(a1x p v).ra)/\(((aTi p v).1.rb=(a1x p v).rb)/\(((aTi p v).1.rc=(a1x p v).rc)/\True))))))))))=_ by kernel_rfl) ?_
 delta aTi aFO
 have hc:=aVd (a0e p (a0R v))
 have g1:=aSm v
 have g2:=a5A p
 have g3:=@aN3 v
 have g4:=aSm (a0R v)
 have g5:=@aR6 (a0e p (a0R v))
 have g6:=a2Z (a04 (a0e p (a0R v)))
 have g7:=@a8I p (a0R v)
 have g8:=a5A (a0e p (a0R v))
 have g9:=@aYj (a0e p (a0R v))
 have g10:=a2Z (a2D (a0e p (a0R v)))
 have g11:=@a6Y (a04 (a0e p (a0R v)))
 have g12:=a2Z (a0K (a04 (a0e p (a0R v))))
 have g13:=@a6Y (a2D (a0e p (a0R v)))
 have g14:=a2Z (a0K (a2D (a0e p (a0R v))))
 repeat' first | trivial | with_reducible apply And.intro | (intro _)
 all_goals first | rfl | omega | assumption | (with_reducible apply a0N; (repeat' first | exact a2c | exact a2b | exact a2a | exact a0Z _ | exact a0Q .. | exact a0r .. | exact a0k .. | exact a0I .. | exact a0m .. | exact a07 .. | exact a0o .. | exact a1o .. | apply a0u | apply a0w); done) | (unfold a1x; (repeat' first | rfl | rw [a06 (by assumption)] | rw [a05 (by assumption)]); done) | (simp_all; done)
def aGW:Ctr:=⟨399,spY (rP.c (rV.c r0)) (fun (p,v,_)=>p.sz+v.sz <= 3000) (fun (p,v,_)=>.k (.g (eR (a1x p v))))⟩
theorem aGV:CtrOK Tryz.prog aGW:=yOK a0F aBi Tryz.func399 fun x hp=>aBK x.1 x.2.1 hp
theorem aEy (p:Px) (v:Vx):(a1x p v).sz <= 32*(p.sz+v.sz)+700:=by
 have g1:=@aWh (a0K (a04 (a0e p (a0R v)))) (a0K (a2D (a0e p (a0R v))))
 have g2:=a2Z (a3b (a0K (a04 (a0e p (a0R v)))) (a0K (a2D (a0e p (a0R v))))).1
 have g3:=@a6Y (a04 (a0e p (a0R v)))
 have g4:=a2Z (a0K (a04 (a0e p (a0R v))))
 have g5:=@aR6 (a0e p (a0R v))
 have g6:=a2Z (a04 (a0e p (a0R v)))
 have g7:=@a8I p (a0R v)
 have g8:=a5A (a0e p (a0R v))
 have g9:=a5A p
 have g10:=@aN3 v
 have g11:=aSm (a0R v)
 have g12:=aSm v
 have g13:=@a6Y (a2D (a0e p (a0R v)))
 have g14:=a2Z (a0K (a2D (a0e p (a0R v))))
 have g15:=@aYj (a0e p (a0R v))
 have g16:=a2Z (a2D (a0e p (a0R v)))
 unfold a1x
 repeat' split
 all_goals first | omega | (dsimp only; omega)
def a1U (l:Lx) (k:Kx):Rat:=a1d (a0h (a0V l) k.kq) (a0h (a1i l k.kx k.ky) (a1i l k.kx k.ky))
theorem aGP (l:Lx) (k:Kx) (hp:l.sz+k.sz <= 1000):owes LTD DT9 [] Tryz.f408 (bd Tryz.f408) [.g (eL l),.g (eK k)] (.k (.g [.R ((a1U l k))])):=by
 refine a0p (show (((True/\(True/\True))/\True/\True/\l.sz+szR k.kx+szR k.ky <= 100000)/\(((True/\(True/\True))/\l.sz <= 100000)/\((True/\True/\szR (a0V l)+szR k.kq <= 500000)/\((True/\True/\szR (a1i l k.kx k.ky)+szR (a1i l k.kx k.ky) <= 500000)/\((True/\True/\szR (a0h (a0V l) k.kq)+szR (a0h (a1i l k.kx k.ky) (a1i l k.kx k.ky)) <= 500000)/\(((a1d (a0h (a0V l) k.kq) (a0h (a1i l k.kx k.ky) (a1i l k.kx k.ky)))=(a1U l k))/\True))))))=_ by kernel_rfl) ?_
 have g1:=aBW k
 have g2:=aHT l
 have g3:=@aWe l
 have g4:=@aSb l k.kx k.ky
 have g5:=@a3A (a0V l) k.kq
 have g6:=@a3A (a1i l k.kx k.ky) (a1i l k.kx k.ky)
 repeat' first | trivial | with_reducible apply And.intro | (intro _)
 all_goals first | rfl | omega | assumption | (with_reducible apply a0N; (repeat' first | exact a2c | exact a2b | exact a2a | exact a0Z _ | exact a0Q .. | exact a0r .. | exact a0k .. | exact a0I .. | exact a0m .. | exact a07 .. | exact a0o .. | exact a1o .. | apply a0u | apply a0w); done) | (unfold a1U; (repeat' first | rfl | rw [a06 (by assumption)] | rw [a05 (by assumption)]); done) | (simp_all; done)
def aRa:Ctr:=⟨408,spY (rL.c (rKx.c r0)) (fun (l,k,_)=>l.sz+k.sz <= 1000) (fun (l,k,_)=>.k (.g [.R ((a1U l k))]))⟩
theorem aNA:CtrOK Tryz.prog aRa:=yOK a0F aBi Tryz.func408 fun x hp=>aGP x.1 x.2.1 hp
def a1z (k:Kx) (m:Kx):Lx × Int:=((Lx.mk (a0h ((((2:Int)):Rat)) (a1d m.kx k.kx)) (a0h ((((2:Int)):Rat)) (a1d m.ky k.ky)) (a1d (a1d (a1N (a0h m.kx m.kx) (a0h m.ky m.ky)) m.kq) (a1d (a1N (a0h k.kx k.kx) (a0h k.ky k.ky)) k.kq))),((0:Int)))
theorem aAT (k:Kx) (m:Kx) (hp:a09 k m=false/\k.sz+m.sz <= 1000):owes LTD DT9 [] Tryz.f407 (bd Tryz.f407) [.g (eK k),.g (eK m)] (.t [.g (eL (a1z k m).1),.c (.v (.int .i64 ((a1z k m).2)))]):=by
 refine a0p (show (((True/\(True/\True))/\(True/\(True/\True))/\k.sz+m.sz <= 100000)/\(((a09 k m)=true->(False/\((Value.int .i64 (6:Int)=(.int .i64 ((a1z k m).2)))/\True)))/\((a09 k m)=false->((-9223372036854775808 <= (2:Int)/\(2:Int) <= 9223372036854775807)/\((True/\True/\szR k.kx+szR k.kx <= 500000)/\((True/\True/\szR k.ky+szR k.ky <= 500000)/\((True/\True/\szR (a0h k.kx k.kx)+szR (a0h k.ky k.ky) <= 500000)/\((True/\True/\szR (a1N (a0h k.kx k.kx) (a0h k.ky k.ky))+szR k.kq <= 500000)/\((True/\True/\szR m.kx+szR m.kx <= 500000)/\((True/\True/\szR m.ky+szR m.ky <= 500000)/\((True/\True/\szR (a0h m.kx m.kx)+szR (a0h m.ky m.ky) <= 500000)/\((True/\True/\szR (a1N (a0h m.kx m.kx) (a0h m.ky m.ky))+szR m.kq <= 500000)/\((True/\True/\szR m.kx+szR k.kx <= 500000)/\((True/\True/\szR ((2:Int):Rat)+szR (a1d m.kx k.kx) <= 500000)/\((True/\True/\szR m.ky+szR k.ky <= 500000)/\((True/\True/\szR ((2:Int):Rat)+szR (a1d m.ky k.ky) <= 500000)/\((True/\True/\szR (a1d (a1N (a0h m.kx m.kx) (a0h m.ky m.ky)) m.kq)+szR (a1d (a1N (a0h k.kx k.kx) (a0h k.ky k.ky)) k.kq) <= 500000)/\((((a0h ((2:Int):Rat) (a1d m.kx k.kx))=(a1z k m).1.la)/\(((a0h ((2:Int):Rat) (a1d m.ky k.ky))=(a1z k m).1.lb)/\(((a1d (a1d (a1N (a0h m.kx m.kx) (a0h m.ky m.ky)) m.kq) (a1d (a1N (a0h k.kx k.kx) (a0h k.ky k.ky)) k.kq))=(a1z k m).1.lc)/\True)))/\((Value.int .i64 (0:Int)=(.int .i64 ((a1z k m).2)))/\True)))))))))))))))))))=_ by kernel_rfl) ?_
 obtain ⟨hp0,hp1⟩:=hp
 have g1:=aBW k
 have g2:=aBW m
 have g3:=@a3A k.kx k.kx
 have g4:=@a3A k.ky k.ky
 have g5:=@aEx (a0h k.kx k.kx) (a0h k.ky k.ky)
 have g6:=@a3A m.kx m.kx
 have g7:=@a3A m.ky m.ky
 have g8:=@aEx (a0h m.kx m.kx) (a0h m.ky m.ky)
 have g9:=(a3h (n:=2) (by decide))
 have g10:=@aEw m.kx k.kx
 have g11:=@aEw m.ky k.ky
 have g12:=@aEw (a1N (a0h m.kx m.kx) (a0h m.ky m.ky)) m.kq
 have g13:=@aEw (a1N (a0h k.kx k.kx) (a0h k.ky k.ky)) k.kq
 repeat' first | trivial | with_reducible apply And.intro | (intro _)
 all_goals first | rfl | omega | assumption | (with_reducible apply a0N; (repeat' first | exact a2c | exact a2b | exact a2a | exact a0Z _ | exact a0Q .. | exact a0r .. | exact a0k .. | exact a0I .. | exact a0m .. | exact a07 .. | exact a0o .. | exact a1o .. | apply a0u | apply a0w); done) | (exfalso; rename_i hx; simp [hp0] at hx; done) | (unfold a1z; (repeat' first | rfl | rw [a06 (by assumption)] | rw [a05 (by assumption)]); done) | (simp_all; done)
def aCx:Ctr:=⟨407,spY (rKx.c (rKx.c r0)) (fun (k,m,_)=>a09 k m=false/\k.sz+m.sz <= 1000) (fun (k,m,_)=>.t [.g (eL (a1z k m).1),.c (.v (.int .i64 ((a1z k m).2)))])⟩
theorem aD2:CtrOK Tryz.prog aCx:=yOK a0F aBi Tryz.func407 fun x hp=>aAT x.1 x.2.1 hp
def a0i (u:Ux) (v:Ux):Bool:=(if ((u.arc) != (v.arc))=true then false else (if u.arc=true then a2x u.k v.k else a2w u.l v.l))
theorem a6S (u:Ux) (v:Ux) (hp:u.sz+v.sz <= 100000):owes LTD DT9 [] Tryz.f116 (bd Tryz.f116) [.g (eU u),.g (eU v)] (.k (.c (.v (.bool ((a0i u v)))))):=by
 refine a0p (show (((u.arc != v.arc)=true->(Value.bool false=(.bool (a0i u v))))/\((u.arc != v.arc)=false->((u.arc=true->((((u.arc=true)/\((u.arc=true)/\(u.arc=true)))/\((v.arc=true)/\((v.arc=true)/\(v.arc=true)))/\u.k.sz+v.k.sz <= 100000)/\(Value.bool (a2x u.k v.k)=(.bool (a0i u v)))))/\(u.arc=false->(((((!u.arc)=true)/\(((!u.arc)=true)/\((!u.arc)=true)))/\(((!v.arc)=true)/\(((!v.arc)=true)/\((!v.arc)=true)))/\u.l.sz+v.l.sz <= 100000)/\(Value.bool (a2w u.l v.l)=(.bool (a0i u v))))))))=_ by kernel_rfl) ?_
 have g1:=aCM u
 have g2:=aCM v
 repeat' first | trivial | with_reducible apply And.intro | (intro _)
 all_goals first | rfl | omega | assumption | (with_reducible apply a0N; (repeat' first | exact a2c | exact a2b | exact a2a | exact a0Z _ | exact a0Q .. | exact a0r .. | exact a0k .. | exact a0I .. | exact a0m .. | exact a07 .. | exact a0o .. | exact a1o .. | apply a0u | apply a0w); done) | (unfold a0i; (repeat' first | rfl | rw [a06 (by assumption)] | rw [a05 (by assumption)]); done) | (simp_all; done)
def a6C:Ctr:=⟨116,spY (rU.c (rU.c r0)) (fun (u,v,_)=>u.sz+v.sz <= 100000) (fun (u,v,_)=>.k (.c (.v (.bool ((a0i u v))))))⟩
theorem a8y:CtrOK Tryz.prog a6C:=yOK a0F aBi Tryz.func116 fun x hp=>a6S x.1 x.2.1 hp
def a0M (k:Kx) (p:Px) (q:Px):Int:=(if (((a0x k p)) != ((a0x k q)))=true then (if (a0x k q)=true then (-1:Int) else (1:Int)) else (if (a0x k p)=true then ((0:Int)) - ((a0S (a04 p) (a04 q))) else a0S (a04 p) (a04 q)))
def aMD:=(True/\(True/\True))
def aPN:=(True/\(True/\aMD))
theorem aDT (k:Kx) (p:Px) (q:Px) (hp:k.sz+p.sz+q.sz <= 13900):owes LTD DT9 [] Tryz.f414 (bd Tryz.f414) [.g (eK k),.g (eP p),.g (eP q)] (.k (.c (.v (.int .i64 ((a0M k p q)))))):=by
 refine a0p (show ((aMD/\aPN/\k.sz+p.sz <= 14000)/\((aMD/\aPN/\k.sz+q.sz <= 14000)/\((((a0x k p) != (a0x k q))=true->(((a0x k q)=true->(Value.int .i64 (-1:Int)=(.int .i64 (a0M k p q))))/\((a0x k q)=false->(Value.int .i64 (1:Int)=(.int .i64 (a0M k p q))))))/\(((a0x k p) != (a0x k q))=false->((aPN/\True)/\((aPN/\True)/\((aMD/\aMD/\(a04 p).sz+(a04 q).sz <= 14900)/\(((a0x k p)=true->((inR .i64 ((0:Int) - (a0S (a04 p) (a04 q))))/\(Value.int .i64 ((0:Int) - (a0S (a04 p) (a04 q)))=(.int .i64 (a0M k p q)))))/\((a0x k p)=false->(Value.int .i64 (a0S (a04 p) (a04 q))=(.int .i64 (a0M k p q))))))))))))=_ by kernel_rfl) ?_
 delta aPN aMD
 have g1:=aBW k
 have g2:=a5A p
 have g3:=a5A q
 have g4:=@aR6 p
 have g5:=a2Z (a04 p)
 have g6:=@aR6 q
 have g7:=a2Z (a04 q)
 repeat' first | trivial | with_reducible apply And.intro | (intro _)
 all_goals first | rfl | omega | assumption | (with_reducible apply a0N; (repeat' first | exact a2c | exact a2b | exact a2a | exact a0Z _ | exact a0Q .. | exact a0r .. | exact a0k .. | exact a0I .. | exact a0m .. | exact a07 .. | exact a0o .. | exact a1o .. | apply a0u | apply a0w); done) | (unfold a0M; (repeat' first | rfl | rw [a06 (by assumption)] | rw [a05 (by assumption)]); done) | (simp_all; done)
def aLI:Ctr:=⟨414,spY (rKx.c (rP.c (rP.c r0))) (fun (k,p,q,_)=>k.sz+p.sz+q.sz <= 13900) (fun (k,p,q,_)=>.k (.c (.v (.int .i64 ((a0M k p q))))))⟩
theorem aJm:CtrOK Tryz.prog aLI:=yOK a0F aBi Tryz.func414 fun x hp=>aDT x.1 x.2.1 x.2.2.1 hp
theorem a1r (k:Kx) (p:Px) (q:Px):un (a0M k p q):=by
 unfold a0M
 repeat' split
 all_goals (repeat' first | exact a2c | exact a2b | exact a2a | exact a0Z _ | exact a0Q .. | exact a0r .. | exact a0k .. | exact a0I .. | exact a0m .. | exact a07 .. | exact a0o .. | exact a1o .. | apply a0u | apply a0w)
def a3T (u:Ux) (v:Ux):Int:=(if (((a1c u)) != ((a1c v)))=true then (if (decide (((a1c u)) < ((a1c v))))=true then (-1:Int) else (1:Int)) else (if (((a1c u)) == ((0:Int)))=true then (0:Int) else ((((0:Int)) - ((a1c u))))*(((Rt.sg ((u.k.kq) - (v.k.kq)))))))
def aXo (p_:Ux):=(((((!p_.arc)=(!p_.arc))/\(((!p_.arc)=(!p_.arc))/\((!p_.arc)=(!p_.arc))))/\(((p_.arc=p_.arc)/\((p_.arc=p_.arc)/\(p_.arc=p_.arc)))/\((True/\(True/\(True/\(True/\True))))/\(True/\(True/\(True/\(True/\True)))))))/\True)
theorem aGC (u:Ux) (v:Ux) (hp:u.sz+v.sz <= 100000):owes LTD DT9 [] Tryz.f320 (bd Tryz.f320) [.g (eU u),.g (eU v)] (.k (.c (.v (.int .i64 ((a3T u v)))))):=by
 refine a0p (show ((aXo u)/\((aXo v)/\((((a1c u) != (a1c v))=true->(((decide ((a1c u) < (a1c v)))=true->(Value.int .i64 (-1:Int)=(.int .i64 (a3T u v))))/\((decide ((a1c u) < (a1c v)))=false->(Value.int .i64 (1:Int)=(.int .i64 (a3T u v))))))/\(((a1c u) != (a1c v))=false->((((a1c u) == (0:Int))=true->(Value.int .i64 (0:Int)=(.int .i64 (a3T u v))))/\(((a1c u) == (0:Int))=false->((inR .i64 ((0:Int) - (a1c u)))/\(((u.arc=true)/\(v.arc=true)/\(szR u.k.kq <= 1000000/\szR v.k.kq <= 1000000))/\((inR .i64 (((0:Int) - (a1c u))*(Rt.sg (u.k.kq - v.k.kq))))/\(Value.int .i64 (((0:Int) - (a1c u))*(Rt.sg (u.k.kq - v.k.kq)))=(.int .i64 (a3T u v))))))))))))=_ by kernel_rfl) ?_
 delta aXo
 have g1:=aCM u
 have g2:=aBW u.k
 have g3:=aCM v
 have g4:=aBW v.k
 repeat' first | trivial | with_reducible apply And.intro | (intro _)
 all_goals first | rfl | omega | assumption | (with_reducible apply a0N; (repeat' first | exact a2c | exact a2b | exact a2a | exact a0Z _ | exact a0Q .. | exact a0r .. | exact a0k .. | exact a0I .. | exact a0m .. | exact a07 .. | exact a0o .. | exact a1o .. | exact a1r .. | apply a0u | apply a0w); done) | (exact aVM (by assumption)) | (exact aZS (by assumption) (by assumption)) | (unfold a3T; (repeat' first | rfl | rw [a06 (by assumption)] | rw [a05 (by assumption)]); done) | (simp_all; done)
def aQ1:Ctr:=⟨320,spY (rU.c (rU.c r0)) (fun (u,v,_)=>u.sz+v.sz <= 100000) (fun (u,v,_)=>.k (.c (.v (.int .i64 ((a3T u v))))))⟩
theorem aNu:CtrOK Tryz.prog aQ1:=yOK a0F aBi Tryz.func320 fun x hp=>aGC x.1 x.2.1 hp
theorem a1X (u:Ux) (v:Ux):un (a3T u v):=by
 unfold a3T
 repeat' split
 all_goals (repeat' first | exact a2c | exact a2b | exact a2a | exact a0Z _ | exact a0Q .. | exact a0r .. | exact a0k .. | exact a0I .. | exact a0m .. | exact a07 .. | exact a0o .. | exact a1o .. | exact a1r .. | apply a0u | apply a0w)
def aYx:List Ctr:=DT9 ++ [aGW,aRa,aCx,a6C,aLI,aQ1]
theorem aJ4:∀ c ∈ aYx,CtrOK Tryz.prog c:=a0O aBi (a03 aGV (a03 aNA (a03 aD2 (a03 a8y (a03 aJm (a03 aNu (a2L)))))))
def a0U (k:Kx) (f:Px) (p:Px) (q:Px):Int:=(if ((decide (((a0M k p f)) < ((0:Int)))) != (decide (((a0M k q f)) < ((0:Int)))))=true then (if (decide (((a0M k q f)) < ((0:Int))))=true then (-1:Int) else (1:Int)) else a0M k p q)
def aPM:=(True/\(True/\True))
def aIB:=(True/\(True/\aPM))
theorem aDS (k:Kx) (f:Px) (p:Px) (q:Px) (hp:k.sz+f.sz+p.sz+q.sz <= 13800):owes LTD aYx [] Tryz.f325 (bd Tryz.f325) [.g (eK k),.g (eP f),.g (eP p),.g (eP q)] (.k (.c (.v (.int .i64 ((a0U k f p q)))))):=by
 refine a0p (show ((aPM/\aIB/\aIB/\k.sz+p.sz+f.sz <= 13900)/\((aPM/\aIB/\aIB/\k.sz+q.sz+f.sz <= 13900)/\((((decide ((a0M k p f) < (0:Int))) != (decide ((a0M k q f) < (0:Int))))=true->(((decide ((a0M k q f) < (0:Int)))=true->(Value.int .i64 (-1:Int)=(.int .i64 (a0U k f p q))))/\((decide ((a0M k q f) < (0:Int)))=false->(Value.int .i64 (1:Int)=(.int .i64 (a0U k f p q))))))/\(((decide ((a0M k p f) < (0:Int))) != (decide ((a0M k q f) < (0:Int))))=false->((aPM/\aIB/\aIB/\k.sz+p.sz+q.sz <= 13900)/\(Value.int .i64 (a0M k p q)=(.int .i64 (a0U k f p q))))))))=_ by kernel_rfl) ?_
 delta aIB aPM
 have g1:=aBW k
 have g2:=a5A p
 have g3:=a5A f
 have g4:=a5A q
 repeat' first | trivial | with_reducible apply And.intro | (intro _)
 all_goals first | rfl | omega | assumption | (with_reducible apply a0N; (repeat' first | exact a2c | exact a2b | exact a2a | exact a0Z _ | exact a0Q .. | exact a0r .. | exact a0k .. | exact a0I .. | exact a0m .. | exact a07 .. | exact a0o .. | exact a1o .. | exact a1r .. | exact a1X .. | apply a0u | apply a0w); done) | (unfold a0U; (repeat' first | rfl | rw [a06 (by assumption)] | rw [a05 (by assumption)]); done) | (simp_all; done)
def aLH:Ctr:=⟨325,spY (rKx.c (rP.c (rP.c (rP.c r0)))) (fun (k,f,p,q,_)=>k.sz+f.sz+p.sz+q.sz <= 13800) (fun (k,f,p,q,_)=>.k (.c (.v (.int .i64 ((a0U k f p q))))))⟩
theorem aJl:CtrOK Tryz.prog aLH:=yOK a0F aJ4 Tryz.func325 fun x hp=>aDS x.1 x.2.1 x.2.2.1 x.2.2.2.1 hp
theorem a1G (k:Kx) (f:Px) (p:Px) (q:Px):un (a0U k f p q):=by
 unfold a0U
 repeat' split
 all_goals (repeat' first | exact a2c | exact a2b | exact a2a | exact a0Z _ | exact a0Q .. | exact a0r .. | exact a0k .. | exact a0I .. | exact a0m .. | exact a07 .. | exact a0o .. | exact a1o .. | exact a1r .. | exact a1X .. | apply a0u | apply a0w)
def a5o (u:Ux) (v:Ux):Bool:=bif (bif (bif ((a0i u v)) then ((u.cw) == (v.cw)) else (false)) then ((a0G u.f v.f)) else (false)) then ((a0G u.t v.t)) else (false)
def aIA:=(True/\(True/\(True/\(True/\True))))
def aXn (p_:Ux):=((((!p_.arc)=(!p_.arc))/\(((!p_.arc)=(!p_.arc))/\((!p_.arc)=(!p_.arc))))/\(((p_.arc=p_.arc)/\((p_.arc=p_.arc)/\(p_.arc=p_.arc)))/\(aIA/\aIA)))
theorem aDZ (u:Ux) (v:Ux) (hp:u.sz+v.sz <= 14000):owes LTD aYx [] Tryz.f117 (bd Tryz.f117) [.g (eU u),.g (eU v)] (.k (.c (.v (.bool ((a5o u v)))))):=by
 refine a0p (show (((aXn u)/\(aXn v)/\u.sz+v.sz <= 100000)/\((((bif (a0i u v) then (u.cw == v.cw) else false) == true)=true->(aIA/\aIA/\u.f.sz+v.f.sz <= 14500))/\((((bif (bif (a0i u v) then (u.cw == v.cw) else false) then (a0G u.f v.f) else false) == true)=true->(aIA/\aIA/\u.t.sz+v.t.sz <= 14500))/\(Value.bool (bif (bif (bif (a0i u v) then (u.cw == v.cw) else false) then (a0G u.f v.f) else false) then (a0G u.t v.t) else false)=(.bool (a5o u v))))))=_ by kernel_rfl) ?_
 delta aXn aIA
 have g1:=aCM u
 have g2:=aCM v
 repeat' first | trivial | with_reducible apply And.intro | (intro _)
 all_goals first | rfl | omega | assumption | (with_reducible apply a0N; (repeat' first | exact a2c | exact a2b | exact a2a | exact a0Z _ | exact a0Q .. | exact a0r .. | exact a0k .. | exact a0I .. | exact a0m .. | exact a07 .. | exact a0o .. | exact a1o .. | exact a1r .. | exact a1X .. | exact a1G .. | apply a0u | apply a0w); done) | (unfold a5o; (repeat' first | rfl | rw [a06 (by assumption)] | rw [a05 (by assumption)]); done) | (simp_all; done)
def aLM:Ctr:=⟨117,spY (rU.c (rU.c r0)) (fun (u,v,_)=>u.sz+v.sz <= 14000) (fun (u,v,_)=>.k (.c (.v (.bool ((a5o u v))))))⟩
theorem aJq:CtrOK Tryz.prog aLM:=yOK a0F aJ4 Tryz.func117 fun x hp=>aDZ x.1 x.2.1 hp
def b0a:List Ctr:=aYx ++ [aLH,aLM]
theorem aEp:∀ c ∈ b0a,CtrOK Tryz.prog c:=a0O aJ4 (a03 aJl (a03 aJq (a2L)))
end Vc
end Go.Proofs.YtbohkigffejhoaaGreat
namespace Go.Proofs.YtbohkigffejhoaaGreat
open Go.RowKit
set_option maxHeartbeats 4000000
namespace Vc
attribute [local irreducible] owes
def ET0:List Ctr:=b1g :: b0a
theorem aV3:∀ c ∈ ET0,CtrOK Tryz.prog c:=by
 intro c hc
 rcases List.mem_cons.1 hc with rfl | h
 ·exact aXV
 ·exact aEp c h
theorem aOx (k:Nat):List.replicate k 0 ++ [1]=Lb.limbs ((Lb.B ^ k:Nat):Int).natAbs:=by
 rw [Int.natAbs_natCast,<- aWj k,<- Lb.a4k (aYS k)]
 exact (Lb.a4W (by simp)).symm
def aVp:Ctr:=⟨397,spY (gI.c r0) (fun (z,_)=>0 <= z/\szI z <= 2000000) (fun (z,_)=>.t [.g [.I (((isq z.toNat:Nat):Int))],.c (.v (.int .i64 ((0:Int))))])⟩
def aPL:=(Value.int .i64 (0:Int)=(.int .i64 (0:Int)))
def aXm (z:Int):=((Value.bool false=.bool (decide (((isq z.toNat:Nat):Int) < 0)))/\((([]:List Nat)=Lb.limbs ((isq z.toNat:Nat):Int).natAbs)/\True))
def aMC (z:Int):=((Lb.limbs z.natAbs).length:Int)
def aIz (z:Int):=(((aMC z)+(1:Int)) / (2:Int))
def aXl:=((Value.bool false=(.bool false))/\((([]:List Nat)=([]:List Nat))/\True))
def aPK (x1:Int) (z:Int):=((x1+(z / x1)) / (2:Int))
theorem aI6 (z:Int) (hp:0 <= z/\szI z <= 2000000):owes LTD ET0 [.inv 7 (Int) (fun ξ=>⟨[.u,.k (.c (.bx 0 0)),.k (.c (.bx 1 0)),.k (.c (.v (.int .i64 ((0:Int))))),.k (.c (.bx 2 0)),.k (.c (.bx 3 0)),.u,.u,.u,.u,.u,.u,.u,.u,.u,.u,.u,.u,.u,.u,.u,.u,.u,.u,.u,.u,.u,.u,.u,.u,.u,.u,.u,.u,.u,.u,.u,.u,.u,.u,.u,.u,.u,.u,.u,.u,.u,.u,.u,.u,.u,.u],[⟨33,[.I (z)]⟩,⟨33,[.v (.bool (false)),.sl (([]:List Nat))]⟩,⟨33,[.I (ξ)]⟩,⟨33,[.I ((2:Int))]⟩]⟩) (fun _ ξ=>(1 <= ξ/\z < (ξ+1)*(ξ+1)/\szI ξ <= szI z+1)) (fun ξ=>(ξ).toNat)] Tryz.f397 (bd Tryz.f397) [.g [.I (z)]] (.t [.g [.I (((isq z.toNat:Nat):Int))],.c (.v (.int .i64 ((0:Int))))]):=by
 refine Eq.mp (show (((decide (z < 0))=true->((aXm z)/\((Value.int .i64 (7:Int)=(.int .i64 (0:Int)))/\True)))/\((decide (z < 0))=false->((((aMC z) == (0:Int))=true->((aXm z)/\(aPL/\True)))/\(((aMC z) == (0:Int))=false->((inR .i64 ((aMC z)+(1:Int)))/\(((0 <= (aMC z)+(1:Int)/\0 < (2:Int))/\inR .i64 (aIz z))/\(((aIz z)=(aIz z)/\0 <= (aIz z)/\(aIz z) <= 1000000)/\((∀ z ∈ ([(1:Int)]:List Int),0 <= z)/\((-9223372036854775808 <= (2:Int)/\(2:Int) <= 9223372036854775807)/\((∃ x1:Int,((1 <= x1/\z < (x1+1)*(x1+1)/\szI x1 <= szI z+1)/\((True/\(True/\(aPL/\(True/\(True/\True)))))/\(((z=z)/\True)/\(aXl/\(((Value.bool false=.bool (decide (x1 < 0)))/\(((List.replicate (aIz z).toNat 0 ++ [((1:Int):Int).toNat])=Lb.limbs x1.natAbs)/\True))/\((((2:Int)=(2:Int))/\True)/\True)))))))/\(∀ x1:Int,((1 <= x1/\z < (x1+1)*(x1+1)/\szI x1 <= szI z+1)->(((0 <= z/\0 < x1)/\(szI z <= 5000000/\szI x1 <= 5000000))/\((szI x1 <= 10000000/\szI (z / x1) <= 10000000)/\(((0 <= (x1+(z / x1))/\0 < (2:Int))/\(szI (x1+(z / x1)) <= 5000000/\szI (2:Int) <= 5000000))/\((szI (aPK x1 z) <= 10000000/\szI x1 <= 10000000)/\(((decide ((((aPK x1 z) - x1).sign) >= (0:Int)))=true->(((x1=((isq z.toNat:Nat):Int))/\True)/\(aPL/\True)))/\((decide ((((aPK x1 z) - x1).sign) >= (0:Int)))=false->(∃ y1:Int,((1 <= y1/\z < (y1+1)*(y1+1)/\szI y1 <= szI z+1)/\((y1.toNat < x1.toNat)/\((True/\(True/\(aPL/\(True/\(True/\True)))))/\(((z=z)/\True)/\(aXl/\((((aPK x1 z)=y1)/\True)/\((((2:Int)=(2:Int))/\True)/\True))))))))))))))))))))))))))=_ by kernel_rfl) ?_
 delta aPK aXl aIz aMC aXm aPL
 obtain ⟨hz,hsz⟩:=hp
 refine ⟨fun h=>?_,fun _=>⟨fun h=>?_,fun h=>?_⟩⟩
 ·exfalso
  have:=of_decide_eq_true h
  omega
 ·have h0:(Lb.limbs z.natAbs).length=0:=by have:=beq_iff_eq.1 h; omega
  have hz0:z=0:=by
   rcases Nat.eq_zero_or_pos z.natAbs with e | e
   ·omega
   ·rw [Lb.a2q (by omega)] at h0
    simp at h0
  subst hz0
  exact ⟨⟨by simp [isq],by simp [isq,Lb.a1b],trivial⟩,rfl,trivial⟩
 ·have hn0:(Lb.limbs z.natAbs).length ≠ 0:=fun e=>by rw [e] at h; simp at h
  have hlt:=Lb.a01 z.natAbs
  have hz1:1 <= z:=by
   rcases Int.lt_or_le 0 z with e | e
   ·omega
   ·exfalso
    have:z=0:=by omega
    subst this
    rw [show (0:Int).natAbs=0 from rfl,Lb.a1b] at hn0
    exact hn0 rfl
  have hsn:szI z=(Lb.limbs z.natAbs).length:=rfl
  generalize hn:(Lb.limbs z.natAbs).length=n at *
  have ek:(((n:Int)+1) / 2).toNat=(n+1) / 2:=by omega
  have e1:((1:Int):Int).toNat=1:=rfl
  rw [ek,e1]
  generalize hk:(n+1) / 2=k at *
  have hBp:0 < Lb.B ^ k:=Nat.pow_pos Lb.a3r
  have hzB:z < (Lb.B ^ k:Nat)*(Lb.B ^ k:Nat):=by
   have h1:Lb.B ^ n <= Lb.B ^ (k+k):=Nat.pow_le_pow_right Lb.a3r (by omega)
   rw [Nat.pow_add] at h1
   have h2:z.natAbs < Lb.B ^ k*Lb.B ^ k:=by omega
   have h3:((Lb.B ^ k*Lb.B ^ k:Nat):Int)=(Lb.B ^ k:Nat)*(Lb.B ^ k:Nat):=Int.natCast_mul _ _
   omega
  have hsB:szI ((Lb.B ^ k:Nat):Int) <= k+1:=a4D (by
   rw [Int.natAbs_natCast,Nat.pow_succ]
   have:Lb.B ^ k*1 < Lb.B ^ k*Lb.B:=Nat.mul_lt_mul_of_pos_left (by decide) hBp
   omega)
  have hBi:(0:Int) < ((Lb.B ^ k:Nat):Int):=Int.natCast_pos.2 hBp
  have s2:szI 2 <= 5000000:=Nat.le_trans (a4D (k:=1) (by decide)) (by decide)
  refine ⟨by simp only [inR]; omega,⟨⟨by omega,by omega⟩,by simp only [inR]; omega⟩,⟨rfl,by omega,by omega⟩,fun y hy=>by simp at hy; omega,⟨by decide,by decide⟩,
   ⟨((Lb.B ^ k:Nat):Int),⟨by omega,?_,by omega⟩,⟨trivial,trivial,rfl,trivial,trivial,trivial⟩,⟨rfl,trivial⟩,⟨rfl,rfl,trivial⟩,⟨by rw [decide_eq_false (by omega)],aOx k,trivial⟩,⟨rfl,trivial⟩,trivial⟩,fun x hx=>?_⟩
  ·generalize ((Lb.B ^ k:Nat):Int)=b at *
   have:(b+1)*(b+1)=b*b+2*b+1:=by grind
   omega
  ·obtain ⟨x1,x2,x3⟩:=hx
   have q0:0 <= z / x:=Int.ediv_nonneg hz (by omega)
   have qle:z / x <= z:=Int.ediv_le_self x hz
   have sq:szI (z / x) <= szI z:=a2I (by omega)
   have sa:=a7b x (z / x)
   have hnw:=aZa x1 hz
   have hst:=fun h=>aId (z:=z) x1 h
   generalize z / x=q at *
   have a0:0 <= (x+q) / 2:=by omega
   have sn:szI ((x+q) / 2) <= szI (x+q):=a2I (by omega)
   refine ⟨⟨⟨hz,by omega⟩,by omega,by omega⟩,⟨by omega,by omega⟩,⟨⟨by omega,by decide⟩,by omega,s2⟩,⟨by omega,by omega⟩,fun c=>⟨⟨?_,trivial⟩,rfl,trivial⟩,fun c=>?_⟩
   ·have c1:=of_decide_eq_true c
    have c2:x <= (x+q) / 2:=by
     rcases Int.lt_or_le ((x+q) / 2) x with g | g
     ·exfalso
      have:=Int.sign_eq_neg_one_of_neg (show (x+q) / 2 - x < 0 by omega)
      omega
     ·exact g
    have c3:=hst c2
    have e2:isq z.toNat=x.toNat:=aCm (by
     have:((x.toNat*x.toNat:Nat):Int)=x*x:=by rw [Int.natCast_mul,Int.toNat_of_nonneg (by omega)]
     omega) (by
     have:(((x.toNat+1)*(x.toNat+1):Nat):Int)=(x+1)*(x+1):=by rw [Int.natCast_mul,Int.natCast_add,Int.toNat_of_nonneg (by omega)]; rfl
     omega)
    rw [e2,Int.toNat_of_nonneg (by omega)]
   ·have c1:=of_decide_eq_false c
    have c2:(x+q) / 2 < x:=by
     rcases Int.lt_or_le ((x+q) / 2) x with g | g
     ·exact g
     ·exfalso
      refine c1 ?_
      rcases Int.lt_trichotomy ((x+q) / 2 - x) 0 with k | k | k
      ·omega
      ·rw [k]; decide
      ·rw [Int.sign_eq_one_of_pos k]; decide
    generalize (x+q) / 2=y at *
    have y1:1 <= y:=by
     rcases Int.lt_or_le 0 y with g | g
     ·omega
     ·exfalso
      have:y=0:=by omega
      subst this
      omega
    refine ⟨y,⟨y1,hnw,Nat.le_trans (a2I (by omega)) x3⟩,by omega,⟨trivial,trivial,rfl,trivial,trivial,trivial⟩,⟨rfl,trivial⟩,⟨rfl,rfl,trivial⟩,⟨rfl,trivial⟩,⟨rfl,trivial⟩,trivial⟩
theorem aQD:CtrOK Tryz.prog aVp:=yOK a0F aV3 Tryz.func397 fun _ hp=>aI6 _ hp
def ET1:List Ctr:=ET0 ++ [aVp]
theorem aV2:∀ c ∈ ET1,CtrOK Tryz.prog c:=a0O aV3 (fun c hc=>by
 simp only [List.mem_cons,List.not_mem_nil,or_false] at hc
 subst hc
 exact aQD)
def sqI (z:Int):Int:=((isq z.toNat:Nat):Int)
def isI (z:Int):Bool:=decide (sqI z*sqI z=z)
theorem aZi (n:Nat):isq n <= n:=by
 obtain ⟨h,_⟩:=a7A n
 rcases Nat.eq_zero_or_pos (isq n) with e | e
 ·omega
 ·exact Nat.le_trans (Nat.le_mul_of_pos_left _ e) h
theorem aOk {z:Int} (h:0 <= z):szI (sqI z) <= szI z:=a2I (by
 have:=aZi z.toNat
 unfold sqI
 omega)
def aVm:Ctr:=⟨315,spY (gI.c r0) (fun (z,_)=>0 <= z/\szI z <= 2000000) (fun (z,_)=>.t [.g [.I ((sqI z))],.c (.v (.bool ((isI z))))])⟩
theorem aI2 (z:Int) (hp:0 <= z/\szI z <= 2000000):owes LTD ET1 [] Tryz.f315 (bd Tryz.f315) [.g [.I (z)]] (.t [.g [.I ((sqI z))],.c (.v (.bool ((isI z))))]):=by
 refine Eq.mp (show ((0 <= z/\szI z <= 2000000)/\(((((0:Int) == (0:Int)) == true)=true->(szI ((isq z.toNat:Nat):Int) <= 10000000/\szI ((isq z.toNat:Nat):Int) <= 10000000))/\(((((0:Int) == (0:Int)) == true)=true->(szI (((isq z.toNat:Nat):Int)*((isq z.toNat:Nat):Int)) <= 10000000/\szI z <= 10000000))/\(((((isq z.toNat:Nat):Int)=(sqI z))/\True)/\((Value.bool (bif ((0:Int) == (0:Int)) then (decide ((((isq z.toNat:Nat):Int)*((isq z.toNat:Nat):Int))=z)) else false)=(.bool (isI z)))/\True)))))=_ by kernel_rfl) ?_
 obtain ⟨hz,hsz⟩:=hp
 have hs:=aOk hz
 have hm:=a02 (sqI z) (sqI z)
 change szI ((isq z.toNat:Nat):Int) <= _ at hs
 change szI (((isq z.toNat:Nat):Int)*((isq z.toNat:Nat):Int)) <= szI ((isq z.toNat:Nat):Int)+szI ((isq z.toNat:Nat):Int) at hm
 exact ⟨⟨hz,hsz⟩,fun _=>⟨by omega,by omega⟩,fun _=>⟨by omega,by omega⟩,⟨rfl,trivial⟩,rfl,trivial⟩
theorem aQx:CtrOK Tryz.prog aVm:=yOK a0F aV2 Tryz.func315 fun _ hp=>aI2 _ hp
def ET2:List Ctr:=ET1 ++ [aVm]
theorem aV1:∀ c ∈ ET2,CtrOK Tryz.prog c:=a0O aV2 (fun c hc=>by
 simp only [List.mem_cons,List.not_mem_nil,or_false] at hc
 subst hc
 exact aQx)
def isQ (c:Rat):Bool:=isI c.num && isI (c.den:Int)
def sqr (c:Rat):Rat:=Rat.divInt (sqI c.num) (sqI (c.den:Int))
theorem aKf {z:Int} (h:isI z=true):sqI z*sqI z=z:=of_decide_eq_true h
theorem aXv {n:Nat} (h:0 < n):0 < isq n:=by
 obtain ⟨_,h2⟩:=a7A n
 rcases Nat.eq_zero_or_pos (isq n) with e | e
 ·rw [e] at h2; omega
 ·exact e
theorem a9K {c:Rat} (_h0:0 <= c) (h:isQ c=true):(sqr c).num=sqI c.num/\((sqr c).den:Int)=sqI (c.den:Int):=by
 unfold isQ at h
 simp only [Bool.and_eq_true] at h
 have h1:=aKf h.1
 have h2:=aKf h.2
 have hd:0 < sqI (c.den:Int):=by
  have:=aXv (n:=(c.den:Int).toNat) (by have:=c.den_pos; omega)
  unfold sqI
  omega
 refine Rt.aH6 hd ?_
 have hg:Nat.gcd c.num.natAbs c.den=1:=c.reduced
 have e1:c.num.natAbs=(sqI c.num).natAbs*(sqI c.num).natAbs:=by rw [<- Int.natAbs_mul,h1]
 have e2:c.den=(sqI (c.den:Int)).natAbs*(sqI (c.den:Int)).natAbs:=by rw [<- Int.natAbs_mul,h2]; rfl
 rw [e1,e2] at hg
 have g:Nat.gcd (sqI c.num).natAbs (sqI (c.den:Int)).natAbs=1:=by
  generalize (sqI c.num).natAbs=a at *
  generalize (sqI (c.den:Int)).natAbs=b at *
  have:Nat.gcd a b ∣ Nat.gcd (a*a) (b*b):=Nat.dvd_gcd (Nat.dvd_trans (Nat.gcd_dvd_left a b) (Nat.dvd_mul_left a a)) (Nat.dvd_trans (Nat.gcd_dvd_right a b) (Nat.dvd_mul_left b b))
  rw [hg] at this
  exact Nat.dvd_one.1 this
 show ((Int.gcd (sqI c.num) (sqI (c.den:Int)):Nat):Int)=1
 unfold Int.gcd
 omega
theorem aYJ {c:Rat} (h0:0 <= c) (h:isQ c=true):sqr c*sqr c=c:=by
 obtain ⟨e1,e2⟩:=a9K h0 h
 unfold isQ at h
 simp only [Bool.and_eq_true] at h
 rw [<- Rt.aE9,e1,e2,aKf h.1,aKf h.2,Rt.aIR]
theorem aEL {c:Rat} (h0:0 <= c) (h:isQ c=true):szR (sqr c) <= szR c:=by
 obtain ⟨e1,e2⟩:=a9K h0 h
 have a:=a1f c
 have b:=a1p c
 have k1:=aOk (z:=c.num) (Rat.num_nonneg.2 h0)
 have k2:=aOk (z:=(c.den:Int)) (by omega)
 show max (szI (sqr c).num) (szI ((sqr c).den:Int)) <= szR c
 rw [e1,e2]
 omega
theorem b0L {c:Rat} (h:isQ c=false):(bif !(isI c.num) then true else !(isI (c.den:Int)))=true:=by
 unfold isQ at h
 cases h1:isI c.num <;> cases h2:isI (c.den:Int) <;> simp_all
theorem b0K {c:Rat} (h:isQ c=true):(bif !(isI c.num) then true else !(isI (c.den:Int)))=false:=by
 unfold isQ at h
 cases h1:isI c.num <;> cases h2:isI (c.den:Int) <;> simp_all
def aQu:Ctr:=⟨199,spY (gR.c r0) (fun (c,_)=>(0 <= c/\isQ c=true)/\szR c <= 1000000) (fun (c,_)=>.t [.g [.R ((sqr c))],.c (.v (.bool (true)))])⟩
theorem aGc (c:Rat) (hp:(0 <= c/\isQ c=true)/\szR c <= 1000000):owes LTD ET2 [] Tryz.f199 (bd Tryz.f199) [.g [.R (c)]] (.t [.g [.R ((sqr c))],.c (.v (.bool (true)))]):=by
 refine Eq.mp (show ((0 <= c.num/\szI c.num <= 2000000)/\((0 <= (c.den:Int)/\szI (c.den:Int) <= 2000000)/\(((bif (!(isI c.num)) then true else (!(isI (c.den:Int))))=true->(False/\((Value.bool false=(.bool true))/\True)))/\((bif (!(isI c.num)) then true else (!(isI (c.den:Int))))=false->((((sqI c.num)=(sqr c).num)/\(((sqI (c.den:Int))=((sqr c).den:Int))/\True))/\((Value.bool true=(.bool true))/\True))))))=_ by kernel_rfl) ?_
 obtain ⟨⟨h0,hq⟩,hs⟩:=hp
 have a:=a1f c
 have b:=a1p c
 have h1:=Rat.num_nonneg.2 h0
 have h2:=c.den_pos
 obtain ⟨e1,e2⟩:=a9K h0 hq
 have ht:=b0K hq
 exact ⟨⟨h1,by omega⟩,⟨by omega,by omega⟩,fun h=>(by rw [ht] at h; cases h),fun _=>⟨⟨e1.symm,e2.symm,trivial⟩,rfl,trivial⟩⟩
theorem aMV:CtrOK Tryz.prog aQu:=yOK a0F aV1 Tryz.func199 fun _ hp=>aGc _ hp
def aQv:Ctr:=⟨199,spY (gR.c r0) (fun (c,_)=>(0 <= c/\isQ c=false)/\szR c <= 1000000) (fun _=>.t [.g [.v (.bool (false)),.sl (([]:List Nat)),.v (.bool (false)),.sl (([]:List Nat))],.c (.v (.bool (false)))])⟩
theorem aGd (c:Rat) (hp:(0 <= c/\isQ c=false)/\szR c <= 1000000):owes LTD ET2 [] Tryz.f199 (bd Tryz.f199) [.g [.R (c)]] (.t [.g [.v (.bool (false)),.sl (([]:List Nat)),.v (.bool (false)),.sl (([]:List Nat))],.c (.v (.bool (false)))]):=by
 refine Eq.mp (show ((0 <= c.num/\szI c.num <= 2000000)/\((0 <= (c.den:Int)/\szI (c.den:Int) <= 2000000)/\(((bif (!(isI c.num)) then true else (!(isI (c.den:Int))))=true->(((Value.bool false=(.bool false))/\((([]:List Nat)=([]:List Nat))/\((Value.bool false=(.bool false))/\((([]:List Nat)=([]:List Nat))/\True))))/\((Value.bool false=(.bool false))/\True)))/\((bif (!(isI c.num)) then true else (!(isI (c.den:Int))))=false->(False/\((Value.bool true=(.bool false))/\True))))))=_ by kernel_rfl) ?_
 obtain ⟨⟨h0,hq⟩,hs⟩:=hp
 have a:=a1f c
 have b:=a1p c
 have h1:=Rat.num_nonneg.2 h0
 have h2:=c.den_pos
 have ht:=b0L hq
 exact ⟨⟨h1,by omega⟩,⟨by omega,by omega⟩,fun _=>⟨⟨rfl,rfl,rfl,rfl,trivial⟩,rfl,trivial⟩,fun h=>(by rw [ht] at h; cases h)⟩
theorem aMW:CtrOK Tryz.prog aQv:=yOK a0F aV1 Tryz.func199 fun _ hp=>aGd _ hp
def aJ2:List Ctr:=b0a ++ [aQu]
theorem aEq:∀ c ∈ aJ2,CtrOK Tryz.prog c:=a0O aEp (fun c hc=>by
 simp only [List.mem_cons,List.not_mem_nil,or_false] at hc
 subst hc
 exact aMV)
def aJ3:List Ctr:=b0a ++ [aQv]
theorem aEr:∀ c ∈ aJ3,CtrOK Tryz.prog c:=a0O aEp (fun c hc=>by
 simp only [List.mem_cons,List.not_mem_nil,or_false] at hc
 subst hc
 exact aMW)
def a1m (a:Rat) (b:Rat) (c:Rat):Rx × Int:=((if isQ c=true then a0E (a+b*sqr c) else a0z a b c),0)
theorem aEf (a:Rat) (b:Rat) (c:Rat) (hp:0 <= c/\isQ c=true/\szR a+szR b+szR c <= 100000):owes LTD aJ2 [] Tryz.f400 (bd Tryz.f400) [.g [.R (a)],.g [.R (b)],.g [.R (c)]] (.t [.g (eR (a1m a b c).1),.c (.v (.int .i64 ((a1m a b c).2)))]):=by
 refine a0p (show ((True/\True)/\(((decide ((Rt.sg c) < (0:Int)))=true->(False/\((Value.int .i64 (7:Int)=(.int .i64 ((a1m a b c).2)))/\True)))/\((decide ((Rt.sg c) < (0:Int)))=false->(((0 <= c/\isQ c=true)/\szR c <= 1000000)/\((true=true->((True/\True/\(szR b <= 1000000/\szR (sqr c) <= 1000000))/\((True/\True/\(szR a <= 1000000/\szR (b*(sqr c)) <= 1000000))/\((True/\True)/\((((a0E (a+(b*(sqr c)))).ra=(a1m a b c).1.ra)/\(((a0E (a+(b*(sqr c)))).rb=(a1m a b c).1.rb)/\(((a0E (a+(b*(sqr c)))).rc=(a1m a b c).1.rc)/\True)))/\((Value.int .i64 (0:Int)=(.int .i64 ((a1m a b c).2)))/\True))))))/\(true=false->((True/\True/\True/\True)/\((((a0z a b c).ra=(a1m a b c).1.ra)/\(((a0z a b c).rb=(a1m a b c).1.rb)/\(((a0z a b c).rc=(a1m a b c).1.rc)/\True)))/\((Value.int .i64 (0:Int)=(.int .i64 ((a1m a b c).2)))/\True)))))))))=_ by kernel_rfl) ?_
 obtain ⟨hp0,hp1,hp2⟩:=hp
 have hsg:=Rt.a81.2 hp0
 have hsq:=aEL hp0 hp1
 have g1:=a0L b (sqr (c))
 repeat' first | trivial | with_reducible apply And.intro | (intro _)
 all_goals first | rfl | omega | assumption | (with_reducible apply a0N; (repeat' first | exact a2c | exact a2b | exact a2a | exact a0Z _ | exact a0Q .. | exact a0r .. | exact a0k .. | exact a0I .. | exact a0m .. | exact a07 .. | exact a0o .. | exact a1o .. | exact a1r .. | exact a1X .. | exact a1G .. | apply a0u | apply a0w); done) | (exfalso; rename_i hx; cases hx; done) | (exfalso; rename_i hx; have hx:=of_decide_eq_true hx; omega) | (unfold a1m; (repeat' first | rfl | rw [a06 (by assumption)] | rw [a05 (by assumption)]); done) | (simp_all; done)
theorem aEg (a:Rat) (b:Rat) (c:Rat) (hp:0 <= c/\isQ c=false/\szR a+szR b+szR c <= 100000):owes LTD aJ3 [] Tryz.f400 (bd Tryz.f400) [.g [.R (a)],.g [.R (b)],.g [.R (c)]] (.t [.g (eR (a1m a b c).1),.c (.v (.int .i64 ((a1m a b c).2)))]):=by
 refine a0p (show ((True/\True)/\(((decide ((Rt.sg c) < (0:Int)))=true->(False/\((Value.int .i64 (7:Int)=(.int .i64 ((a1m a b c).2)))/\True)))/\((decide ((Rt.sg c) < (0:Int)))=false->(((0 <= c/\isQ c=false)/\szR c <= 1000000)/\((false=true->False)/\(false=false->((True/\True/\True/\True)/\((((a0z a b c).ra=(a1m a b c).1.ra)/\(((a0z a b c).rb=(a1m a b c).1.rb)/\(((a0z a b c).rc=(a1m a b c).1.rc)/\True)))/\((Value.int .i64 (0:Int)=(.int .i64 ((a1m a b c).2)))/\True)))))))))=_ by kernel_rfl) ?_
 obtain ⟨hp0,hp1,hp2⟩:=hp
 have hsg:=Rt.a81.2 hp0
 repeat' first | trivial | with_reducible apply And.intro | (intro _)
 all_goals first | rfl | omega | assumption | (with_reducible apply a0N; (repeat' first | exact a2c | exact a2b | exact a2a | exact a0Z _ | exact a0Q .. | exact a0r .. | exact a0k .. | exact a0I .. | exact a0m .. | exact a07 .. | exact a0o .. | exact a1o .. | exact a1r .. | exact a1X .. | exact a1G .. | apply a0u | apply a0w); done) | (exfalso; rename_i hx; cases hx; done) | (exfalso; rename_i hx; have hx:=of_decide_eq_true hx; omega) | (unfold a1m; (repeat' first | rfl | rw [a06 (by assumption)] | rw [a05 (by assumption)]); done) | (simp_all; done)
def aEh:Ctr:=⟨400,fun | [.g [a_],.g [b_],.g [c_]]=>(match rq a_,rq b_,rq c_ with | some (qa,a),some (qb,b),some (qc,c)=>.yes (qa/\qb/\qc/\0 <= c/\szR a+szR b+szR c <= 100000) (.t [.g (eR (a1m a b c).1),.c (.v (.int .i64 ((a1m a b c).2)))]) | _,_,_=>.no) | _=>.no⟩
theorem aNM:CtrOK Tryz.prog aEh:=.of (by kernel_rfl) (fun bs w xs vs pre r hr hA hG h hp=>by
 simp only [aEh] at h
 split at h
 ·rename_i a_ b_ c_
  split at h
  ·rename_i qa a qb b qc c ea eb ec
   cases h
   obtain ⟨kka,kkb,kkc,hp⟩:=hp
   obtain ⟨hp0,hp1⟩:=hp
   cases hq:isQ c with
   | true=>exact a13 mixed a0F aEq Tryz.func400 (by kernel_rfl) ((a1E (a3n ea kka) (a1E (a3n eb kkb) (a1E (a3n ec kkc) a3E))) vs hr) hA hG rfl rfl (aEf a b c ⟨hp0,hq,hp1⟩)
   | false=>exact a13 mixed a0F aEr Tryz.func400 (by kernel_rfl) ((a1E (a3n ea kka) (a1E (a3n eb kkb) (a1E (a3n ec kkc) a3E))) vs hr) hA hG rfl rfl (aEg a b c ⟨hp0,hq,hp1⟩)
  ·cases h
 ·cases h) (fun xs α pre φ r=>by simp only [aEh]; split <;> (try split) <;> (intro h; cases h))
def a1B (p:Px):Bool:=(if (bif Rt.sg p.b == (0:Int) then Rt.sg p.d == (0:Int) else false)=true then Rt.sg p.e == (0:Int) else (bif decide (Rt.sg p.e > (0:Int)) then !(isQ p.e) else false))
def aPJ:=(bif (bif (!true) then true else (!true)) then true else (!true))
def aXk (p:Px):=(bif ((Rt.sg p.b) == (0:Int)) then ((Rt.sg p.d) == (0:Int)) else false)
theorem aBI (p:Px) (hp:0 <= p.e/\isQ p.e=true/\p.sz <= 100000):owes LTD aJ2 [] Tryz.f110 (bd Tryz.f110) [.g (eP p)] (.k (.c (.v (.bool ((a1B p)))))):=by
 refine a0p (show ((szR p.a <= 1000000)/\((((!true) == false)=true->(szR p.c <= 1000000))/\((((bif (!true) then true else (!true)) == false)=true->(szR p.b <= 1000000))/\(((aPJ == false)=true->(szR p.d <= 1000000))/\((((bif aPJ then true else (!true)) == false)=true->(szR p.e <= 1000000))/\(((bif (bif aPJ then true else (!true)) then true else (!true))=true->(Value.bool false=(.bool (a1B p))))/\((bif (bif aPJ then true else (!true)) then true else (!true))=false->((True/\True)/\(((((Rt.sg p.b) == (0:Int)) == true)=true->(True/\True))/\(((aXk p)=true->((True/\True)/\(Value.bool ((Rt.sg p.e) == (0:Int))=(.bool (a1B p)))))/\((aXk p)=false->(((0 <= p.e/\isQ p.e=true)/\szR p.e <= 1000000)/\((True/\True)/\(Value.bool (bif (decide ((Rt.sg p.e) > (0:Int))) then (!true) else false)=(.bool (a1B p))))))))))))))))=_ by kernel_rfl) ?_
 delta aXk aPJ
 obtain ⟨hp0,hp1,hp2⟩:=hp
 have hsg:=Rt.a81.2 hp0
 have hsq:=aEL hp0 hp1
 have g1:=a5A p
 repeat' first | trivial | with_reducible apply And.intro | (intro _)
 all_goals first | rfl | omega | assumption | (with_reducible apply a0N; (repeat' first | exact a2c | exact a2b | exact a2a | exact a0Z _ | exact a0Q .. | exact a0r .. | exact a0k .. | exact a0I .. | exact a0m .. | exact a07 .. | exact a0o .. | exact a1o .. | exact a1r .. | exact a1X .. | exact a1G .. | apply a0u | apply a0w); done) | (exfalso; rename_i hx; cases hx; done) | (exfalso; rename_i hx; have hx:=of_decide_eq_true hx; omega) | (unfold a1B; rw [a05 (by assumption),hp1]; done) | (unfold a1B; (repeat' first | rfl | rw [a06 (by assumption)] | rw [a05 (by assumption)]); done) | (simp_all; done)
def aPI:=(bif (bif (!true) then true else (!true)) then true else (!true))
def aXj (p:Px):=(bif ((Rt.sg p.b) == (0:Int)) then ((Rt.sg p.d) == (0:Int)) else false)
theorem aBJ (p:Px) (hp:0 <= p.e/\isQ p.e=false/\p.sz <= 100000):owes LTD aJ3 [] Tryz.f110 (bd Tryz.f110) [.g (eP p)] (.k (.c (.v (.bool ((a1B p)))))):=by
 refine a0p (show ((szR p.a <= 1000000)/\((((!true) == false)=true->(szR p.c <= 1000000))/\((((bif (!true) then true else (!true)) == false)=true->(szR p.b <= 1000000))/\(((aPI == false)=true->(szR p.d <= 1000000))/\((((bif aPI then true else (!true)) == false)=true->(szR p.e <= 1000000))/\(((bif (bif aPI then true else (!true)) then true else (!true))=true->(Value.bool false=(.bool (a1B p))))/\((bif (bif aPI then true else (!true)) then true else (!true))=false->((True/\True)/\(((((Rt.sg p.b) == (0:Int)) == true)=true->(True/\True))/\(((aXj p)=true->((True/\True)/\(Value.bool ((Rt.sg p.e) == (0:Int))=(.bool (a1B p)))))/\((aXj p)=false->(((0 <= p.e/\isQ p.e=false)/\szR p.e <= 1000000)/\((True/\True)/\(Value.bool (bif (decide ((Rt.sg p.e) > (0:Int))) then (!false) else false)=(.bool (a1B p))))))))))))))))=_ by kernel_rfl) ?_
 delta aXj aPI
 obtain ⟨hp0,hp1,hp2⟩:=hp
 have hsg:=Rt.a81.2 hp0
 have g1:=a5A p
 repeat' first | trivial | with_reducible apply And.intro | (intro _)
 all_goals first | rfl | omega | assumption | (with_reducible apply a0N; (repeat' first | exact a2c | exact a2b | exact a2a | exact a0Z _ | exact a0Q .. | exact a0r .. | exact a0k .. | exact a0I .. | exact a0m .. | exact a07 .. | exact a0o .. | exact a1o .. | exact a1r .. | exact a1X .. | exact a1G .. | apply a0u | apply a0w); done) | (exfalso; rename_i hx; cases hx; done) | (exfalso; rename_i hx; have hx:=of_decide_eq_true hx; omega) | (unfold a1B; rw [a05 (by assumption),hp1]; done) | (unfold a1B; (repeat' first | rfl | rw [a06 (by assumption)] | rw [a05 (by assumption)]); done) | (simp_all; done)
def a9B:Ctr:=⟨110,fun | [.g p_]=>(match rdP p_ with | some (qp,p)=>.yes (qp/\0 <= p.e/\p.sz <= 100000) (.k (.c (.v (.bool ((a1B p)))))) | _=>.no) | _=>.no⟩
theorem aJE:CtrOK Tryz.prog a9B:=.of (by kernel_rfl) (fun bs w xs vs pre r hr hA hG h hp=>by
 simp only [a9B] at h
 split at h
 ·rename_i p_
  split at h
  ·rename_i qp p ep
   cases h
   obtain ⟨kkp,hp⟩:=hp
   obtain ⟨hp0,hp1⟩:=hp
   cases hq:isQ p.e with
   | true=>exact a13 mixed a0F aEq Tryz.func110 (by kernel_rfl) ((a1E (aB3 ep kkp) a3E) vs hr) hA hG rfl rfl (aBI p ⟨hp0,hq,hp1⟩)
   | false=>exact a13 mixed a0F aEr Tryz.func110 (by kernel_rfl) ((a1E (aB3 ep kkp) a3E) vs hr) hA hG rfl rfl (aBJ p ⟨hp0,hq,hp1⟩)
  ·cases h
 ·cases h) (fun xs α pre φ r=>by simp only [a9B]; split <;> (try split) <;> (intro h; cases h))
def a0t (a:Rat) (b:Rat) (c:Rat) (d:Rat) (e:Rat):Px:=(if isQ e=true then a2f (Vx.mk (a1N a (a0h b (sqr e))) (a1N c (a0h d (sqr e)))) else (Px.mk a b c d e))
def aMB (a:Rat) (b:Rat) (e:Rat) (c:Rat) (d:Rat):=(a2f (Vx.mk (a1N a (a0h b (sqr e))) (a1N c (a0h d (sqr e)))))
theorem a9i (a:Rat) (b:Rat) (c:Rat) (d:Rat) (e:Rat) (hp:0 <= e/\isQ e=true/\szR a+szR b+szR c+szR d+szR e <= 100000):owes LTD aJ2 [] Tryz.f311 (bd Tryz.f311) [.g [.R (a)],.g [.R (b)],.g [.R (c)],.g [.R (d)],.g [.R (e)]] (.k (.g (eP (a0t a b c d e)))):=by
 refine a0p (show (((0 <= e/\isQ e=true)/\szR e <= 1000000)/\((true=true->((True/\True/\szR b+szR (sqr e) <= 500000)/\((True/\True/\szR a+szR (a0h b (sqr e)) <= 500000)/\((True/\True/\szR d+szR (sqr e) <= 500000)/\((True/\True/\szR c+szR (a0h d (sqr e)) <= 500000)/\(((True/\True)/\True)/\(((aMB a b e c d).a=(a0t a b c d e).a)/\(((aMB a b e c d).b=(a0t a b c d e).b)/\(((aMB a b e c d).c=(a0t a b c d e).c)/\(((aMB a b e c d).d=(a0t a b c d e).d)/\(((aMB a b e c d).e=(a0t a b c d e).e)/\True)))))))))))/\(true=false->((a=(a0t a b c d e).a)/\((b=(a0t a b c d e).b)/\((c=(a0t a b c d e).c)/\((d=(a0t a b c d e).d)/\((e=(a0t a b c d e).e)/\True))))))))=_ by kernel_rfl) ?_
 delta aMB
 obtain ⟨hp0,hp1,hp2⟩:=hp
 have hsg:=Rt.a81.2 hp0
 have hsq:=aEL hp0 hp1
 have g1:=@a3A b (sqr (e))
 have g2:=@a3A d (sqr (e))
 repeat' first | trivial | with_reducible apply And.intro | (intro _)
 all_goals first | rfl | omega | assumption | (with_reducible apply a0N; (repeat' first | exact a2c | exact a2b | exact a2a | exact a0Z _ | exact a0Q .. | exact a0r .. | exact a0k .. | exact a0I .. | exact a0m .. | exact a07 .. | exact a0o .. | exact a1o .. | exact a1r .. | exact a1X .. | exact a1G .. | apply a0u | apply a0w); done) | (exfalso; rename_i hx; cases hx; done) | (exfalso; rename_i hx; have hx:=of_decide_eq_true hx; omega) | (unfold a0t; (repeat' first | rfl | rw [a06 (by assumption)] | rw [a05 (by assumption)]); done) | (simp_all; done)
theorem a9j (a:Rat) (b:Rat) (c:Rat) (d:Rat) (e:Rat) (hp:0 <= e/\isQ e=false/\szR a+szR b+szR c+szR d+szR e <= 100000):owes LTD aJ3 [] Tryz.f311 (bd Tryz.f311) [.g [.R (a)],.g [.R (b)],.g [.R (c)],.g [.R (d)],.g [.R (e)]] (.k (.g (eP (a0t a b c d e)))):=by
 refine a0p (show (((0 <= e/\isQ e=false)/\szR e <= 1000000)/\((false=true->False)/\(false=false->((a=(a0t a b c d e).a)/\((b=(a0t a b c d e).b)/\((c=(a0t a b c d e).c)/\((d=(a0t a b c d e).d)/\((e=(a0t a b c d e).e)/\True))))))))=_ by kernel_rfl) ?_
 obtain ⟨hp0,hp1,hp2⟩:=hp
 have hsg:=Rt.a81.2 hp0
 repeat' first | trivial | with_reducible apply And.intro | (intro _)
 all_goals first | rfl | omega | assumption | (with_reducible apply a0N; (repeat' first | exact a2c | exact a2b | exact a2a | exact a0Z _ | exact a0Q .. | exact a0r .. | exact a0k .. | exact a0I .. | exact a0m .. | exact a07 .. | exact a0o .. | exact a1o .. | exact a1r .. | exact a1X .. | exact a1G .. | apply a0u | apply a0w); done) | (exfalso; rename_i hx; cases hx; done) | (exfalso; rename_i hx; have hx:=of_decide_eq_true hx; omega) | (unfold a0t; (repeat' first | rfl | rw [a06 (by assumption)] | rw [a05 (by assumption)]); done) | (simp_all; done)
def a6s:Ctr:=⟨311,fun | [.g [a_],.g [b_],.g [c_],.g [d_],.g [e_]]=>(match rq a_,rq b_,rq c_,rq d_,rq e_ with | some (qa,a),some (qb,b),some (qc,c),some (qd,d),some (qe,e)=>.yes (qa/\qb/\qc/\qd/\qe/\0 <= e/\szR a+szR b+szR c+szR d+szR e <= 100000) (.k (.g (eP (a0t a b c d e)))) | _,_,_,_,_=>.no) | _=>.no⟩
theorem aD1:CtrOK Tryz.prog a6s:=.of (by kernel_rfl) (fun bs w xs vs pre r hr hA hG h hp=>by
 simp only [a6s] at h
 split at h
 ·rename_i a_ b_ c_ d_ e_
  split at h
  ·rename_i qa a qb b qc c qd d qe e ea eb ec ed ee
   cases h
   obtain ⟨kka,kkb,kkc,kkd,kke,hp⟩:=hp
   obtain ⟨hp0,hp1⟩:=hp
   cases hq:isQ e with
   | true=>exact a13 mixed a0F aEq Tryz.func311 (by kernel_rfl) ((a1E (a3n ea kka) (a1E (a3n eb kkb) (a1E (a3n ec kkc) (a1E (a3n ed kkd) (a1E (a3n ee kke) a3E))))) vs hr) hA hG rfl rfl (a9i a b c d e ⟨hp0,hq,hp1⟩)
   | false=>exact a13 mixed a0F aEr Tryz.func311 (by kernel_rfl) ((a1E (a3n ea kka) (a1E (a3n eb kkb) (a1E (a3n ec kkc) (a1E (a3n ed kkd) (a1E (a3n ee kke) a3E))))) vs hr) hA hG rfl rfl (a9j a b c d e ⟨hp0,hq,hp1⟩)
  ·cases h
 ·cases h) (fun xs α pre φ r=>by simp only [a6s]; split <;> (try split) <;> (intro h; cases h))
def aV6:List Ctr:=b0a ++ [aEh,a9B,a6s]
theorem aEo:∀ c ∈ aV6,CtrOK Tryz.prog c:=a0O aEp (a03 aNM (a03 aJE (a03 aD1 (a2L))))
theorem aSe (a b c:Rat) (h:0 <= c):(a1m a b c).1.sz <= szR a+szR b+szR c+10:=by
 unfold a1m
 dsimp only
 split
 ·rename_i hq
  have h1:=aEL h hq
  have h2:=a0L b (sqr c)
  have h3:=a1S a (b*sqr c)
  have h4:=a6e (a+b*sqr c)
  omega
 ·have:=a7U a b c
  omega
def a2j (l:Lx) (p:Px):Rx:=(a1m (a1C (a2A (a0J l.la p.a) (a0J l.lb p.c)) l.lc) (a2A (a0J l.la p.b) (a0J l.lb p.d)) p.e).1
def aTh (l:Lx) (p:Px):=(a1m (a1C (a2A (a0J l.la p.a) (a0J l.lb p.c)) l.lc) (a2A (a0J l.la p.b) (a0J l.lb p.d)) p.e)
theorem aD6 (l:Lx) (p:Px) (hp:0 <= p.e/\l.sz+p.sz <= 20000):owes LTD aV6 [] Tryz.f318 (bd Tryz.f318) [.g (eL l),.g (eP p)] (.k (.g (eR (a2j l p)))):=by
 refine a0p (show ((True/\True/\szR l.la+szR p.a <= 500000)/\((True/\True/\szR l.lb+szR p.c <= 500000)/\((True/\True/\szR (a0J l.la p.a)+szR (a0J l.lb p.c) <= 500000)/\((True/\True/\szR (a2A (a0J l.la p.a) (a0J l.lb p.c))+szR l.lc <= 500000)/\((True/\True/\szR l.la+szR p.b <= 500000)/\((True/\True/\szR l.lb+szR p.d <= 500000)/\((True/\True/\szR (a0J l.la p.b)+szR (a0J l.lb p.d) <= 500000)/\((True/\True/\True/\0 <= p.e/\szR (a1C (a2A (a0J l.la p.a) (a0J l.lb p.c)) l.lc)+szR (a2A (a0J l.la p.b) (a0J l.lb p.d))+szR p.e <= 100000)/\(((aTh l p).1.ra=(a2j l p).ra)/\(((aTh l p).1.rb=(a2j l p).rb)/\(((aTh l p).1.rc=(a2j l p).rc)/\True)))))))))))=_ by kernel_rfl) ?_
 delta aTh
 obtain ⟨hp0,hp1⟩:=hp
 have g1:=aHT l
 have g2:=a5A p
 have g3:=@a4z l.la p.a
 have g4:=@a4z l.lb p.c
 have g5:=@aJ6 (a0J l.la p.a) (a0J l.lb p.c)
 have g6:=@a4z l.la p.b
 have g7:=@a4z l.lb p.d
 have g8:=@aUB (a2A (a0J l.la p.a) (a0J l.lb p.c)) l.lc
 have g9:=@aJ6 (a0J l.la p.b) (a0J l.lb p.d)
 repeat' first | trivial | with_reducible apply And.intro | (intro _)
 all_goals first | rfl | omega | assumption | (with_reducible apply a0N; (repeat' first | exact a2c | exact a2b | exact a2a | exact a0Z _ | exact a0Q .. | exact a0r .. | exact a0k .. | exact a0I .. | exact a0m .. | exact a07 .. | exact a0o .. | exact a1o .. | exact a1r .. | exact a1X .. | exact a1G .. | apply a0u | apply a0w); done) | (exfalso; rename_i hx; simp [hp0] at hx; done) | (unfold a2j; (repeat' first | rfl | rw [a06 (by assumption)] | rw [a05 (by assumption)]); done) | (simp_all; done)
def aLQ:Ctr:=⟨318,spY (rL.c (rP.c r0)) (fun (l,p,_)=>0 <= p.e/\l.sz+p.sz <= 20000) (fun (l,p,_)=>.k (.g (eR (a2j l p))))⟩
theorem aJB:CtrOK Tryz.prog aLQ:=yOK a0F aEo Tryz.func318 fun x hp=>aD6 x.1 x.2.1 hp
theorem aSc (l:Lx) (p:Px) (h:0 <= p.e):(a2j l p).sz <= 4*(l.sz+p.sz)+20:=by
 have h1:=a4z l.la p.a
 have h2:=a4z l.lb p.c
 have h3:=aJ6 (a0J l.la p.a) (a0J l.lb p.c)
 have h4:=aUB (a2A (a0J l.la p.a) (a0J l.lb p.c)) l.lc
 have h5:=a4z l.la p.b
 have h6:=a4z l.lb p.d
 have h7:=aJ6 (a0J l.la p.b) (a0J l.lb p.d)
 have h8:=aSe (a1C (a2A (a0J l.la p.a) (a0J l.lb p.c)) l.lc) (a2A (a0J l.la p.b) (a0J l.lb p.d)) p.e h
 have h9:=aHT l
 have h10:=a5A p
 unfold a2j
 omega
def a2k (k:Kx) (p:Px):Rx:=a0q (a1x p (Vx.mk k.kx k.ky)) (-(k.kq))
theorem aD9 (k:Kx) (p:Px) (hp:k.sz+p.sz <= 3000):owes LTD aV6 [] Tryz.f317 (bd Tryz.f317) [.g (eK k),.g (eP p)] (.k (.g (eR (a2k k p)))):=by
 refine a0p (show (((True/\(True/\(True/\(True/\True))))/\(True/\True)/\p.sz+(Vx.mk k.kx k.ky).sz <= 3000)/\((True/\(szR k.kq <= 5000000))/\(((True/\(True/\True))/\True/\(a1x p (Vx.mk k.kx k.ky)).sz+szR (-k.kq) <= 200000)/\(((a0q (a1x p (Vx.mk k.kx k.ky)) (-k.kq)).ra=(a2k k p).ra)/\(((a0q (a1x p (Vx.mk k.kx k.ky)) (-k.kq)).rb=(a2k k p).rb)/\(((a0q (a1x p (Vx.mk k.kx k.ky)) (-k.kq)).rc=(a2k k p).rc)/\True))))))=_ by kernel_rfl) ?_
 have g1:=a5A p
 have g2:=aHR k.kx k.ky
 have g3:=aBW k
 have g4:=a18 k.kq
 have g5:=@aEy p (Vx.mk k.kx k.ky)
 have g6:=a2Z (a1x p (Vx.mk k.kx k.ky))
 repeat' first | trivial | with_reducible apply And.intro | (intro _)
 all_goals first | rfl | omega | assumption | (with_reducible apply a0N; (repeat' first | exact a2c | exact a2b | exact a2a | exact a0Z _ | exact a0Q .. | exact a0r .. | exact a0k .. | exact a0I .. | exact a0m .. | exact a07 .. | exact a0o .. | exact a1o .. | exact a1r .. | exact a1X .. | exact a1G .. | apply a0u | apply a0w); done) | (unfold a2k; (repeat' first | rfl | rw [a06 (by assumption)] | rw [a05 (by assumption)]); done) | (simp_all; done)
def aLR:Ctr:=⟨317,spY (rKx.c (rP.c r0)) (fun (k,p,_)=>k.sz+p.sz <= 3000) (fun (k,p,_)=>.k (.g (eR (a2k k p))))⟩
theorem aJC:CtrOK Tryz.prog aLR:=yOK a0F aEo Tryz.func317 fun x hp=>aD9 x.1 x.2.1 hp
theorem aSd (k:Kx) (p:Px):(a2k k p).sz <= 40*(k.sz+p.sz)+900:=by
 have g1:=@aEz (a1x p (Vx.mk k.kx k.ky)) (-(k.kq))
 have g2:=a2Z (a0q (a1x p (Vx.mk k.kx k.ky)) (-(k.kq)))
 have g3:=@aEy p (Vx.mk k.kx k.ky)
 have g4:=a2Z (a1x p (Vx.mk k.kx k.ky))
 have g5:=a5A p
 have g6:=aHR k.kx k.ky
 have g7:=aBW k
 have g8:=a18 k.kq
 unfold a2k
 repeat' split
 all_goals first | omega | (dsimp only; omega)
def a0d (k:Kx):Px × Px:=((a0t k.kx (a2m ((((1:Int)):Rat))) k.ky ((((0:Int)):Rat)) k.kq),(a0t k.kx ((((1:Int)):Rat)) k.ky ((((0:Int)):Rat)) k.kq))
def aMA (k:Kx):=(a0t k.kx (a2m ((1:Int):Rat)) k.ky ((0:Int):Rat) k.kq)
def aMz (k:Kx):=(a0t k.kx ((1:Int):Rat) k.ky ((0:Int):Rat) k.kq)
theorem a9l (k:Kx) (hp:0 <= k.kq/\k.sz <= 20000):owes LTD aV6 [] Tryz.f197 (bd Tryz.f197) [.g (eK k)] (.t [.g (eP (a0d k).1),.g (eP (a0d k).2)]):=by
 refine a0p (show ((-9223372036854775808 <= (1:Int)/\(1:Int) <= 9223372036854775807)/\((-9223372036854775808 <= (0:Int)/\(0:Int) <= 9223372036854775807)/\((True/\szR ((1:Int):Rat) <= 500000)/\((True/\True/\True/\True/\True/\0 <= k.kq/\szR k.kx+szR (a2m ((1:Int):Rat))+szR k.ky+szR ((0:Int):Rat)+szR k.kq <= 100000)/\((True/\True/\True/\True/\True/\0 <= k.kq/\szR k.kx+szR ((1:Int):Rat)+szR k.ky+szR ((0:Int):Rat)+szR k.kq <= 100000)/\((((aMA k).a=(a0d k).1.a)/\(((aMA k).b=(a0d k).1.b)/\(((aMA k).c=(a0d k).1.c)/\(((aMA k).d=(a0d k).1.d)/\(((aMA k).e=(a0d k).1.e)/\True)))))/\((((aMz k).a=(a0d k).2.a)/\(((aMz k).b=(a0d k).2.b)/\(((aMz k).c=(a0d k).2.c)/\(((aMz k).d=(a0d k).2.d)/\(((aMz k).e=(a0d k).2.e)/\True)))))/\True)))))))=_ by kernel_rfl) ?_
 delta aMz aMA
 obtain ⟨hp0,hp1⟩:=hp
 have g1:=(a3h (n:=1) (by decide))
 have g2:=aBW k
 have g3:=@aYz ((((1:Int)):Rat))
 have g4:=(a3h (n:=0) (by decide))
 repeat' first | trivial | with_reducible apply And.intro | (intro _)
 all_goals first | rfl | omega | assumption | (with_reducible apply a0N; (repeat' first | exact a2c | exact a2b | exact a2a | exact a0Z _ | exact a0Q .. | exact a0r .. | exact a0k .. | exact a0I .. | exact a0m .. | exact a07 .. | exact a0o .. | exact a1o .. | exact a1r .. | exact a1X .. | exact a1G .. | apply a0u | apply a0w); done) | (exfalso; rename_i hx; simp [hp0] at hx; done) | (unfold a0d; (repeat' first | rfl | rw [a06 (by assumption)] | rw [a05 (by assumption)]); done) | (simp_all; done)
def aAU:Ctr:=⟨197,spY (rKx.c r0) (fun (k,_)=>0 <= k.kq/\k.sz <= 20000) (fun (k,_)=>.t [.g (eP (a0d k).1),.g (eP (a0d k).2)])⟩
theorem aBF:CtrOK Tryz.prog aAU:=yOK a0F aEo Tryz.func197 fun x hp=>a9l x.1 hp
def aYw:List Ctr:=aV6 ++ [aLQ,aLR,aAU]
theorem aJ1:∀ c ∈ aYw,CtrOK Tryz.prog c:=a0O aEo (a03 aJB (a03 aJC (a03 aBF (a2L))))
def a2v (l:Lx) (p:Px):Int:=a1l (a2j l p)
theorem aGR (l:Lx) (p:Px) (hp:0 <= p.e/\l.sz+p.sz <= 20000):owes LTD aYw [] Tryz.f201 (bd Tryz.f201) [.g (eL l),.g (eP p)] (.k (.c (.v (.int .i64 ((a2v l p)))))):=by
 refine a0p (show (((True/\(True/\True))/\(True/\(True/\(True/\(True/\True))))/\0 <= p.e/\l.sz+p.sz <= 20000)/\(((True/\(True/\True))/\(a2j l p).sz <= 150000)/\(Value.int .i64 (a1l (a2j l p))=(.int .i64 (a2v l p)))))=_ by kernel_rfl) ?_
 obtain ⟨hp0,hp1⟩:=hp
 have g1:=aHT l
 have g2:=a5A p
 have g3:=@aSc l p (by assumption)
 have g4:=a2Z (a2j l p)
 repeat' first | trivial | with_reducible apply And.intro | (intro _)
 all_goals first | rfl | omega | assumption | (with_reducible apply a0N; (repeat' first | exact a2c | exact a2b | exact a2a | exact a0Z _ | exact a0Q .. | exact a0r .. | exact a0k .. | exact a0I .. | exact a0m .. | exact a07 .. | exact a0o .. | exact a1o .. | exact a1r .. | exact a1X .. | exact a1G .. | apply a0u | apply a0w); done) | (exfalso; rename_i hx; simp [hp0] at hx; done) | (unfold a2v; (repeat' first | rfl | rw [a06 (by assumption)] | rw [a05 (by assumption)]); done) | (simp_all; done)
def aRf:Ctr:=⟨201,spY (rL.c (rP.c r0)) (fun (l,p,_)=>0 <= p.e/\l.sz+p.sz <= 20000) (fun (l,p,_)=>.k (.c (.v (.int .i64 ((a2v l p))))))⟩
theorem aNE:CtrOK Tryz.prog aRf:=yOK a0F aJ1 Tryz.func201 fun x hp=>aGR x.1 x.2.1 hp
theorem a5m (l:Lx) (p:Px):un (a2v l p):=by
 unfold a2v
 repeat' split
 all_goals (repeat' first | exact a2c | exact a2b | exact a2a | exact a0Z _ | exact a0Q .. | exact a0r .. | exact a0k .. | exact a0I .. | exact a0m .. | exact a07 .. | exact a0o .. | exact a1o .. | exact a1r .. | exact a1X .. | exact a1G .. | apply a0u | apply a0w)
def a2N (k:Kx) (p:Px):Int:=((0:Int)) - ((a1l (a2k k p)))
theorem aBH (k:Kx) (p:Px) (hp:k.sz+p.sz <= 3000):owes LTD aYw [] Tryz.f200 (bd Tryz.f200) [.g (eK k),.g (eP p)] (.k (.c (.v (.int .i64 ((a2N k p)))))):=by
 refine a0p (show (((True/\(True/\True))/\(True/\(True/\(True/\(True/\True))))/\k.sz+p.sz <= 3000)/\(((True/\(True/\True))/\(a2k k p).sz <= 150000)/\((inR .i64 ((0:Int) - (a1l (a2k k p))))/\(Value.int .i64 ((0:Int) - (a1l (a2k k p)))=(.int .i64 (a2N k p))))))=_ by kernel_rfl) ?_
 have g1:=aBW k
 have g2:=a5A p
 have g3:=@aSd k p
 have g4:=a2Z (a2k k p)
 repeat' first | trivial | with_reducible apply And.intro | (intro _)
 all_goals first | rfl | omega | assumption | (with_reducible apply a0N; (repeat' first | exact a2c | exact a2b | exact a2a | exact a0Z _ | exact a0Q .. | exact a0r .. | exact a0k .. | exact a0I .. | exact a0m .. | exact a07 .. | exact a0o .. | exact a1o .. | exact a1r .. | exact a1X .. | exact a1G .. | exact a5m .. | apply a0u | apply a0w); done) | (unfold a2N; (repeat' first | rfl | rw [a06 (by assumption)] | rw [a05 (by assumption)]); done) | (simp_all; done)
def aGT:Ctr:=⟨200,spY (rKx.c (rP.c r0)) (fun (k,p,_)=>k.sz+p.sz <= 3000) (fun (k,p,_)=>.k (.c (.v (.int .i64 ((a2N k p))))))⟩
theorem aGS:CtrOK Tryz.prog aGT:=yOK a0F aJ1 Tryz.func200 fun x hp=>aBH x.1 x.2.1 hp
theorem a4j (k:Kx) (p:Px):un (a2N k p):=by
 unfold a2N
 repeat' split
 all_goals (repeat' first | exact a2c | exact a2b | exact a2a | exact a0Z _ | exact a0Q .. | exact a0r .. | exact a0k .. | exact a0I .. | exact a0m .. | exact a07 .. | exact a0o .. | exact a1o .. | exact a1r .. | exact a1X .. | exact a1G .. | exact a5m .. | apply a0u | apply a0w)
def b0s:List Ctr:=aYw ++ [aRf,aGT]
theorem aRW:∀ c ∈ b0s,CtrOK Tryz.prog c:=a0O aJ1 (a03 aNE (a03 aGS (a2L)))
def a08 (u:Ux) (p:Px):Bool:=(if u.arc=true then ((a2N u.k p)) == ((0:Int)) else ((a2v u.l p)) == ((0:Int)))
theorem aAQ (u:Ux) (p:Px) (hp:0 <= p.e/\u.sz+p.sz <= 3000):owes LTD b0s [] Tryz.f113 (bd Tryz.f113) [.g (eU u),.g (eP p)] (.k (.c (.v (.bool ((a08 u p)))))):=by
 refine a0p (show ((u.arc=true->((((u.arc=true)/\((u.arc=true)/\(u.arc=true)))/\(True/\(True/\(True/\(True/\True))))/\u.k.sz+p.sz <= 3000)/\(Value.bool ((a2N u.k p) == (0:Int))=(.bool (a08 u p)))))/\(u.arc=false->(((((!u.arc)=true)/\(((!u.arc)=true)/\((!u.arc)=true)))/\(True/\(True/\(True/\(True/\True))))/\0 <= p.e/\u.l.sz+p.sz <= 20000)/\(Value.bool ((a2v u.l p) == (0:Int))=(.bool (a08 u p))))))=_ by kernel_rfl) ?_
 obtain ⟨hp0,hp1⟩:=hp
 have g1:=aCM u
 have g2:=a5A p
 repeat' first | trivial | with_reducible apply And.intro | (intro _)
 all_goals first | rfl | omega | assumption | (with_reducible apply a0N; (repeat' first | exact a2c | exact a2b | exact a2a | exact a0Z _ | exact a0Q .. | exact a0r .. | exact a0k .. | exact a0I .. | exact a0m .. | exact a07 .. | exact a0o .. | exact a1o .. | exact a1r .. | exact a1X .. | exact a1G .. | exact a5m .. | exact a4j .. | apply a0u | apply a0w); done) | (exfalso; rename_i hx; simp [hp0] at hx; done) | (unfold a08; (repeat' first | rfl | rw [a06 (by assumption)] | rw [a05 (by assumption)]); done) | (simp_all; done)
def aCv:Ctr:=⟨113,spY (rU.c (rP.c r0)) (fun (u,p,_)=>0 <= p.e/\u.sz+p.sz <= 3000) (fun (u,p,_)=>.k (.c (.v (.bool ((a08 u p))))))⟩
theorem aDQ:CtrOK Tryz.prog aCv:=yOK a0F aRW Tryz.func113 fun x hp=>aAQ x.1 x.2.1 hp
def b0r:List Ctr:=b0s ++ [aCv]
theorem aRV:∀ c ∈ b0r,CtrOK Tryz.prog c:=a0O aRW (a03 aDQ (a2L))
end Vc
end Go.Proofs.YtbohkigffejhoaaGreat
