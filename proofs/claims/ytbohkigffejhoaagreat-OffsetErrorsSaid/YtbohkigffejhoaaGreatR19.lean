import Derived.Test.YtbohkigffejhoaaGreatR18
open Go.Proofs.Tryz (f111 f112 f114 f116 f117 f124 f125 f126 f202 f204 f205 f207 f214 f215 f216 f219 f220 f320 f325 f327 f399 f402 f403 f405 f406 f407 f408 f409 f411 f413 f414 f471 f472 f473 f474 f478 f479 f507 prog)
namespace Go.Proofs.YtbohkigffejhoaaGreat
open Go.RowKit
set_option maxHeartbeats 4000000
namespace Vc
attribute [local irreducible] owes
def a0i (r:Rx) (s:Rx):Rat × Bool:=(if ((((Rt.sg (r.rb)))) == ((0:Int)))=true then (s.rc,true) else (r.rc,(bif ((((Rt.sg (s.rb)))) == ((0:Int))) then (true) else ((((Rt.sg ((r.rc) - (s.rc))))) == ((0:Int))))))
theorem aBB (r:Rx) (s:Rx) (hp:r.sz+s.sz <= 100000):owes LTD DT3 [] f478 (bd f478) [.g (eR r),.g (eR s)] (.t [.g [.R ((a0i r s).1)],.c (.v (.bool ((a0i r s).2)))]):=by
 refine a0m (show ((True/\True)/\((((Rt.sg r.rb) == (0:Int))=true->(((s.rc=(a0i r s).1)/\True)/\((Value.bool true=(.bool ((a0i r s).2)))/\True)))/\(((Rt.sg r.rb) == (0:Int))=false->((True/\True)/\(((((Rt.sg s.rb) == (0:Int)) == false)=true->(True/\True/\(szR r.rc <= 1000000/\szR s.rc <= 1000000)))/\(((r.rc=(a0i r s).1)/\True)/\((Value.bool (bif ((Rt.sg s.rb) == (0:Int)) then true else ((Rt.sg (r.rc - s.rc)) == (0:Int)))=(.bool ((a0i r s).2)))/\True)))))))=_ by kernel_rfl) ?_;have g1:=a2D r;have g2:=a2D s
 repeat' first | trivial | with_reducible apply And.intro | (intro _)
 all_goals first | exact tU2 | (unfold a0i; exact tR_) | (simp_all; done)
def aGR:Ctr:=⟨478,spY (rR.c (rR.c r0)) (fun (r,s,_)=>r.sz+s.sz <= 100000) (fun (r,s,_)=>.t [.g [.R ((a0i r s).1)],.c (.v (.bool ((a0i r s).2)))])⟩
theorem aGQ:CtrOK prog aGR:=yOK a0w aWE Tryz.func478 fun x hp=>aBB x.1 x.2.1 hp
theorem a7N (r:Rx) (s:Rx):szR ((a0i r s).1) <= (r.sz+s.sz):=by
 have g1:=a2D s;have g2:=a2D r;unfold a0i
 repeat' split
 all_goals first | omega | (dsimp only; omega)
def DT4:List Ctr:=DT3 ++ [aGR]
theorem a6w:∀ c ∈ DT4,CtrOK prog c:=a0M aWE (a0Y aGQ (a3e))
def a2G (r:Rx) (s:Rx):Rx × Int:=((a0t ((r.ra)+(s.ra)) ((r.rb)+(s.rb)) ((a0i r s).1)),((0:Int)))
def aT0 (r:Rx) (s:Rx):=(a0t (r.ra+s.ra) (r.rb+s.rb) ((a0i r s).1))
theorem aJr (r:Rx) (s:Rx) (hp:(a0i r s).2=true/\r.sz+s.sz <= 60000):owes LTD DT4 [] f473 (bd f473) [.g (eR r),.g (eR s)] (.t [.g (eR (a2G r s).1),.c (.v (.int .i64 ((a2G r s).2)))]):=by
 refine a0m (show (((True/\(True/\True))/\(True/\(True/\True))/\r.sz+s.sz <= 100000)/\(((!((a0i r s).2))=true->(False/\((Value.int .i64 (1:Int)=(.int .i64 ((a2G r s).2)))/\True)))/\((!((a0i r s).2))=false->((True/\True/\(szR r.ra <= 1000000/\szR s.ra <= 1000000))/\((True/\True/\(szR r.rb <= 1000000/\szR s.rb <= 1000000))/\((True/\True/\True/\True)/\((((aT0 r s).ra=(a2G r s).1.ra)/\(((aT0 r s).rb=(a2G r s).1.rb)/\(((aT0 r s).rc=(a2G r s).1.rc)/\True)))/\((Value.int .i64 (0:Int)=(.int .i64 ((a2G r s).2)))/\True))))))))=_ by kernel_rfl) ?_;delta aT0;obtain ⟨hp0,hp1⟩:=hp;have g1:=a2D r;have g2:=a2D s
 repeat' first | trivial | with_reducible apply And.intro | (intro _)
 all_goals first | exact tU2 | (exfalso; rename_i hx; simp [hp0] at hx; done) | (unfold a2G; exact tR_) | (simp_all; done)
def aV9:Ctr:=⟨473,spY (rR.c (rR.c r0)) (fun (r,s,_)=>(a0i r s).2=true/\r.sz+s.sz <= 60000) (fun (r,s,_)=>.t [.g (eR (a2G r s).1),.c (.v (.int .i64 ((a2G r s).2)))])⟩
theorem aR0:CtrOK prog aV9:=yOK a0w a6w Tryz.func473 fun x hp=>aJr x.1 x.2.1 hp
theorem aWX (r:Rx) (s:Rx):((a2G r s).1).sz <= 2*(r.sz+s.sz)+8:=by
 have g1:=@a7M ((r.ra)+(s.ra)) ((r.rb)+(s.rb)) ((a0i r s).1);have g2:=a2D (a0t ((r.ra)+(s.ra)) ((r.rb)+(s.rb)) ((a0i r s).1));have g3:=a1C r.ra s.ra;have g4:=a2D r;have g5:=a2D s;have g6:=a1C r.rb s.rb;have g7:=@a7N r s;unfold a2G
 repeat' split
 all_goals first | omega | (dsimp only; omega)
def a13 (r:Rx) (s:Rx):Rx × Int:=((a0t (((r.ra)*(s.ra))+(((r.rb)*(s.rb))*((a0i r s).1))) (((r.ra)*(s.rb))+((r.rb)*(s.ra))) ((a0i r s).1)),((0:Int)))
def aTZ (r:Rx) (s:Rx):=(a0t ((r.ra*s.ra)+((r.rb*s.rb)*((a0i r s).1))) ((r.ra*s.rb)+(r.rb*s.ra)) ((a0i r s).1))
theorem aJp (r:Rx) (s:Rx) (hp:(a0i r s).2=true/\r.sz+s.sz <= 60000):owes LTD DT4 [] f403 (bd f403) [.g (eR r),.g (eR s)] (.t [.g (eR (a13 r s).1),.c (.v (.int .i64 ((a13 r s).2)))]):=by
 refine a0m (show (((True/\(True/\True))/\(True/\(True/\True))/\r.sz+s.sz <= 100000)/\(((!((a0i r s).2))=true->(False/\((Value.int .i64 (1:Int)=(.int .i64 ((a13 r s).2)))/\True)))/\((!((a0i r s).2))=false->((True/\True/\(szR r.ra <= 1000000/\szR s.ra <= 1000000))/\((True/\True/\(szR r.rb <= 1000000/\szR s.rb <= 1000000))/\((True/\True/\(szR (r.rb*s.rb) <= 1000000/\szR ((a0i r s).1) <= 1000000))/\((True/\True/\(szR (r.ra*s.ra) <= 1000000/\szR ((r.rb*s.rb)*((a0i r s).1)) <= 1000000))/\((True/\True/\(szR r.ra <= 1000000/\szR s.rb <= 1000000))/\((True/\True/\(szR r.rb <= 1000000/\szR s.ra <= 1000000))/\((True/\True/\(szR (r.ra*s.rb) <= 1000000/\szR (r.rb*s.ra) <= 1000000))/\((True/\True/\True/\True)/\((((aTZ r s).ra=(a13 r s).1.ra)/\(((aTZ r s).rb=(a13 r s).1.rb)/\(((aTZ r s).rc=(a13 r s).1.rc)/\True)))/\((Value.int .i64 (0:Int)=(.int .i64 ((a13 r s).2)))/\True)))))))))))))=_ by kernel_rfl) ?_;delta aTZ;obtain ⟨hp0,hp1⟩:=hp;have g1:=a2D r;have g2:=a2D s;have g3:=a0C r.rb s.rb;have g4:=@a7N r s;have g5:=a0C r.ra s.ra;have g6:=a0C ((r.rb)*(s.rb)) ((a0i r s).1);have g7:=a0C r.ra s.rb;have g8:=a0C r.rb s.ra
 repeat' first | trivial | with_reducible apply And.intro | (intro _)
 all_goals first | exact tU2 | (exfalso; rename_i hx; simp [hp0] at hx; done) | (unfold a13; exact tR_) | (simp_all; done)
def aV7:Ctr:=⟨403,spY (rR.c (rR.c r0)) (fun (r,s,_)=>(a0i r s).2=true/\r.sz+s.sz <= 60000) (fun (r,s,_)=>.t [.g (eR (a13 r s).1),.c (.v (.int .i64 ((a13 r s).2)))])⟩
theorem aRY:CtrOK prog aV7:=yOK a0w a6w Tryz.func403 fun x hp=>aJp x.1 x.2.1 hp
theorem aWW (r:Rx) (s:Rx):((a13 r s).1).sz <= 4*(r.sz+s.sz)+12:=by
 have g1:=@a7M (((r.ra)*(s.ra))+(((r.rb)*(s.rb))*((a0i r s).1))) (((r.ra)*(s.rb))+((r.rb)*(s.ra))) ((a0i r s).1);have g2:=a2D (a0t (((r.ra)*(s.ra))+(((r.rb)*(s.rb))*((a0i r s).1))) (((r.ra)*(s.rb))+((r.rb)*(s.ra))) ((a0i r s).1));have g3:=a1C ((r.ra)*(s.ra)) (((r.rb)*(s.rb))*((a0i r s).1));have g4:=a0C r.ra s.ra;have g5:=a2D r;have g6:=a2D s;have g7:=a0C ((r.rb)*(s.rb)) ((a0i r s).1);have g8:=a0C r.rb s.rb;have g9:=@a7N r s;have g10:=a1C ((r.ra)*(s.rb)) ((r.rb)*(s.ra));have g11:=a0C r.ra s.rb;have g12:=a0C r.rb s.ra;unfold a13
 repeat' split
 all_goals first | omega | (dsimp only; omega)
def a2u (r:Rx):Rx × Int:=((a0t ((r.ra)*((a2B) / (a0V r))) (-((r.rb)*((a2B) / (a0V r)))) r.rc),((0:Int)))
def aTY (r:Rx):=(a0t (r.ra*(a2B / (a0V r))) (-(r.rb*(a2B / (a0V r)))) r.rc)
theorem aJq (r:Rx) (hp:a04 r ≠ 0/\a0V r ≠ 0/\r.sz <= 20000):owes LTD DT4 [] f402 (bd f402) [.g (eR r)] (.t [.g (eR (a2u r).1),.c (.v (.int .i64 ((a2u r).2)))]):=by
 refine a0m (show (((True/\(True/\True))/\r.sz <= 150000)/\((((a04 r) == (0:Int))=true->(False/\((Value.int .i64 (6:Int)=(.int .i64 ((a2u r).2)))/\True)))/\(((a04 r) == (0:Int))=false->(True/\(((True/\(True/\True))/\r.sz <= 150000)/\((True/\True/\((a0V r) ≠ 0/\szR a2B <= 1000000/\szR (a0V r) <= 1000000))/\((True/\True/\(szR r.ra <= 1000000/\szR (a2B / (a0V r)) <= 1000000))/\((True/\True/\(szR r.rb <= 1000000/\szR (a2B / (a0V r)) <= 1000000))/\((True/\(szR (r.rb*(a2B / (a0V r))) <= 5000000))/\((True/\True/\True/\True)/\((((aTY r).ra=(a2u r).1.ra)/\(((aTY r).rb=(a2u r).1.rb)/\(((aTY r).rc=(a2u r).1.rc)/\True)))/\((Value.int .i64 (0:Int)=(.int .i64 ((a2u r).2)))/\True))))))))))))=_ by kernel_rfl) ?_;delta aTY;obtain ⟨hp0,hp1,hp2⟩:=hp;have g1:=a2D r;have g2:=@aUZ ;have g3:=@aWV r;have g4:=a9h a2B (a0V r) (by assumption);have g5:=a0C r.rb ((a2B) / (a0V r))
 repeat' first | trivial | with_reducible apply And.intro | (intro _)
 all_goals first | exact tU2 | (exfalso; rename_i hx; simp [hp0] at hx; done) | (unfold a2u; exact tR_) | (simp_all; done)
def aV8:Ctr:=⟨402,spY (rR.c r0) (fun (r,_)=>a04 r ≠ 0/\a0V r ≠ 0/\r.sz <= 20000) (fun (r,_)=>.t [.g (eR (a2u r).1),.c (.v (.int .i64 ((a2u r).2)))])⟩
theorem aRZ:CtrOK prog aV8:=yOK a0w a6w Tryz.func402 fun x hp=>aJq x.1 hp
def a3Q (r:Rx) (a:Rat):Int:=a04 (a0n r (-(a)))
theorem aBD (r:Rx) (a:Rat) (hp:r.sz+szR a <= 100000):owes LTD DT4 [] f220 (bd f220) [.g (eR r),.g [.R (a)]] (.k (.c (.v (.int .i64 ((a3Q r a)))))):=by
 refine a0m (show ((True/\(szR a <= 5000000))/\(((True/\(True/\True))/\True/\r.sz+szR (-a) <= 200000)/\(((True/\(True/\True))/\(a0n r (-a)).sz <= 150000)/\(Value.int .i64 (a04 (a0n r (-a)))=(.int .i64 (a3Q r a))))))=_ by kernel_rfl) ?_;have g1:=a1Y a;have g2:=a2D r;have g3:=@aED r (-(a));have g4:=a2D (a0n r (-(a)))
 repeat' first | trivial | with_reducible apply And.intro | (intro _)
 all_goals first | exact tU2 | (unfold a3Q; exact tR_) | (simp_all; done)
def aGW:Ctr:=⟨220,spY (rR.c (rQ.c r0)) (fun (r,a,_)=>r.sz+szR a <= 100000) (fun (r,a,_)=>.k (.c (.v (.int .i64 ((a3Q r a))))))⟩
theorem aGV:CtrOK prog aGW:=yOK a0w a6w Tryz.func220 fun x hp=>aBD x.1 x.2.1 hp
theorem a0X (r:Rx) (a:Rat):un (a3Q r a):=by
 unfold a3Q
 repeat' split
 all_goals (repeat' first | exact a6S | exact a6R | exact a6Q | exact a2Q _ | exact a1X .. | exact a1z .. | apply a1M | apply a1O)
def a2L (q:Dx):Int:=(if (bif (decide ((((Rt.sg (q.dm)))) < ((0:Int)))) then (true) else (decide ((((Rt.sg (q.dn)))) < ((0:Int)))))=true then (0:Int) else (if (bif (bif (((a1y q.da q.db q.dm)) == ((0:Int))) then (true) else ((((a1y q.dc q.dd q.dm))*(((Rt.sg (q.dn))))) == ((0:Int)))) then (true) else (((a1y q.da q.db q.dm)) == (((a1y q.dc q.dd q.dm))*(((Rt.sg (q.dn)))))))=true then (if (((a1y q.da q.db q.dm)) == ((0:Int)))=true then ((a1y q.dc q.dd q.dm))*(((Rt.sg (q.dn)))) else a1y q.da q.db q.dm) else ((a1y q.da q.db q.dm))*((a1y ((((q.da)*(q.da))+(((q.db)*(q.db))*(q.dm))) - ((q.dn)*(((q.dc)*(q.dc))+(((q.dd)*(q.dd))*(q.dm))))) ((((q.da)*(q.db)) - ((q.dn)*((q.dc)*(q.dd))))+(((q.da)*(q.db)) - ((q.dn)*((q.dc)*(q.dd))))) q.dm))))
def aDb (q:Dx):=((q.da*q.db) - (q.dn*(q.dc*q.dd)))
def aQq (q:Dx):=((a1y q.dc q.dd q.dm)*(Rt.sg q.dn))
def aYP (q:Dx):=(bif (bif ((a1y q.da q.db q.dm) == (0:Int)) then true else ((aQq q) == (0:Int))) then true else ((a1y q.da q.db q.dm) == (aQq q)))
def aYO (q:Dx):=(bif (decide ((Rt.sg q.dm) < (0:Int))) then true else (decide ((Rt.sg q.dn) < (0:Int))))
def aTW (q:Dx):=((q.dc*q.dc)+((q.dd*q.dd)*q.dm))
def aTX (q:Dx):=(((q.da*q.da)+((q.db*q.db)*q.dm)) - (q.dn*(aTW q)))
theorem aGJ (q:Dx) (hp:q.sz <= 15000):owes LTD DT4 [] f216 (bd f216) [.g (eD q)] (.k (.c (.v (.int .i64 ((a2L q)))))):=by
 refine a0m (show ((True/\True)/\((((decide ((Rt.sg q.dm) < (0:Int))) == false)=true->(True/\True))/\(((aYO q)=true->(Value.int .i64 (0:Int)=(.int .i64 (a2L q))))/\((aYO q)=false->((True/\True/\True/\szR q.da+szR q.db+szR q.dm <= 300000)/\((True/\True/\True/\szR q.dc+szR q.dd+szR q.dm <= 300000)/\((True/\True)/\((inR .i64 (aQq q))/\(((aYP q)=true->((((a1y q.da q.db q.dm) == (0:Int))=true->(Value.int .i64 (aQq q)=(.int .i64 (a2L q))))/\(((a1y q.da q.db q.dm) == (0:Int))=false->(Value.int .i64 (a1y q.da q.db q.dm)=(.int .i64 (a2L q))))))/\((aYP q)=false->((True/\True/\(szR q.dc <= 1000000/\szR q.dc <= 1000000))/\((True/\True/\(szR q.dd <= 1000000/\szR q.dd <= 1000000))/\((True/\True/\(szR (q.dd*q.dd) <= 1000000/\szR q.dm <= 1000000))/\((True/\True/\(szR (q.dc*q.dc) <= 1000000/\szR ((q.dd*q.dd)*q.dm) <= 1000000))/\((True/\True/\(szR q.dn <= 1000000/\szR (aTW q) <= 1000000))/\((True/\True/\(szR q.da <= 1000000/\szR q.da <= 1000000))/\((True/\True/\(szR q.db <= 1000000/\szR q.db <= 1000000))/\((True/\True/\(szR (q.db*q.db) <= 1000000/\szR q.dm <= 1000000))/\((True/\True/\(szR (q.da*q.da) <= 1000000/\szR ((q.db*q.db)*q.dm) <= 1000000))/\((True/\True/\(szR ((q.da*q.da)+((q.db*q.db)*q.dm)) <= 1000000/\szR (q.dn*(aTW q)) <= 1000000))/\((True/\True/\(szR q.da <= 1000000/\szR q.db <= 1000000))/\((True/\True/\(szR q.dc <= 1000000/\szR q.dd <= 1000000))/\((True/\True/\(szR q.dn <= 1000000/\szR (q.dc*q.dd) <= 1000000))/\((True/\True/\(szR (q.da*q.db) <= 1000000/\szR (q.dn*(q.dc*q.dd)) <= 1000000))/\((True/\True/\(szR (aDb q) <= 1000000/\szR (aDb q) <= 1000000))/\((True/\True/\True/\szR (aTX q)+szR ((aDb q)+(aDb q))+szR q.dm <= 300000)/\((inR .i64 ((a1y q.da q.db q.dm)*(a1y (aTX q) ((aDb q)+(aDb q)) q.dm)))/\(Value.int .i64 ((a1y q.da q.db q.dm)*(a1y (aTX q) ((aDb q)+(aDb q)) q.dm))=(.int .i64 (a2L q))))))))))))))))))))))))))))))=_ by kernel_rfl) ?_;delta aTX aTW aYO aYP aQq aDb;have g1:=b5J q;have g2:=a0C q.dd q.dd;have g3:=a0C q.dc q.dc;have g4:=a0C ((q.dd)*(q.dd)) q.dm;have g5:=a1C ((q.dc)*(q.dc)) (((q.dd)*(q.dd))*(q.dm));have g6:=a0C q.db q.db;have g7:=a0C q.da q.da;have g8:=a0C ((q.db)*(q.db)) q.dm;have g9:=a1C ((q.da)*(q.da)) (((q.db)*(q.db))*(q.dm));have g10:=a0C q.dn (((q.dc)*(q.dc))+(((q.dd)*(q.dd))*(q.dm)));have g11:=a0C q.dc q.dd;have g12:=a0C q.da q.db;have g13:=a0C q.dn ((q.dc)*(q.dd));have g14:=a2z ((q.da)*(q.db)) ((q.dn)*((q.dc)*(q.dd)));have g15:=a2z (((q.da)*(q.da))+(((q.db)*(q.db))*(q.dm))) ((q.dn)*(((q.dc)*(q.dc))+(((q.dd)*(q.dd))*(q.dm))));have g16:=a1C (((q.da)*(q.db)) - ((q.dn)*((q.dc)*(q.dd)))) (((q.da)*(q.db)) - ((q.dn)*((q.dc)*(q.dd))))
 repeat' first | trivial | with_reducible apply And.intro | (intro _)
 all_goals first | rfl | omega | assumption | (with_reducible apply a3E; (repeat' first | exact a6S | exact a6R | exact a6Q | exact a2Q _ | exact a1X .. | exact a1z .. | exact a0X .. | apply a1M | apply a1O); done) | (unfold a2L; exact tR_) | (simp_all; done)
def aRR:Ctr:=⟨216,spY (rD.c r0) (fun (q,_)=>q.sz <= 15000) (fun (q,_)=>.k (.c (.v (.int .i64 ((a2L q))))))⟩
theorem aNv:CtrOK prog aRR:=yOK a0w a6w Tryz.func216 fun x hp=>aGJ x.1 hp
theorem a1S (q:Dx):un (a2L q):=by
 unfold a2L
 repeat' split
 all_goals (repeat' first | exact a6S | exact a6R | exact a6Q | exact a2Q _ | exact a1X .. | exact a1z .. | exact a0X .. | apply a1M | apply a1O)
def a0J (r:Rx) (a:Rat):Int:=a1y ((r.ra) - (a)) r.rb r.rc
theorem aBz (r:Rx) (a:Rat) (hp:r.sz+szR a <= 60000):owes LTD DT4 [] f507 (bd f507) [.g (eR r),.g [.R (a)]] (.k (.c (.v (.int .i64 ((a0J r a)))))):=by
 refine a0m (show ((True/\True/\(szR r.ra <= 1000000/\szR a <= 1000000))/\((True/\True/\True/\szR (r.ra - a)+szR r.rb+szR r.rc <= 300000)/\(Value.int .i64 (a1y (r.ra - a) r.rb r.rc)=(.int .i64 (a0J r a)))))=_ by kernel_rfl) ?_;have g1:=a2D r;have g2:=a2z r.ra a
 repeat' first | trivial | with_reducible apply And.intro | (intro _)
 all_goals first | rfl | omega | assumption | (with_reducible apply a3E; (repeat' first | exact a6S | exact a6R | exact a6Q | exact a2Q _ | exact a1X .. | exact a1z .. | exact a0X .. | exact a1S .. | apply a1M | apply a1O); done) | (unfold a0J; exact tR_) | (simp_all; done)
def aGL:Ctr:=⟨507,spY (rR.c (rQ.c r0)) (fun (r,a,_)=>r.sz+szR a <= 60000) (fun (r,a,_)=>.k (.c (.v (.int .i64 ((a0J r a))))))⟩
theorem aGK:CtrOK prog aGL:=yOK a0w a6w Tryz.func507 fun x hp=>aBz x.1 x.2.1 hp
theorem a1d (r:Rx) (a:Rat):un (a0J r a):=by
 unfold a0J
 repeat' split
 all_goals (repeat' first | exact a6S | exact a6R | exact a6Q | exact a2Q _ | exact a1X .. | exact a1z .. | exact a0X .. | exact a1S .. | apply a1M | apply a1O)
def a0y (a:Rat) (b:Rat) (c:Rat):Rx:=(if ((((Rt.sg (b)))) == ((0:Int)))=true then a0v a else Rx.mk a b c)
theorem tU3 {p:Prop} (h:p:=by first | rfl | omega | assumption | (with_reducible apply a3E; (repeat' first | exact a6S | exact a6R | exact a6Q | exact a2Q _ | exact a1X .. | exact a1z .. | exact a0X .. | exact a1S .. | exact a1d .. | apply a1M | apply a1O); done)):p:=h
theorem aD1 (a:Rat) (b:Rat) (c:Rat):owes LTD DT4 [] f214 (bd f214) [.g [.R (a)],.g [.R (b)],.g [.R (c)]] (.k (.g (eR (a0y a b c)))):=by
 refine a0m (show ((True/\True)/\((((Rt.sg b) == (0:Int))=true->((True/\True)/\(((a0v a).ra=(a0y a b c).ra)/\(((a0v a).rb=(a0y a b c).rb)/\(((a0v a).rc=(a0y a b c).rc)/\True)))))/\(((Rt.sg b) == (0:Int))=false->((a=(a0y a b c).ra)/\((b=(a0y a b c).rb)/\((c=(a0y a b c).rc)/\True))))))=_ by kernel_rfl) ?_
 repeat' first | trivial | with_reducible apply And.intro | (intro _)
 all_goals first | exact tU3 | (unfold a0y; exact tR_) | (simp_all; done)
def aLQ:Ctr:=⟨214,spY (rQ.c (rQ.c (rQ.c r0))) (fun _=>True) (fun (a,b,c,_)=>.k (.g (eR (a0y a b c))))⟩
theorem aJg:CtrOK prog aLQ:=yOK a0w a6w Tryz.func214 fun x _=>aD1 x.1 x.2.1 x.2.2.1
theorem aJ2 (a:Rat) (b:Rat) (c:Rat):(a0y a b c).sz <= (szR a+szR b+szR c)+4:=by
 have g1:=@a5R a;have g2:=a2D (a0v a);have g3:=a9F a b c;unfold a0y
 repeat' split
 all_goals first | omega | (dsimp only; omega)
def a0G (v:Vx):Vx:=Vx.mk (-(v.vx)) (-(v.vy))
theorem aGI (v:Vx) (hp:v.sz <= 200000):owes LTD DT4 [] f472 (bd f472) [.g (eV v)] (.k (.g (eV (a0G v)))):=by
 refine a0m (show ((True/\(szR v.vx <= 5000000))/\((True/\(szR v.vy <= 5000000))/\(((-v.vx)=(a0G v).vx)/\(((-v.vy)=(a0G v).vy)/\True))))=_ by kernel_rfl) ?_;have g1:=aTc v
 repeat' first | trivial | with_reducible apply And.intro | (intro _)
 all_goals first | exact tU3 | (unfold a0G; exact tR_) | (simp_all; done)
def aRO:Ctr:=⟨472,spY (rV.c r0) (fun (v,_)=>v.sz <= 200000) (fun (v,_)=>.k (.g (eV (a0G v))))⟩
theorem aNt:CtrOK prog aRO:=yOK a0w a6w Tryz.func472 fun x hp=>aGI x.1 hp
theorem aOd (v:Vx):(a0G v).sz <= (v.sz):=by
 have g1:=aHJ (-(v.vx)) (-(v.vy));have g2:=a1Y v.vx;have g3:=aTc v;have g4:=a1Y v.vy;unfold a0G
 repeat' split
 all_goals first | omega | (dsimp only; omega)
def a0f (p:Px) (v:Vx):Px:=Px.mk ((p.a)+(v.vx)) p.b ((p.c)+(v.vy)) p.d p.e
theorem a8r (p:Px) (v:Vx) (hp:p.sz+v.sz <= 200000):owes LTD DT4 [] f471 (bd f471) [.g (eP p),.g (eV v)] (.k (.g (eP (a0f p v)))):=by
 refine a0m (show ((True/\True/\(szR p.a <= 1000000/\szR v.vx <= 1000000))/\((True/\True/\(szR p.c <= 1000000/\szR v.vy <= 1000000))/\(((p.a+v.vx)=(a0f p v).a)/\((p.b=(a0f p v).b)/\(((p.c+v.vy)=(a0f p v).c)/\((p.d=(a0f p v).d)/\((p.e=(a0f p v).e)/\True)))))))=_ by kernel_rfl) ?_;have g1:=a5h p;have g2:=aTc v
 repeat' first | trivial | with_reducible apply And.intro | (intro _)
 all_goals first | exact tU3 | (unfold a0f; exact tR_) | (simp_all; done)
def a8O:Ctr:=⟨471,spY (rP.c (rV.c r0)) (fun (p,v,_)=>p.sz+v.sz <= 200000) (fun (p,v,_)=>.k (.g (eP (a0f p v))))⟩
theorem aAK:CtrOK prog a8O:=yOK a0w a6w Tryz.func471 fun x hp=>a8r x.1 x.2.1 hp
theorem a8z (p:Px) (v:Vx):(a0f p v).sz <= (p.sz+v.sz)+4:=by
 have g1:=aHK ((p.a)+(v.vx)) p.b ((p.c)+(v.vy)) p.d p.e;have g2:=a1C p.a v.vx;have g3:=a5h p;have g4:=aTc v;have g5:=a1C p.c v.vy;unfold a0f
 repeat' split
 all_goals first | omega | (dsimp only; omega)
def DT5:List Ctr:=DT4 ++ [aV9,aV7,aV8,aGW,aRR,aGL,aLQ,aRO,a8O]
theorem aL4:∀ c ∈ DT5,CtrOK prog c:=a0M a6w (a0Y aR0 (a0Y aRY (a0Y aRZ (a0Y aGV (a0Y aNv (a0Y aGK (a0Y aJg (a0Y aNt (a0Y aAK (a3e))))))))))
def a0H (r:Rx) (s:Rx):Int:=a2L (a3g r s)
theorem aJm (r:Rx) (s:Rx) (hp:r.sz+s.sz <= 14900):owes LTD DT5 [] f126 (bd f126) [.g (eR r),.g (eR s)] (.k (.c (.v (.int .i64 ((a0H r s)))))):=by
 refine a0m (show (((True/\(True/\True))/\(True/\(True/\True))/\r.sz+s.sz <= 200000)/\(((True/\(True/\(True/\(True/\(True/\True)))))/\(a3g r s).sz <= 15000)/\(Value.int .i64 (a2L (a3g r s))=(.int .i64 (a0H r s)))))=_ by kernel_rfl) ?_;have g1:=a2D r;have g2:=a2D s;have g3:=@b0D r s;have g4:=b5J (a3g r s)
 repeat' first | trivial | with_reducible apply And.intro | (intro _)
 all_goals first | exact tU3 | (unfold a0H; exact tR_) | (simp_all; done)
def aV4:Ctr:=⟨126,spY (rR.c (rR.c r0)) (fun (r,s,_)=>r.sz+s.sz <= 14900) (fun (r,s,_)=>.k (.c (.v (.int .i64 ((a0H r s))))))⟩
theorem aRS:CtrOK prog aV4:=yOK a0w aL4 Tryz.func126 fun x hp=>aJm x.1 x.2.1 hp
theorem a3q (r:Rx) (s:Rx):un (a0H r s):=by
 unfold a0H
 repeat' split
 all_goals (repeat' first | exact a6S | exact a6R | exact a6Q | exact a2Q _ | exact a1X .. | exact a1z .. | exact a0X .. | exact a1S .. | exact a1d .. | apply a1M | apply a1O)
def a0Q (p:Px):Rx:=a0y p.a p.b p.e
theorem tU4 {p:Prop} (h:p:=by first | rfl | omega | assumption | (with_reducible apply a3E; (repeat' first | exact a6S | exact a6R | exact a6Q | exact a2Q _ | exact a1X .. | exact a1z .. | exact a0X .. | exact a1S .. | exact a1d .. | exact a3q .. | apply a1M | apply a1O); done)):p:=h
theorem aRN (p:Px):owes LTD DT5 [] f124 (bd f124) [.g (eP p)] (.k (.g (eR (a0Q p)))):=by
 refine a0m (show ((True/\True/\True/\True)/\(((a0y p.a p.b p.e).ra=(a0Q p).ra)/\(((a0y p.a p.b p.e).rb=(a0Q p).rb)/\(((a0y p.a p.b p.e).rc=(a0Q p).rc)/\True))))=_ by kernel_rfl) ?_
 repeat' first | trivial | with_reducible apply And.intro | (intro _)
 all_goals first | exact tU4 | (unfold a0Q; exact tR_) | (simp_all; done)
def b6x:Ctr:=⟨124,spY (rP.c r0) (fun _=>True) (fun (p,_)=>.k (.g (eR (a0Q p))))⟩
theorem aZh:CtrOK prog b6x:=yOK a0w aL4 Tryz.func124 fun x _=>aRN x.1
theorem aSE (p:Px):(a0Q p).sz <= (p.sz)+4:=by
 have g1:=@aJ2 p.a p.b p.e;have g2:=a2D (a0y p.a p.b p.e);have g3:=a5h p;unfold a0Q
 repeat' split
 all_goals first | omega | (dsimp only; omega)
def a2m (p:Px):Rx:=a0y p.c p.d p.e
theorem aRM (p:Px):owes LTD DT5 [] f219 (bd f219) [.g (eP p)] (.k (.g (eR (a2m p)))):=by
 refine a0m (show ((True/\True/\True/\True)/\(((a0y p.c p.d p.e).ra=(a2m p).ra)/\(((a0y p.c p.d p.e).rb=(a2m p).rb)/\(((a0y p.c p.d p.e).rc=(a2m p).rc)/\True))))=_ by kernel_rfl) ?_
 repeat' first | trivial | with_reducible apply And.intro | (intro _)
 all_goals first | exact tU4 | (unfold a2m; exact tR_) | (simp_all; done)
def b6w:Ctr:=⟨219,spY (rP.c r0) (fun _=>True) (fun (p,_)=>.k (.g (eR (a2m p))))⟩
theorem aZg:CtrOK prog b6w:=yOK a0w aL4 Tryz.func219 fun x _=>aRM x.1
theorem b0c (p:Px):(a2m p).sz <= (p.sz)+4:=by
 have g1:=@aJ2 p.c p.d p.e;have g2:=a2D (a0y p.c p.d p.e);have g3:=a5h p;unfold a2m
 repeat' split
 all_goals first | omega | (dsimp only; omega)
def DT6:List Ctr:=DT5 ++ [aV4,b6x,b6w]
theorem aSw:∀ c ∈ DT6,CtrOK prog c:=a0M aL4 (a0Y aRS (a0Y aZh (a0Y aZg (a3e))))
def a4f (r:Rx) (s:Rx):Bool:=((a0H r s)) == ((0:Int))
theorem aD4 (r:Rx) (s:Rx) (hp:r.sz+s.sz <= 14900):owes LTD DT6 [] f215 (bd f215) [.g (eR r),.g (eR s)] (.k (.c (.v (.bool ((a4f r s)))))):=by
 refine a0m (show (((True/\(True/\True))/\(True/\(True/\True))/\r.sz+s.sz <= 14900)/\(Value.bool ((a0H r s) == (0:Int))=(.bool (a4f r s))))=_ by kernel_rfl) ?_;have g1:=a2D r;have g2:=a2D s
 repeat' first | trivial | with_reducible apply And.intro | (intro _)
 all_goals first | exact tU4 | (unfold a4f; exact tR_) | (simp_all; done)
def aLS:Ctr:=⟨215,spY (rR.c (rR.c r0)) (fun (r,s,_)=>r.sz+s.sz <= 14900) (fun (r,s,_)=>.k (.c (.v (.bool ((a4f r s))))))⟩
theorem aJl:CtrOK prog aLS:=yOK a0w aSw Tryz.func215 fun x hp=>aD4 x.1 x.2.1 hp
def a0g (p:Px) (q:Px):Int:=(if (((a0H (a0Q p) (a0Q q))) != ((0:Int)))=true then a0H (a0Q p) (a0Q q) else a0H (a2m p) (a2m q))
def a1F:=(True/\(True/\True))
def aQp:=((True/\(True/\a1F))/\True)
theorem aAL (p:Px) (q:Px) (hp:p.sz+q.sz <= 14500):owes LTD DT6 [] f202 (bd f202) [.g (eP p),.g (eP q)] (.k (.c (.v (.int .i64 ((a0g p q)))))):=by
 refine a0m (show (aQp/\(aQp/\((a1F/\a1F/\(a0Q p).sz+(a0Q q).sz <= 14900)/\((((a0H (a0Q p) (a0Q q)) != (0:Int))=true->(Value.int .i64 (a0H (a0Q p) (a0Q q))=(.int .i64 (a0g p q))))/\(((a0H (a0Q p) (a0Q q)) != (0:Int))=false->(aQp/\(aQp/\((a1F/\a1F/\(a2m p).sz+(a2m q).sz <= 14900)/\(Value.int .i64 (a0H (a2m p) (a2m q))=(.int .i64 (a0g p q)))))))))))=_ by kernel_rfl) ?_;delta aQp a1F;have g1:=@aSE p;have g2:=a2D (a0Q p);have g3:=a5h p;have g4:=@aSE q;have g5:=a2D (a0Q q);have g6:=a5h q;have g7:=@b0c p;have g8:=a2D (a2m p);have g9:=@b0c q;have g10:=a2D (a2m q)
 repeat' first | trivial | with_reducible apply And.intro | (intro _)
 all_goals first | exact tU4 | (unfold a0g; exact tR_) | (simp_all; done)
def aCm:Ctr:=⟨202,spY (rP.c (rP.c r0)) (fun (p,q,_)=>p.sz+q.sz <= 14500) (fun (p,q,_)=>.k (.c (.v (.int .i64 ((a0g p q))))))⟩
theorem aD3:CtrOK prog aCm:=yOK a0w aSw Tryz.func202 fun x hp=>aAL x.1 x.2.1 hp
theorem a1o (p:Px) (q:Px):un (a0g p q):=by
 unfold a0g
 repeat' split
 all_goals (repeat' first | exact a6S | exact a6R | exact a6Q | exact a2Q _ | exact a1X .. | exact a1z .. | exact a0X .. | exact a1S .. | exact a1d .. | exact a3q .. | apply a1M | apply a1O)
def DT7:List Ctr:=DT6 ++ [aLS,aCm]
theorem aWD:∀ c ∈ DT7,CtrOK prog c:=a0M aSw (a0Y aJl (a0Y aD3 (a3e)))
def a0x (p:Px) (q:Px):Bool:=((a0g p q)) == ((0:Int))
theorem tU5 {p:Prop} (h:p:=by first | rfl | omega | assumption | (with_reducible apply a3E; (repeat' first | exact a6S | exact a6R | exact a6Q | exact a2Q _ | exact a1X .. | exact a1z .. | exact a0X .. | exact a1S .. | exact a1d .. | exact a3q .. | exact a1o .. | apply a1M | apply a1O); done)):p:=h
theorem aD2 (p:Px) (q:Px) (hp:p.sz+q.sz <= 14500):owes LTD DT7 [] f114 (bd f114) [.g (eP p),.g (eP q)] (.k (.c (.v (.bool ((a0x p q)))))):=by
 refine a0m (show (((True/\(True/\(True/\(True/\True))))/\(True/\(True/\(True/\(True/\True))))/\p.sz+q.sz <= 14500)/\(Value.bool ((a0g p q) == (0:Int))=(.bool (a0x p q))))=_ by kernel_rfl) ?_;have g1:=a5h p;have g2:=a5h q
 repeat' first | trivial | with_reducible apply And.intro | (intro _)
 all_goals first | exact tU5 | (unfold a0x; exact tR_) | (simp_all; done)
def aLR:Ctr:=⟨114,spY (rP.c (rP.c r0)) (fun (p,q,_)=>p.sz+q.sz <= 14500) (fun (p,q,_)=>.k (.c (.v (.bool ((a0x p q))))))⟩
theorem aJi:CtrOK prog aLR:=yOK a0w aWD Tryz.func114 fun x hp=>aD2 x.1 x.2.1 hp
def DT8:List Ctr:=DT7 ++ [aLR]
theorem a3Y:∀ c ∈ DT8,CtrOK prog c:=a0M aWD (a0Y aJi (a3e))
theorem aUf (r:Rx):(a0i r r).2=true:=by
 unfold a0i;split
 ·rfl
 ·have:r.rc - r.rc=0:=by grind
  simp only [this];cases h:(Rt.sg r.rb == (0:Int)) <;> rfl
def a0A (r:Rx):Rx:=(a13 r r).1
theorem aBC (r:Rx) (hp:r.sz <= 25000):owes LTD DT8 [] f474 (bd f474) [.g (eR r)] (.k (.g (eR (a0A r)))):=by
 refine a0m (show (((True/\(True/\True))/\(True/\(True/\True))/\(a0i r r).2=true/\r.sz+r.sz <= 60000)/\(((a13 r r).1.ra=(a0A r).ra)/\(((a13 r r).1.rb=(a0A r).rb)/\(((a13 r r).1.rc=(a0A r).rc)/\True))))=_ by kernel_rfl) ?_;have hc:=aUf r;have g1:=a2D r
 repeat' first | trivial | with_reducible apply And.intro | (intro _)
 all_goals first | exact tU5 | (unfold a0A; exact tR_) | (simp_all; done)
def aGT:Ctr:=⟨474,spY (rR.c r0) (fun (r,_)=>r.sz <= 25000) (fun (r,_)=>.k (.g (eR (a0A r))))⟩
theorem aGS:CtrOK prog aGT:=yOK a0w a3Y Tryz.func474 fun x hp=>aBC x.1 hp
theorem a6O (r:Rx):(a0A r).sz <= 8*(r.sz)+20:=by
 have g1:=@aWW r r;have g2:=a2D (a13 r r).1;have g3:=a2D r;unfold a0A
 repeat' split
 all_goals first | omega | (dsimp only; omega)
def a2s (l:Lx):Bool:=bif (bif (bif ((true)) then ((true)) else (false)) then ((true)) else (false)) then (bif ((((Rt.sg (l.la)))) != ((0:Int))) then (true) else ((((Rt.sg (l.lb)))) != ((0:Int)))) else (false)
theorem a8p (l:Lx) (hp:l.sz <= 100000):owes LTD DT8 [] f112 (bd f112) [.g (eL l)] (.k (.c (.v (.bool ((a2s l)))))):=by
 refine a0m (show ((szR l.la <= 1000000)/\(((true == true)=true->(szR l.lb <= 1000000))/\((((bif true then true else false) == true)=true->(szR l.lc <= 1000000))/\((((bif (bif true then true else false) then true else false) == true)=true->(True/\True))/\(((((bif (bif true then true else false) then true else false) == true) && (((Rt.sg l.la) != (0:Int)) == false))=true->(True/\True))/\(Value.bool (bif (bif (bif true then true else false) then true else false) then (bif ((Rt.sg l.la) != (0:Int)) then true else ((Rt.sg l.lb) != (0:Int))) else false)=(.bool (a2s l))))))))=_ by kernel_rfl) ?_;have g1:=aHL l
 repeat' first | trivial | with_reducible apply And.intro | (intro _)
 all_goals first | exact tU5 | (unfold a2s; exact tR_) | (simp_all; done)
def a8N:Ctr:=⟨112,spY (rL.c r0) (fun (l,_)=>l.sz <= 100000) (fun (l,_)=>.k (.c (.v (.bool ((a2s l))))))⟩
theorem aAH:CtrOK prog a8N:=yOK a0w a3Y Tryz.func112 fun x hp=>a8p x.1 hp
def a1H (k:Kx):Bool:=bif (bif (bif ((true)) then ((true)) else (false)) then ((true)) else (false)) then (decide ((((Rt.sg (k.kq)))) > ((0:Int)))) else (false)
theorem a6H (k:Kx) (hp:k.sz <= 100000):owes LTD DT8 [] f111 (bd f111) [.g (eK k)] (.k (.c (.v (.bool ((a1H k)))))):=by
 refine a0m (show ((szR k.kx <= 1000000)/\(((true == true)=true->(szR k.ky <= 1000000))/\((((bif true then true else false) == true)=true->(szR k.kq <= 1000000))/\((((bif (bif true then true else false) then true else false) == true)=true->(True/\True))/\(Value.bool (bif (bif (bif true then true else false) then true else false) then (decide ((Rt.sg k.kq) > (0:Int))) else false)=(.bool (a1H k)))))))=_ by kernel_rfl) ?_;have g1:=aBN k
 repeat' first | trivial | with_reducible apply And.intro | (intro _)
 all_goals first | exact tU5 | (unfold a1H; exact tR_) | (simp_all; done)
def a6t:Ctr:=⟨111,spY (rKx.c r0) (fun (k,_)=>k.sz <= 100000) (fun (k,_)=>.k (.c (.v (.bool ((a1H k))))))⟩
theorem a8q:CtrOK prog a6t:=yOK a0w a3Y Tryz.func111 fun x hp=>a6H x.1 hp
def a2d (l:Lx) (m:Lx):Bool:=bif (bif ((((Rt.sg ((a0z l.la m.lb) - (a0z l.lb m.la))))) == ((0:Int))) then ((((Rt.sg ((a0z l.la m.lc) - (a0z l.lc m.la))))) == ((0:Int))) else (false)) then ((((Rt.sg ((a0z l.lb m.lc) - (a0z l.lc m.lb))))) == ((0:Int))) else (false)
def aQn (l:Lx) (m:Lx):=((Rt.sg ((a0z l.la m.lb) - (a0z l.lb m.la))) == (0:Int))
def aQo (l:Lx) (m:Lx):=(bif (aQn l m) then ((Rt.sg ((a0z l.la m.lc) - (a0z l.lc m.la))) == (0:Int)) else false)
theorem a9c (l:Lx) (m:Lx) (hp:l.sz+m.sz <= 100000):owes LTD DT8 [] f205 (bd f205) [.g (eL l),.g (eL m)] (.k (.c (.v (.bool ((a2d l m)))))):=by
 refine a0m (show ((True/\True/\szR l.la+szR m.lb <= 500000)/\((True/\True/\szR l.lb+szR m.la <= 500000)/\((True/\True/\(szR (a0z l.la m.lb) <= 1000000/\szR (a0z l.lb m.la) <= 1000000))/\((((aQn l m) == true)=true->(True/\True/\szR l.la+szR m.lc <= 500000))/\((((aQn l m) == true)=true->(True/\True/\szR l.lc+szR m.la <= 500000))/\((((aQn l m) == true)=true->(True/\True/\(szR (a0z l.la m.lc) <= 1000000/\szR (a0z l.lc m.la) <= 1000000)))/\((((aQo l m) == true)=true->(True/\True/\szR l.lb+szR m.lc <= 500000))/\((((aQo l m) == true)=true->(True/\True/\szR l.lc+szR m.lb <= 500000))/\((((aQo l m) == true)=true->(True/\True/\(szR (a0z l.lb m.lc) <= 1000000/\szR (a0z l.lc m.lb) <= 1000000)))/\(Value.bool (bif (aQo l m) then ((Rt.sg ((a0z l.lb m.lc) - (a0z l.lc m.lb))) == (0:Int)) else false)=(.bool (a2d l m))))))))))))=_ by kernel_rfl) ?_;delta aQo aQn;have g1:=aHL l;have g2:=aHL m;have g3:=@a4b l.la m.lb;have g4:=@a4b l.lb m.la;have g5:=@a4b l.la m.lc;have g6:=@a4b l.lc m.la;have g7:=@a4b l.lb m.lc;have g8:=@a4b l.lc m.lb
 repeat' first | trivial | with_reducible apply And.intro | (intro _)
 all_goals first | exact tU5 | (unfold a2d; exact tR_) | (simp_all; done)
def aAJ:Ctr:=⟨205,spY (rL.c (rL.c r0)) (fun (l,m,_)=>l.sz+m.sz <= 100000) (fun (l,m,_)=>.k (.c (.v (.bool ((a2d l m))))))⟩
theorem aBu:CtrOK prog aAJ:=yOK a0w a3Y Tryz.func205 fun x hp=>a9c x.1 x.2.1 hp
def a2e (k:Kx) (m:Kx):Bool:=bif (bif ((((Rt.sg ((k.kx) - (m.kx))))) == ((0:Int))) then ((((Rt.sg ((k.ky) - (m.ky))))) == ((0:Int))) else (false)) then ((((Rt.sg ((k.kq) - (m.kq))))) == ((0:Int))) else (false)
theorem a7E (k:Kx) (m:Kx) (hp:k.sz+m.sz <= 100000):owes LTD DT8 [] f204 (bd f204) [.g (eK k),.g (eK m)] (.k (.c (.v (.bool ((a2e k m)))))):=by
 refine a0m (show ((True/\True/\(szR k.kx <= 1000000/\szR m.kx <= 1000000))/\(((((Rt.sg (k.kx - m.kx)) == (0:Int)) == true)=true->(True/\True/\(szR k.ky <= 1000000/\szR m.ky <= 1000000)))/\((((bif ((Rt.sg (k.kx - m.kx)) == (0:Int)) then ((Rt.sg (k.ky - m.ky)) == (0:Int)) else false) == true)=true->(True/\True/\(szR k.kq <= 1000000/\szR m.kq <= 1000000)))/\(Value.bool (bif (bif ((Rt.sg (k.kx - m.kx)) == (0:Int)) then ((Rt.sg (k.ky - m.ky)) == (0:Int)) else false) then ((Rt.sg (k.kq - m.kq)) == (0:Int)) else false)=(.bool (a2e k m))))))=_ by kernel_rfl) ?_;have g1:=aBN k;have g2:=aBN m
 repeat' first | trivial | with_reducible apply And.intro | (intro _)
 all_goals first | exact tU5 | (unfold a2e; exact tR_) | (simp_all; done)
def a7F:Ctr:=⟨204,spY (rKx.c (rKx.c r0)) (fun (k,m,_)=>k.sz+m.sz <= 100000) (fun (k,m,_)=>.k (.c (.v (.bool ((a2e k m))))))⟩
theorem a9d:CtrOK prog a7F:=yOK a0w a3Y Tryz.func204 fun x hp=>a7E x.1 x.2.1 hp
def a1l (l:Lx) (m:Lx):Rat:=a00 (a0h l.la m.lb) (a0h m.la l.lb)
theorem aDV (l:Lx) (m:Lx) (hp:l.sz+m.sz <= 100000):owes LTD DT8 [] f413 (bd f413) [.g (eL l),.g (eL m)] (.k (.g [.R ((a1l l m))])):=by
 refine a0m (show ((True/\True/\szR l.la+szR m.lb <= 500000)/\((True/\True/\szR m.la+szR l.lb <= 500000)/\((True/\True/\szR (a0h l.la m.lb)+szR (a0h m.la l.lb) <= 500000)/\(((a00 (a0h l.la m.lb) (a0h m.la l.lb))=(a1l l m))/\True))))=_ by kernel_rfl) ?_;have g1:=aHL l;have g2:=aHL m;have g3:=@a3f l.la m.lb;have g4:=@a3f m.la l.lb
 repeat' first | trivial | with_reducible apply And.intro | (intro _)
 all_goals first | exact tU5 | (unfold a1l; exact tR_) | (simp_all; done)
def aLN:Ctr:=⟨413,spY (rL.c (rL.c r0)) (fun (l,m,_)=>l.sz+m.sz <= 100000) (fun (l,m,_)=>.k (.g [.R ((a1l l m))]))⟩
theorem aJa:CtrOK prog aLN:=yOK a0w a3Y Tryz.func413 fun x hp=>aDV x.1 x.2.1 hp
def a0N (l:Lx):Rat:=a1x (a0h l.la l.la) (a0h l.lb l.lb)
theorem aGB (l:Lx) (hp:l.sz <= 100000):owes LTD DT8 [] f409 (bd f409) [.g (eL l)] (.k (.g [.R ((a0N l))])):=by
 refine a0m (show ((True/\True/\szR l.la+szR l.la <= 500000)/\((True/\True/\szR l.lb+szR l.lb <= 500000)/\((True/\True/\szR (a0h l.la l.la)+szR (a0h l.lb l.lb) <= 500000)/\(((a1x (a0h l.la l.la) (a0h l.lb l.lb))=(a0N l))/\True))))=_ by kernel_rfl) ?_;have g1:=aHL l;have g2:=@a3f l.la l.la;have g3:=@a3f l.lb l.lb
 repeat' first | trivial | with_reducible apply And.intro | (intro _)
 all_goals first | exact tU5 | (unfold a0N; exact tR_) | (simp_all; done)
def aRG:Ctr:=⟨409,spY (rL.c r0) (fun (l,_)=>l.sz <= 100000) (fun (l,_)=>.k (.g [.R ((a0N l))]))⟩
theorem aNo:CtrOK prog aRG:=yOK a0w a3Y Tryz.func409 fun x hp=>aGB x.1 hp
theorem aWU (l:Lx):szR (a0N l) <= 4*(l.sz)+10:=by
 have g1:=@aEB (a0h l.la l.la) (a0h l.lb l.lb);have g2:=@a3f l.la l.la;have g3:=aHL l;have g4:=@a3f l.lb l.lb;unfold a0N
 repeat' split
 all_goals first | omega | (dsimp only; omega)
def a03 (l:Lx) (x:Rat) (y:Rat):Rat:=a00 (a1x (a0h l.la x) (a0h l.lb y)) l.lc
theorem aDR (l:Lx) (x:Rat) (y:Rat) (hp:l.sz+szR x+szR y <= 100000):owes LTD DT8 [] f411 (bd f411) [.g (eL l),.g [.R (x)],.g [.R (y)]] (.k (.g [.R ((a03 l x y))])):=by
 refine a0m (show ((True/\True/\szR l.la+szR x <= 500000)/\((True/\True/\szR l.lb+szR y <= 500000)/\((True/\True/\szR (a0h l.la x)+szR (a0h l.lb y) <= 500000)/\((True/\True/\szR (a1x (a0h l.la x) (a0h l.lb y))+szR l.lc <= 500000)/\(((a00 (a1x (a0h l.la x) (a0h l.lb y)) l.lc)=(a03 l x y))/\True)))))=_ by kernel_rfl) ?_;have g1:=aHL l;have g2:=@a3f l.la x;have g3:=@a3f l.lb y;have g4:=@aEB (a0h l.la x) (a0h l.lb y)
 repeat' first | trivial | with_reducible apply And.intro | (intro _)
 all_goals first | exact tU5 | (unfold a03; exact tR_) | (simp_all; done)
def aLL:Ctr:=⟨411,spY (rL.c (rQ.c (rQ.c r0))) (fun (l,x,y,_)=>l.sz+szR x+szR y <= 100000) (fun (l,x,y,_)=>.k (.g [.R ((a03 l x y))]))⟩
theorem aI8:CtrOK prog aLL:=yOK a0w a3Y Tryz.func411 fun x hp=>aDR x.1 x.2.1 x.2.2.1 hp
theorem aS2 (l:Lx) (x:Rat) (y:Rat):szR (a03 l x y) <= (l.sz+szR x+szR y)+10:=by
 have g1:=@aEA (a1x (a0h l.la x) (a0h l.lb y)) l.lc;have g2:=@aEB (a0h l.la x) (a0h l.lb y);have g3:=@a3f l.la x;have g4:=aHL l;have g5:=@a3f l.lb y;unfold a03
 repeat' split
 all_goals first | omega | (dsimp only; omega)
def a0U (k:Kx) (m:Kx):Bool:=bif ((((Rt.sg ((k.kx) - (m.kx))))) == ((0:Int))) then ((((Rt.sg ((k.ky) - (m.ky))))) == ((0:Int))) else (false)
theorem a7B (k:Kx) (m:Kx) (hp:k.sz+m.sz <= 100000):owes LTD DT8 [] f406 (bd f406) [.g (eK k),.g (eK m)] (.k (.c (.v (.bool ((a0U k m)))))):=by
 refine a0m (show ((True/\True/\(szR k.kx <= 1000000/\szR m.kx <= 1000000))/\(((((Rt.sg (k.kx - m.kx)) == (0:Int)) == true)=true->(True/\True/\(szR k.ky <= 1000000/\szR m.ky <= 1000000)))/\(Value.bool (bif ((Rt.sg (k.kx - m.kx)) == (0:Int)) then ((Rt.sg (k.ky - m.ky)) == (0:Int)) else false)=(.bool (a0U k m)))))=_ by kernel_rfl) ?_;have g1:=aBN k;have g2:=aBN m
 repeat' first | trivial | with_reducible apply And.intro | (intro _)
 all_goals first | exact tU5 | (unfold a0U; exact tR_) | (simp_all; done)
def a7C:Ctr:=⟨406,spY (rKx.c (rKx.c r0)) (fun (k,m,_)=>k.sz+m.sz <= 100000) (fun (k,m,_)=>.k (.c (.v (.bool ((a0U k m))))))⟩
theorem a9b:CtrOK prog a7C:=yOK a0w a3Y Tryz.func406 fun x hp=>a7B x.1 x.2.1 hp
def a0r (p:Px):Px:=Px.mk (-(p.a)) (-(p.b)) p.c p.d p.e
theorem aGs (p:Px) (hp:p.sz <= 10000):owes LTD DT8 [] f327 (bd f327) [.g (eP p)] (.k (.g (eP (a0r p)))):=by
 refine a0m (show ((True/\(szR p.a <= 5000000))/\((True/\(szR p.b <= 5000000))/\(((-p.a)=(a0r p).a)/\(((-p.b)=(a0r p).b)/\((p.c=(a0r p).c)/\((p.d=(a0r p).d)/\((p.e=(a0r p).e)/\True)))))))=_ by kernel_rfl) ?_;have g1:=a5h p
 repeat' first | trivial | with_reducible apply And.intro | (intro _)
 all_goals first | exact tU5 | (unfold a0r; exact tR_) | (simp_all; done)
def aRx:Ctr:=⟨327,spY (rP.c r0) (fun (p,_)=>p.sz <= 10000) (fun (p,_)=>.k (.g (eP (a0r p))))⟩
theorem aNi:CtrOK prog aRx:=yOK a0w a3Y Tryz.func327 fun x hp=>aGs x.1 hp
theorem aCy (p:Px):(a0r p).sz <= (p.sz):=by
 have g1:=aHK (-(p.a)) (-(p.b)) p.c p.d p.e;have g2:=a1Y p.a;have g3:=a5h p;have g4:=a1Y p.b;unfold a0r
 repeat' split
 all_goals first | omega | (dsimp only; omega)
def a0b (u:Ux):Ux:=Ux.mk u.arc u.l u.k (bif (u.arc) then (!(u.cw)) else (false)) u.t u.f
theorem aAC (u:Ux):owes LTD DT8 [] f207 (bd f207) [.g (eU u)] (.k (.g (eU (a0b u)))):=by
 refine a0m (show ((Value.bool u.arc=(.bool ((a0b u).arc)))/\(((!u.arc)=(!(a0b u).arc))/\((u.l.la=(a0b u).l.la)/\(((!u.arc)=(!(a0b u).arc))/\((u.l.lb=(a0b u).l.lb)/\(((!u.arc)=(!(a0b u).arc))/\((u.l.lc=(a0b u).l.lc)/\((u.arc=((a0b u).arc))/\((u.k.kx=(a0b u).k.kx)/\((u.arc=((a0b u).arc))/\((u.k.ky=(a0b u).k.ky)/\((u.arc=((a0b u).arc))/\((u.k.kq=(a0b u).k.kq)/\((Value.bool (bif u.arc then (!u.cw) else false)=(.bool ((a0b u).cw)))/\((u.t.a=(a0b u).f.a)/\((u.t.b=(a0b u).f.b)/\((u.t.c=(a0b u).f.c)/\((u.t.d=(a0b u).f.d)/\((u.t.e=(a0b u).f.e)/\((u.f.a=(a0b u).t.a)/\((u.f.b=(a0b u).t.b)/\((u.f.c=(a0b u).t.c)/\((u.f.d=(a0b u).t.d)/\((u.f.e=(a0b u).t.e)/\True))))))))))))))))))))))))=_ by kernel_rfl) ?_
 repeat' first | trivial | with_reducible apply And.intro | (intro _)
 all_goals first | exact tU5 | (unfold a0b; exact tR_) | (simp_all; done)
def aCj:Ctr:=⟨207,spY (rU.c r0) (fun _=>True) (fun (u,_)=>.k (.g (eU (a0b u))))⟩
theorem aDP:CtrOK prog aCj:=yOK a0w a3Y Tryz.func207 fun x _=>aAC x.1
def a0s (k:Kx) (p:Px):Bool:=bif (decide (((a0J (a2m p) k.ky)) > ((0:Int)))) then (true) else (bif (((a0J (a2m p) k.ky)) == ((0:Int))) then (decide (((a0J (a0Q p) k.kx)) > ((0:Int)))) else (false))
def aYN (p:Px) (k:Kx):=(((decide ((a0J (a2m p) k.ky) > (0:Int))) == false) && (((a0J (a2m p) k.ky) == (0:Int)) == true))
theorem aDM (k:Kx) (p:Px) (hp:k.sz+p.sz <= 14000):owes LTD DT8 [] f479 (bd f479) [.g (eK k),.g (eP p)] (.k (.c (.v (.bool ((a0s k p)))))):=by
 refine a0m (show (((True/\(True/\a1F))/\True)/\((a1F/\True/\(a2m p).sz+szR k.ky <= 60000)/\(((aYN p k)=true->((True/\(True/\a1F))/\True))/\(((aYN p k)=true->(a1F/\True/\(a0Q p).sz+szR k.kx <= 60000))/\(Value.bool (bif (decide ((a0J (a2m p) k.ky) > (0:Int))) then true else (bif ((a0J (a2m p) k.ky) == (0:Int)) then (decide ((a0J (a0Q p) k.kx) > (0:Int))) else false))=(.bool (a0s k p)))))))=_ by kernel_rfl) ?_;delta a1F aYN;have g1:=aBN k;have g2:=@b0c p;have g3:=a2D (a2m p);have g4:=a5h p;have g5:=@aSE p;have g6:=a2D (a0Q p)
 repeat' first | trivial | with_reducible apply And.intro | (intro _)
 all_goals first | exact tU5 | (unfold a0s; exact tR_) | (simp_all; done)
def aLI:Ctr:=⟨479,spY (rKx.c (rP.c r0)) (fun (k,p,_)=>k.sz+p.sz <= 14000) (fun (k,p,_)=>.k (.c (.v (.bool ((a0s k p))))))⟩
theorem aI1:CtrOK prog aLI:=yOK a0w a3Y Tryz.func479 fun x hp=>aDM x.1 x.2.1 hp
def a0Z (u:Ux):Int:=(if (!(u.arc))=true then (0:Int) else (if u.cw=true then (-1:Int) else (1:Int)))
theorem aGm (u:Ux):owes LTD DT8 [] f405 (bd f405) [.g (eU u)] (.k (.c (.v (.int .i64 ((a0Z u)))))):=by
 refine a0m (show (((!u.arc)=true->(Value.int .i64 (0:Int)=(.int .i64 (a0Z u))))/\((!u.arc)=false->((u.cw=true->(Value.int .i64 (-1:Int)=(.int .i64 (a0Z u))))/\(u.cw=false->(Value.int .i64 (1:Int)=(.int .i64 (a0Z u)))))))=_ by kernel_rfl) ?_
 repeat' first | trivial | with_reducible apply And.intro | (intro _)
 all_goals first | exact tU5 | (unfold a0Z; exact tR_) | (simp_all; done)
def aRv:Ctr:=⟨405,spY (rU.c r0) (fun _=>True) (fun (u,_)=>.k (.c (.v (.int .i64 ((a0Z u))))))⟩
theorem aNg:CtrOK prog aRv:=yOK a0w a3Y Tryz.func405 fun x _=>aGm x.1
theorem a3i (u:Ux):un (a0Z u):=by
 unfold a0Z
 repeat' split
 all_goals (repeat' first | exact a6S | exact a6R | exact a6Q | exact a2Q _ | exact a1X .. | exact a1z .. | exact a0X .. | exact a1S .. | exact a1d .. | exact a3q .. | exact a1o .. | apply a1M | apply a1O)
def a1J (u:Ux):Bool:=bif (!(u.arc)) then ((a4f (a0Q u.f) (a0Q u.t))) else (false)
theorem tU6 {p:Prop} (h:p:=by first | rfl | omega | assumption | (with_reducible apply a3E; (repeat' first | exact a6S | exact a6R | exact a6Q | exact a2Q _ | exact a1X .. | exact a1z .. | exact a0X .. | exact a1S .. | exact a1d .. | exact a3q .. | exact a1o .. | exact a3i .. | apply a1M | apply a1O); done)):p:=h
theorem a8X (u:Ux) (hp:u.sz <= 14000):owes LTD DT8 [] f125 (bd f125) [.g (eU u)] (.k (.c (.v (.bool ((a1J u)))))):=by
 refine a0m (show ((((!u.arc) == true)=true->((True/\(True/\(True/\(True/\True))))/\True))/\((((!u.arc) == true)=true->((True/\(True/\(True/\(True/\True))))/\True))/\((((!u.arc) == true)=true->((True/\(True/\True))/\(True/\(True/\True))/\(a0Q u.f).sz+(a0Q u.t).sz <= 14900))/\(Value.bool (bif (!u.arc) then (a4f (a0Q u.f) (a0Q u.t)) else false)=(.bool (a1J u))))))=_ by kernel_rfl) ?_;have g1:=@aSE u.f;have g2:=a2D (a0Q u.f);have g3:=aCF u;have g4:=@aSE u.t;have g5:=a2D (a0Q u.t)
 repeat' first | trivial | with_reducible apply And.intro | (intro _)
 all_goals first | exact tU6 | (unfold a1J; exact tR_) | (simp_all; done)
def aAy:Ctr:=⟨125,spY (rU.c r0) (fun (u,_)=>u.sz <= 14000) (fun (u,_)=>.k (.c (.v (.bool ((a1J u))))))⟩
theorem aBo:CtrOK prog aAy:=yOK a0w a3Y Tryz.func125 fun x hp=>a8X x.1 hp
theorem aWb {u:Ux} (h:(a0Z u == (0:Int))=false):u.arc=true:=by
 cases e:u.arc with
 | true=>rfl
 | false=>exfalso; unfold a0Z at h; rw [e] at h; cases h
theorem b2H {u v:Ux} (k:(a0Z u != a0Z v)=false) (h:(a0Z u == (0:Int))=false):v.arc=true:=by
 have e:a0Z u=a0Z v:=by simpa using k
 exact aWb (by rw [<- e]; exact h)
def DT9:List Ctr:=DT8 ++ [aGT,a8N,a6t,aAJ,a7F,aLN,aRG,aLL,a7C,aRx,aCj,aLI,aRv,aAy]
theorem aA3:∀ c ∈ DT9,CtrOK prog c:=a0M a3Y (a0Y aGS (a0Y aAH (a0Y a8q (a0Y aBu (a0Y a9d (a0Y aJa (a0Y aNo (a0Y aI8 (a0Y a9b (a0Y aNi (a0Y aDP (a0Y aI1 (a0Y aNg (a0Y aBo (a3e)))))))))))))))
theorem aVJ (p:Px):(a0i (a0A (a0Q p)) (a0A (a2m p))).2=true:=by
 have hs:∀ r:Rx,(a0A r).rb=0 \/ (a0A r).rc=r.rc:=fun r=>by
  unfold a0A a13 a0t;dsimp only;split
  ·exact .inl rfl
  ·right;unfold a0i;split <;> rfl
 have hx:(a0Q p).rb=0 \/ (a0Q p).rc=p.e:=by
  unfold a0Q a0y;split
  ·exact .inl rfl
  ·exact .inr rfl
 have hy:(a2m p).rb=0 \/ (a2m p).rc=p.e:=by
  unfold a2m a0y;split
  ·exact .inl rfl
  ·exact .inr rfl
 have sq0:∀ r:Rx,r.rb=0->(a0A r).rb=0:=fun r h=>by
  unfold a0A a13 a0t;dsimp only;split
  ·rfl
  ·rename_i h1;exfalso;apply h1
   have:r.ra*r.rb+r.rb*r.ra=0:=by rw [h]; grind
   rw [this];rfl
 have z:∀ q:Rat,q=0->(Rt.sg q == (0:Int))=true:=fun q h=>by rw [h]; rfl
 generalize hX:a0A (a0Q p)=x;generalize hY:a0A (a2m p)=y
 have kx:x.rb=0 \/ x.rc=p.e:=by
  rcases hx with h | h
  ·exact .inl (by rw [<- hX]; exact sq0 _ h)
  ·rw [<- hX,<- h]; exact hs _
 have ky:y.rb=0 \/ y.rc=p.e:=by
  rcases hy with h | h
  ·exact .inl (by rw [<- hY]; exact sq0 _ h)
  ·rw [<- hY,<- h]; exact hs _
 unfold a0i;split
 ·rfl
 ·rename_i h1;have hb:x.rb ≠ 0:=fun h=>h1 (z _ h);have hc:=kx.resolve_left hb;dsimp only;rcases ky with h | h
  ·rw [z _ h]; rfl
  ·have e:x.rc - y.rc=0:=by rw [hc,h]; grind
   rw [z _ e];cases (Rt.sg y.rb == (0:Int)) <;> rfl
def a1e (p:Px) (v:Vx):Rx:=(a2G (a0A (a0Q (a0f p (a0G v)))) (a0A (a2m (a0f p (a0G v))))).1
def aTV (p:Px) (v:Vx):=(a2G (a0A (a0Q (a0f p (a0G v)))) (a0A (a2m (a0f p (a0G v)))))
theorem aBy (p:Px) (v:Vx) (hp:p.sz+v.sz <= 3000):owes LTD DT9 [] f399 (bd f399) [.g (eP p),.g (eV v)] (.k (.g (eR (a1e p v)))):=by
 refine a0m (show (((True/\True)/\v.sz <= 200000)/\(((True/\(True/\a1F))/\(True/\True)/\p.sz+(a0G v).sz <= 200000)/\(((True/\(True/\a1F))/\True)/\((a1F/\(a0Q (a0f p (a0G v))).sz <= 25000)/\(((True/\(True/\a1F))/\True)/\((a1F/\(a2m (a0f p (a0G v))).sz <= 25000)/\((a1F/\a1F/\(a0i (a0A (a0Q (a0f p (a0G v)))) (a0A (a2m (a0f p (a0G v))))).2=true/\(a0A (a0Q (a0f p (a0G v)))).sz+(a0A (a2m (a0f p (a0G v)))).sz <= 60000)/\(((aTV p v).1.ra=(a1e p v).ra)/\(((aTV p v).1.rb=(a1e p v).rb)/\(((aTV p v).1.rc=(a1e p v).rc)/\True))))))))))=_ by kernel_rfl) ?_;delta aTV a1F;have hc:=aVJ (a0f p (a0G v));have g1:=aTc v;have g2:=a5h p;have g3:=@aOd v;have g4:=aTc (a0G v);have g5:=@aSE (a0f p (a0G v));have g6:=a2D (a0Q (a0f p (a0G v)));have g7:=@a8z p (a0G v);have g8:=a5h (a0f p (a0G v));have g9:=@b0c (a0f p (a0G v));have g10:=a2D (a2m (a0f p (a0G v)));have g11:=@a6O (a0Q (a0f p (a0G v)));have g12:=a2D (a0A (a0Q (a0f p (a0G v))));have g13:=@a6O (a2m (a0f p (a0G v)));have g14:=a2D (a0A (a2m (a0f p (a0G v))))
 repeat' first | trivial | with_reducible apply And.intro | (intro _)
 all_goals first | exact tU6 | (unfold a1e; exact tR_) | (simp_all; done)
def aGH:Ctr:=⟨399,spY (rP.c (rV.c r0)) (fun (p,v,_)=>p.sz+v.sz <= 3000) (fun (p,v,_)=>.k (.g (eR (a1e p v))))⟩
theorem aGG:CtrOK prog aGH:=yOK a0w aA3 Tryz.func399 fun x hp=>aBy x.1 x.2.1 hp
theorem aEC (p:Px) (v:Vx):(a1e p v).sz <= 32*(p.sz+v.sz)+700:=by
 have g1:=@aWX (a0A (a0Q (a0f p (a0G v)))) (a0A (a2m (a0f p (a0G v))));have g2:=a2D (a2G (a0A (a0Q (a0f p (a0G v)))) (a0A (a2m (a0f p (a0G v))))).1;have g3:=@a6O (a0Q (a0f p (a0G v)));have g4:=a2D (a0A (a0Q (a0f p (a0G v))));have g5:=@aSE (a0f p (a0G v));have g6:=a2D (a0Q (a0f p (a0G v)));have g7:=@a8z p (a0G v);have g8:=a5h (a0f p (a0G v));have g9:=a5h p;have g10:=@aOd v;have g11:=aTc (a0G v);have g12:=aTc v;have g13:=@a6O (a2m (a0f p (a0G v)));have g14:=a2D (a0A (a2m (a0f p (a0G v))));have g15:=@b0c (a0f p (a0G v));have g16:=a2D (a2m (a0f p (a0G v)));unfold a1e
 repeat' split
 all_goals first | omega | (dsimp only; omega)
def a1E (l:Lx) (k:Kx):Rat:=a00 (a0h (a0N l) k.kq) (a0h (a03 l k.kx k.ky) (a03 l k.kx k.ky))
theorem aGA (l:Lx) (k:Kx) (hp:l.sz+k.sz <= 1000):owes LTD DT9 [] f408 (bd f408) [.g (eL l),.g (eK k)] (.k (.g [.R ((a1E l k))])):=by
 refine a0m (show (((True/\(True/\True))/\True/\True/\l.sz+szR k.kx+szR k.ky <= 100000)/\(((True/\(True/\True))/\l.sz <= 100000)/\((True/\True/\szR (a0N l)+szR k.kq <= 500000)/\((True/\True/\szR (a03 l k.kx k.ky)+szR (a03 l k.kx k.ky) <= 500000)/\((True/\True/\szR (a0h (a0N l) k.kq)+szR (a0h (a03 l k.kx k.ky) (a03 l k.kx k.ky)) <= 500000)/\(((a00 (a0h (a0N l) k.kq) (a0h (a03 l k.kx k.ky) (a03 l k.kx k.ky)))=(a1E l k))/\True))))))=_ by kernel_rfl) ?_;have g1:=aBN k;have g2:=aHL l;have g3:=@aWU l;have g4:=@aS2 l k.kx k.ky;have g5:=@a3f (a0N l) k.kq;have g6:=@a3f (a03 l k.kx k.ky) (a03 l k.kx k.ky)
 repeat' first | trivial | with_reducible apply And.intro | (intro _)
 all_goals first | exact tU6 | (unfold a1E; exact tR_) | (simp_all; done)
def aRF:Ctr:=⟨408,spY (rL.c (rKx.c r0)) (fun (l,k,_)=>l.sz+k.sz <= 1000) (fun (l,k,_)=>.k (.g [.R ((a1E l k))]))⟩
theorem aNn:CtrOK prog aRF:=yOK a0w aA3 Tryz.func408 fun x hp=>aGA x.1 x.2.1 hp
def a1g (k:Kx) (m:Kx):Lx × Int:=((Lx.mk (a0h ((((2:Int)):Rat)) (a00 m.kx k.kx)) (a0h ((((2:Int)):Rat)) (a00 m.ky k.ky)) (a00 (a00 (a1x (a0h m.kx m.kx) (a0h m.ky m.ky)) m.kq) (a00 (a1x (a0h k.kx k.kx) (a0h k.ky k.ky)) k.kq))),((0:Int)))
theorem aAE (k:Kx) (m:Kx) (hp:a0U k m=false/\k.sz+m.sz <= 1000):owes LTD DT9 [] f407 (bd f407) [.g (eK k),.g (eK m)] (.t [.g (eL (a1g k m).1),.c (.v (.int .i64 ((a1g k m).2)))]):=by
 refine a0m (show (((True/\(True/\True))/\(True/\(True/\True))/\k.sz+m.sz <= 100000)/\(((a0U k m)=true->(False/\((Value.int .i64 (6:Int)=(.int .i64 ((a1g k m).2)))/\True)))/\((a0U k m)=false->((-9223372036854775808 <= (2:Int)/\(2:Int) <= 9223372036854775807)/\((True/\True/\szR k.kx+szR k.kx <= 500000)/\((True/\True/\szR k.ky+szR k.ky <= 500000)/\((True/\True/\szR (a0h k.kx k.kx)+szR (a0h k.ky k.ky) <= 500000)/\((True/\True/\szR (a1x (a0h k.kx k.kx) (a0h k.ky k.ky))+szR k.kq <= 500000)/\((True/\True/\szR m.kx+szR m.kx <= 500000)/\((True/\True/\szR m.ky+szR m.ky <= 500000)/\((True/\True/\szR (a0h m.kx m.kx)+szR (a0h m.ky m.ky) <= 500000)/\((True/\True/\szR (a1x (a0h m.kx m.kx) (a0h m.ky m.ky))+szR m.kq <= 500000)/\((True/\True/\szR m.kx+szR k.kx <= 500000)/\((True/\True/\szR ((2:Int):Rat)+szR (a00 m.kx k.kx) <= 500000)/\((True/\True/\szR m.ky+szR k.ky <= 500000)/\((True/\True/\szR ((2:Int):Rat)+szR (a00 m.ky k.ky) <= 500000)/\((True/\True/\szR (a00 (a1x (a0h m.kx m.kx) (a0h m.ky m.ky)) m.kq)+szR (a00 (a1x (a0h k.kx k.kx) (a0h k.ky k.ky)) k.kq) <= 500000)/\((((a0h ((2:Int):Rat) (a00 m.kx k.kx))=(a1g k m).1.la)/\(((a0h ((2:Int):Rat) (a00 m.ky k.ky))=(a1g k m).1.lb)/\(((a00 (a00 (a1x (a0h m.kx m.kx) (a0h m.ky m.ky)) m.kq) (a00 (a1x (a0h k.kx k.kx) (a0h k.ky k.ky)) k.kq))=(a1g k m).1.lc)/\True)))/\((Value.int .i64 (0:Int)=(.int .i64 ((a1g k m).2)))/\True)))))))))))))))))))=_ by kernel_rfl) ?_;obtain ⟨hp0,hp1⟩:=hp;have g1:=aBN k;have g2:=aBN m;have g3:=@a3f k.kx k.kx;have g4:=@a3f k.ky k.ky;have g5:=@aEB (a0h k.kx k.kx) (a0h k.ky k.ky);have g6:=@a3f m.kx m.kx;have g7:=@a3f m.ky m.ky;have g8:=@aEB (a0h m.kx m.kx) (a0h m.ky m.ky)
 have g9:=(a2V (n:=2) (by decide))
 have g10:=@aEA m.kx k.kx;have g11:=@aEA m.ky k.ky;have g12:=@aEA (a1x (a0h m.kx m.kx) (a0h m.ky m.ky)) m.kq;have g13:=@aEA (a1x (a0h k.kx k.kx) (a0h k.ky k.ky)) k.kq
 repeat' first | trivial | with_reducible apply And.intro | (intro _)
 all_goals first | exact tU6 | (exfalso; rename_i hx; simp [hp0] at hx; done) | (unfold a1g; exact tR_) | (simp_all; done)
def aCk:Ctr:=⟨407,spY (rKx.c (rKx.c r0)) (fun (k,m,_)=>a0U k m=false/\k.sz+m.sz <= 1000) (fun (k,m,_)=>.t [.g (eL (a1g k m).1),.c (.v (.int .i64 ((a1g k m).2)))])⟩
theorem aDT:CtrOK prog aCk:=yOK a0w aA3 Tryz.func407 fun x hp=>aAE x.1 x.2.1 hp
def a0j (u:Ux) (v:Ux):Bool:=(if ((u.arc) != (v.arc))=true then false else (if u.arc=true then a2e u.k v.k else a2d u.l v.l))
theorem a6G (u:Ux) (v:Ux) (hp:u.sz+v.sz <= 100000):owes LTD DT9 [] f116 (bd f116) [.g (eU u),.g (eU v)] (.k (.c (.v (.bool ((a0j u v)))))):=by
 refine a0m (show (((u.arc != v.arc)=true->(Value.bool false=(.bool (a0j u v))))/\((u.arc != v.arc)=false->((u.arc=true->((((u.arc=true)/\((u.arc=true)/\(u.arc=true)))/\((v.arc=true)/\((v.arc=true)/\(v.arc=true)))/\u.k.sz+v.k.sz <= 100000)/\(Value.bool (a2e u.k v.k)=(.bool (a0j u v)))))/\(u.arc=false->(((((!u.arc)=true)/\(((!u.arc)=true)/\((!u.arc)=true)))/\(((!v.arc)=true)/\(((!v.arc)=true)/\((!v.arc)=true)))/\u.l.sz+v.l.sz <= 100000)/\(Value.bool (a2d u.l v.l)=(.bool (a0j u v))))))))=_ by kernel_rfl) ?_;have g1:=aCF u;have g2:=aCF v
 repeat' first | trivial | with_reducible apply And.intro | (intro _)
 all_goals first | exact tU6 | (unfold a0j; exact tR_) | (simp_all; done)
def a6s:Ctr:=⟨116,spY (rU.c (rU.c r0)) (fun (u,v,_)=>u.sz+v.sz <= 100000) (fun (u,v,_)=>.k (.c (.v (.bool ((a0j u v))))))⟩
theorem a8o:CtrOK prog a6s:=yOK a0w aA3 Tryz.func116 fun x hp=>a6G x.1 x.2.1 hp
def a0D (k:Kx) (p:Px) (q:Px):Int:=(if (((a0s k p)) != ((a0s k q)))=true then (if (a0s k q)=true then (-1:Int) else (1:Int)) else (if (a0s k p)=true then ((0:Int)) - ((a0H (a0Q p) (a0Q q))) else a0H (a0Q p) (a0Q q)))
def a3B:=(True/\(True/\a1F))
theorem aDK (k:Kx) (p:Px) (q:Px) (hp:k.sz+p.sz+q.sz <= 13900):owes LTD DT9 [] f414 (bd f414) [.g (eK k),.g (eP p),.g (eP q)] (.k (.c (.v (.int .i64 ((a0D k p q)))))):=by
 refine a0m (show ((a1F/\a3B/\k.sz+p.sz <= 14000)/\((a1F/\a3B/\k.sz+q.sz <= 14000)/\((((a0s k p) != (a0s k q))=true->(((a0s k q)=true->(Value.int .i64 (-1:Int)=(.int .i64 (a0D k p q))))/\((a0s k q)=false->(Value.int .i64 (1:Int)=(.int .i64 (a0D k p q))))))/\(((a0s k p) != (a0s k q))=false->((a3B/\True)/\((a3B/\True)/\((a1F/\a1F/\(a0Q p).sz+(a0Q q).sz <= 14900)/\(((a0s k p)=true->((inR .i64 ((0:Int) - (a0H (a0Q p) (a0Q q))))/\(Value.int .i64 ((0:Int) - (a0H (a0Q p) (a0Q q)))=(.int .i64 (a0D k p q)))))/\((a0s k p)=false->(Value.int .i64 (a0H (a0Q p) (a0Q q))=(.int .i64 (a0D k p q))))))))))))=_ by kernel_rfl) ?_;delta a3B a1F;have g1:=aBN k;have g2:=a5h p;have g3:=a5h q;have g4:=@aSE p;have g5:=a2D (a0Q p);have g6:=@aSE q;have g7:=a2D (a0Q q)
 repeat' first | trivial | with_reducible apply And.intro | (intro _)
 all_goals first | exact tU6 | (unfold a0D; exact tR_) | (simp_all; done)
def aLG:Ctr:=⟨414,spY (rKx.c (rP.c (rP.c r0))) (fun (k,p,q,_)=>k.sz+p.sz+q.sz <= 13900) (fun (k,p,q,_)=>.k (.c (.v (.int .i64 ((a0D k p q))))))⟩
theorem aIZ:CtrOK prog aLG:=yOK a0w aA3 Tryz.func414 fun x hp=>aDK x.1 x.2.1 x.2.2.1 hp
theorem a2U (k:Kx) (p:Px) (q:Px):un (a0D k p q):=by
 unfold a0D
 repeat' split
 all_goals (repeat' first | exact a6S | exact a6R | exact a6Q | exact a2Q _ | exact a1X .. | exact a1z .. | exact a0X .. | exact a1S .. | exact a1d .. | exact a3q .. | exact a1o .. | exact a3i .. | apply a1M | apply a1O)
def a3z (u:Ux) (v:Ux):Int:=(if (((a0Z u)) != ((a0Z v)))=true then (if (decide (((a0Z u)) < ((a0Z v))))=true then (-1:Int) else (1:Int)) else (if (((a0Z u)) == ((0:Int)))=true then (0:Int) else ((((0:Int)) - ((a0Z u))))*(((Rt.sg ((u.k.kq) - (v.k.kq)))))))
def aYM (p_:Ux):=(((((!p_.arc)=(!p_.arc))/\(((!p_.arc)=(!p_.arc))/\((!p_.arc)=(!p_.arc))))/\(((p_.arc=p_.arc)/\((p_.arc=p_.arc)/\(p_.arc=p_.arc)))/\((True/\(True/\(True/\(True/\True))))/\(True/\(True/\(True/\(True/\True)))))))/\True)
theorem aGn (u:Ux) (v:Ux) (hp:u.sz+v.sz <= 100000):owes LTD DT9 [] f320 (bd f320) [.g (eU u),.g (eU v)] (.k (.c (.v (.int .i64 ((a3z u v)))))):=by
 refine a0m (show ((aYM u)/\((aYM v)/\((((a0Z u) != (a0Z v))=true->(((decide ((a0Z u) < (a0Z v)))=true->(Value.int .i64 (-1:Int)=(.int .i64 (a3z u v))))/\((decide ((a0Z u) < (a0Z v)))=false->(Value.int .i64 (1:Int)=(.int .i64 (a3z u v))))))/\(((a0Z u) != (a0Z v))=false->((((a0Z u) == (0:Int))=true->(Value.int .i64 (0:Int)=(.int .i64 (a3z u v))))/\(((a0Z u) == (0:Int))=false->((inR .i64 ((0:Int) - (a0Z u)))/\(((u.arc=true)/\(v.arc=true)/\(szR u.k.kq <= 1000000/\szR v.k.kq <= 1000000))/\((inR .i64 (((0:Int) - (a0Z u))*(Rt.sg (u.k.kq - v.k.kq))))/\(Value.int .i64 (((0:Int) - (a0Z u))*(Rt.sg (u.k.kq - v.k.kq)))=(.int .i64 (a3z u v))))))))))))=_ by kernel_rfl) ?_;delta aYM;have g1:=aCF u;have g2:=aBN u.k;have g3:=aCF v;have g4:=aBN v.k
 repeat' first | trivial | with_reducible apply And.intro | (intro _)
 all_goals first | rfl | omega | assumption | (with_reducible apply a3E; (repeat' first | exact a6S | exact a6R | exact a6Q | exact a2Q _ | exact a1X .. | exact a1z .. | exact a0X .. | exact a1S .. | exact a1d .. | exact a3q .. | exact a1o .. | exact a3i .. | exact a2U .. | apply a1M | apply a1O); done) | (exact aWb (by assumption)) | (exact b2H (by assumption) (by assumption)) | (unfold a3z; exact tR_) | (simp_all; done)
def aRw:Ctr:=⟨320,spY (rU.c (rU.c r0)) (fun (u,v,_)=>u.sz+v.sz <= 100000) (fun (u,v,_)=>.k (.c (.v (.int .i64 ((a3z u v))))))⟩
theorem aNh:CtrOK prog aRw:=yOK a0w aA3 Tryz.func320 fun x hp=>aGn x.1 x.2.1 hp
theorem a4R (u:Ux) (v:Ux):un (a3z u v):=by
 unfold a3z
 repeat' split
 all_goals (repeat' first | exact a6S | exact a6R | exact a6Q | exact a2Q _ | exact a1X .. | exact a1z .. | exact a0X .. | exact a1S .. | exact a1d .. | exact a3q .. | exact a1o .. | exact a3i .. | exact a2U .. | apply a1M | apply a1O)
def b0u:List Ctr:=DT9 ++ [aGH,aRF,aCk,a6s,aLG,aRw]
theorem aJQ:∀ c ∈ b0u,CtrOK prog c:=a0M aA3 (a0Y aGG (a0Y aNn (a0Y aDT (a0Y a8o (a0Y aIZ (a0Y aNh (a3e)))))))
def a0L (k:Kx) (f:Px) (p:Px) (q:Px):Int:=(if ((decide (((a0D k p f)) < ((0:Int)))) != (decide (((a0D k q f)) < ((0:Int)))))=true then (if (decide (((a0D k q f)) < ((0:Int))))=true then (-1:Int) else (1:Int)) else a0D k p q)
theorem aDJ (k:Kx) (f:Px) (p:Px) (q:Px) (hp:k.sz+f.sz+p.sz+q.sz <= 13800):owes LTD b0u [] f325 (bd f325) [.g (eK k),.g (eP f),.g (eP p),.g (eP q)] (.k (.c (.v (.int .i64 ((a0L k f p q)))))):=by
 refine a0m (show ((a1F/\a3B/\a3B/\k.sz+p.sz+f.sz <= 13900)/\((a1F/\a3B/\a3B/\k.sz+q.sz+f.sz <= 13900)/\((((decide ((a0D k p f) < (0:Int))) != (decide ((a0D k q f) < (0:Int))))=true->(((decide ((a0D k q f) < (0:Int)))=true->(Value.int .i64 (-1:Int)=(.int .i64 (a0L k f p q))))/\((decide ((a0D k q f) < (0:Int)))=false->(Value.int .i64 (1:Int)=(.int .i64 (a0L k f p q))))))/\(((decide ((a0D k p f) < (0:Int))) != (decide ((a0D k q f) < (0:Int))))=false->((a1F/\a3B/\a3B/\k.sz+p.sz+q.sz <= 13900)/\(Value.int .i64 (a0D k p q)=(.int .i64 (a0L k f p q))))))))=_ by kernel_rfl) ?_;delta a3B a1F;have g1:=aBN k;have g2:=a5h p;have g3:=a5h f;have g4:=a5h q
 repeat' first | trivial | with_reducible apply And.intro | (intro _)
 all_goals first | rfl | omega | assumption | (with_reducible apply a3E; (repeat' first | exact a6S | exact a6R | exact a6Q | exact a2Q _ | exact a1X .. | exact a1z .. | exact a0X .. | exact a1S .. | exact a1d .. | exact a3q .. | exact a1o .. | exact a3i .. | exact a2U .. | exact a4R .. | apply a1M | apply a1O); done) | (unfold a0L; exact tR_) | (simp_all; done)
def aLF:Ctr:=⟨325,spY (rKx.c (rP.c (rP.c (rP.c r0)))) (fun (k,f,p,q,_)=>k.sz+f.sz+p.sz+q.sz <= 13800) (fun (k,f,p,q,_)=>.k (.c (.v (.int .i64 ((a0L k f p q))))))⟩
theorem aIY:CtrOK prog aLF:=yOK a0w aJQ Tryz.func325 fun x hp=>aDJ x.1 x.2.1 x.2.2.1 x.2.2.2.1 hp
theorem a4S (k:Kx) (f:Px) (p:Px) (q:Px):un (a0L k f p q):=by
 unfold a0L
 repeat' split
 all_goals (repeat' first | exact a6S | exact a6R | exact a6Q | exact a2Q _ | exact a1X .. | exact a1z .. | exact a0X .. | exact a1S .. | exact a1d .. | exact a3q .. | exact a1o .. | exact a3i .. | exact a2U .. | exact a4R .. | apply a1M | apply a1O)
def a4V (u:Ux) (v:Ux):Bool:=bif (bif (bif ((a0j u v)) then ((u.cw) == (v.cw)) else (false)) then ((a0x u.f v.f)) else (false)) then ((a0x u.t v.t)) else (false)
def a0o:=(True/\(True/\(True/\(True/\True))))
def a2q (p_:Ux):=((((!p_.arc)=(!p_.arc))/\(((!p_.arc)=(!p_.arc))/\((!p_.arc)=(!p_.arc))))/\(((p_.arc=p_.arc)/\((p_.arc=p_.arc)/\(p_.arc=p_.arc)))/\(a0o/\a0o)))
theorem tU7 {p:Prop} (h:p:=by first | rfl | omega | assumption | (with_reducible apply a3E; (repeat' first | exact a6S | exact a6R | exact a6Q | exact a2Q _ | exact a1X .. | exact a1z .. | exact a0X .. | exact a1S .. | exact a1d .. | exact a3q .. | exact a1o .. | exact a3i .. | exact a2U .. | exact a4R .. | exact a4S .. | apply a1M | apply a1O); done)):p:=h
theorem aDQ (u:Ux) (v:Ux) (hp:u.sz+v.sz <= 14000):owes LTD b0u [] f117 (bd f117) [.g (eU u),.g (eU v)] (.k (.c (.v (.bool ((a4V u v)))))):=by
 refine a0m (show (((a2q u)/\(a2q v)/\u.sz+v.sz <= 100000)/\((((bif (a0j u v) then (u.cw == v.cw) else false) == true)=true->(a0o/\a0o/\u.f.sz+v.f.sz <= 14500))/\((((bif (bif (a0j u v) then (u.cw == v.cw) else false) then (a0x u.f v.f) else false) == true)=true->(a0o/\a0o/\u.t.sz+v.t.sz <= 14500))/\(Value.bool (bif (bif (bif (a0j u v) then (u.cw == v.cw) else false) then (a0x u.f v.f) else false) then (a0x u.t v.t) else false)=(.bool (a4V u v))))))=_ by kernel_rfl) ?_;delta a2q a0o;have g1:=aCF u;have g2:=aCF v
 repeat' first | trivial | with_reducible apply And.intro | (intro _)
 all_goals first | exact tU7 | (unfold a4V; exact tR_) | (simp_all; done)
def aLK:Ctr:=⟨117,spY (rU.c (rU.c r0)) (fun (u,v,_)=>u.sz+v.sz <= 14000) (fun (u,v,_)=>.k (.c (.v (.bool ((a4V u v))))))⟩
theorem aI3:CtrOK prog aLK:=yOK a0w aJQ Tryz.func117 fun x hp=>aDQ x.1 x.2.1 hp
def b3z:List Ctr:=b0u ++ [aLF,aLK]
theorem aEj:∀ c ∈ b3z,CtrOK prog c:=a0M aJQ (a0Y aIY (a0Y aI3 (a3e)))
