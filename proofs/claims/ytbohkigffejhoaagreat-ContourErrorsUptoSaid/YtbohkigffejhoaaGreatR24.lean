import Derived.Test.YtbohkigffejhoaaGreatR23
import Derived.Test.YtbohkigffejhoaaGreatR16
namespace Go.Proofs.YtbohkigffejhoaaGreat
open Go.RowKit
set_option maxHeartbeats 4000000
namespace Vc
attribute [local irreducible] owes
def a0n (u:Ux):Ux:=Ux.mk u.arc u.l (Kx.mk (-(u.k.kx)) u.k.ky u.k.kq) (!(u.cw)) (a0v u.f) (a0v u.t)
theorem aBC (u:Ux) (hp:u.arc=true/\u.sz <= 10000):owes LTD b0r [] Tryz.f326 (bd Tryz.f326) [.g (eU u)] (.k (.g (eU (a0n u)))):=by
 refine a0p (show (((u.arc=true)/\(szR u.k.kx <= 5000000))/\(((True/\(True/\(True/\(True/\True))))/\u.f.sz <= 10000)/\(((True/\(True/\(True/\(True/\True))))/\u.t.sz <= 10000)/\((Value.bool u.arc=(.bool ((a0n u).arc)))/\(((!u.arc)=(!(a0n u).arc))/\((u.l.la=(a0n u).l.la)/\(((!u.arc)=(!(a0n u).arc))/\((u.l.lb=(a0n u).l.lb)/\(((!u.arc)=(!(a0n u).arc))/\((u.l.lc=(a0n u).l.lc)/\((((a0n u).arc)=true)/\(((-u.k.kx)=(a0n u).k.kx)/\((u.arc=((a0n u).arc))/\((u.k.ky=(a0n u).k.ky)/\((u.arc=((a0n u).arc))/\((u.k.kq=(a0n u).k.kq)/\((Value.bool (!u.cw)=(.bool ((a0n u).cw)))/\(((a0v u.f).a=(a0n u).f.a)/\(((a0v u.f).b=(a0n u).f.b)/\(((a0v u.f).c=(a0n u).f.c)/\(((a0v u.f).d=(a0n u).f.d)/\(((a0v u.f).e=(a0n u).f.e)/\(((a0v u.t).a=(a0n u).t.a)/\(((a0v u.t).b=(a0n u).t.b)/\(((a0v u.t).c=(a0n u).t.c)/\(((a0v u.t).d=(a0n u).t.d)/\(((a0v u.t).e=(a0n u).t.e)/\True)))))))))))))))))))))))))))=_ by kernel_rfl) ?_
 obtain ⟨hp0,hp1⟩:=hp
 have g1:=aCM u
 have g2:=aBW u.k
 repeat' first | trivial | with_reducible apply And.intro | (intro _)
 all_goals first | rfl | omega | assumption | (with_reducible apply a0N; (repeat' first | exact a2c | exact a2b | exact a2a | exact a0Z _ | exact a0Q .. | exact a0r .. | exact a0k .. | exact a0I .. | exact a0m .. | exact a07 .. | exact a0o .. | exact a1o .. | exact a1r .. | exact a1X .. | exact a1G .. | exact a5m .. | exact a4j .. | apply a0u | apply a0w); done) | (exfalso; rename_i hx; simp [hp0] at hx; done) | (unfold a0n; (repeat' first | rfl | rw [a06 (by assumption)] | rw [a05 (by assumption)]); done) | (simp_all; done)
def aGG:Ctr:=⟨326,spY (rU.c r0) (fun (u,_)=>u.arc=true/\u.sz <= 10000) (fun (u,_)=>.k (.g (eU (a0n u))))⟩
theorem aGF:CtrOK Tryz.prog aGG:=yOK a0F aRV Tryz.func326 fun x hp=>aBC x.1 hp
theorem aN1 (u:Ux):(a0n u).sz <= (u.sz):=by
 have g1:=aWq u.arc u.l (Kx.mk (-(u.k.kx)) u.k.ky u.k.kq) (!(u.cw)) (a0v u.f) (a0v u.t)
 have g2:=aCM u
 have g3:=aWr (-(u.k.kx)) u.k.ky u.k.kq
 have g4:=a18 u.k.kx
 have g5:=aBW u.k
 have g6:=@aCI u.f
 have g7:=a5A (a0v u.f)
 have g8:=@aCI u.t
 have g9:=a5A (a0v u.t)
 unfold a0n
 repeat' split
 all_goals first | omega | (dsimp only; omega)
def b0q:List Ctr:=b0r ++ [aGG]
theorem aRU:∀ c ∈ b0q,CtrOK Tryz.prog c:=a0O aRV (a03 aGF (a2L))
def a0Y (u:Ux) (p:Px) (q:Px):Int:=(if (!(u.arc))=true then (if (decide (((a0g u.f u.t)) > ((0:Int))))=true then ((0:Int)) - ((a0g p q)) else a0g p q) else (if (!(u.cw))=true then a0U u.k u.f p q else a0U ((a0n u).k) ((a0n u).f) (a0v p) (a0v q)))
def a6R:=(True/\(True/\(True/\(True/\True))))
theorem aDR (u:Ux) (p:Px) (q:Px) (hp:u.sz+p.sz+q.sz <= 9900):owes LTD b0q [] Tryz.f211 (bd Tryz.f211) [.g (eU u),.g (eP p),.g (eP q)] (.k (.c (.v (.int .i64 ((a0Y u p q)))))):=by
 refine a0p (show (((!u.arc)=true->((a6R/\a6R/\p.sz+q.sz <= 14500)/\((a6R/\a6R/\u.f.sz+u.t.sz <= 14500)/\(((decide ((a0g u.f u.t) > (0:Int)))=true->((inR .i64 ((0:Int) - (a0g p q)))/\(Value.int .i64 ((0:Int) - (a0g p q))=(.int .i64 (a0Y u p q)))))/\((decide ((a0g u.f u.t) > (0:Int)))=false->(Value.int .i64 (a0g p q)=(.int .i64 (a0Y u p q))))))))/\((!u.arc)=false->(((!u.cw)=true->((((u.arc=true)/\((u.arc=true)/\(u.arc=true)))/\a6R/\a6R/\a6R/\u.k.sz+u.f.sz+p.sz+q.sz <= 13800)/\(Value.int .i64 (a0U u.k u.f p q)=(.int .i64 (a0Y u p q)))))/\((!u.cw)=false->((((((!u.arc)=(!u.arc))/\(((!u.arc)=(!u.arc))/\((!u.arc)=(!u.arc))))/\(((u.arc=u.arc)/\((u.arc=u.arc)/\(u.arc=u.arc)))/\(a6R/\a6R)))/\u.arc=true/\u.sz <= 10000)/\((a6R/\p.sz <= 10000)/\((a6R/\q.sz <= 10000)/\((((((a0n u).arc)=true)/\((((a0n u).arc)=true)/\(((a0n u).arc)=true)))/\a6R/\a6R/\a6R/\((a0n u).k).sz+((a0n u).f).sz+(a0v p).sz+(a0v q).sz <= 13800)/\(Value.int .i64 (a0U ((a0n u).k) ((a0n u).f) (a0v p) (a0v q))=(.int .i64 (a0Y u p q)))))))))))=_ by kernel_rfl) ?_
 delta a6R
 have g1:=a5A p
 have g2:=a5A q
 have g3:=aCM u
 have g4:=@aN1 u
 have g5:=aCM (a0n u)
 have g6:=@aCI p
 have g7:=a5A (a0v p)
 have g8:=@aCI q
 have g9:=a5A (a0v q)
 repeat' first | trivial | with_reducible apply And.intro | (intro _)
 all_goals first | rfl | omega | assumption | (with_reducible apply a0N; (repeat' first | exact a2c | exact a2b | exact a2a | exact a0Z _ | exact a0Q .. | exact a0r .. | exact a0k .. | exact a0I .. | exact a0m .. | exact a07 .. | exact a0o .. | exact a1o .. | exact a1r .. | exact a1X .. | exact a1G .. | exact a5m .. | exact a4j .. | apply a0u | apply a0w); done) | (show u.arc=true; (have hq:(!u.arc)=false:=by assumption); revert hq; generalize u.arc=b; cases b <;> decide) | (unfold a0Y; (repeat' first | rfl | rw [a06 (by assumption)] | rw [a05 (by assumption)]); done) | (simp_all; done)
def aLG:Ctr:=⟨211,spY (rU.c (rP.c (rP.c r0))) (fun (u,p,q,_)=>u.sz+p.sz+q.sz <= 9900) (fun (u,p,q,_)=>.k (.c (.v (.int .i64 ((a0Y u p q))))))⟩
theorem aJk:CtrOK Tryz.prog aLG:=yOK a0F aRU Tryz.func211 fun x hp=>aDR x.1 x.2.1 x.2.2.1 hp
theorem aCL (u:Ux) (p:Px) (q:Px):un (a0Y u p q):=by
 unfold a0Y
 repeat' split
 all_goals (repeat' first | exact a2c | exact a2b | exact a2a | exact a0Z _ | exact a0Q .. | exact a0r .. | exact a0k .. | exact a0I .. | exact a0m .. | exact a07 .. | exact a0o .. | exact a1o .. | exact a1r .. | exact a1X .. | exact a1G .. | exact a5m .. | exact a4j .. | apply a0u | apply a0w)
def aYv:List Ctr:=b0q ++ [aLG]
theorem aJ0:∀ c ∈ aYv,CtrOK Tryz.prog c:=a0O aRU (a03 aJk (a2L))
def a1h (u:Ux) (p:Px):Bool:=bif (bif ((a08 u p)) then (decide (((a0Y u u.f p)) <= ((0:Int)))) else (false)) then (decide (((a0Y u p u.t)) <= ((0:Int)))) else (false)
def aFN:=(True/\(True/\(True/\(True/\True))))
def aTg (p_:Ux):=((((!p_.arc)=(!p_.arc))/\(((!p_.arc)=(!p_.arc))/\((!p_.arc)=(!p_.arc))))/\(((p_.arc=p_.arc)/\((p_.arc=p_.arc)/\(p_.arc=p_.arc)))/\(aFN/\aFN)))
theorem aNw (u:Ux) (p:Px) (hp:0 <= p.e/\u.sz+p.sz <= 3000):owes LTD aYv [] Tryz.f209 (bd Tryz.f209) [.g (eU u),.g (eP p)] (.k (.c (.v (.bool ((a1h u p)))))):=by
 refine a0p (show (((aTg u)/\aFN/\0 <= p.e/\u.sz+p.sz <= 3000)/\((((a08 u p) == true)=true->((aTg u)/\aFN/\aFN/\u.sz+u.f.sz+p.sz <= 9900))/\((((bif (a08 u p) then (decide ((a0Y u u.f p) <= (0:Int))) else false) == true)=true->((aTg u)/\aFN/\aFN/\u.sz+p.sz+u.t.sz <= 9900))/\(Value.bool (bif (bif (a08 u p) then (decide ((a0Y u u.f p) <= (0:Int))) else false) then (decide ((a0Y u p u.t) <= (0:Int))) else false)=(.bool (a1h u p))))))=_ by kernel_rfl) ?_
 delta aTg aFN
 obtain ⟨hp0,hp1⟩:=hp
 have g1:=aCM u
 have g2:=a5A p
 repeat' first | trivial | with_reducible apply And.intro | (intro _)
 all_goals first | rfl | omega | assumption | (with_reducible apply a0N; (repeat' first | exact a2c | exact a2b | exact a2a | exact a0Z _ | exact a0Q .. | exact a0r .. | exact a0k .. | exact a0I .. | exact a0m .. | exact a07 .. | exact a0o .. | exact a1o .. | exact a1r .. | exact a1X .. | exact a1G .. | exact a5m .. | exact a4j .. | exact aCL .. | apply a0u | apply a0w); done)  | (unfold a1h; (repeat' first | rfl | rw [a06 (by assumption)] | rw [a05 (by assumption)]); done) | (simp_all; done)
def aZQ:Ctr:=⟨209,spY (rU.c (rP.c r0)) (fun (u,p,_)=>0 <= p.e/\u.sz+p.sz <= 3000) (fun (u,p,_)=>.k (.c (.v (.bool ((a1h u p))))))⟩
theorem aUh:CtrOK Tryz.prog aZQ:=yOK a0F aJ0 Tryz.func209 fun x hp=>aNw x.1 x.2.1 hp
def a4b (u:Ux):Bool:=(if (bif (!((a1B u.f))) then (true) else (!((a1B u.t))))=true then false else (if (bif (bif (u.arc) then (!((a1V u.k))) else (false)) then (true) else (bif (!(u.arc)) then (bif (u.cw) then (true) else (!((a2M u.l)))) else (false)))=true then false else bif (bif ((a08 u u.f)) then ((a08 u u.t)) else (false)) then (!((a0G u.f u.t))) else (false)))
def aDn:=(True/\(True/\(True/\(True/\True))))
def aXi (p_:Ux):=((((!p_.arc)=(!p_.arc))/\(((!p_.arc)=(!p_.arc))/\((!p_.arc)=(!p_.arc))))/\(((p_.arc=p_.arc)/\((p_.arc=p_.arc)/\(p_.arc=p_.arc)))/\(aDn/\aDn)))
def aXh (p_:Ux):=(bif (bif p_.arc then (!(a1V p_.k)) else false) then true else (bif (!p_.arc) then (bif p_.cw then true else (!(a2M p_.l))) else false))
theorem aDU (u:Ux) (hp:0 <= u.f.e/\0 <= u.t.e/\u.sz <= 1500):owes LTD aYv [] Tryz.f47 (bd Tryz.f47) [.g (eU u)] (.k (.c (.v (.bool ((a4b u)))))):=by
 refine a0p (show ((aDn/\0 <= u.f.e/\u.f.sz <= 100000)/\((((!(a1B u.f)) == false)=true->(aDn/\0 <= u.t.e/\u.t.sz <= 100000))/\(((bif (!(a1B u.f)) then true else (!(a1B u.t)))=true->(Value.bool false=(.bool (a4b u))))/\((bif (!(a1B u.f)) then true else (!(a1B u.t)))=false->(((u.arc == true)=true->(((u.arc=true)/\((u.arc=true)/\(u.arc=true)))/\u.k.sz <= 100000))/\((((((bif u.arc then (!(a1V u.k)) else false) == false) && ((!u.arc) == true)) && (u.cw == false))=true->((((!u.arc)=true)/\(((!u.arc)=true)/\((!u.arc)=true)))/\u.l.sz <= 100000))/\(((aXh u)=true->(Value.bool false=(.bool (a4b u))))/\((aXh u)=false->(((aXi u)/\aDn/\0 <= u.f.e/\u.sz+u.f.sz <= 3000)/\((((a08 u u.f) == true)=true->((aXi u)/\aDn/\0 <= u.t.e/\u.sz+u.t.sz <= 3000))/\((((bif (a08 u u.f) then (a08 u u.t) else false) == true)=true->(aDn/\aDn/\u.f.sz+u.t.sz <= 14500))/\(Value.bool (bif (bif (a08 u u.f) then (a08 u u.t) else false) then (!(a0G u.f u.t)) else false)=(.bool (a4b u))))))))))))))=_ by kernel_rfl) ?_
 delta aXh aXi aDn
 obtain ⟨hp0,hp1,hp2⟩:=hp
 have g1:=aCM u
 repeat' first | trivial | with_reducible apply And.intro | (intro _)
 all_goals first | rfl | omega | assumption | (with_reducible apply a0N; (repeat' first | exact a2c | exact a2b | exact a2a | exact a0Z _ | exact a0Q .. | exact a0r .. | exact a0k .. | exact a0I .. | exact a0m .. | exact a07 .. | exact a0o .. | exact a1o .. | exact a1r .. | exact a1X .. | exact a1G .. | exact a5m .. | exact a4j .. | exact aCL .. | apply a0u | apply a0w); done)  | (unfold a4b; (repeat' first | rfl | rw [a06 (by assumption)] | rw [a05 (by assumption)]); done) | (simp_all; done)
def aLJ:Ctr:=⟨47,spY (rU.c r0) (fun (u,_)=>0 <= u.f.e/\0 <= u.t.e/\u.sz <= 1500) (fun (u,_)=>.k (.c (.v (.bool ((a4b u))))))⟩
theorem aJn:CtrOK Tryz.prog aLJ:=yOK a0F aJ0 Tryz.func47 fun x hp=>aDU x.1 hp
def b0p:List Ctr:=aYv ++ [aZQ,aLJ]
theorem aRT:∀ c ∈ b0p,CtrOK Tryz.prog c:=a0O aJ0 (a03 aUh (a03 aJn (a2L)))
def a1H (u:Ux) (p:Px):Bool:=bif (bif ((a1h u p)) then (!((a0G u.f p))) else (false)) then (!((a0G u.t p))) else (false)
def aFM:=(True/\(True/\(True/\(True/\True))))
theorem aDM (u:Ux) (p:Px) (hp:0 <= p.e/\u.sz+p.sz <= 3000):owes LTD b0p [] Tryz.f206 (bd Tryz.f206) [.g (eU u),.g (eP p)] (.k (.c (.v (.bool ((a1H u p)))))):=by
 refine a0p (show ((((((!u.arc)=(!u.arc))/\(((!u.arc)=(!u.arc))/\((!u.arc)=(!u.arc))))/\(((u.arc=u.arc)/\((u.arc=u.arc)/\(u.arc=u.arc)))/\(aFM/\aFM)))/\aFM/\0 <= p.e/\u.sz+p.sz <= 3000)/\((((a1h u p) == true)=true->(aFM/\aFM/\u.f.sz+p.sz <= 14500))/\((((bif (a1h u p) then (!(a0G u.f p)) else false) == true)=true->(aFM/\aFM/\u.t.sz+p.sz <= 14500))/\(Value.bool (bif (bif (a1h u p) then (!(a0G u.f p)) else false) then (!(a0G u.t p)) else false)=(.bool (a1H u p))))))=_ by kernel_rfl) ?_
 delta aFM
 obtain ⟨hp0,hp1⟩:=hp
 have g1:=aCM u
 have g2:=a5A p
 repeat' first | trivial | with_reducible apply And.intro | (intro _)
 all_goals first | rfl | omega | assumption | (with_reducible apply a0N; (repeat' first | exact a2c | exact a2b | exact a2a | exact a0Z _ | exact a0Q .. | exact a0r .. | exact a0k .. | exact a0I .. | exact a0m .. | exact a07 .. | exact a0o .. | exact a1o .. | exact a1r .. | exact a1X .. | exact a1G .. | exact a5m .. | exact a4j .. | exact aCL .. | apply a0u | apply a0w); done)  | (unfold a1H; (repeat' first | rfl | rw [a06 (by assumption)] | rw [a05 (by assumption)]); done) | (simp_all; done)
def aLF:Ctr:=⟨206,spY (rU.c (rP.c r0)) (fun (u,p,_)=>0 <= p.e/\u.sz+p.sz <= 3000) (fun (u,p,_)=>.k (.c (.v (.bool ((a1H u p))))))⟩
theorem aJj:CtrOK Tryz.prog aLF:=yOK a0F aRT Tryz.func206 fun x hp=>aDM x.1 x.2.1 hp
def aUz:List Ctr:=b0p ++ [aLF]
theorem aBk:∀ c ∈ aUz,CtrOK Tryz.prog c:=a0O aRT (a03 aJj (a2L))
end Vc
end Go.Proofs.YtbohkigffejhoaaGreat
namespace Go.Proofs.YtbohkigffejhoaaGreat
open Go.RowKit
set_option maxHeartbeats 4000000
namespace Vc
attribute [local irreducible] owes a1v
def LTL:List Lay:=LTD ++ [
 ⟨83,1,false,20,50,[.v (.slice none 0 0)],[]⟩,
 ⟨25,1,false,21,52,[.v (.slice none 0 0)],[]⟩,
 ⟨123,1,false,22,73,[.v (.slice none 0 0)],[]⟩,
 ⟨55,1,false,23,86,[.v (.slice none 0 0)],[]⟩,
 ⟨22,1,false,24,103,[.v (.slice none 0 0)],[]⟩,
 ⟨23,1,false,24,103,[.v (.slice none 0 0)],[]⟩,
 ⟨24,1,false,0,0,[.v (.int .i8 0)],[]⟩,
 ⟨86,2,true,30,24,[.v (.int .i8 0),.v (.int .i8 0)],[]⟩,
 ⟨56,3,true,30,24,[.v (.int .i8 0),.v (.int .i8 0),.v (.int .i8 0)],[]⟩,
 ⟨27,1,true,0,0,[.v (.slice none 0 0)],[(0,1)]⟩,
 ⟨58,4,true,0,0,[.v (.slice none 0 0),.v (.int .i8 0),.v (.int .i8 0),.v (.int .i8 0)],[(0,1),(1,3)]⟩,
 ⟨103,7,true,0,0,[.v (.int .u8 0),.v (.int .u8 0),.v (.int .i8 0),.v (.int .i8 0),.v (.int .i8 0),.v (.int .i8 0),.v (.slice none 0 0)],[(0,1),(1,1),(2,1),(3,1),(4,1),(5,1),(6,1)]⟩]
theorem a2s:∀ l ∈ LTL,a14 Tryz.prog l:=by
 have h:LTL.all (aYn Tryz.prog)=true:=by kernel_rfl
 intro l hl
 exact aDd (List.all_eq_true.1 h l hl)
theorem a1J {L:List Lay} {C:List Ctr} {I:List LI} {fn:Func} {body:Code} {xs:List AK} {α:Type} {φ:α->Prop} {r:α->AV} {p:Prop} (h:p=a1v L C I fn body xs φ r) (hp:p):a1v L C I fn body xs φ r:=h ▸ hp
theorem aKl {bs:Bs} {w:World} {s:Sc} {f:Bool} {l:List s.T} {xs ys:List AK} (k:∀ vs,relKs bs w xs vs->relKs bs w ys vs):∀ vs,relKs bs w (.c (.rd s f l) :: xs) vs->relKs bs w (.c (.rd s false l) :: ys) vs
 | [],e=>e.elim
 | _ :: vs,e=>⟨by
   obtain ⟨a,cap,b,off,h1,h2,h3⟩:=e.1
   exact ⟨a,cap,b,off,h1,(by intro h; cases h),h3⟩,k vs e.2⟩
def okP (p:Px):Prop:=(szR p.a <= 260/\szR p.b <= 40/\szR p.c <= 260/\szR p.d <= 40/\szR p.e <= 130)/\0 <= p.e/\(isQ p.e=false \/ (p.b=0/\p.d=0))
theorem a1Q {p:Px} (h:okP p):p.sz <= 730:=by have:=a5A p; obtain ⟨⟨h1,h2,h3,h4,h5⟩,_⟩:=h; omega
theorem a3j {p:Px} (h:okP p):0 <= p.e:=h.2.1
def okL (l:Lx):Prop:=szR l.la <= 7/\szR l.lb <= 7/\szR l.lc <= 27
def okK (k:Kx):Prop:=szR k.kx <= 2/\szR k.ky <= 2/\szR k.kq <= 3
theorem aB5 {l:Lx} (h:okL l):l.sz <= 41:=by have:=aHT l; obtain ⟨h1,h2,h3⟩:=h; omega
theorem a7j {k:Kx} (h:okK k):k.sz <= 7:=by have:=aBW k; obtain ⟨h1,h2,h3⟩:=h; omega
theorem aMg (a b:Rat):szR (a1N a b) <= szR a+szR b+1:=a1S a b
theorem a8Z (a b:Rat):szR (a1d a b) <= szR a+szR b+1:=a2V a b
theorem a4y (a b:Rat):szR (a0h a b) <= szR a+szR b:=a0L a b
theorem aWo (a:Rat):szR (a2m a) <= szR a:=a18 a
theorem aEI (a b:Rat) (h:b ≠ 0):szR (a1T a b) <= szR a+szR b:=a9q a b h
theorem aYF (l:Lx):szR (a0V l) <= 2*szR l.la+2*szR l.lb+1:=by
 have h1:=a4y l.la l.la; have h2:=a4y l.lb l.lb; have h3:=aMg (a0h l.la l.la) (a0h l.lb l.lb)
 unfold a0V; omega
theorem aWn (l:Lx) (x y:Rat):szR (a1i l x y) <= szR l.la+szR x+szR l.lb+szR y+szR l.lc+2:=by
 have h1:=a4y l.la x; have h2:=a4y l.lb y; have h3:=aMg (a0h l.la x) (a0h l.lb y)
 have h4:=a8Z (a1N (a0h l.la x) (a0h l.lb y)) l.lc
 unfold a1i; omega
theorem aWp (l m:Lx):szR (a1A l m) <= szR l.la+szR m.lb+szR m.la+szR l.lb+1:=by
 have h1:=a4y l.la m.lb; have h2:=a4y m.la l.lb; have h3:=a8Z (a0h l.la m.lb) (a0h m.la l.lb)
 unfold a1A; omega
theorem aYO {q:Rat} (h:Rt.sg q ≠ 0):q ≠ 0:=fun e=>h (by subst e; rfl)
theorem aUm (v:Vx):(a2f v).sz <= szR v.vx+szR v.vy+6:=b0y v
theorem aRA {v:Vx} (h1:szR v.vx <= 260) (h2:szR v.vy <= 260):okP (a2f v):=by
 have z:szR a1Z <= 2:=aN2
 exact ⟨⟨h1,Nat.le_trans z (by decide),h2,Nat.le_trans z (by decide),Nat.le_trans z (by decide)⟩,show (0:Rat) <= ((0:Int):Rat) by decide,.inr ⟨rfl,rfl⟩⟩
def aFH (l:Lx) (m:Lx):=(a1d (a0h l.lc m.lb) (a0h m.lc l.lb))
def aPy (l:Lx) (m:Lx):=(bif ((Rt.sg (aFH l m)) == (0:Int)) then ((Rt.sg (a1d (a0h l.la m.lc) (a0h m.la l.lc))) == (0:Int)) else false)
theorem aD3 (l:Lx) (m:Lx) (hp:okL l/\okL m):a1v LTL aUz [] Tryz.f324 (bd Tryz.f324) [.g (eL l),.g (eL m)] (fun a:List Px × Int=>(∀ p ∈ a.1,okP p)/\a.1.length <= 2) (fun a=>.t [.c (.rd .P (false) (a.1)),.c (.v (.int .i64 (a.2)))]):=by
 refine a1J (show (((True/\(True/\True))/\(True/\(True/\True))/\l.sz+m.sz <= 100000)/\((True/\True/\szR l.lc+szR m.lb <= 500000)/\((True/\True/\szR m.lc+szR l.lb <= 500000)/\((True/\True/\szR (a0h l.lc m.lb)+szR (a0h m.lc l.lb) <= 500000)/\((True/\True/\szR l.la+szR m.lc <= 500000)/\((True/\True/\szR m.la+szR l.lc <= 500000)/\((True/\True/\szR (a0h l.la m.lc)+szR (a0h m.la l.lc) <= 500000)/\((True/\True)/\((((Rt.sg (a1A l m)) != (0:Int))=true->((True/\True/\(a1A l m) ≠ 0/\szR (aFH l m)+szR (a1A l m) <= 500000)/\((True/\True/\(a1A l m) ≠ 0/\szR (a1d (a0h l.la m.lc) (a0h m.la l.lc))+szR (a1A l m) <= 500000)/\(((True/\True)/\True)/\(((True/\(True/\(True/\(True/\True))))/\True)/\(∃ a:List Px × Int,(((∀ p ∈ a.1,okP p)/\a.1.length <= 2)/\((([a2f (Vx.mk (a1T (aFH l m) (a1A l m)) (a1T (a1d (a0h l.la m.lc) (a0h m.la l.lc)) (a1A l m)))]:List Px)=a.1)/\((Value.int .i64 (0:Int)=(.int .i64 a.2))/\True)))))))))/\(((Rt.sg (a1A l m)) != (0:Int))=false->((True/\True)/\(((((Rt.sg (aFH l m)) == (0:Int)) == true)=true->(True/\True))/\(((aPy l m)=true->(∃ a:List Px × Int,(((∀ p ∈ a.1,okP p)/\a.1.length <= 2)/\((a.1=[])/\((Value.int .i64 (10:Int)=(.int .i64 a.2))/\True)))))/\((aPy l m)=false->(∃ a:List Px × Int,(((∀ p ∈ a.1,okP p)/\a.1.length <= 2)/\((a.1=[])/\((Value.int .i64 (0:Int)=(.int .i64 a.2))/\True))))))))))))))))))=_ by kernel_rfl) ?_
 delta aPy aFH
 obtain ⟨hl,hm⟩:=hp
 have s1:=aB5 hl; have s2:=aB5 hm
 obtain ⟨a1,a2,a3⟩:=hl; obtain ⟨b1,b2,b3⟩:=hm
 have c0:=aWp l m
 have c1:=a4y l.lc m.lb; have c2:=a4y m.lc l.lb; have c3:=a8Z (a0h l.lc m.lb) (a0h m.lc l.lb)
 have c4:=a4y l.la m.lc; have c5:=a4y m.la l.lc; have c6:=a8Z (a0h l.la m.lc) (a0h m.la l.lc)
 have key:a1A l m ≠ 0->okP (a2f (Vx.mk (a1T (a1d (a0h l.lc m.lb) (a0h m.lc l.lb)) (a1A l m)) (a1T (a1d (a0h l.la m.lc) (a0h m.la l.lc)) (a1A l m)))):=fun h=>by
  have d1:=aEI (a1d (a0h l.lc m.lb) (a0h m.lc l.lb)) (a1A l m) h
  have d2:=aEI (a1d (a0h l.la m.lc) (a0h m.la l.lc)) (a1A l m) h
  have d3:=aUm (Vx.mk (a1T (a1d (a0h l.lc m.lb) (a0h m.lc l.lb)) (a1A l m)) (a1T (a1d (a0h l.la m.lc) (a0h m.la l.lc)) (a1A l m)))
  dsimp only at d3
  exact aRA (by dsimp only; omega) (by dsimp only; omega)
 have hne:∀ x:Int,(x != 0)=true->x ≠ 0:=fun x h=>by simpa using h
 repeat' first | trivial | with_reducible apply And.intro | (with_reducible apply aYO; exact hne _ (by assumption)) | (intro _)
 all_goals first | omega | skip
 ·exact ⟨([_],0),⟨fun p hp=>by simp only [List.mem_singleton] at hp; subst hp; exact key (aYO (hne _ (by assumption))),Nat.le_succ 1⟩,rfl,rfl,trivial⟩
 all_goals exact ⟨([],_),⟨fun p hp=>by simp at hp,Nat.zero_le _⟩,rfl,rfl,trivial⟩
def aLO:Ctr:=⟨324,spE (rL.c (rL.c r0)) (List Px × Int) (fun (l,m,_)=>okL l/\okL m) (fun _ a=>(∀ p ∈ a.1,okP p)/\a.1.length <= 2) (fun _ a=>.t [.c (.rd .P (false) (a.1)),.c (.v (.int .i64 (a.2)))])⟩
theorem aJw:CtrOK Tryz.prog aLO:=eOK a2s aBk Tryz.func324 fun x hp=>aD3 x.1 x.2.1 hp
theorem aYE (l:Lx) (k:Kx):szR (a1U l k) <= szR (a0V l)+szR k.kq+2*szR (a1i l k.kx k.ky)+1:=by
 have h1:=a4y (a0V l) k.kq; have h2:=a4y (a1i l k.kx k.ky) (a1i l k.kx k.ky)
 have h3:=a8Z (a0h (a0V l) k.kq) (a0h (a1i l k.kx k.ky) (a1i l k.kx k.ky))
 unfold a1U; omega
theorem aB2 {a b c d e:Rat} (h:0 <= e) (h1:szR a <= 90) (h2:szR b <= 40) (h3:szR c <= 90) (h4:szR d <= 40) (h5:szR e <= 129):okP (a0t a b c d e):=by
 unfold a0t
 split
 ·rename_i hq
  have q0:=aEL h hq
  have q1:=a4y b (sqr e); have q2:=aMg a (a0h b (sqr e)); have q3:=a4y d (sqr e); have q4:=aMg c (a0h d (sqr e))
  exact aRA (by dsimp only; omega) (by dsimp only; omega)
 ·rename_i hq
  exact ⟨⟨by dsimp only; omega,by dsimp only; omega,by dsimp only; omega,by dsimp only; omega,by dsimp only; omega⟩,h,.inl (by simpa using hq)⟩
theorem aIc {l:Lx} (h:l.la ≠ 0 \/ l.lb ≠ 0):a0V l ≠ 0:=fun e=>by
 have e:l.la*l.la+l.lb*l.lb=0:=e
 have sq:∀ x:Rat,0 <= x*x:=fun x=>by
  rcases Rat.le_total (a:=0) (b:=x) with g | g
  ·exact Rat.mul_nonneg g g
  ·have:=Rat.mul_nonneg (show 0 <= -x by grind) (show 0 <= -x by grind)
   grind
 have h1:=sq l.la; have h2:=sq l.lb
 have h3:l.la*l.la=0:=by grind
 have h4:l.lb*l.lb=0:=by grind
 rcases h with h | h
 ·exact h (by rcases Rat.mul_eq_zero.1 h3 with g | g <;> exact g)
 ·exact h (by rcases Rat.mul_eq_zero.1 h4 with g | g <;> exact g)
theorem aKo {k m:Kx} (hk:okK k) (hm:okK m) (h:a09 k m=false):okL (a1z k m).1/\a0V (a1z k m).1 ≠ 0:=by
 obtain ⟨a1,a2,a3⟩:=hk; obtain ⟨b1,b2,b3⟩:=hm
 have two:szR (((2:Int)):Rat) <= 2:=a3h (by decide)
 have x1:=a8Z m.kx k.kx; have x2:=a8Z m.ky k.ky
 have x3:=a4y (((2:Int)):Rat) (a1d m.kx k.kx); have x4:=a4y (((2:Int)):Rat) (a1d m.ky k.ky)
 have y1:=a4y m.kx m.kx; have y2:=a4y m.ky m.ky; have y3:=aMg (a0h m.kx m.kx) (a0h m.ky m.ky); have y4:=a8Z (a1N (a0h m.kx m.kx) (a0h m.ky m.ky)) m.kq
 have z1:=a4y k.kx k.kx; have z2:=a4y k.ky k.ky; have z3:=aMg (a0h k.kx k.kx) (a0h k.ky k.ky); have z4:=a8Z (a1N (a0h k.kx k.kx) (a0h k.ky k.ky)) k.kq
 have w:=a8Z (a1d (a1N (a0h m.kx m.kx) (a0h m.ky m.ky)) m.kq) (a1d (a1N (a0h k.kx k.kx) (a0h k.ky k.ky)) k.kq)
 refine ⟨⟨?_,?_,?_⟩,aIc ?_⟩
 ·show szR (a0h _ _) <= _; omega
 ·show szR (a0h _ _) <= _; omega
 ·show szR (a1d _ _) <= _; omega
 ·show ((2:Int):Rat)*(m.kx - k.kx) ≠ 0 \/ ((2:Int):Rat)*(m.ky - k.ky) ≠ 0
  have t:((2:Int):Rat)=2:=rfl
  rw [t]
  refine Classical.byContradiction fun hc=>?_
  simp only [not_or,Classical.not_not] at hc
  obtain ⟨c1,c2⟩:=hc
  have e1:k.kx - m.kx=0:=by grind
  have e2:k.ky - m.ky=0:=by grind
  have h0:Rt.sg (0:Rat)=0:=rfl
  unfold a09 at h
  rw [e1,e2,h0] at h
  cases h
def aAy (l:Lx) (k:Kx):=(a1T (a1i l k.kx k.ky) (a0V l))
def a5F (k:Kx) (l:Lx):=(a1d k.kx (a0h (aAy l k) l.la))
def a5E (k:Kx) (l:Lx):=(a1d k.ky (a0h (aAy l k) l.lb))
def a5D (l:Lx):=(a1T (a2m l.la) (a0V l))
def aCl:=(True/\(True/\True))
def a8S:=(True/\(True/\aCl))
def aCk (l:Lx):=(a2m (a1T l.lb (a0V l)))
def aPx (k:Kx) (l:Lx):=(decide ((a0g (a0t (a5F k l) (aCk l) (a5E k l) (a2m (a5D l)) (a1U l k)) (a0t (a5F k l) (a1T l.lb (a0V l)) (a5E k l) (a5D l) (a1U l k))) > (0:Int)))
def aFG (a:List Px):=((∀ p ∈ a,okP p)/\a.length <= 2)
theorem a7K (l:Lx) (k:Kx) (hp:(okL l/\okK k)/\a0V l ≠ 0):a1v LTL aUz [] Tryz.f323 (bd Tryz.f323) [.g (eL l),.g (eK k)] (fun a:List Px=>(∀ p ∈ a,okP p)/\a.length <= 2) (fun a=>.k (.c (.rd .P (false) (a)))):=by
 refine a1J (show ((aCl/\aCl/\l.sz+k.sz <= 1000)/\((aCl/\l.sz <= 100000)/\((True/\True)/\(((decide ((Rt.sg (a1U l k)) < (0:Int)))=true->(∃ a:List Px,((aFG a)/\(a=[]))))/\((decide ((Rt.sg (a1U l k)) < (0:Int)))=false->((aCl/\True/\True/\l.sz+szR k.kx+szR k.ky <= 100000)/\((True/\True/\(a0V l) ≠ 0/\szR (a1i l k.kx k.ky)+szR (a0V l) <= 500000)/\((True/\True/\szR (aAy l k)+szR l.la <= 500000)/\((True/\True/\szR k.kx+szR (a0h (aAy l k) l.la) <= 500000)/\((True/\True/\szR (aAy l k)+szR l.lb <= 500000)/\((True/\True/\szR k.ky+szR (a0h (aAy l k) l.lb) <= 500000)/\((True/\True)/\((((Rt.sg (a1U l k)) == (0:Int))=true->(((True/\True)/\True)/\((a8S/\True)/\(∃ a:List Px,((aFG a)/\(([a2f (Vx.mk (a5F k l) (a5E k l))]:List Px)=a))))))/\(((Rt.sg (a1U l k)) == (0:Int))=false->((True/\True/\(a0V l) ≠ 0/\szR l.lb+szR (a0V l) <= 500000)/\((True/\szR l.la <= 500000)/\((True/\True/\(a0V l) ≠ 0/\szR (a2m l.la)+szR (a0V l) <= 500000)/\((True/\szR (a1T l.lb (a0V l)) <= 500000)/\((True/\szR (a5D l) <= 500000)/\((True/\True/\True/\True/\True/\0 <= (a1U l k)/\szR (a5F k l)+szR (aCk l)+szR (a5E k l)+szR (a2m (a5D l))+szR (a1U l k) <= 100000)/\((True/\True/\True/\True/\True/\0 <= (a1U l k)/\szR (a5F k l)+szR (a1T l.lb (a0V l))+szR (a5E k l)+szR (a5D l)+szR (a1U l k) <= 100000)/\((a8S/\a8S/\(a0t (a5F k l) (aCk l) (a5E k l) (a2m (a5D l)) (a1U l k)).sz+(a0t (a5F k l) (a1T l.lb (a0V l)) (a5E k l) (a5D l) (a1U l k)).sz <= 14500)/\(((aPx k l)=true->((a8S/\a8S/\True)/\(∃ a:List Px,((aFG a)/\(([a0t (a5F k l) (a1T l.lb (a0V l)) (a5E k l) (a5D l) (a1U l k),a0t (a5F k l) (aCk l) (a5E k l) (a2m (a5D l)) (a1U l k)]:List Px)=a)))))/\((aPx k l)=false->((a8S/\a8S/\True)/\(∃ a:List Px,((aFG a)/\(([a0t (a5F k l) (aCk l) (a5E k l) (a2m (a5D l)) (a1U l k),a0t (a5F k l) (a1T l.lb (a0V l)) (a5E k l) (a5D l) (a1U l k)]:List Px)=a))))))))))))))))))))))))))))=_ by kernel_rfl) ?_
 delta aFG aPx aCk a8S aCl a5D a5E a5F aAy
 obtain ⟨⟨hl,hk⟩,hn⟩:=hp
 have s1:=aB5 hl; have s2:=a7j hk
 obtain ⟨a1,a2,a3⟩:=hl; obtain ⟨b1,b2,b3⟩:=hk
 have q0:=aWn l k.kx k.ky; have q1:=aYF l; have q2:=aYE l k
 generalize hv:a1i l k.kx k.ky=v at *
 have q3:=aEI v (a0V l) hn
 generalize hK:a1T v (a0V l)=K at *
 have q4:=a4y K l.la; have q5:=a8Z k.kx (a0h K l.la)
 have q6:=a4y K l.lb; have q7:=a8Z k.ky (a0h K l.lb)
 generalize hX:a1d k.kx (a0h K l.la)=X at *
 generalize hY:a1d k.ky (a0h K l.lb)=Y at *
 have r1:=aEI l.lb (a0V l) hn
 have r2:=aWo l.la; have r3:=aEI (a2m l.la) (a0V l) hn
 generalize hU:a1T l.lb (a0V l)=U at *
 generalize hW:a1T (a2m l.la) (a0V l)=W at *
 have r4:=aWo U; have r5:=aWo W
 generalize hR:a1U l k=R at *
 have d3:=aUm (Vx.mk X Y)
 dsimp only at d3
 have hge:decide (Rt.sg R < 0)=false->0 <= R:=fun h=>Rt.a81.1 (by have:=of_decide_eq_false h; omega)
 have k1:0 <= R->okP (a0t X U Y W R):=fun h=>aB2 h (by omega) (by omega) (by omega) (by omega) (by omega)
 have k2:0 <= R->okP (a0t X (a2m U) Y (a2m W) R):=fun h=>aB2 h (by omega) (by omega) (by omega) (by omega) (by omega)
 have k3:okP (a2f (Vx.mk X Y)):=aRA (by dsimp only; omega) (by dsimp only; omega)
 have two:∀ {p q:Px},okP p->okP q->∀ x ∈ [p,q],okP x:=fun h1 h2 x hx=>by
  rcases List.mem_cons.1 hx with rfl | hx
  ·exact h1
  ·obtain rfl:=List.mem_singleton.1 hx; exact h2
 repeat' first | trivial | with_reducible apply And.intro | assumption | (intro _)
 all_goals first | omega | (exact hge (by assumption)) | skip
 all_goals first | exact ⟨[],⟨fun p hp=>by simp at hp,Nat.zero_le _⟩,rfl⟩ | exact ⟨[_],⟨fun p hp=>by rw [List.mem_singleton.1 hp]; exact k3,Nat.le_succ _⟩,rfl⟩ | exact ⟨[_,_],⟨two (k1 (hge (by assumption))) (k2 (hge (by assumption))),Nat.le_refl _⟩,rfl⟩ | exact ⟨[_,_],⟨two (k2 (hge (by assumption))) (k1 (hge (by assumption))),Nat.le_refl _⟩,rfl⟩ | (have h1:=a1Q (k1 (hge (by assumption))); have h2:=a1Q (k2 (hge (by assumption))); omega)
def a7L:Ctr:=⟨323,spE (rL.c (rKx.c r0)) (List Px) (fun (l,k,_)=>(okL l/\okK k)/\a0V l ≠ 0) (fun _ a=>(∀ p ∈ a,okP p)/\a.length <= 2) (fun _ a=>.k (.c (.rd .P (false) (a))))⟩
theorem a9k:CtrOK Tryz.prog a7L:=eOK a2s aBk Tryz.func323 fun x hp=>a7K x.1 x.2.1 hp
def WT0:List Ctr:=aUz ++ [aLO,a7L]
theorem aVQ:∀ c ∈ WT0,CtrOK Tryz.prog c:=a0O aBk (a03 aJw (a03 a9k (a2L)))
def aAx:=(True/\(True/\True))
theorem aAV (k:Kx) (m:Kx) (hp:okK k/\okK m):a1v LTL WT0 [] Tryz.f322 (bd Tryz.f322) [.g (eK k),.g (eK m)] (fun a:List Px × Int=>(∀ p ∈ a.1,okP p)/\a.1.length <= 2) (fun a=>.t [.c (.rd .P (false) (a.1)),.c (.v (.int .i64 (a.2)))]):=by
 refine a1J (show ((aAx/\aAx/\k.sz+m.sz <= 100000)/\(((a09 k m)=true->((True/\True/\(szR k.kq <= 1000000/\szR m.kq <= 1000000))/\((((Rt.sg (k.kq - m.kq)) == (0:Int))=true->(∃ a:List Px × Int,(((∀ p ∈ a.1,okP p)/\a.1.length <= 2)/\((a.1=[])/\((Value.int .i64 (10:Int)=(.int .i64 a.2))/\True)))))/\(((Rt.sg (k.kq - m.kq)) == (0:Int))=false->(∃ a:List Px × Int,(((∀ p ∈ a.1,okP p)/\a.1.length <= 2)/\((a.1=[])/\((Value.int .i64 (0:Int)=(.int .i64 a.2))/\True))))))))/\((a09 k m)=false->((aAx/\aAx/\a09 k m=false/\k.sz+m.sz <= 1000)/\((aAx/\aAx/\(okL ((a1z k m).1)/\okK k)/\a0V ((a1z k m).1) ≠ 0)/\(∀ e1:List Px,((∀ p ∈ e1,okP p)/\e1.length <= 2->(∃ a:List Px × Int,(((∀ p ∈ a.1,okP p)/\a.1.length <= 2)/\((e1=a.1)/\((Value.int .i64 (0:Int)=(.int .i64 a.2))/\True)))))))))))=_ by kernel_rfl) ?_
 delta aAx
 obtain ⟨hk,hm⟩:=hp
 have s1:=a7j hk; have s2:=a7j hm
 have nil:∀ e:Int,∃ a:List Px × Int,((∀ p ∈ a.1,okP p)/\a.1.length <= 2)/\(a.1=[]/\Value.int .i64 e=.int .i64 a.2/\True):=fun e=>⟨([],e),⟨fun p hp=>by simp at hp,Nat.zero_le _⟩,rfl,rfl,trivial⟩
 have f1:=hk.2.2; have f2:=hm.2.2
 repeat' first | trivial | with_reducible apply And.intro | assumption | exact nil _ | exact (aKo hk hm (by assumption)).1 | exact (aKo hk hm (by assumption)).2 | (intro _)
 all_goals first | omega | (rename_i x hx; exact ⟨(x,0),hx,rfl,rfl,trivial⟩)
def aCy:Ctr:=⟨322,spE (rKx.c (rKx.c r0)) (List Px × Int) (fun (k,m,_)=>okK k/\okK m) (fun _ a=>(∀ p ∈ a.1,okP p)/\a.1.length <= 2) (fun _ a=>.t [.c (.rd .P (false) (a.1)),.c (.v (.int .i64 (a.2)))])⟩
theorem aD5:CtrOK Tryz.prog aCy:=eOK a2s aVQ Tryz.func322 fun x hp=>aAV x.1 x.2.1 hp
def WT1:List Ctr:=WT0 ++ [aCy]
theorem aVP:∀ c ∈ WT1,CtrOK Tryz.prog c:=a0O aVQ (a03 aD5 (a2L))
def okU (u:Ux):Prop:=okL u.l/\okK u.k/\okP u.f/\okP u.t/\(u.arc=true->0 < u.k.kq)/\(u.arc=false->u.l.la ≠ 0 \/ u.l.lb ≠ 0)
theorem a4r {u:Ux} (h:okU u):u.sz <= 1508:=by
 have:=aCM u
 obtain ⟨h1,h2,h3,h4,_⟩:=h
 have:=aB5 h1; have:=a7j h2; have:=a1Q h3; have:=a1Q h4
 omega
def aFF (p_:Ux):=(((!p_.arc)=true)/\(((!p_.arc)=true)/\((!p_.arc)=true)))
def aFE (p_:Ux):=((p_.arc=true)/\((p_.arc=true)/\(p_.arc=true)))
def aFD (a:List Px × Int):=((∀ p ∈ a.1,okP p)/\a.1.length <= 2)
theorem a9h (u:Ux) (v:Ux) (hp:okU u/\okU v):a1v LTL WT1 [] Tryz.f208 (bd Tryz.f208) [.g (eU u),.g (eU v)] (fun a:List Px × Int=>(∀ p ∈ a.1,okP p)/\a.1.length <= 2) (fun a=>.t [.c (.rd .P (false) (a.1)),.c (.v (.int .i64 (a.2)))]):=by
 refine a1J (show (((bif u.arc then v.arc else false)=true->(((aFE u)/\(aFE v)/\okK u.k/\okK v.k)/\(∀ e1:List Px × Int,((∀ p ∈ e1.1,okP p)/\e1.1.length <= 2->(∃ a:List Px × Int,((aFD a)/\((e1.1=a.1)/\((Value.int .i64 e1.2=(.int .i64 a.2))/\True))))))))/\((bif u.arc then v.arc else false)=false->((u.arc=true->(((aFF v)/\(aFE u)/\(okL v.l/\okK u.k)/\a0V v.l ≠ 0)/\(∀ e2:List Px,((∀ p ∈ e2,okP p)/\e2.length <= 2->(∃ a:List Px × Int,((aFD a)/\((e2=a.1)/\((Value.int .i64 (0:Int)=(.int .i64 a.2))/\True))))))))/\(u.arc=false->((v.arc=true->(((aFF u)/\(aFE v)/\(okL u.l/\okK v.k)/\a0V u.l ≠ 0)/\(∀ e3:List Px,((∀ p ∈ e3,okP p)/\e3.length <= 2->(∃ a:List Px × Int,((aFD a)/\((e3=a.1)/\((Value.int .i64 (0:Int)=(.int .i64 a.2))/\True))))))))/\(v.arc=false->(((aFF u)/\(aFF v)/\okL u.l/\okL v.l)/\(∀ e4:List Px × Int,((∀ p ∈ e4.1,okP p)/\e4.1.length <= 2->(∃ a:List Px × Int,((aFD a)/\((e4.1=a.1)/\((Value.int .i64 e4.2=(.int .i64 a.2))/\True)))))))))))))=_ by kernel_rfl) ?_
 delta aFD aFE aFF
 obtain ⟨hu,hv⟩:=hp
 have nu:u.arc=false->a0V u.l ≠ 0:=fun h=>aIc (hu.2.2.2.2.2 h)
 have nv:v.arc=false->a0V v.l ≠ 0:=fun h=>aIc (hv.2.2.2.2.2 h)
 obtain ⟨h1,h2,_⟩:=hu; obtain ⟨g1,g2,_⟩:=hv
 repeat' first | trivial | with_reducible apply And.intro | assumption | (exact nu (by assumption)) | (exact nv (by assumption)) | (intro _)
 all_goals first | (simp_all; done) | skip
 all_goals first | (rename_i x hx; exact ⟨x,hx,rfl,rfl,trivial⟩) | (rename_i x hx; exact ⟨(x,0),hx,rfl,rfl,trivial⟩)
def aAS:Ctr:=⟨208,spE (rU.c (rU.c r0)) (List Px × Int) (fun (u,v,_)=>okU u/\okU v) (fun _ a=>(∀ p ∈ a.1,okP p)/\a.1.length <= 2) (fun _ a=>.t [.c (.rd .P (false) (a.1)),.c (.v (.int .i64 (a.2)))])⟩
theorem aBE:CtrOK Tryz.prog aAS:=eOK a2s aVP Tryz.func208 fun x hp=>a9h x.1 x.2.1 hp
def WT2:List Ctr:=WT1 ++ [aAS]
theorem aRJ:∀ c ∈ WT2,CtrOK Tryz.prog c:=a0O aVP (a03 aBE (a2L))
end Vc
end Go.Proofs.YtbohkigffejhoaaGreat
namespace Go.Proofs.YtbohkigffejhoaaGreat
open Go.RowKit
set_option maxHeartbeats 4000000
namespace Vc
attribute [local irreducible] owes a1v
def a6H (k:Kx):List Ux:=[⟨true,⟨0,0,0⟩,k,false,(a0d k).1,(a0d k).2⟩,⟨true,⟨0,0,0⟩,k,false,(a0d k).2,(a0d k).1⟩]
theorem aA5 {a b:Bool}:((bif a then b else false)=true)=(a=true/\b=true):=by cases a <;> cases b <;> simp
theorem aJP {a b:Bool}:((bif a then b else false)=false)=(a=true->b=false):=by cases a <;> cases b <;> simp
def Adj {α:Type} (R:α->α->Prop) (l:List α):Prop:=∀ (i:Nat) (x y:α),l[i]?=some x->l[i+1]?=some y->R x y
theorem aYa {α:Type} {R:α->α->Prop}:Adj R []:=fun i x y h=>by simp at h
theorem aYb {α:Type} {R:α->α->Prop} {l:List α} {k:Nat} {z:α} (h:Adj R l) (hk:k <= l.length) (h1:∀ x,0 < k->l[k - 1]?=some x->R x z) (h2:∀ y,l[k]?=some y->R z y):Adj R ((l.take k ++ [z]) ++ l.drop k):=by
 have ht:(l.take k).length=k:=by rw [List.length_take,Nat.min_eq_left hk]
 have lo:∀ i,i < k->((l.take k ++ [z]) ++ l.drop k)[i]?=l[i]?:=fun i hi=>by
  rw [List.getElem?_append_left (by simp; omega),List.getElem?_append_left (by omega),List.getElem?_take,if_pos hi]
 have mid:((l.take k ++ [z]) ++ l.drop k)[k]?=some z:=by
  rw [List.getElem?_append_left (by simp; omega),List.getElem?_append_right (by omega),ht]; simp
 have hi:∀ i,k < i->((l.take k ++ [z]) ++ l.drop k)[i]?=l[i - 1]?:=fun i h=>by
  rw [List.getElem?_append_right (by simp; omega),List.getElem?_drop]
  congr 1; simp; omega
 intro i x y hx hy
 rcases Nat.lt_trichotomy (i+1) k with h' | h' | h'
 ·rw [lo i (by omega)] at hx; rw [lo (i+1) h'] at hy; exact h i x y hx hy
 ·rw [lo i (by omega)] at hx; rw [h',mid] at hy; cases hy
  exact h1 x (by omega) (by rw [show k - 1=i by omega]; exact hx)
 ·rcases Nat.lt_or_ge k i with g | g
  ·rw [hi i g] at hx; rw [hi (i+1) (by omega)] at hy
   exact h (i - 1) x y hx (by rw [show i - 1+1=i+1 - 1 by omega]; exact hy)
  ·have e:i=k:=by omega
   subst e
   rw [mid] at hx; cases hx
   rw [hi (i+1) (by omega),show i+1 - 1=i by omega] at hy
   exact h2 y hy
theorem aXx {α:Type} {l:List α} {k:Nat} {x z:α} (h:x ∈ (l.take k ++ [z]) ++ l.drop k):x ∈ l \/ x=z:=by
 simp only [List.mem_append,List.mem_singleton] at h
 rcases h with (h | h) | h
 ·exact .inl (List.mem_of_mem_take h)
 ·exact .inr h
 ·exact .inl (List.mem_of_mem_drop h)
theorem a1k {α:Type} {l:List α} {n:Nat} {d:α} (h:n < l.length):l.getD n d ∈ l:=by
 rw [List.getD_eq_getElem?_getD,List.getElem?_eq_getElem h]; exact List.getElem_mem h
theorem aK7 {α:Type} {l:List α} {n:Nat} {d:α} (h:n < l.length):l[n]?=some (l.getD n d):=by rw [List.getD_eq_getElem?_getD,List.getElem?_eq_getElem h]; rfl
theorem aDq {α:Type} {l:List α} {n:Nat} {x d:α} (h:l[n]?=some x):l.getD n d=x:=by rw [List.getD_eq_getElem?_getD,h]; rfl
def Ro (u:Ux) (x y:Px):Prop:=a0Y u x y < 0 \/ (¬ a0Y u y x < 0/\a0G y x=false)
def aAw:=(Value.bool false=.bool false)
def aPw:=((aAw/\((([]:List Nat)=[])/\(aAw/\((([]:List Nat)=[])/\(aAw/\((([]:List Nat)=[])/\(aAw/\((([]:List Nat)=[])/\(aAw/\((([]:List Nat)=[])/\(aAw/\((([]:List Nat)=[])/\((!true)=false)))))))))))))/\(((true=true)/\((true=true)/\(true=true)))/\((True/\(True/\(True/\(True/\True))))/\(True/\(True/\(True/\(True/\True)))))))
theorem aGN (k:Kx) (hp:okK k/\0 <= k.kq):a1v LTL WT2 [] Tryz.f109 (bd Tryz.f109) [.g (eK k)] (fun a:List Ux=>a=a6H k) (fun a=>.k (.c (.rd .U (false) (a)))):=by
 refine a1J (show (((True/\(True/\True))/\0 <= k.kq/\k.sz <= 20000)/\((aPw/\aPw/\True)/\(∃ a:List Ux,((a=a6H k)/\(([Ux.mk true (Lx.mk 0 0 0) k false ((a0d k).1) ((a0d k).2),Ux.mk true (Lx.mk 0 0 0) k false ((a0d k).2) ((a0d k).1)]:List Ux)=a)))))=_ by kernel_rfl) ?_
 delta aPw aAw
 have s1:=a7j hp.1
 have h0:=hp.2
 repeat' first | trivial | with_reducible apply And.intro | assumption | (intro _)
 all_goals first | omega | (exact ⟨_,rfl,rfl⟩) | (simp; done)
def aQ4:Ctr:=⟨109,spE (rKx.c r0) (List Ux) (fun (k,_)=>okK k/\0 <= k.kq) (fun (k,_) a=>a=a6H k) (fun _ a=>.k (.c (.rd .U (false) (a))))⟩
theorem aNy:CtrOK Tryz.prog aQ4:=eOK a2s aRJ Tryz.func109 fun x hp=>aGN x.1 hp
structure SoI (u:Ux) (l out:List Px) (i:Nat):Prop where
 hi:i <= l.length
 hn:out.length <= i
 hm:∀ p ∈ out,p ∈ l
 ha:Adj (Ro u) out
structure SoK (u:Ux) (l out:List Px) (i k:Nat):Prop where
 hk:k <= out.length
 ha:∀ x,0 < k->out[k - 1]?=some x->a0Y u x (l.getD i dfP) < 0
def aCj (p_:Ux):=(((Value.bool p_.arc=(.bool p_.arc))/\(((!p_.arc)=(!p_.arc))/\((p_.l.la=p_.l.la)/\(((!p_.arc)=(!p_.arc))/\((p_.l.lb=p_.l.lb)/\(((!p_.arc)=(!p_.arc))/\((p_.l.lc=p_.l.lc)/\((p_.arc=p_.arc)/\((p_.k.kx=p_.k.kx)/\((p_.arc=p_.arc)/\((p_.k.ky=p_.k.ky)/\((p_.arc=p_.arc)/\((p_.k.kq=p_.k.kq)/\((Value.bool p_.cw=(.bool p_.cw))/\((p_.f.a=p_.f.a)/\((p_.f.b=p_.f.b)/\((p_.f.c=p_.f.c)/\((p_.f.d=p_.f.d)/\((p_.f.e=p_.f.e)/\((p_.t.a=p_.t.a)/\((p_.t.b=p_.t.b)/\((p_.t.c=p_.t.c)/\((p_.t.d=p_.t.d)/\((p_.t.e=p_.t.e)/\True))))))))))))))))))))))))/\True)
def a5W:=(True/\(True/\(True/\(True/\True))))
def a6A (x2:List Px × Nat × Nat):=(decide (((x2.2.2:Nat):Int) < (x2.1.length:Int)))
def aFB (x2:List Px × Nat × Nat):=(([]:List Px).length+(x2.1.take ((x2.2.2:Nat):Int).toNat).length <= 10000000)
def aAv (x2:List Px × Nat × Nat):=(x2.1.getD (((x2.2.2:Nat):Int).toNat) dfP)
def a6z (x2:List Px × Nat × Nat):=(((x2.2.1:Nat):Int).toNat)
def aK4 (x2:List Px × Nat × Nat) (l:List Px):=(0 <= ((x2.2.1:Nat):Int)/\((x2.2.1:Nat):Int) < (l.length:Int))
def aK3 (x2:List Px × Nat × Nat):=(([]:List Px) ++ (x2.1.take ((x2.2.2:Nat):Int).toNat))
def aFC (x2:List Px × Nat × Nat) (l:List Px) (u:Ux) (x1:List Px × Nat) (p_:Ux):=((((aK3 x2).length+([(l).getD (a6z x2) dfP]:List Px).length <= 10000000)/\(((((aK3 x2) ++ ([(l).getD (a6z x2) dfP]:List Px)).length+(x2.1.drop ((x2.2.2:Nat):Int).toNat).length <= 10000000)/\(((inR .i64 (((x2.2.1:Nat):Int)+(1:Int)))/\(∃ y1:List Px × Nat,((SoI u l y1.1 y1.2)/\((l.length - y1.2 < l.length - x1.2)/\(((l=l)/\(True/\(((((aK3 x2) ++ ([(l).getD (a6z x2) dfP]:List Px)) ++ (x2.1.drop ((x2.2.2:Nat):Int).toNat))=y1.1)/\((Value.int .i64 (((x2.2.1:Nat):Int)+(1:Int))=(.int .i64 ((y1.2:Nat):Int)))/\True))))/\(aCj p_))))))/\True))/\True))/\True)
def aPv (x2:List Px × Nat × Nat) (l:List Px) (u:Ux) (x1:List Px × Nat):=(((aFB x2)/\(((a5W/\True)/\(aFC x2 l u x1 u))/\True))/\(((a5W/\True)/\(((aFB x2)/\(aFC x2 l u x1 u))/\True))/\True))
def aIt (x2:List Px × Nat × Nat):=(((a6A x2) == true)=true->(0 <= ((x2.2.2:Nat):Int)/\((x2.2.2:Nat):Int) < (x2.1.length:Int)))
theorem aBD (u:Ux) (l:List Px) (hp:(okU u/\∀ p ∈ l,okP p)/\l.length <= 100000):a1v LTL WT2 [.inv 3 (List Px × Nat) (fun ξ=>⟨[.u,.k (.c (.rd .P (false) (l))),.k (.c (.bx 0 0)),.u,.u,.k (.c (.ow 0 50 .P (ξ.1))),.k (.c (.v (.int .i64 (((ξ.2:Nat):Int))))),.u,.u,.u,.u,.u,.u,.u,.u,.u,.u,.u,.u,.u,.u,.u,.u,.u,.u,.u,.u,.u,.u,.u,.u,.u,.u,.u,.u,.u,.u,.u,.u,.u,.u,.u,.u,.u,.u,.u,.u,.u,.u,.u,.u,.u,.u,.u,.u,.u,.u,.u,.u,.u,.u,.u,.u,.u],[⟨52,(eU u)⟩]⟩) (fun _ ξ=>SoI u l ξ.1 ξ.2) (fun ξ=>l.length - ξ.2),.inv 6 (List Px × Nat × Nat) (fun ξ=>⟨[.u,.k (.c (.rd .P (false) (l))),.k (.c (.bx 0 0)),.u,.u,.k (.c (.ow 0 50 .P (ξ.1))),.k (.c (.v (.int .i64 (((ξ.2.1:Nat):Int))))),.k (.c (.v (.int .i64 (((ξ.2.2:Nat):Int))))),.u,.u,.u,.u,.u,.u,.u,.u,.u,.u,.u,.u,.u,.u,.u,.u,.u,.u,.u,.u,.u,.u,.u,.u,.u,.u,.u,.u,.u,.u,.u,.u,.u,.u,.u,.u,.u,.u,.u,.u,.u,.u,.u,.u,.u,.u,.u,.u,.u,.u,.u,.u,.u,.u,.u,.u],[⟨52,(eU u)⟩]⟩) (fun σ ξ=>(SoI u l ξ.1 ξ.2.1/\(ξ.2.1:Int)=(tmI σ 6)/\ξ.2.1 < l.length)/\SoK u l ξ.1 ξ.2.1 ξ.2.2) (fun ξ=>ξ.1.length - ξ.2.2),.cut 9 1000] Tryz.f210 (bd Tryz.f210) [.g (eU u),.c (.rd .P (false) (l))] (fun a:List Px=>(Adj (Ro u) a/\∀ p ∈ a,p ∈ l)/\a.length <= l.length) (fun a=>.k (.c (.rd .P (false) (a)))):=by
 refine a1J (show ((∃ x1:List Px × Nat,((SoI u l x1.1 x1.2)/\(((l=l)/\(True/\((x1.1=[])/\((Value.int .i64 (0:Int)=(.int .i64 ((x1.2:Nat):Int)))/\True))))/\(aCj u))))/\(∀ x1:List Px × Nat,((SoI u l x1.1 x1.2)->(((decide (((x1.2:Nat):Int) < (l.length:Int)))=true->((∃ x2:List Px × Nat × Nat,(((SoI u l x2.1 x2.2.1/\(x2.2.1:Int)=((x1.2:Nat):Int)/\x2.2.1 < l.length)/\SoK u l x2.1 x2.2.1 x2.2.2)/\(((l=l)/\(True/\((x1.1=x2.1)/\((Value.int .i64 ((x1.2:Nat):Int)=(.int .i64 ((x2.2.1:Nat):Int)))/\((Value.int .i64 (0:Int)=(.int .i64 ((x2.2.2:Nat):Int)))/\True)))))/\(aCj u))))/\(∀ x2:List Px × Nat × Nat,((SoI u l x2.1 x2.2.1/\(x2.2.1:Int)=((x1.2:Nat):Int)/\x2.2.1 < l.length)/\SoK u l x2.1 x2.2.1 x2.2.2->((aIt x2)/\((((a6A x2) == true)=true->(aK4 x2 l))/\((((a6A x2) == true)=true->(((((!u.arc)=(!u.arc))/\(((!u.arc)=(!u.arc))/\((!u.arc)=(!u.arc))))/\(((u.arc=u.arc)/\((u.arc=u.arc)/\(u.arc=u.arc)))/\(a5W/\a5W)))/\a5W/\a5W/\u.sz+(aAv x2).sz+(l.getD (a6z x2) dfP).sz <= 9900))/\(((bif (a6A x2) then (decide ((a0Y u (aAv x2) (l.getD (a6z x2) dfP)) < (0:Int))) else false)=true->((inR .i64 (((x2.2.2:Nat):Int)+(1:Int)))/\(∃ y2:List Px × Nat × Nat,(((SoI u l y2.1 y2.2.1/\(y2.2.1:Int)=((x1.2:Nat):Int)/\y2.2.1 < l.length)/\SoK u l y2.1 y2.2.1 y2.2.2)/\((y2.1.length - y2.2.2 < x2.1.length - x2.2.2)/\(((l=l)/\(True/\((x2.1=y2.1)/\((Value.int .i64 ((x2.2.1:Nat):Int)=(.int .i64 ((y2.2.1:Nat):Int)))/\((Value.int .i64 (((x2.2.2:Nat):Int)+(1:Int))=(.int .i64 ((y2.2.2:Nat):Int)))/\True)))))/\(aCj u)))))))/\((bif (a6A x2) then (decide ((a0Y u (aAv x2) (l.getD (a6z x2) dfP)) < (0:Int))) else false)=false->((aIt x2)/\((((a6A x2) == true)=true->(aK4 x2 l))/\((((a6A x2) == true)=true->(a5W/\a5W/\(aAv x2).sz+(l.getD (a6z x2) dfP).sz <= 14500))/\(((bif (a6A x2) then (a0G (aAv x2) (l.getD (a6z x2) dfP)) else false)=true->((inR .i64 (((x2.2.1:Nat):Int)+(1:Int)))/\(∃ y1:List Px × Nat,((SoI u l y1.1 y1.2)/\((l.length - y1.2 < l.length - x1.2)/\(((l=l)/\(True/\((x2.1=y1.1)/\((Value.int .i64 (((x2.2.1:Nat):Int)+(1:Int))=(.int .i64 ((y1.2:Nat):Int)))/\True))))/\(aCj u)))))))/\((bif (a6A x2) then (a0G (aAv x2) (l.getD (a6z x2) dfP)) else false)=false->((0 <= ((x2.2.2:Nat):Int)/\((x2.2.2:Nat):Int) <= (x2.1.length:Int))/\((aK4 x2 l)/\((0 <= ((x2.2.2:Nat):Int)/\((x2.2.2:Nat):Int) <= (x2.1.length:Int))/\((True/\(((aFB x2)/\((((a5W/\True)/\(aFC x2 l u x1 u))/\True)/\True))/\((aPv x2 l u x1)/\True)))/\(((True/\(aPv x2 l u x1))/\(((a5W/\True)/\((True/\(((aFB x2)/\(aFC x2 l u x1 u))/\True))/\True))/\True))/\True)))))))))))))))))))/\((decide (((x1.2:Nat):Int) < (l.length:Int)))=false->(∃ a:List Px,(((Adj (Ro u) a/\∀ p ∈ a,p ∈ l)/\a.length <= l.length)/\(x1.1=a))))))))=_ by kernel_rfl) ?_
 delta aIt aPv aFC aK3 aK4 a6z aAv aFB a6A a5W aCj
 simp only [true_and,and_true,aA5,aJP,Int.toNat_natCast,Value.int.injEq,decide_eq_true_eq,decide_eq_false_iff_not,beq_true,Int.natCast_nonneg,Int.ofNat_lt,Int.ofNat_le,Int.ofNat_inj,List.nil_append]
 obtain ⟨⟨hu,hl⟩,hn⟩:=hp
 have su:=a4r hu
 have sz:∀ p ∈ l,p.sz <= 730:=fun p hp=>a1Q (hl p hp)
 refine ⟨⟨([],0),⟨Nat.zero_le _,Nat.zero_le _,(fun p hp=>by simp at hp),aYa⟩,rfl,rfl⟩,fun x1 h1=>⟨fun hlt=>⟨⟨(x1.1,x1.2,0),⟨⟨h1,rfl,hlt⟩,⟨Nat.zero_le _,fun x hx=>absurd hx (Nat.lt_irrefl 0)⟩⟩,rfl,rfl,rfl⟩,fun x2 h2=>?_⟩,fun hge=>⟨_,⟨⟨h1.ha,h1.hm⟩,by have:=h1.hn; have:=h1.hi; omega⟩,rfl⟩⟩⟩
 obtain ⟨⟨hI,he,hlt2⟩,hK⟩:=h2
 have hx:l.getD x2.2.1 dfP ∈ l:=a1k hlt2
 have hy:x2.2.2 < x2.1.length->x2.1.getD x2.2.2 dfP ∈ l:=fun h=>hI.hm _ (a1k h)
 have hio:=hI.hi
 have hno:=hI.hn
 have hk:=hK.hk
 refine ⟨fun h=>h,fun _=>hlt2,fun h=>(by have:=sz _ hx; have:=sz _ (hy h); omega),fun h=>⟨by unfold inR; omega,(x2.1,x2.2.1,x2.2.2+1),⟨⟨hI,he,hlt2⟩,⟨h.1,fun x hpos hx0=>?_⟩⟩,(by have:=h.1; dsimp only; omega),rfl,rfl,by simp⟩,fun h=>⟨fun h=>h,fun _=>hlt2,fun h=>(by have:=sz _ hx; have:=sz _ (hy h); omega),fun h'=>⟨by unfold inR; omega,(x2.1,x2.2.1+1),⟨by dsimp only; omega,by dsimp only; omega,hI.hm,hI.ha⟩,by dsimp only; omega,rfl,by simp⟩,fun h'=>?_⟩⟩
 ·rw [Nat.add_sub_cancel] at hx0
  rw [<- aDq (d:=dfP) hx0]
  exact h.2
 ·have hnew:SoI u l (x2.1.take x2.2.2 ++ [l.getD x2.2.1 dfP] ++ x2.1.drop x2.2.2) (x2.2.1+1):=⟨by omega,by simp only [List.length_take,List.length_drop,List.length_append,List.length_cons,List.length_nil]; omega,fun p hp=>(aXx hp).elim (hI.hm p) (fun e=>e ▸ hx),aYb hI.ha hk (fun x hpos hx0=>.inl (hK.ha x hpos hx0)) (fun y hy0=>by
   have hlk:x2.2.2 < x2.1.length:=(List.getElem?_eq_some_iff.1 hy0).1
   have e:=aDq (d:=dfP) hy0
   rw [e] at h h'
   exact .inr ⟨h hlk,h' hlk⟩)⟩
  refine ⟨hk,hlt2,hk,?_⟩
  repeat' apply And.intro
  all_goals try (simp only [List.length_take,List.length_drop,List.length_append,List.length_cons,List.length_nil]; omega)
  all_goals try omega
  all_goals try exact ⟨(_,x2.2.1+1),hnew,(by dsimp only; omega),rfl,(by simp)⟩
def aGJ:Ctr:=⟨210,spE (rU.c (lP.c r0)) (List Px) (fun (u,l,_)=>(okU u/\∀ p ∈ l,okP p)/\l.length <= 100000) (fun (u,l,_) a=>(Adj (Ro u) a/\∀ p ∈ a,p ∈ l)/\a.length <= l.length) (fun _ a=>.k (.c (.rd .P (false) (a))))⟩
theorem aGI:CtrOK Tryz.prog aGJ:=eOK a2s aRJ Tryz.func210 fun x hp=>aBD x.1 x.2.1 hp
def WT3:List Ctr:=WT2 ++ [aQ4,aGJ]
theorem aRI:∀ c ∈ WT3,CtrOK Tryz.prog c:=a0O aRJ (a03 aNy (a03 aGI (a2L)))
end Vc
end Go.Proofs.YtbohkigffejhoaaGreat
namespace Go.Proofs.YtbohkigffejhoaaGreat
open Go.RowKit
set_option maxHeartbeats 4000000
namespace Vc
attribute [local irreducible] owes a1v
def b0Q (u:Ux) (x y:Px):Ux:=Ux.mk u.arc u.l u.k u.cw x y
def aEu (u:Ux) (l:List Px) (v:Ux):Prop:=∃ x y,v=b0Q u x y/\Ro u x y/\x ∈ [u.f,u.t] ++ l/\y ∈ [u.f,u.t] ++ l
structure SpI (u:Ux) (l c:List Px) (out:List Ux) (i:Nat):Prop where
 hon:∀ p ∈ l,a1h u p=true
 ha:Adj (Ro u) c
 hm:∀ p ∈ c,p ∈ [u.f,u.t] ++ l
 hn:c.length <= l.length+2
 hi1:1 <= i
 hi:i=1 \/ i <= c.length
 ho:∀ v ∈ out,aEu u l v
 hk:out.length < i
def aFA (p_:Ux):=(((Value.bool p_.arc=(.bool p_.arc))/\(((!p_.arc)=(!p_.arc))/\((p_.l.la=p_.l.la)/\(((!p_.arc)=(!p_.arc))/\((p_.l.lb=p_.l.lb)/\(((!p_.arc)=(!p_.arc))/\((p_.l.lc=p_.l.lc)/\((p_.arc=p_.arc)/\((p_.k.kx=p_.k.kx)/\((p_.arc=p_.arc)/\((p_.k.ky=p_.k.ky)/\((p_.arc=p_.arc)/\((p_.k.kq=p_.k.kq)/\((Value.bool p_.cw=(.bool p_.cw))/\((p_.f.a=p_.f.a)/\((p_.f.b=p_.f.b)/\((p_.f.c=p_.f.c)/\((p_.f.d=p_.f.d)/\((p_.f.e=p_.f.e)/\((p_.t.a=p_.t.a)/\((p_.t.b=p_.t.b)/\((p_.t.c=p_.t.c)/\((p_.t.d=p_.t.d)/\((p_.t.e=p_.t.e)/\True))))))))))))))))))))))))/\True)
def aCi:=(True/\(True/\(True/\(True/\True))))
def aK1 (p_:Ux):=((((!p_.arc)=(!p_.arc))/\(((!p_.arc)=(!p_.arc))/\((!p_.arc)=(!p_.arc))))/\(((p_.arc=p_.arc)/\((p_.arc=p_.arc)/\(p_.arc=p_.arc)))/\(aCi/\aCi)))
def aPu (x3:List Px × List Ux × Nat) (p_:Ux):=([Ux.mk p_.arc p_.l p_.k p_.cw (x3.1.getD ((((x3.2.2:Nat):Int) - (1:Int)).toNat) dfP) (x3.1.getD (((x3.2.2:Nat):Int).toNat) dfP)]:List Ux)
def aK2 (x3:List Px × List Ux × Nat) (u:Ux) (l:List Px) (p_:Ux):=(((((aK1 p_)/\True)/\((x3.2.1.length+(aPu x3 p_).length <= 10000000)/\((inR .i64 (((x3.2.2:Nat):Int)+(1:Int)))/\(∃ y3:List Px × List Ux × Nat,((SpI u l y3.1 y3.2.1 y3.2.2)/\((y3.1.length+1 - y3.2.2 < x3.1.length+1 - x3.2.2)/\((True/\((x3.1=y3.1)/\(((x3.2.1 ++ (aPu x3 p_))=y3.2.1)/\((Value.int .i64 (((x3.2.2:Nat):Int)+(1:Int))=(.int .i64 ((y3.2.2:Nat):Int)))/\True))))/\(aFA p_))))))))/\True)/\True)
theorem aDW (u:Ux) (l:List Px) (hp:(okU u/\∀ p ∈ l,okP p)/\l.length <= 90000):a1v LTL WT3 [.inv 2 (Nat) (fun ξ=>⟨[.u,.k (.c (.rd .P (false) (l))),.k (.c (.bx 0 0)),.u,.u,.u,.k (.c (.v (.int .i64 (((ξ:Nat):Int))))),.u,.u,.u,.u,.u,.u,.u,.u,.u,.u,.u,.u,.u,.u,.u,.u,.u,.u,.u,.u,.u,.u,.u,.u,.u,.u,.u,.u,.u,.u,.u,.u,.u,.u,.u,.u,.u,.u,.u,.u,.u,.u,.u,.u,.u,.u,.u,.u,.u],[⟨52,(eU u)⟩]⟩) (fun _ ξ=>ξ <= l.length/\∀ j,j < ξ->a1h u (l.getD j dfP)=true) (fun ξ=>l.length - ξ),.inv 9 (List Px × List Ux × Nat) (fun ξ=>⟨[.u,.u,.k (.c (.bx 0 0)),.u,.u,.u,.u,.k (.c (.rd .P (false) (ξ.1))),.k (.c (.ow 0 52 .U (ξ.2.1))),.k (.c (.v (.int .i64 (((ξ.2.2:Nat):Int))))),.u,.u,.u,.u,.u,.u,.u,.u,.u,.u,.u,.u,.u,.u,.u,.u,.u,.u,.u,.u,.u,.u,.u,.u,.u,.u,.u,.u,.u,.u,.u,.u,.u,.u,.u,.u,.u,.u,.u,.u,.u,.u,.u,.u,.u,.u],[⟨52,(eU u)⟩]⟩) (fun _ ξ=>SpI u l ξ.1 ξ.2.1 ξ.2.2) (fun ξ=>ξ.1.length+1 - ξ.2.2),.cut 6 8,.cut 12 1000] Tryz.f120 (bd Tryz.f120) [.g (eU u),.c (.rd .P (false) (l))] (fun a:List Ux × Int=>((∀ v ∈ a.1,aEu u l v)/\(a.1=[] \/ ∀ p ∈ l,a1h u p=true))/\a.1.length <= l.length+1) (fun a=>.t [.c (.rd .U (false) (a.1)),.c (.v (.int .i64 (a.2)))]):=by
 refine a1J (show ((∃ x1:Nat,((x1 <= l.length/\∀ j,j < x1->a1h u (l.getD j dfP)=true)/\(((l=l)/\(True/\((Value.int .i64 (0:Int)=(.int .i64 ((x1:Nat):Int)))/\True)))/\(aFA u))))/\(∀ x1:Nat,((x1 <= l.length/\∀ j,j < x1->a1h u (l.getD j dfP)=true)->(((decide (((x1:Nat):Int) < (l.length:Int)))=true->((0 <= ((x1:Nat):Int)/\((x1:Nat):Int) < (l.length:Int))/\(((aK1 u)/\aCi/\0 <= (l.getD (((x1:Nat):Int).toNat) dfP).e/\u.sz+(l.getD (((x1:Nat):Int).toNat) dfP).sz <= 3000)/\(((!(a1h u (l.getD (((x1:Nat):Int).toNat) dfP)))=true->(∃ a:List Ux × Int,((((∀ v ∈ a.1,aEu u l v)/\(a.1=[] \/ ∀ p ∈ l,a1h u p=true))/\a.1.length <= l.length+1)/\((a.1=[])/\((Value.int .i64 (1:Int)=(.int .i64 a.2))/\True)))))/\((!(a1h u (l.getD (((x1:Nat):Int).toNat) dfP)))=false->((inR .i64 (((x1:Nat):Int)+(1:Int)))/\(∃ y1:Nat,((y1 <= l.length/\∀ j,j < y1->a1h u (l.getD j dfP)=true)/\((l.length - y1 < l.length - x1)/\(((l=l)/\(True/\((Value.int .i64 (((x1:Nat):Int)+(1:Int))=(.int .i64 ((y1:Nat):Int)))/\True)))/\(aFA u)))))))))))/\((decide (((x1:Nat):Int) < (l.length:Int)))=false->((aCi/\aCi/\True)/\((([u.f,u.t]:List Px).length+l.length <= 10000000)/\(((aK1 u)/\(okU u/\∀ p ∈ (([u.f,u.t]:List Px) ++ l),okP p)/\(([u.f,u.t]:List Px) ++ l).length <= 100000)/\(∀ e2:List Px,((Adj (Ro u) e2/\∀ p ∈ e2,p ∈ (([u.f,u.t]:List Px) ++ l))/\e2.length <= (([u.f,u.t]:List Px) ++ l).length->((∃ x3:List Px × List Ux × Nat,((SpI u l x3.1 x3.2.1 x3.2.2)/\((True/\((e2=x3.1)/\((x3.2.1=[])/\((Value.int .i64 (1:Int)=(.int .i64 ((x3.2.2:Nat):Int)))/\True))))/\(aFA u))))/\(∀ x3:List Px × List Ux × Nat,((SpI u l x3.1 x3.2.1 x3.2.2)->(((decide (((x3.2.2:Nat):Int) < (x3.1.length:Int)))=true->((inR .i64 (((x3.2.2:Nat):Int) - (1:Int)))/\((0 <= ((x3.2.2:Nat):Int) - (1:Int)/\((x3.2.2:Nat):Int) - (1:Int) < (x3.1.length:Int))/\((0 <= ((x3.2.2:Nat):Int)/\((x3.2.2:Nat):Int) < (x3.1.length:Int))/\(((aK2 x3 u l u)/\((aK2 x3 u l u)/\True))/\(((aK2 x3 u l u)/\True)/\True))))))/\((decide (((x3.2.2:Nat):Int) < (x3.1.length:Int)))=false->(∃ a:List Ux × Int,((((∀ v ∈ a.1,aEu u l v)/\(a.1=[] \/ ∀ p ∈ l,a1h u p=true))/\a.1.length <= l.length+1)/\((x3.2.1=a.1)/\((Value.int .i64 (0:Int)=(.int .i64 a.2))/\True)))))))))))))))))))=_ by kernel_rfl) ?_
 delta aK2 aPu aK1 aCi aFA
 simp only [true_and,and_true,Int.toNat_natCast,Value.int.injEq,decide_eq_true_eq,decide_eq_false_iff_not,Int.natCast_nonneg,Int.ofNat_lt]
 obtain ⟨⟨hu,hl⟩,hn⟩:=hp
 have su:=a4r hu
 have sz:∀ p ∈ l,p.sz <= 730:=fun p hp=>a1Q (hl p hp)
 refine ⟨⟨0,⟨Nat.zero_le _,fun j hj=>absurd hj (Nat.not_lt_zero j)⟩,rfl⟩,fun x1 h1=>⟨fun hlt=>?_,fun hge=>?_⟩⟩
 ·have hx:l.getD x1 dfP ∈ l:=a1k hlt
  refine ⟨hlt,⟨a3j (hl _ hx),by have:=sz _ hx; omega⟩,fun h=>⟨([],1),⟨⟨fun v hv=>(by simp at hv),.inl rfl⟩,Nat.zero_le _⟩,rfl,rfl⟩,fun h=>⟨by unfold inR; omega,x1+1,⟨hlt,fun j hj=>?_⟩,by omega,by simp⟩⟩
  rcases Nat.lt_or_ge j x1 with g | g
  ·exact h1.2 j g
  ·obtain rfl:j=x1:=by omega
   simpa using h
 ·have on:∀ p ∈ l,a1h u p=true:=fun p hp=>by
   obtain ⟨j,hj,rfl⟩:=List.getElem_of_mem hp
   have:=h1.2 j (by omega)
   rwa [aDq (List.getElem?_eq_getElem hj)] at this
  refine ⟨by simp only [List.length_cons,List.length_nil]; omega,⟨⟨hu,fun p hp=>?_⟩,by simp only [List.length_append,List.length_cons,List.length_nil]; omega⟩,fun c hc=>⟨⟨(c,[],1),⟨on,hc.1.1,hc.1.2,by have:=hc.2; simp only [List.length_append,List.length_cons,List.length_nil] at this; dsimp only; omega,Nat.le_refl _,.inl rfl,(fun v hv=>by simp at hv),Nat.one_pos⟩,rfl,rfl,rfl⟩,fun x3 h3=>⟨fun hlt=>?_,fun hge=>⟨(x3.2.1,0),⟨⟨h3.ho,.inr on⟩,by have:=h3.hk; have:=h3.hi; have:=h3.hn; dsimp only; omega⟩,rfl,rfl⟩⟩⟩⟩
  ·simp only [List.mem_append,List.mem_cons,List.not_mem_nil,or_false] at hp
   rcases hp with (rfl | rfl) | hp
   ·exact hu.2.2.1
   ·exact hu.2.2.2.1
   ·exact hl p hp
  ·have i1:=h3.hi1
   have i2:=h3.hn
   have i3:=h3.hk
   have e1:((x3.2.2:Int) - 1).toNat=x3.2.2 - 1:=by omega
   rw [e1]
   have g1:x3.1[x3.2.2 - 1]?=some (x3.1.getD (x3.2.2 - 1) dfP):=aK7 (by omega)
   have g2:x3.1[x3.2.2 - 1+1]?=some (x3.1.getD x3.2.2 dfP):=by rw [show x3.2.2 - 1+1=x3.2.2 by omega]; exact aK7 hlt
   have hnew:SpI u l x3.1 (x3.2.1 ++ [b0Q u (x3.1.getD (x3.2.2 - 1) dfP) (x3.1.getD x3.2.2 dfP)]) (x3.2.2+1):=⟨on,h3.ha,h3.hm,h3.hn,by omega,.inr hlt,fun v hv=>by
    rcases List.mem_append.1 hv with hv | hv
    ·exact h3.ho v hv
    ·rw [List.mem_singleton.1 hv]
     exact ⟨_,_,rfl,h3.ha _ _ _ g1 g2,h3.hm _ (List.mem_of_getElem? g1),h3.hm _ (List.mem_of_getElem? g2)⟩,by simp only [List.length_append,List.length_cons,List.length_nil]; omega⟩
   repeat' apply And.intro
   all_goals try (simp only [List.length_cons,List.length_nil]; omega)
   all_goals try omega
   all_goals exact ⟨(x3.1,x3.2.1 ++ [b0Q u (x3.1.getD (x3.2.2 - 1) dfP) (x3.1.getD x3.2.2 dfP)],x3.2.2+1),hnew,(by dsimp only; omega),rfl,rfl,(by simp)⟩
def aLL:Ctr:=⟨120,spE (rU.c (lP.c r0)) (List Ux × Int) (fun (u,l,_)=>(okU u/\∀ p ∈ l,okP p)/\l.length <= 90000) (fun (u,l,_) a=>((∀ v ∈ a.1,aEu u l v)/\(a.1=[] \/ ∀ p ∈ l,a1h u p=true))/\a.1.length <= l.length+1) (fun _ a=>.t [.c (.rd .U (false) (a.1)),.c (.v (.int .i64 (a.2)))])⟩
theorem aJp:CtrOK Tryz.prog aLL:=eOK a2s aRI Tryz.func120 fun x hp=>aDW x.1 x.2.1 hp
structure MeI (u v:Ux) (l both:List Px) (i:Nat):Prop where
 hl:∀ p ∈ l,okP p
 hn:l.length <= 4
 hb:∀ p ∈ both,okP p/\a1h u p=true/\a1h v p=true
 hi:i <= l.length
 hk:both.length <= i
structure MeJ (u v:Ux) (both:List Px) (i:Nat) (w:Ux):Prop where
 hb:∀ p ∈ both,okP p/\a1h u p=true/\a1h v p=true
 hn:both.length <= 4
 hi1:1 <= i
 hi:i <= both.length+1
 hw:okU w
def aK0 (p_:Ux):=((Value.bool p_.arc=(.bool p_.arc))/\(((!p_.arc)=(!p_.arc))/\((p_.l.la=p_.l.la)/\(((!p_.arc)=(!p_.arc))/\((p_.l.lb=p_.l.lb)/\(((!p_.arc)=(!p_.arc))/\((p_.l.lc=p_.l.lc)/\((p_.arc=p_.arc)/\((p_.k.kx=p_.k.kx)/\((p_.arc=p_.arc)/\((p_.k.ky=p_.k.ky)/\((p_.arc=p_.arc)/\((p_.k.kq=p_.k.kq)/\((Value.bool p_.cw=(.bool p_.cw))/\((p_.f.a=p_.f.a)/\((p_.f.b=p_.f.b)/\((p_.f.c=p_.f.c)/\((p_.f.d=p_.f.d)/\((p_.f.e=p_.f.e)/\((p_.t.a=p_.t.a)/\((p_.t.b=p_.t.b)/\((p_.t.c=p_.t.c)/\((p_.t.d=p_.t.d)/\((p_.t.e=p_.t.e)/\True))))))))))))))))))))))))
def a7y (u:Ux) (p_ q_:Ux):=((aK0 u)/\(((Value.bool p_.arc=(.bool q_.arc))/\(((!p_.arc)=(!q_.arc))/\((p_.l.la=q_.l.la)/\(((!p_.arc)=(!q_.arc))/\((p_.l.lb=q_.l.lb)/\(((!p_.arc)=(!q_.arc))/\((p_.l.lc=q_.l.lc)/\((p_.arc=q_.arc)/\((p_.k.kx=q_.k.kx)/\((p_.arc=q_.arc)/\((p_.k.ky=q_.k.ky)/\((p_.arc=q_.arc)/\((p_.k.kq=q_.k.kq)/\((Value.bool p_.cw=(.bool q_.cw))/\((p_.f.a=q_.f.a)/\((p_.f.b=q_.f.b)/\((p_.f.c=q_.f.c)/\((p_.f.d=q_.f.d)/\((p_.f.e=q_.f.e)/\((p_.t.a=q_.t.a)/\((p_.t.b=q_.t.b)/\((p_.t.c=q_.t.c)/\((p_.t.d=q_.t.d)/\((p_.t.e=q_.t.e)/\True))))))))))))))))))))))))/\True))
def a2T:=(True/\(True/\(True/\(True/\True))))
def a3P (p_:Ux):=((((!p_.arc)=(!p_.arc))/\(((!p_.arc)=(!p_.arc))/\((!p_.arc)=(!p_.arc))))/\(((p_.arc=p_.arc)/\((p_.arc=p_.arc)/\(p_.arc=p_.arc)))/\(a2T/\a2T)))
def a5j (u:Ux) (v:Ux):=(Value.bool (a0i u v)=(.bool (a0i u v)))
def aFz (p_ q_:Ux):=(bif (bif (bif p_.arc then q_.arc else false) then (p_.cw != q_.cw) else false) then true else (bif (!p_.arc) then ((a0g p_.f p_.t) != (a0g q_.f q_.t)) else false))
def a5V (x2:List Px × List Px × Nat):=(x2.1.getD (((x2.2.2:Nat):Int).toNat) dfP)
def a5U (x6:List Px × List Px × Nat):=(x6.1.getD (((x6.2.2:Nat):Int).toNat) dfP)
def aUY (p_ q_:Ux):=(((bif (bif p_.arc then q_.arc else false) then (p_.cw != q_.cw) else false) == false) && ((!p_.arc) == true))
def aFy (a:List Px × Bool) (u:Ux) (v:Ux):=((∀ p ∈ a.1,okP p/\a1h u p=true/\a1h v p=true)/\a.1.length <= 4)
def aAu (u:Ux) (v:Ux) (p_:Ux):=((aUY u v)=true->(a2T/\a2T/\p_.f.sz+p_.t.sz <= 14500))
def a6Q (u:Ux) (v:Ux):=((aK0 u)/\((aK0 v)/\True))
def aDg (x2:List Px × List Px × Nat):=(0 <= ((x2.2.2:Nat):Int)/\((x2.2.2:Nat):Int) < (x2.1.length:Int))
def aDf (x6:List Px × List Px × Nat):=(0 <= ((x6.2.2:Nat):Int)/\((x6.2.2:Nat):Int) < (x6.1.length:Int))
theorem aGM (u:Ux) (v:Ux) (hp:okU u/\okU v):a1v LTL WT3 [.inv 7 (List Px × List Px × Nat) (fun ξ=>⟨[.u,.u,.k (.c (.bx 0 0)),.k (.c (.bx 1 0)),.u,.u,.k (.c (.v (.bool (a0i u v)))),.k (.c (.rd .P (false) (ξ.1))),.k (.c (.ow 0 50 .P (ξ.2.1))),.k (.c (.v (.int .i64 (((ξ.2.2:Nat):Int))))),.u,.u,.u,.u,.u,.u,.u,.u,.u,.u,.u,.u,.u,.u,.u,.u,.u,.u,.u,.u,.u,.u,.u,.u,.u,.u,.u,.u,.u,.u,.u,.u,.u,.u,.u,.u,.u,.u,.u,.u,.u,.u,.u,.u,.u,.u,.u,.u,.u,.u,.u,.u,.u,.u,.u,.u,.u,.u,.u,.u,.u,.u,.u,.u,.u,.u,.u,.u,.u,.u,.u,.u,.u,.u,.u,.u,.u,.u,.u,.u,.u,.u,.u,.u,.u,.u,.u,.u,.u,.u,.u,.u,.u,.u,.u,.u,.u,.u,.u,.u,.u,.u,.u,.u,.u,.u,.u,.u,.u,.u,.u],[⟨52,(eU u)⟩,⟨52,(eU v)⟩]⟩) (fun _ ξ=>MeI u v ξ.1 ξ.2.1 ξ.2.2) (fun ξ=>ξ.1.length - ξ.2.2),.inv 16 (List Px × Nat × Bool × Ux) (fun ξ=>⟨[.u,.u,.k (.c (.bx 0 0)),.k (.c (.bx 1 0)),.u,.u,.k (.c (.v (.bool (a0i u v)))),.u,.k (.c (.rd .P (false) (ξ.1))),.u,.k (.c (.v (.bool (ξ.2.2.1)))),.k (.c (.v (.int .i64 (((ξ.2.1:Nat):Int))))),.u,.u,.u,.u,.u,.u,.u,.u,.u,.u,.u,.u,.u,.u,.u,.u,.u,.u,.u,.u,.u,.u,.u,.u,.u,.u,.u,.u,.u,.u,.u,.u,.u,.u,.u,.u,.u,.u,.u,.u,.u,.u,.u,.u,.u,.u,.u,.u,.u,.u,.u,.u,.u,.u,.u,.u,.u,.u,.u,.u,.u,.u,.u,.u,.u,.u,.u,.u,.u,.u,.u,.u,.u,.u,.u,.u,.u,.u,.u,.u,.u,.u,.u,.u,.u,.u,.u,.u,.u,.u,.u,.u,.u,.u,.u,.u,.u,.u,.u,.u,.u,.u,.u,.u,.u,.u,.u,.u,.u],[⟨52,(eU u)⟩,⟨52,(eU ξ.2.2.2)⟩]⟩) (fun _ ξ=>MeJ u v ξ.1 ξ.2.1 ξ.2.2.2) (fun ξ=>ξ.1.length+1 - ξ.2.1)] Tryz.f119 (bd Tryz.f119) [.g (eU u),.g (eU v)] (fun a:List Px × Bool=>(∀ p ∈ a.1,okP p/\a1h u p=true/\a1h v p=true)/\a.1.length <= 4) (fun a=>.t [.c (.rd .P (false) (a.1)),.c (.v (.bool (a.2)))]):=by
 refine a1J (show (((a3P u)/\(a3P v)/\u.sz+v.sz <= 100000)/\((a2T/\a2T/\a2T/\a2T/\True)/\(((!(a0i u v))=true->(((a3P u)/\(a3P v)/\okU u/\okU v)/\(∀ e1:List Px × Int,((∀ p ∈ e1.1,okP p)/\e1.1.length <= 2->((∃ x2:List Px × List Px × Nat,((MeI u v x2.1 x2.2.1 x2.2.2)/\((True/\(True/\((Value.bool (a0i u v)=(.bool (a0i u v)))/\((e1.1=x2.1)/\((x2.2.1=[])/\((Value.int .i64 (0:Int)=(.int .i64 ((x2.2.2:Nat):Int)))/\True))))))/\(a6Q u v))))/\(∀ x2:List Px × List Px × Nat,((MeI u v x2.1 x2.2.1 x2.2.2)->(((decide (((x2.2.2:Nat):Int) < (x2.1.length:Int)))=true->((aDg x2)/\(((a3P u)/\a2T/\0 <= (a5V x2).e/\u.sz+(a5V x2).sz <= 3000)/\((((a1h u (a5V x2)) == true)=true->(aDg x2))/\((((a1h u (a5V x2)) == true)=true->((a3P v)/\a2T/\0 <= (a5V x2).e/\v.sz+(a5V x2).sz <= 3000))/\(((bif (a1h u (a5V x2)) then (a1h v (a5V x2)) else false)=true->((aDg x2)/\((a2T/\True)/\((x2.2.1.length+([(x2.1).getD (((x2.2.2:Nat):Int).toNat) dfP]:List Px).length <= 10000000)/\((inR .i64 (((x2.2.2:Nat):Int)+(1:Int)))/\(∃ y2:List Px × List Px × Nat,((MeI u v y2.1 y2.2.1 y2.2.2)/\((y2.1.length - y2.2.2 < x2.1.length - x2.2.2)/\((True/\(True/\((a5j u v)/\((x2.1=y2.1)/\(((x2.2.1 ++ ([(x2.1).getD (((x2.2.2:Nat):Int).toNat) dfP]:List Px))=y2.2.1)/\((Value.int .i64 (((x2.2.2:Nat):Int)+(1:Int))=(.int .i64 ((y2.2.2:Nat):Int)))/\True))))))/\(a6Q u v))))))))))/\((bif (a1h u (a5V x2)) then (a1h v (a5V x2)) else false)=false->((inR .i64 (((x2.2.2:Nat):Int)+(1:Int)))/\(∃ y2:List Px × List Px × Nat,((MeI u v y2.1 y2.2.1 y2.2.2)/\((y2.1.length - y2.2.2 < x2.1.length - x2.2.2)/\((True/\(True/\((a5j u v)/\((x2.1=y2.1)/\((x2.2.1=y2.2.1)/\((Value.int .i64 (((x2.2.2:Nat):Int)+(1:Int))=(.int .i64 ((y2.2.2:Nat):Int)))/\True))))))/\(a6Q u v)))))))))))))/\((decide (((x2.2.2:Nat):Int) < (x2.1.length:Int)))=false->(((a3P u)/\(okU u/\∀ p ∈ x2.2.1,okP p)/\x2.2.1.length <= 100000)/\(∀ e3:List Px,((Adj (Ro u) e3/\∀ p ∈ e3,p ∈ x2.2.1)/\e3.length <= x2.2.1.length->((aAu u v u)/\((aAu u v v)/\(((aFz u v)=true->(((a3P v)/\True)/\((∃ x4:List Px × Nat × Bool × Ux,((MeJ u v x4.1 x4.2.1 x4.2.2.2)/\((True/\(True/\((a5j u v)/\((e3=x4.1)/\((Value.bool false=(.bool x4.2.2.1))/\((Value.int .i64 (1:Int)=(.int .i64 ((x4.2.1:Nat):Int)))/\True))))))/\(a7y u (a0s v) x4.2.2.2))))/\(∀ x4:List Px × Nat × Bool × Ux,((MeJ u v x4.1 x4.2.1 x4.2.2.2)->(((bif (a0i u v) then (decide (((x4.2.1:Nat):Int) < (x4.1.length:Int))) else false)=true->(((x4.2.2.1 == false)=true->(inR .i64 (((x4.2.1:Nat):Int) - (1:Int))))/\(((x4.2.2.1 == false)=true->(0 <= ((x4.2.1:Nat):Int) - (1:Int)/\((x4.2.1:Nat):Int) - (1:Int) < (x4.1.length:Int)))/\(((x4.2.2.1 == false)=true->(0 <= ((x4.2.1:Nat):Int)/\((x4.2.1:Nat):Int) < (x4.1.length:Int)))/\(((x4.2.2.1 == false)=true->((a3P x4.2.2.2)/\a2T/\a2T/\x4.2.2.2.sz+(x4.1.getD ((((x4.2.1:Nat):Int) - (1:Int)).toNat) dfP).sz+(x4.1.getD (((x4.2.1:Nat):Int).toNat) dfP).sz <= 9900))/\((inR .i64 (((x4.2.1:Nat):Int)+(1:Int)))/\(∃ y4:List Px × Nat × Bool × Ux,((MeJ u v y4.1 y4.2.1 y4.2.2.2)/\((y4.1.length+1 - y4.2.1 < x4.1.length+1 - x4.2.1)/\((True/\(True/\((a5j u v)/\((x4.1=y4.1)/\((Value.bool (bif x4.2.2.1 then true else (decide ((a0Y x4.2.2.2 (x4.1.getD ((((x4.2.1:Nat):Int) - (1:Int)).toNat) dfP) (x4.1.getD (((x4.2.1:Nat):Int).toNat) dfP)) < (0:Int))))=(.bool y4.2.2.1))/\((Value.int .i64 (((x4.2.1:Nat):Int)+(1:Int))=(.int .i64 ((y4.2.1:Nat):Int)))/\True))))))/\(a7y u x4.2.2.2 y4.2.2.2)))))))))))/\((bif (a0i u v) then (decide (((x4.2.1:Nat):Int) < (x4.1.length:Int))) else false)=false->(∃ a:List Px × Bool,((aFy a u v)/\((x4.1=a.1)/\((Value.bool x4.2.2.1=(.bool a.2))/\True)))))))))))/\((aFz u v)=false->((∃ x5:List Px × Nat × Bool × Ux,((MeJ u v x5.1 x5.2.1 x5.2.2.2)/\((True/\(True/\((a5j u v)/\((e3=x5.1)/\((Value.bool false=(.bool x5.2.2.1))/\((Value.int .i64 (1:Int)=(.int .i64 ((x5.2.1:Nat):Int)))/\True))))))/\(a7y u v x5.2.2.2))))/\(∀ x5:List Px × Nat × Bool × Ux,((MeJ u v x5.1 x5.2.1 x5.2.2.2)->(((bif (a0i u v) then (decide (((x5.2.1:Nat):Int) < (x5.1.length:Int))) else false)=true->(((x5.2.2.1 == false)=true->(inR .i64 (((x5.2.1:Nat):Int) - (1:Int))))/\(((x5.2.2.1 == false)=true->(0 <= ((x5.2.1:Nat):Int) - (1:Int)/\((x5.2.1:Nat):Int) - (1:Int) < (x5.1.length:Int)))/\(((x5.2.2.1 == false)=true->(0 <= ((x5.2.1:Nat):Int)/\((x5.2.1:Nat):Int) < (x5.1.length:Int)))/\(((x5.2.2.1 == false)=true->((a3P x5.2.2.2)/\a2T/\a2T/\x5.2.2.2.sz+(x5.1.getD ((((x5.2.1:Nat):Int) - (1:Int)).toNat) dfP).sz+(x5.1.getD (((x5.2.1:Nat):Int).toNat) dfP).sz <= 9900))/\((inR .i64 (((x5.2.1:Nat):Int)+(1:Int)))/\(∃ y5:List Px × Nat × Bool × Ux,((MeJ u v y5.1 y5.2.1 y5.2.2.2)/\((y5.1.length+1 - y5.2.1 < x5.1.length+1 - x5.2.1)/\((True/\(True/\((a5j u v)/\((x5.1=y5.1)/\((Value.bool (bif x5.2.2.1 then true else (decide ((a0Y x5.2.2.2 (x5.1.getD ((((x5.2.1:Nat):Int) - (1:Int)).toNat) dfP) (x5.1.getD (((x5.2.1:Nat):Int).toNat) dfP)) < (0:Int))))=(.bool y5.2.2.1))/\((Value.int .i64 (((x5.2.1:Nat):Int)+(1:Int))=(.int .i64 ((y5.2.1:Nat):Int)))/\True))))))/\(a7y u x5.2.2.2 y5.2.2.2)))))))))))/\((bif (a0i u v) then (decide (((x5.2.1:Nat):Int) < (x5.1.length:Int))) else false)=false->(∃ a:List Px × Bool,((aFy a u v)/\((x5.1=a.1)/\((Value.bool x5.2.2.1=(.bool a.2))/\True)))))))))))))))))))))))))/\((!(a0i u v))=false->((∃ x6:List Px × List Px × Nat,((MeI u v x6.1 x6.2.1 x6.2.2)/\((True/\(True/\((Value.bool (a0i u v)=(.bool (a0i u v)))/\((([u.f,u.t,v.f,v.t]:List Px)=x6.1)/\((x6.2.1=[])/\((Value.int .i64 (0:Int)=(.int .i64 ((x6.2.2:Nat):Int)))/\True))))))/\(a6Q u v))))/\(∀ x6:List Px × List Px × Nat,((MeI u v x6.1 x6.2.1 x6.2.2)->(((decide (((x6.2.2:Nat):Int) < (x6.1.length:Int)))=true->((aDf x6)/\(((a3P u)/\a2T/\0 <= (a5U x6).e/\u.sz+(a5U x6).sz <= 3000)/\((((a1h u (a5U x6)) == true)=true->(aDf x6))/\((((a1h u (a5U x6)) == true)=true->((a3P v)/\a2T/\0 <= (a5U x6).e/\v.sz+(a5U x6).sz <= 3000))/\(((bif (a1h u (a5U x6)) then (a1h v (a5U x6)) else false)=true->((aDf x6)/\((a2T/\True)/\((x6.2.1.length+([(x6.1).getD (((x6.2.2:Nat):Int).toNat) dfP]:List Px).length <= 10000000)/\((inR .i64 (((x6.2.2:Nat):Int)+(1:Int)))/\(∃ y6:List Px × List Px × Nat,((MeI u v y6.1 y6.2.1 y6.2.2)/\((y6.1.length - y6.2.2 < x6.1.length - x6.2.2)/\((True/\(True/\((a5j u v)/\((x6.1=y6.1)/\(((x6.2.1 ++ ([(x6.1).getD (((x6.2.2:Nat):Int).toNat) dfP]:List Px))=y6.2.1)/\((Value.int .i64 (((x6.2.2:Nat):Int)+(1:Int))=(.int .i64 ((y6.2.2:Nat):Int)))/\True))))))/\(a6Q u v))))))))))/\((bif (a1h u (a5U x6)) then (a1h v (a5U x6)) else false)=false->((inR .i64 (((x6.2.2:Nat):Int)+(1:Int)))/\(∃ y6:List Px × List Px × Nat,((MeI u v y6.1 y6.2.1 y6.2.2)/\((y6.1.length - y6.2.2 < x6.1.length - x6.2.2)/\((True/\(True/\((a5j u v)/\((x6.1=y6.1)/\((x6.2.1=y6.2.1)/\((Value.int .i64 (((x6.2.2:Nat):Int)+(1:Int))=(.int .i64 ((y6.2.2:Nat):Int)))/\True))))))/\(a6Q u v)))))))))))))/\((decide (((x6.2.2:Nat):Int) < (x6.1.length:Int)))=false->(((a3P u)/\(okU u/\∀ p ∈ x6.2.1,okP p)/\x6.2.1.length <= 100000)/\(∀ e7:List Px,((Adj (Ro u) e7/\∀ p ∈ e7,p ∈ x6.2.1)/\e7.length <= x6.2.1.length->((aAu u v u)/\((aAu u v v)/\(((aFz u v)=true->(((a3P v)/\True)/\((∃ x8:List Px × Nat × Bool × Ux,((MeJ u v x8.1 x8.2.1 x8.2.2.2)/\((True/\(True/\((a5j u v)/\((e7=x8.1)/\((Value.bool false=(.bool x8.2.2.1))/\((Value.int .i64 (1:Int)=(.int .i64 ((x8.2.1:Nat):Int)))/\True))))))/\(a7y u (a0s v) x8.2.2.2))))/\(∀ x8:List Px × Nat × Bool × Ux,((MeJ u v x8.1 x8.2.1 x8.2.2.2)->(((bif (a0i u v) then (decide (((x8.2.1:Nat):Int) < (x8.1.length:Int))) else false)=true->(((x8.2.2.1 == false)=true->(inR .i64 (((x8.2.1:Nat):Int) - (1:Int))))/\(((x8.2.2.1 == false)=true->(0 <= ((x8.2.1:Nat):Int) - (1:Int)/\((x8.2.1:Nat):Int) - (1:Int) < (x8.1.length:Int)))/\(((x8.2.2.1 == false)=true->(0 <= ((x8.2.1:Nat):Int)/\((x8.2.1:Nat):Int) < (x8.1.length:Int)))/\(((x8.2.2.1 == false)=true->((a3P x8.2.2.2)/\a2T/\a2T/\x8.2.2.2.sz+(x8.1.getD ((((x8.2.1:Nat):Int) - (1:Int)).toNat) dfP).sz+(x8.1.getD (((x8.2.1:Nat):Int).toNat) dfP).sz <= 9900))/\((inR .i64 (((x8.2.1:Nat):Int)+(1:Int)))/\(∃ y8:List Px × Nat × Bool × Ux,((MeJ u v y8.1 y8.2.1 y8.2.2.2)/\((y8.1.length+1 - y8.2.1 < x8.1.length+1 - x8.2.1)/\((True/\(True/\((a5j u v)/\((x8.1=y8.1)/\((Value.bool (bif x8.2.2.1 then true else (decide ((a0Y x8.2.2.2 (x8.1.getD ((((x8.2.1:Nat):Int) - (1:Int)).toNat) dfP) (x8.1.getD (((x8.2.1:Nat):Int).toNat) dfP)) < (0:Int))))=(.bool y8.2.2.1))/\((Value.int .i64 (((x8.2.1:Nat):Int)+(1:Int))=(.int .i64 ((y8.2.1:Nat):Int)))/\True))))))/\(a7y u x8.2.2.2 y8.2.2.2)))))))))))/\((bif (a0i u v) then (decide (((x8.2.1:Nat):Int) < (x8.1.length:Int))) else false)=false->(∃ a:List Px × Bool,((aFy a u v)/\((x8.1=a.1)/\((Value.bool x8.2.2.1=(.bool a.2))/\True)))))))))))/\((aFz u v)=false->((∃ x9:List Px × Nat × Bool × Ux,((MeJ u v x9.1 x9.2.1 x9.2.2.2)/\((True/\(True/\((a5j u v)/\((e7=x9.1)/\((Value.bool false=(.bool x9.2.2.1))/\((Value.int .i64 (1:Int)=(.int .i64 ((x9.2.1:Nat):Int)))/\True))))))/\(a7y u v x9.2.2.2))))/\(∀ x9:List Px × Nat × Bool × Ux,((MeJ u v x9.1 x9.2.1 x9.2.2.2)->(((bif (a0i u v) then (decide (((x9.2.1:Nat):Int) < (x9.1.length:Int))) else false)=true->(((x9.2.2.1 == false)=true->(inR .i64 (((x9.2.1:Nat):Int) - (1:Int))))/\(((x9.2.2.1 == false)=true->(0 <= ((x9.2.1:Nat):Int) - (1:Int)/\((x9.2.1:Nat):Int) - (1:Int) < (x9.1.length:Int)))/\(((x9.2.2.1 == false)=true->(0 <= ((x9.2.1:Nat):Int)/\((x9.2.1:Nat):Int) < (x9.1.length:Int)))/\(((x9.2.2.1 == false)=true->((a3P x9.2.2.2)/\a2T/\a2T/\x9.2.2.2.sz+(x9.1.getD ((((x9.2.1:Nat):Int) - (1:Int)).toNat) dfP).sz+(x9.1.getD (((x9.2.1:Nat):Int).toNat) dfP).sz <= 9900))/\((inR .i64 (((x9.2.1:Nat):Int)+(1:Int)))/\(∃ y9:List Px × Nat × Bool × Ux,((MeJ u v y9.1 y9.2.1 y9.2.2.2)/\((y9.1.length+1 - y9.2.1 < x9.1.length+1 - x9.2.1)/\((True/\(True/\((a5j u v)/\((x9.1=y9.1)/\((Value.bool (bif x9.2.2.1 then true else (decide ((a0Y x9.2.2.2 (x9.1.getD ((((x9.2.1:Nat):Int) - (1:Int)).toNat) dfP) (x9.1.getD (((x9.2.1:Nat):Int).toNat) dfP)) < (0:Int))))=(.bool y9.2.2.1))/\((Value.int .i64 (((x9.2.1:Nat):Int)+(1:Int))=(.int .i64 ((y9.2.1:Nat):Int)))/\True))))))/\(a7y u x9.2.2.2 y9.2.2.2)))))))))))/\((bif (a0i u v) then (decide (((x9.2.1:Nat):Int) < (x9.1.length:Int))) else false)=false->(∃ a:List Px × Bool,((aFy a u v)/\((x9.1=a.1)/\((Value.bool x9.2.2.1=(.bool a.2))/\True)))))))))))))))))))))))))=_ by kernel_rfl) ?_
 delta aDf aDg a6Q aAu aFy aUY a5U a5V aFz a5j a3P a2T a7y aK0
 simp only [true_and,and_true,aA5,aJP,Int.toNat_natCast,Value.int.injEq,Value.bool.injEq,decide_eq_true_eq,decide_eq_false_iff_not,beq_true,Int.natCast_nonneg,Int.ofNat_lt]
 obtain ⟨hu,hv⟩:=hp
 have su:=a4r hu
 have sv:=a4r hv
 have uf:=a1Q hu.2.2.1
 have ut:=a1Q hu.2.2.2.1
 have vf:=a1Q hv.2.2.1
 have vt:=a1Q hv.2.2.2.1
 have rv:okU (a0s v):=⟨hv.1,hv.2.1,hv.2.2.2.1,hv.2.2.1,hv.2.2.2.2⟩
 have last:∀ x4:List Px × Nat × Bool × Ux,MeJ u v x4.1 x4.2.1 x4.2.2.2->x4.2.1 < x4.1.length->(((x4.2.1:Int) - 1).toNat=x4.2.1 - 1)/\x4.2.2.2.sz+(x4.1.getD (x4.2.1 - 1) dfP).sz+(x4.1.getD x4.2.1 dfP).sz <= 9900:=fun x4 h4 hlt=>by
  have i1:=h4.hi1
  have m1:=a1Q (h4.hb _ (a1k (d:=dfP) hlt)).1
  have m2:=a1Q (h4.hb _ (a1k (d:=dfP) (show x4.2.1 - 1 < x4.1.length by omega))).1
  have sw:=a4r h4.hw
  exact ⟨by omega,by omega⟩
 refine ⟨by omega,fun hs=>⟨⟨hu,hv⟩,fun e1 h1=>⟨⟨(e1.1,[],0),⟨h1.1,by have:=h1.2; dsimp only; omega,(fun p hp=>by simp at hp),Nat.zero_le _,Nat.le_refl _⟩,rfl,rfl,rfl⟩,fun x2 h2=>?_⟩⟩,fun hs=>⟨⟨([u.f,u.t,v.f,v.t],[],0),⟨fun p hp=>?_,Nat.le_refl _,(fun p hp=>by simp at hp),Nat.zero_le _,Nat.le_refl _⟩,rfl,rfl,rfl⟩,fun x2 h2=>?_⟩⟩
 rotate_left
 ·simp only [List.mem_cons,List.not_mem_nil,or_false] at hp
  rcases hp with rfl | rfl | rfl | rfl
  ·exact hu.2.2.1
  ·exact hu.2.2.2.1
  ·exact hv.2.2.1
  ·exact hv.2.2.2.1
 all_goals
  have j1:=h2.hn
  have j2:=h2.hi
  have j3:=h2.hk
  refine ⟨fun hlt=>?_,fun hge=>⟨⟨⟨hu,fun p hp=>(h2.hb p hp).1⟩,by omega⟩,fun e3 h3=>?_⟩⟩
  ·have hx:=h2.hl _ (a1k (d:=dfP) hlt)
   have zx:=a1Q hx
   refine ⟨hlt,⟨a3j hx,by omega⟩,fun _=>hlt,fun _=>⟨a3j hx,by omega⟩,fun hon=>⟨hlt,by simp only [List.length_cons,List.length_nil]; omega,by unfold inR; omega,(x2.1,x2.2.1 ++ [x2.1.getD x2.2.2 dfP],x2.2.2+1),⟨h2.hl,h2.hn,fun p hp=>?_,hlt,by simp only [List.length_append,List.length_cons,List.length_nil]; omega⟩,by dsimp only; omega,rfl,rfl,by simp⟩,fun _=>⟨by unfold inR; omega,(x2.1,x2.2.1,x2.2.2+1),⟨h2.hl,h2.hn,h2.hb,hlt,by dsimp only; omega⟩,by dsimp only; omega,rfl,rfl,by simp⟩⟩
   rcases List.mem_append.1 hp with hp | hp
   ·exact h2.hb p hp
   ·rw [List.mem_singleton.1 hp]
    exact ⟨hx,hon⟩
  ·have hb3:∀ p ∈ e3,okP p/\a1h u p=true/\a1h v p=true:=fun p hp=>h2.hb p (h3.1.2 p hp)
   have hn3:e3.length <= 4:=by have:=h3.2; omega
   refine ⟨fun _=>by omega,fun _=>by omega,fun _=>⟨⟨(e3,1,false,a0s v),⟨hb3,hn3,Nat.le_refl _,Nat.le_add_left ..,rv⟩,⟨rfl,rfl,rfl⟩,by repeat' (first | exact rfl | apply And.intro)⟩,fun x4 h4=>?_⟩,fun _=>⟨⟨(e3,1,false,v),⟨hb3,hn3,Nat.le_refl _,Nat.le_add_left ..,hv⟩,⟨rfl,rfl,rfl⟩,by repeat' (first | exact rfl | apply And.intro)⟩,fun x4 h4=>?_⟩⟩
   all_goals
    refine ⟨fun hc=>?_,fun _=>⟨(x4.1,x4.2.2.1),⟨h4.hb,h4.hn⟩,rfl,rfl⟩⟩
    obtain ⟨q1,q2⟩:=last x4 h4 hc.2
    have i1:=h4.hi1
    have i3:=h4.hn
    have hlt:=hc.2
    rw [q1]
    refine ⟨fun _=>by unfold inR; omega,fun _=>⟨by omega,by omega⟩,fun _=>hlt,fun _=>q2,by unfold inR; omega,(x4.1,x4.2.1+1,(bif x4.2.2.1 then true else decide (a0Y x4.2.2.2 (x4.1.getD (x4.2.1 - 1) dfP) (x4.1.getD x4.2.1 dfP) < 0)),x4.2.2.2),⟨h4.hb,h4.hn,by dsimp only; omega,by dsimp only; omega,h4.hw⟩,by dsimp only; omega,⟨rfl,rfl,by simp⟩,by repeat' (first | exact rfl | apply And.intro)⟩
def aQ3:Ctr:=⟨119,spE (rU.c (rU.c r0)) (List Px × Bool) (fun (u,v,_)=>okU u/\okU v) (fun (u,v,_) a=>(∀ p ∈ a.1,okP p/\a1h u p=true/\a1h v p=true)/\a.1.length <= 4) (fun _ a=>.t [.c (.rd .P (false) (a.1)),.c (.v (.bool (a.2)))])⟩
theorem aNx:CtrOK Tryz.prog aQ3:=eOK a2s aRI Tryz.func119 fun x hp=>aGM x.1 x.2.1 hp
def nl2 (s:Sc) (c:Ctr):Ctr:=⟨c.f,fun | [a,.c (.v (.slice none 0 0))]=>c.sp [a,.c (.rd s false [])] | xs=>c.sp xs⟩
theorem aY9 {P:Program} {s:Sc} {c:Ctr} (hc:CtrOK P c):CtrOK P (nl2 s c):=by
 have key:∀ (bs:Bs) (w:World) (a:AK) (vs:List Value),relKs bs w [a,.c (.v (.slice none 0 0))] vs->relKs bs w [a,.c (.rd s false [])] vs:=fun bs w a vs h=>by
  match vs,h with
  | [u,v],⟨h1,h2,_⟩ =>
    obtain ⟨rfl,_⟩:=h2
    exact ⟨h1,aOA ..,trivial⟩
 refine ⟨hc.ent,fun bs w xs vs pre r hr hA hG h hp=>?_,fun bs w xs vs α pre φ r hr hA hG h hp=>?_,fun T hT bs w xs vs α pre φ r hr hA hG h hp=>?_⟩
 ·unfold nl2 at h
  dsimp only at h
  split at h
  ·exact hc.yes bs w _ vs pre r (key bs w _ vs hr) hA hG h hp
  ·exact hc.yes bs w xs vs pre r hr hA hG h hp
 ·unfold nl2 at h
  dsimp only at h
  split at h
  ·exact hc.ex bs w _ vs α pre φ r (key bs w _ vs hr) hA hG h hp
  ·exact hc.ex bs w xs vs α pre φ r hr hA hG h hp
 ·unfold nl2 at h
  dsimp only at h
  split at h
  ·exact hc.own T hT bs w _ vs α pre φ r (key bs w _ vs hr) hA hG h hp
  ·exact hc.own T hT bs w xs vs α pre φ r hr hA hG h hp
def WT4:List Ctr:=WT3 ++ [nl2 .P aLL,aQ3]
theorem aZZ:∀ c ∈ WT4,CtrOK Tryz.prog c:=a0O aRI (a03 (aY9 aJp) (a03 aNx (a2L)))
end Vc
end Go.Proofs.YtbohkigffejhoaaGreat
