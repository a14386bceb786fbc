import Derived.Test.YtbohkigffejhoaaGreatR22
import Derived.Test.YtbohkigffejhoaaGreatR18
open List (length_append length_cons length_nil mem_append mem_cons mem_singleton not_mem_nil)
open Nat (le_refl le_trans zero_le)
open Rat (le_of_lt)
open Go.Proofs.Tryz (f107 f196 f310 func196 prog)
namespace Go.Proofs.YtbohkigffejhoaaGreat
open Go.RowKit
namespace Vc
attribute [local irreducible] owes a1q
structure NxI (l:List Ux) (i:Nat) (next:Int):Prop where
 h1:-1 <= next
 h2:next < (l.length:Int)
 h3:0 <= next->a0x (l.getD next.toNat dfU).f (l.getD i dfU).t=true
structure RsI (l:List Ux) (i next:Nat) (rest:List Ux) (j:Nat):Prop where
 hi:i < l.length
 hx:next < l.length
 ne:i ≠ next
 hj:j <= l.length
 hm:∀ v ∈ rest,v ∈ l
 hn:rest.length+(if i < j then 1 else 0)+(if next < j then 1 else 0)=j
 hq:a0x (l.getD next dfU).f (l.getD i dfU).t=true
 hs:a0j (l.getD i dfU) (l.getD next dfU)=true
def a3b (n:Nat):Ctr:=⟨50,fun | [.c (.rd .U _ l)]=>.ex (List Ux) ((∀ v ∈ l,MeU v)/\l.length < n) (fun a=>(∀ v ∈ a,MeU v)/\a.length <= l.length) (fun a=>.k (.c (.rd .U false a))) | _=>.no⟩
def a5D (p_ q_:Ux):=((p_.t.a=q_.t.a)/\((p_.t.b=q_.t.b)/\((p_.t.c=q_.t.c)/\((p_.t.d=q_.t.d)/\((p_.t.e=q_.t.e)/\True)))))
def aPN (p_ q_:Ux):=(((Value.bool p_.arc=(.bool q_.arc))/\(((!p_.arc)=(!q_.arc))/\((p_.l.la=q_.l.la)/\(((!p_.arc)=(!q_.arc))/\((p_.l.lb=q_.l.lb)/\(((!p_.arc)=(!q_.arc))/\((p_.l.lc=q_.l.lc)/\((p_.arc=q_.arc)/\((p_.k.kx=q_.k.kx)/\((p_.arc=q_.arc)/\((p_.k.ky=q_.k.ky)/\((p_.arc=q_.arc)/\((p_.k.kq=q_.k.kq)/\((Value.bool p_.cw=(.bool q_.cw))/\((p_.f.a=q_.f.a)/\((p_.f.b=q_.f.b)/\((p_.f.c=q_.f.c)/\((p_.f.d=q_.f.d)/\((p_.f.e=q_.f.e)/\(a5D p_ q_))))))))))))))))))))/\True)
def aFv (p_:Ux):=((((!p_.arc)=(!p_.arc))/\(((!p_.arc)=(!p_.arc))/\((!p_.arc)=(!p_.arc))))/\(((p_.arc=p_.arc)/\((p_.arc=p_.arc)/\(p_.arc=p_.arc)))/\(a0o/\a0o)))
def aFt (y2:Nat × Nat × Int × Nat) (l:List Ux) (x1:Nat):=((y2.1 < l.length/\(y2.1:Int)=((x1:Nat):Int))/\y2.2.1 <= 2*y2.2.2.2/\y2.2.2.2 <= l.length/\NxI l y2.1 y2.2.2.1)
def aFs (x2:Nat × Nat × Int × Nat):=(bif (((x2.2.1:Nat):Int) == (2:Int)) then (decide (x2.2.2.1 >= (0:Int))) else false)
def aFu (x2:Nat × Nat × Int × Nat) (l:List Ux):=(bif (aFs x2) then (a0j (l.getD (((x2.1:Nat):Int).toNat) dfU) (l.getD x2.2.2.1.toNat dfU)) else false)
def aFr (x2:Nat × Nat × Int × Nat) (y2:Nat × Nat × Int × Nat):=((Value.int .i64 (((x2.2.2.2:Nat):Int)+(1:Int))=(.int .i64 ((y2.2.2.2:Nat):Int)))/\True)
def a6l (x2:Nat × Nat × Int × Nat):=(((x2.2.2.2:Nat):Int).toNat)
def aFq (x2:Nat × Nat × Int × Nat) (y2:Nat × Nat × Int × Nat):=(Value.int .i64 ((x2.1:Nat):Int)=(.int .i64 ((y2.1:Nat):Int)))
def a6D (x2:Nat × Nat × Int × Nat):=(((x2.2.1:Nat):Int)+(1:Int))
def aAa (x2:Nat × Nat × Int × Nat):=(inR .i64 (((x2.2.2.2:Nat):Int)+(1:Int)))
def aC6 (x2:Nat × Nat × Int × Nat) (l:List Ux):=(0 <= ((x2.2.2.2:Nat):Int)/\((x2.2.2.2:Nat):Int) < (l.length:Int))
def aIf (x3:Nat × Nat × List Ux × Nat):=(bif (((x3.2.2.2:Nat):Int) != ((x3.1:Nat):Int)) then (((x3.2.2.2:Nat):Int) != ((x3.2.1:Nat):Int)) else false)
def a99 (l:List Ux) (x3:Nat × Nat × List Ux × Nat):=([a2Y (l.getD x3.1 dfU) (l.getD x3.2.1 dfU)]:List Ux)
set_option maxHeartbeats 4000000 in
theorem aBl (n:Nat) (l:List Ux) (hp:(∀ v ∈ l,MeU v)/\l.length < n+1) (hs:n <= 1000000):a1q LTL (WP1 ++ [a3b n]) [.inv 2 (Nat) (fun ξ=>⟨[.k (.c (.rd .U (false) (l))),.u,.u,.k (.c (.v (.int .i64 (((ξ:Nat):Int))))),.u,.u,.u,.u,.u,.u,.u,.u,.u,.u,.u,.u,.u,.u,.u,.u,.u,.u,.u,.u,.u,.u,.u,.u,.u,.u,.u,.u,.u,.u,.u,.u,.u,.u,.u,.u,.u,.u,.u,.u,.u,.u,.u,.u,.u,.u,.u,.u,.u,.u,.u,.u,.u,.u,.u,.u,.u,.u,.u,.u,.u,.u,.u,.u,.u,.u,.u,.u,.u,.u,.u,.u,.u,.u,.u,.u,.u,.u,.u,.u,.u,.u,.u,.u,.u,.u,.u,.u,.u,.u,.u,.u,.u,.u,.u,.u,.u,.u,.u,.u,.u,.u,.u,.u,.u,.u,.u,.u,.u,.u],[]⟩) (fun _ ξ=>ξ <= l.length) (fun ξ=>l.length - ξ),.inv 7 (Nat × Nat × Int × Nat) (fun ξ=>⟨[.k (.c (.rd .U (false) (l))),.u,.u,.k (.c (.v (.int .i64 (((ξ.1:Nat):Int))))),.k (.c (.bx 0 0)),.k (.c (.v (.int .i64 (((ξ.2.1:Nat):Int))))),.k (.c (.v (.int .i64 (ξ.2.2.1)))),.k (.c (.v (.int .i64 (((ξ.2.2.2:Nat):Int))))),.u,.u,.u,.u,.u,.u,.u,.u,.u,.u,.u,.u,.u,.u,.u,.u,.u,.u,.u,.u,.u,.u,.u,.u,.u,.u,.u,.u,.u,.u,.u,.u,.u,.u,.u,.u,.u,.u,.u,.u,.u,.u,.u,.u,.u,.u,.u,.u,.u,.u,.u,.u,.u,.u,.u,.u,.u,.u,.u,.u,.u,.u,.u,.u,.u,.u,.u,.u,.u,.u,.u,.u,.u,.u,.u,.u,.u,.u,.u,.u,.u,.u,.u,.u,.u,.u,.u,.u,.u,.u,.u,.u,.u,.u,.u,.u,.u,.u,.u,.u,.u,.u,.u,.u,.u,.u],[⟨50,(eP (l.getD ξ.1 dfU).t)⟩]⟩) (fun σ ξ=>(ξ.1 < l.length/\(ξ.1:Int)=(tmI σ 3))/\ξ.2.1 <= 2*ξ.2.2.2/\ξ.2.2.2 <= l.length/\NxI l ξ.1 ξ.2.2.1) (fun ξ=>l.length - ξ.2.2.2),.inv 18 (Nat × Nat × List Ux × Nat) (fun ξ=>⟨[.k (.c (.rd .U (false) (l))),.u,.u,.k (.c (.v (.int .i64 (((ξ.1:Nat):Int))))),.u,.u,.k (.c (.v (.int .i64 (((ξ.2.1:Nat):Int))))),.u,.k (.c (.bx 1 0)),.k (.c (.ow 0 52 .U (ξ.2.2.1))),.k (.c (.v (.int .i64 (((ξ.2.2.2:Nat):Int))))),.u,.u,.u,.u,.u,.u,.u,.u,.u,.u,.u,.u,.u,.u,.u,.u,.u,.u,.u,.u,.u,.u,.u,.u,.u,.u,.u,.u,.u,.u,.u,.u,.u,.u,.u,.u,.u,.u,.u,.u,.u,.u,.u,.u,.u,.u,.u,.u,.u,.u,.u,.u,.u,.u,.u,.u,.u,.u,.u,.u,.u,.u,.u,.u,.u,.u,.u,.u,.u,.u,.u,.u,.u,.u,.u,.u,.u,.u,.u,.u,.u,.u,.u,.u,.u,.u,.u,.u,.u,.u,.u,.u,.u,.u,.u,.u,.u,.u,.u,.u,.u,.u,.u],[⟨50,(eP (l.getD ξ.1 dfU).t)⟩,⟨52,(eU (a2Y (l.getD ξ.1 dfU) (l.getD ξ.2.1 dfU)))⟩]⟩) (fun _ ξ=>RsI l ξ.1 ξ.2.1 ξ.2.2.1 ξ.2.2.2) (fun ξ=>l.length - ξ.2.2.2)] Tryz.f50 (bd Tryz.f50) [.c (.rd .U false l)] (fun a:List Ux=>(∀ v ∈ a,MeU v)/\a.length <= l.length) (fun a=>.k (.c (.rd .U false a))):=by
 refine a1u (show ((∃ x1:Nat,((x1 <= l.length)/\(((l=l)/\((Value.int .i64 (0:Int)=(.int .i64 ((x1:Nat):Int)))/\True))/\True)))/\(∀ x1:Nat,((x1 <= l.length)->(((decide (((x1:Nat):Int) < (l.length:Int)))=true->((0 <= ((x1:Nat):Int)/\((x1:Nat):Int) < (l.length:Int))/\((∃ x2:Nat × Nat × Int × Nat,(((x2.1 < l.length/\(x2.1:Int)=((x1:Nat):Int))/\x2.2.1 <= 2*x2.2.2.2/\x2.2.2.2 <= l.length/\NxI l x2.1 x2.2.2.1)/\(((l=l)/\((Value.int .i64 ((x1:Nat):Int)=(.int .i64 ((x2.1:Nat):Int)))/\(True/\((Value.int .i64 (0:Int)=(.int .i64 ((x2.2.1:Nat):Int)))/\((Value.int .i64 (-1:Int)=(.int .i64 x2.2.2.1))/\((Value.int .i64 (0:Int)=(.int .i64 ((x2.2.2.2:Nat):Int)))/\True))))))/\((a5D (l.getD (((x1:Nat):Int).toNat) dfU) (l.getD x2.1 dfU))/\True))))/\(∀ x2:Nat × Nat × Int × Nat,((x2.1 < l.length/\(x2.1:Int)=((x1:Nat):Int))/\x2.2.1 <= 2*x2.2.2.2/\x2.2.2.2 <= l.length/\NxI l x2.1 x2.2.2.1->(((decide (((x2.2.2.2:Nat):Int) < (l.length:Int)))=true->((aC6 x2 l)/\((a0o/\a0o/\((l.getD (a6l x2) dfU).f).sz+((l.getD x2.1 dfU).t).sz <= 14500)/\(((a0x ((l.getD (a6l x2) dfU).f) ((l.getD x2.1 dfU).t))=true->((inR .i64 (a6D x2))/\((aC6 x2 l)/\((a0o/\a0o/\((l.getD (a6l x2) dfU).t).sz+((l.getD x2.1 dfU).t).sz <= 14500)/\(((a0x ((l.getD (a6l x2) dfU).t) ((l.getD x2.1 dfU).t))=true->((inR .i64 ((a6D x2)+(1:Int)))/\((aAa x2)/\(∃ y2:Nat × Nat × Int × Nat,((aFt y2 l x1)/\((l.length - y2.2.2.2 < l.length - x2.2.2.2)/\(((l=l)/\((aFq x2 y2)/\(True/\((Value.int .i64 ((a6D x2)+(1:Int))=(.int .i64 ((y2.2.1:Nat):Int)))/\((Value.int .i64 ((x2.2.2.2:Nat):Int)=(.int .i64 y2.2.2.1))/\(aFr x2 y2))))))/\((a5D (l.getD x2.1 dfU) (l.getD y2.1 dfU))/\True))))))))/\((a0x ((l.getD (a6l x2) dfU).t) ((l.getD x2.1 dfU).t))=false->((aAa x2)/\(∃ y2:Nat × Nat × Int × Nat,((aFt y2 l x1)/\((l.length - y2.2.2.2 < l.length - x2.2.2.2)/\(((l=l)/\((aFq x2 y2)/\(True/\((Value.int .i64 (a6D x2)=(.int .i64 ((y2.2.1:Nat):Int)))/\((Value.int .i64 ((x2.2.2.2:Nat):Int)=(.int .i64 y2.2.2.1))/\(aFr x2 y2))))))/\((a5D (l.getD x2.1 dfU) (l.getD y2.1 dfU))/\True))))))))))))/\((a0x ((l.getD (a6l x2) dfU).f) ((l.getD x2.1 dfU).t))=false->((aC6 x2 l)/\((a0o/\a0o/\((l.getD (a6l x2) dfU).t).sz+((l.getD x2.1 dfU).t).sz <= 14500)/\(((a0x ((l.getD (a6l x2) dfU).t) ((l.getD x2.1 dfU).t))=true->((inR .i64 (a6D x2))/\((aAa x2)/\(∃ y2:Nat × Nat × Int × Nat,((aFt y2 l x1)/\((l.length - y2.2.2.2 < l.length - x2.2.2.2)/\(((l=l)/\((aFq x2 y2)/\(True/\((Value.int .i64 (a6D x2)=(.int .i64 ((y2.2.1:Nat):Int)))/\((Value.int .i64 x2.2.2.1=(.int .i64 y2.2.2.1))/\(aFr x2 y2))))))/\((a5D (l.getD x2.1 dfU) (l.getD y2.1 dfU))/\True))))))))/\((a0x ((l.getD (a6l x2) dfU).t) ((l.getD x2.1 dfU).t))=false->((aAa x2)/\(∃ y2:Nat × Nat × Int × Nat,((aFt y2 l x1)/\((l.length - y2.2.2.2 < l.length - x2.2.2.2)/\(((l=l)/\((aFq x2 y2)/\(True/\((Value.int .i64 ((x2.2.1:Nat):Int)=(.int .i64 ((y2.2.1:Nat):Int)))/\((Value.int .i64 x2.2.2.1=(.int .i64 y2.2.2.1))/\(aFr x2 y2))))))/\((a5D (l.getD x2.1 dfU) (l.getD y2.1 dfU))/\True)))))))))))))))/\((decide (((x2.2.2.2:Nat):Int) < (l.length:Int)))=false->((((aFs x2) == true)=true->(0 <= ((x2.1:Nat):Int)/\((x2.1:Nat):Int) < (l.length:Int)))/\((((aFs x2) == true)=true->(0 <= x2.2.2.1/\x2.2.2.1 < (l.length:Int)))/\((((aFs x2) == true)=true->((aFv (l.getD (((x2.1:Nat):Int).toNat) dfU))/\(aFv (l.getD x2.2.2.1.toNat dfU))/\(l.getD (((x2.1:Nat):Int).toNat) dfU).sz+(l.getD x2.2.2.1.toNat dfU).sz <= 100000))/\((((aFu x2 l) == true)=true->(0 <= ((x2.1:Nat):Int)/\((x2.1:Nat):Int) < (l.length:Int)))/\((((aFu x2 l) == true)=true->(0 <= x2.2.2.1/\x2.2.2.1 < (l.length:Int)))/\(((bif (aFu x2 l) then (((l.getD (((x2.1:Nat):Int).toNat) dfU).cw) == ((l.getD x2.2.2.1.toNat dfU).cw)) else false)=true->((0 <= ((x2.1:Nat):Int)/\((x2.1:Nat):Int) < (l.length:Int))/\((0 <= x2.2.2.1/\x2.2.2.1 < (l.length:Int))/\((∃ x3:Nat × Nat × List Ux × Nat,((RsI l x3.1 x3.2.1 x3.2.2.1 x3.2.2.2)/\(((l=l)/\((Value.int .i64 ((x2.1:Nat):Int)=(.int .i64 ((x3.1:Nat):Int)))/\((Value.int .i64 x2.2.2.1=(.int .i64 ((x3.2.1:Nat):Int)))/\(True/\((x3.2.2.1=[])/\((Value.int .i64 (0:Int)=(.int .i64 ((x3.2.2.2:Nat):Int)))/\True))))))/\((a5D (l.getD x2.1 dfU) (l.getD x3.1 dfU))/\(((Value.bool ((l.getD (((x2.1:Nat):Int).toNat) dfU).arc)=(.bool ((a2Y (l.getD x3.1 dfU) (l.getD x3.2.1 dfU)).arc)))/\(((!(l.getD (((x2.1:Nat):Int).toNat) dfU).arc)=(!(a2Y (l.getD x3.1 dfU) (l.getD x3.2.1 dfU)).arc))/\(((l.getD (((x2.1:Nat):Int).toNat) dfU).l.la=(a2Y (l.getD x3.1 dfU) (l.getD x3.2.1 dfU)).l.la)/\(((!(l.getD (((x2.1:Nat):Int).toNat) dfU).arc)=(!(a2Y (l.getD x3.1 dfU) (l.getD x3.2.1 dfU)).arc))/\(((l.getD (((x2.1:Nat):Int).toNat) dfU).l.lb=(a2Y (l.getD x3.1 dfU) (l.getD x3.2.1 dfU)).l.lb)/\(((!(l.getD (((x2.1:Nat):Int).toNat) dfU).arc)=(!(a2Y (l.getD x3.1 dfU) (l.getD x3.2.1 dfU)).arc))/\(((l.getD (((x2.1:Nat):Int).toNat) dfU).l.lc=(a2Y (l.getD x3.1 dfU) (l.getD x3.2.1 dfU)).l.lc)/\((((l.getD (((x2.1:Nat):Int).toNat) dfU).arc)=((a2Y (l.getD x3.1 dfU) (l.getD x3.2.1 dfU)).arc))/\(((l.getD (((x2.1:Nat):Int).toNat) dfU).k.kx=(a2Y (l.getD x3.1 dfU) (l.getD x3.2.1 dfU)).k.kx)/\((((l.getD (((x2.1:Nat):Int).toNat) dfU).arc)=((a2Y (l.getD x3.1 dfU) (l.getD x3.2.1 dfU)).arc))/\(((l.getD (((x2.1:Nat):Int).toNat) dfU).k.ky=(a2Y (l.getD x3.1 dfU) (l.getD x3.2.1 dfU)).k.ky)/\((((l.getD (((x2.1:Nat):Int).toNat) dfU).arc)=((a2Y (l.getD x3.1 dfU) (l.getD x3.2.1 dfU)).arc))/\(((l.getD (((x2.1:Nat):Int).toNat) dfU).k.kq=(a2Y (l.getD x3.1 dfU) (l.getD x3.2.1 dfU)).k.kq)/\((Value.bool ((l.getD (((x2.1:Nat):Int).toNat) dfU).cw)=(.bool ((a2Y (l.getD x3.1 dfU) (l.getD x3.2.1 dfU)).cw)))/\(((l.getD (((x2.1:Nat):Int).toNat) dfU).f.a=(a2Y (l.getD x3.1 dfU) (l.getD x3.2.1 dfU)).f.a)/\(((l.getD (((x2.1:Nat):Int).toNat) dfU).f.b=(a2Y (l.getD x3.1 dfU) (l.getD x3.2.1 dfU)).f.b)/\(((l.getD (((x2.1:Nat):Int).toNat) dfU).f.c=(a2Y (l.getD x3.1 dfU) (l.getD x3.2.1 dfU)).f.c)/\(((l.getD (((x2.1:Nat):Int).toNat) dfU).f.d=(a2Y (l.getD x3.1 dfU) (l.getD x3.2.1 dfU)).f.d)/\(((l.getD (((x2.1:Nat):Int).toNat) dfU).f.e=(a2Y (l.getD x3.1 dfU) (l.getD x3.2.1 dfU)).f.e)/\(a5D (l.getD x2.2.2.1.toNat dfU) (a2Y (l.getD x3.1 dfU) (l.getD x3.2.1 dfU))))))))))))))))))))))/\True)))))/\(∀ x3:Nat × Nat × List Ux × Nat,((RsI l x3.1 x3.2.1 x3.2.2.1 x3.2.2.2)->(((decide (((x3.2.2.2:Nat):Int) < (l.length:Int)))=true->(((aIf x3)=true->((0 <= ((x3.2.2.2:Nat):Int)/\((x3.2.2.2:Nat):Int) < (l.length:Int))/\(((aFv (l.getD (((x3.2.2.2:Nat):Int).toNat) dfU))/\True)/\((x3.2.2.1.length+([(l).getD (((x3.2.2.2:Nat):Int).toNat) dfU]:List Ux).length <= 10000000)/\((inR .i64 (((x3.2.2.2:Nat):Int)+(1:Int)))/\(∃ y3:Nat × Nat × List Ux × Nat,((RsI l y3.1 y3.2.1 y3.2.2.1 y3.2.2.2)/\((l.length - y3.2.2.2 < l.length - x3.2.2.2)/\(((l=l)/\((Value.int .i64 ((x3.1:Nat):Int)=(.int .i64 ((y3.1:Nat):Int)))/\((Value.int .i64 ((x3.2.1:Nat):Int)=(.int .i64 ((y3.2.1:Nat):Int)))/\(True/\(((x3.2.2.1 ++ ([(l).getD (((x3.2.2.2:Nat):Int).toNat) dfU]:List Ux))=y3.2.2.1)/\((Value.int .i64 (((x3.2.2.2:Nat):Int)+(1:Int))=(.int .i64 ((y3.2.2.2:Nat):Int)))/\True))))))/\((a5D (l.getD x3.1 dfU) (l.getD y3.1 dfU))/\(aPN (a2Y (l.getD x3.1 dfU) (l.getD x3.2.1 dfU)) (a2Y (l.getD y3.1 dfU) (l.getD y3.2.1 dfU)))))))))))))/\((aIf x3)=false->((inR .i64 (((x3.2.2.2:Nat):Int)+(1:Int)))/\(∃ y3:Nat × Nat × List Ux × Nat,((RsI l y3.1 y3.2.1 y3.2.2.1 y3.2.2.2)/\((l.length - y3.2.2.2 < l.length - x3.2.2.2)/\(((l=l)/\((Value.int .i64 ((x3.1:Nat):Int)=(.int .i64 ((y3.1:Nat):Int)))/\((Value.int .i64 ((x3.2.1:Nat):Int)=(.int .i64 ((y3.2.1:Nat):Int)))/\(True/\((x3.2.2.1=y3.2.2.1)/\((Value.int .i64 (((x3.2.2.2:Nat):Int)+(1:Int))=(.int .i64 ((y3.2.2.2:Nat):Int)))/\True))))))/\((a5D (l.getD x3.1 dfU) (l.getD y3.1 dfU))/\(aPN (a2Y (l.getD x3.1 dfU) (l.getD x3.2.1 dfU)) (a2Y (l.getD y3.1 dfU) (l.getD y3.2.1 dfU))))))))))))/\((decide (((x3.2.2.2:Nat):Int) < (l.length:Int)))=false->(((aFv (a2Y (l.getD x3.1 dfU) (l.getD x3.2.1 dfU)))/\True)/\((x3.2.2.1.length+(a99 l x3).length <= 10000000)/\(((∀ v ∈ (x3.2.2.1 ++ (a99 l x3)),MeU v)/\(x3.2.2.1 ++ (a99 l x3)).length < n)/\(∀ e4:List Ux,((∀ v ∈ e4,MeU v)/\e4.length <= (x3.2.2.1 ++ (a99 l x3)).length->(∃ a:List Ux,(((∀ v ∈ a,MeU v)/\a.length <= l.length)/\(e4=a))))))))))))))))/\((bif (aFu x2 l) then (((l.getD (((x2.1:Nat):Int).toNat) dfU).cw) == ((l.getD x2.2.2.1.toNat dfU).cw)) else false)=false->((inR .i64 (((x2.1:Nat):Int)+(1:Int)))/\(∃ y1:Nat,((y1 <= l.length)/\((l.length - y1 < l.length - x1)/\(((l=l)/\((Value.int .i64 (((x2.1:Nat):Int)+(1:Int))=(.int .i64 ((y1:Nat):Int)))/\True))/\True)))))))))))))))))))/\((decide (((x1:Nat):Int) < (l.length:Int)))=false->(∃ a:List Ux,(((∀ v ∈ a,MeU v)/\a.length <= l.length)/\(l=a))))))))=_ by kernel_rfl) ?_
 delta a99 aIf aC6 aAa a6D aFq a6l aFr aFu aFs aFt aFv a0o aPN a5D;simp only [true_and,and_true,aBG,aNB,Int.toNat_natCast,Value.int.injEq,Value.bool.injEq,decide_eq_true_eq,decide_eq_false_iff_not,beq_true,Int.natCast_nonneg,Int.ofNat_lt,Int.ofNat_inj,ge_iff_le];obtain ⟨hM,hlen⟩:=hp;refine ⟨⟨0,zero_le _,rfl⟩,fun x1 h1=>⟨fun hlt=>⟨hlt,⟨(x1,0,-1,0),⟨⟨hlt,rfl⟩,zero_le _,zero_le _,⟨Int.le_refl _,by dsimp only; omega,fun h=>(by dsimp only at h; omega)⟩⟩,⟨rfl,rfl,rfl,rfl⟩,(by repeat' (first | exact rfl | apply And.intro))⟩,fun x2 h2=>?_⟩,fun _=>⟨l,⟨hM,le_refl _⟩,rfl⟩⟩⟩;obtain ⟨⟨a1,a2⟩,a3,a4,hN⟩:=h2;have g1:=hM _ (a0W (d:=dfU) a1);have z1:=a1B g1.1.2.2.2.1;have n1:=hN.h1;have n2:=hN.h2;refine ⟨fun hk=>?_,fun hk=>⟨fun _=>a1,fun h=>⟨h.2,hN.h2⟩,fun h=>?_,fun _=>a1,fun h=>⟨h.1.2,hN.h2⟩,fun h=>?_,fun _=>⟨by unfold inR; omega,x2.1+1,a1,by omega,by simp⟩⟩⟩
 ·have gk:=hM _ (a0W (d:=dfU) hk);have z2:=a1B gk.1.2.2.1;have z3:=a1B gk.1.2.2.2.1
  have N1:a0x (l.getD x2.2.2.2 dfU).f (l.getD x2.1 dfU).t=true->NxI l x2.1 (x2.2.2.2:Int):=fun h=>⟨by omega,by omega,fun _=>by rw [Int.toNat_natCast]; exact h⟩
  refine ⟨hk,by omega,fun hf=>⟨by unfold inR; omega,hk,by omega,fun ht=>⟨by unfold inR; omega,by unfold inR; omega,(x2.1,x2.2.1+1+1,(x2.2.2.2:Int),x2.2.2.2+1),⟨⟨a1,a2⟩,by dsimp only; omega,hk,N1 hf⟩,by dsimp only; omega,⟨rfl,rfl,rfl,rfl⟩,(by repeat' (first | exact rfl | apply And.intro))⟩,fun ht=>⟨by unfold inR; omega,(x2.1,x2.2.1+1,(x2.2.2.2:Int),x2.2.2.2+1),⟨⟨a1,a2⟩,by dsimp only; omega,hk,N1 hf⟩,by dsimp only; omega,⟨rfl,rfl,rfl,rfl⟩,(by repeat' (first | exact rfl | apply And.intro))⟩⟩,fun hf=>⟨hk,by omega,fun ht=>⟨by unfold inR; omega,by unfold inR; omega,(x2.1,x2.2.1+1,x2.2.2.1,x2.2.2.2+1),⟨⟨a1,a2⟩,by dsimp only; omega,hk,hN⟩,by dsimp only; omega,⟨rfl,rfl,rfl,rfl⟩,(by repeat' (first | exact rfl | apply And.intro))⟩,fun ht=>⟨by unfold inR; omega,(x2.1,x2.2.1,x2.2.2.1,x2.2.2.2+1),⟨⟨a1,a2⟩,by dsimp only; omega,hk,hN⟩,by dsimp only; omega,⟨rfl,rfl,rfl,rfl⟩,(by repeat' (first | exact rfl | apply And.intro))⟩⟩⟩
 ·have s1:=a3S g1.1;have h0:=h.2;have s2:=a3S (hM _ (a0W (d:=dfU) (show x2.2.2.1.toNat < l.length by omega))).1;omega
 ·have h0:=h.1.1.2;have hs:=h.1.2;have hq:=hN.h3 h0
  have hnx:x2.2.2.1.toNat < l.length:=by omega
  have ne:x2.1 ≠ x2.2.2.1.toNat:=fun e=>by
   have q:=Lm.b4F g1;rw [<- e] at hq;rw [hq] at q;cases q
  refine ⟨a1,⟨h0,hN.h2⟩,⟨(x2.1,x2.2.2.1.toNat,[],0),⟨a1,hnx,ne,zero_le _,fun v hv=>(by simp at hv),by simp,hq,hs⟩,⟨rfl,by dsimp only; omega,rfl,rfl⟩,(by repeat' (first | exact rfl | apply And.intro))⟩,fun x3 h3=>?_⟩;have c1:=h3.hn;have c2:=h3.hj;refine ⟨fun hj=>⟨fun hne=>⟨hj,by simp only [length_cons,length_nil]; (repeat' split at c1) <;> omega,by unfold inR; omega,(x3.1,x3.2.1,x3.2.2.1 ++ [l.getD x3.2.2.2 dfU],x3.2.2.2+1),⟨h3.hi,h3.hx,h3.ne,hj,fun v hv=>?_,?_,h3.hq,h3.hs⟩,by dsimp only; omega,⟨rfl,rfl,rfl,rfl⟩,(by repeat' (first | exact rfl | apply And.intro))⟩,fun hne=>⟨by unfold inR; omega,(x3.1,x3.2.1,x3.2.2.1,x3.2.2.2+1),⟨h3.hi,h3.hx,h3.ne,hj,h3.hm,?_,h3.hq,h3.hs⟩,by dsimp only; omega,⟨rfl,rfl,rfl,rfl⟩,(by repeat' (first | exact rfl | apply And.intro))⟩⟩,fun hj=>?_⟩
  ·rcases mem_append.1 hv with hv | hv
   ·exact h3.hm v hv
   ·rw [mem_singleton.1 hv]; exact a0W hj
  ·have d1:¬ (x3.2.2.2:Int)=(x3.1:Int):=by simpa using hne.1
   have d2:¬ (x3.2.2.2:Int)=(x3.2.1:Int):=by simpa using hne.2
   simp only [length_append,length_cons,length_nil]
   (repeat' split at c1) <;> (repeat' split) <;> omega
  ·have d1:¬ (x3.2.2.2:Int)=(x3.1:Int)->(x3.2.2.2:Int)=(x3.2.1:Int):=by simpa using hne
   have d2:=h3.ne;dsimp only
   (repeat' split at c1) <;> (repeat' split) <;> omega
  ·have k1:=h3.hi;have k2:=h3.hx
   have ln:x3.2.2.1.length+2=l.length:=by
    (repeat' split at c1) <;> omega
   refine ⟨by simp only [length_cons,length_nil]; omega,⟨fun v hv=>?_,by simp only [length_append,length_cons,length_nil]; omega⟩,fun e he=>⟨e,⟨he.1,by have:=he.2; simp only [length_append,length_cons,length_nil] at this; omega⟩,rfl⟩⟩;rcases mem_append.1 hv with hv | hv
   ·exact hM v (h3.hm v hv)
   ·rw [mem_singleton.1 hv];exact Lm.aYS (hM _ (a0W k1)) (hM _ (a0W k2)) h3.hs h3.hq
theorem a7w:∀ n:Nat,n <= 1000000->CtrOK prog (a3b n)
 | 0,_=>.ofEx (show a1G prog 50=true by kernel_rfl) (fun bs w xs vs α pre φ r hr hA hG h hp=>by
   simp only [a3b] at h;split at h
   ·cases h;exact absurd hp.2 (Nat.not_lt_zero _)
   ·cases h) (fun xs pre r=>by simp only [a3b]; split <;> (intro h; cases h))
 | n+1,hn=>.ofEx (show a1G prog 50=true by kernel_rfl) (fun bs w xs vs α pre φ r hr hA hG h hp=>by
   have tab:∀ c ∈ WP1 ++ [a3b n],CtrOK prog c:=a0M aCt (by
    intro c hc;simp only [mem_cons,not_mem_nil,or_false] at hc;subst hc
    exact a7w n (by omega))
   simp only [a3b] at h;split at h
   ·rename_i fl l;cases h;exact a18 mixed a3d tab Tryz.func50 (by kernel_rfl) (aKn a3k vs hr) hA hG rfl (fun _=>rfl) (aBl n l hp (by omega))
   ·cases h) (fun xs pre r=>by simp only [a3b]; split <;> (intro h; cases h))
def WF0:List Ctr:=WP1 ++ [aGg,aVU,a3b 1000000,aGe,aRr]
theorem aHk:∀ c ∈ WF0,CtrOK prog c:=a0M aCt (a0Y aGf (a0Y aRs (a0Y (a7w _ (le_refl _)) (a0Y aGd (a0Y aNd (a3e))))))
def aFp (a:List Ux × Int):=((∀ v ∈ a.1,MeU v)/\a.1.length <= 400)
def aPM:=(∃ a:List Ux × Int,((aFp a)/\((a.1=[])/\((Value.int .i64 (3:Int)=(.int .i64 a.2))/\True))))
set_option maxHeartbeats 4000000 in
theorem aGk (l:List Ux) (hp:(∀ u ∈ l,InU u/\u.sz <= 1500)/\(∀ v,a4x l v->MeU v)):a1q LTL WF0 [.inv 4 (Nat) (fun ξ=>⟨[.k (.c (.rd .U (false) (l))),.u,.k (.c (.bx 0 0)),.u,.k (.c (.v (.int .i64 (((ξ:Nat):Int))))),.u,.u,.u,.u,.u,.u,.u,.u,.u,.u,.u,.u,.u,.u,.u,.u,.u,.u,.u,.u,.u,.u,.u,.u,.u,.u,.u,.u,.u,.u,.u,.u],[⟨27,[.v (.slice none 0 0)]⟩]⟩) (fun _ ξ=>ξ <= l.length) (fun ξ=>l.length - ξ)] Tryz.f18 (bd Tryz.f18) [.c (.rd .U (false) (l))] (fun a:List Ux × Int=>(∀ v ∈ a.1,MeU v)/\a.1.length <= 400) (fun a=>.t [.g [.rd .U (false) (a.1)],.c (.v (.int .i64 (a.2)))]):=by
 refine a1u (show (((decide ((l.length:Int) > (400:Int)))=true->aPM)/\((decide ((l.length:Int) > (400:Int)))=false->((∃ x1:Nat,((x1 <= l.length)/\(((l=l)/\(True/\((Value.int .i64 (0:Int)=(.int .i64 ((x1:Nat):Int)))/\True)))/\(((Value.slice none 0 0=(.slice none 0 0))/\True)/\True))))/\(∀ x1:Nat,((x1 <= l.length)->(((decide (((x1:Nat):Int) < (l.length:Int)))=true->((0 <= ((x1:Nat):Int)/\((x1:Nat):Int) < (l.length:Int))/\((((((!(l.getD (((x1:Nat):Int).toNat) dfU).arc)=(!((l.getD (((x1:Nat):Int).toNat) dfU).arc)))/\(((!(l.getD (((x1:Nat):Int).toNat) dfU).arc)=(!((l.getD (((x1:Nat):Int).toNat) dfU).arc)))/\((!(l.getD (((x1:Nat):Int).toNat) dfU).arc)=(!((l.getD (((x1:Nat):Int).toNat) dfU).arc)))))/\(((((l.getD (((x1:Nat):Int).toNat) dfU).arc)=((l.getD (((x1:Nat):Int).toNat) dfU).arc))/\((((l.getD (((x1:Nat):Int).toNat) dfU).arc)=((l.getD (((x1:Nat):Int).toNat) dfU).arc))/\(((l.getD (((x1:Nat):Int).toNat) dfU).arc)=((l.getD (((x1:Nat):Int).toNat) dfU).arc))))/\((True/\(True/\(True/\(True/\True))))/\(True/\(True/\(True/\(True/\True)))))))/\0 <= (l.getD (((x1:Nat):Int).toNat) dfU).f.e/\0 <= (l.getD (((x1:Nat):Int).toNat) dfU).t.e/\(l.getD (((x1:Nat):Int).toNat) dfU).sz <= 1500)/\(((!(a3F (l.getD (((x1:Nat):Int).toNat) dfU)))=true->(∃ a:List Ux × Int,((aFp a)/\((a.1=[])/\((Value.int .i64 (1:Int)=(.int .i64 a.2))/\True)))))/\((!(a3F (l.getD (((x1:Nat):Int).toNat) dfU)))=false->((inR .i64 (((x1:Nat):Int)+(1:Int)))/\(∃ y1:Nat,((y1 <= l.length)/\((l.length - y1 < l.length - x1)/\(((l=l)/\(True/\((Value.int .i64 (((x1:Nat):Int)+(1:Int))=(.int .i64 ((y1:Nat):Int)))/\True)))/\(((Value.slice none 0 0=(.slice none 0 0))/\True)/\True)))))))))))/\((decide (((x1:Nat):Int) < (l.length:Int)))=false->(((∀ v ∈ l,okU v)/\l.length <= 1000000)/\(∀ e2:Bool,((b0j e2)->((e2=true->(∃ a:List Ux × Int,((aFp a)/\((a.1=[])/\((Value.int .i64 (8:Int)=(.int .i64 a.2))/\True)))))/\(e2=false->(((∀ u ∈ l,InU u)/\l.length <= 400)/\(∀ e3:List Ux,((∀ v ∈ e3,a4x l v)/\e3.length <= 700000->(((∀ v ∈ e3,okU v)/\e3.length <= 1000000)/\(∀ e4:List Ux,((∀ v ∈ e4,v ∈ e3)/\e4.length <= e3.length->(((∀ v ∈ e4,MeU v)/\e4.length < 1000000)/\(∀ e5:List Ux,((∀ v ∈ e5,MeU v)/\e5.length <= e4.length->(((∀ v ∈ e5,MeU v)/\e5.length <= 1000000)/\(∀ e6:List Ux,((∀ v ∈ e6,MeU v)/\e6.length=e5.length->(((decide ((e6.length:Int) > (400:Int)))=true->aPM)/\((decide ((e6.length:Int) > (400:Int)))=false->(∃ a:List Ux × Int,((aFp a)/\(((false=false)/\((e6=a.1)/\True))/\((Value.int .i64 (0:Int)=(.int .i64 a.2))/\True))))))))))))))))))))))))))))))=_ by kernel_rfl) ?_;delta aPM aFp;simp only [true_and,and_true,Int.toNat_natCast,Value.int.injEq,decide_eq_true_eq,decide_eq_false_iff_not,Int.natCast_nonneg,Int.ofNat_lt,gt_iff_lt];obtain ⟨hl,hm⟩:=hp
 have nil:∀ e:Int,∃ a:List Ux × Int,((∀ v ∈ a.1,MeU v)/\a.1.length <= 400)/\a.1=[]/\e=a.2:=fun e=>⟨([],e),⟨fun v hv=>(by simp at hv),zero_le _⟩,rfl,rfl⟩
 refine ⟨fun _=>nil _,fun h4=>⟨⟨0,zero_le _,rfl⟩,fun x1 h1=>⟨fun hlt=>?_,fun _=>⟨⟨fun v hv=>(hl v hv).1.1,by omega⟩,fun e2 _=>⟨fun _=>nil _,fun _=>⟨⟨fun u hu=>(hl u hu).1,by omega⟩,fun e3 h3=>⟨⟨fun v hv=>(hm v (h3.1 v hv)).1,by have:=h3.2; omega⟩,fun e4 h5=>⟨⟨fun v hv=>hm v (h3.1 v (h5.1 v hv)),by have:=h3.2; have:=h5.2; omega⟩,fun e5 h6=>⟨⟨h6.1,by have:=h3.2; have:=h5.2; have:=h6.2; omega⟩,fun e6 h7=>⟨fun _=>nil _,fun h8=>⟨(e6,0),⟨h7.1,by dsimp only; omega⟩,rfl,rfl⟩⟩⟩⟩⟩⟩⟩⟩⟩⟩⟩;have hx:=hl _ (a0W (d:=dfU) hlt);exact ⟨hlt,⟨a2N hx.1.1.2.2.1,a2N hx.1.1.2.2.2.1,hx.2⟩,fun _=>nil _,fun _=>⟨by unfold inR; omega,x1+1,hlt,by omega,by simp⟩⟩
def aRt:Ctr:=⟨18,spE (lU.c r0) (List Ux × Int) (fun (l,_)=>(∀ u ∈ l,InU u/\u.sz <= 1500)/\(∀ v,a4x l v->MeU v)) (fun _ a=>(∀ v ∈ a.1,MeU v)/\a.1.length <= 400) (fun _ a=>.t [.g [.rd .U (false) (a.1)],.c (.v (.int .i64 (a.2)))])⟩
theorem aNf:CtrOK prog aRt:=eOK a3d aHk Tryz.func18 fun x hp=>aGk x.1 hp
end Vc
end Go.Proofs.YtbohkigffejhoaaGreat
namespace Go.Proofs.YtbohkigffejhoaaGreat
open Vc
namespace Lm
def b5q (u:Ux):Prop:=okU u/\((u.arc=false/\a2c u.l u.f=0/\a2c u.l u.t=0) \/ (u.arc=true/\u.cw=false/\((u.f=(a0e u.k).1/\u.t=(a0e u.k).2) \/ (u.f=(a0e u.k).2/\u.t=(a0e u.k).1))))
theorem a5Z {p:Px} (hp:0 <= p.e):a0g p p=0:=by
 have:=wkC.anti p p hp hp;omega
theorem a8i {p:Px} (hp:0 <= p.e):a0x p p=true:=by
 unfold a0x;rw [a5Z hp];rfl
theorem b0O {u:Ux} (h:b5q u):InU u:=by
 refine ⟨h.1,fun ha=>?_⟩;obtain ⟨h0,h | ⟨_,_,h⟩⟩:=h
 ·rw [ha] at h; cases h.1
 have ef:=a2N h0.2.2.1;have et:=a2N h0.2.2.2.1
 have a:∀ p,p=u.f \/ p=u.t->a1s u p=false:=fun p hp=>by
  unfold a1s;rcases hp with rfl | rfl
  ·rw [a8i ef]; cases a02 u u.f <;> rfl
  ·rw [a8i et]; cases a02 u u.t <;> cases a0x u.f u.t <;> rfl
 rcases h with ⟨h1,h2⟩ | ⟨h1,h2⟩
 ·exact ⟨a _ (.inl h1.symm),a _ (.inr h2.symm)⟩
 ·exact ⟨a _ (.inr h2.symm),a _ (.inl h1.symm)⟩
theorem aO9 {u:Ux} {p:Px} (h:a02 u p=true):a0T u p=true/\a0P u u.f p <= 0/\a0P u p u.t <= 0:=by
 unfold a02 at h;rw [aBG,aBG] at h;exact ⟨h.1.1,by simpa using h.1.2,by simpa using h.2⟩
theorem a9p {p q:Px} (h:a0H (a0Q p) (a0Q q) < 0):a0g p q < 0:=by
 unfold a0g;rw [if_pos (by rw [bne_iff_ne]; omega)];exact h
theorem aE0 {u:Ux} (ha:u.arc=false) (h:¬ a0g u.f u.t > 0) (p q:Px):a0P u p q=a0g p q:=by
 unfold a0P;rw [ha];simp [h]
theorem a5w {u:Ux} (ha:u.arc=true) (hw:u.cw=false) (p q:Px):a0P u p q=a0L u.k u.f p q:=by
 unfold a0P;rw [ha,hw];simp
theorem aCT {u:Ux} (ha:u.arc=true) (hw:u.cw=true) (p q:Px):a0P u p q=a0L (a0k u).k (a0k u).f (a0r p) (a0r q):=by
 unfold a0P;rw [ha,hw];simp
theorem b1s {w:Ux} (hf:0 <= w.f.e) (ht:0 <= w.t.e):¬ a0g (nrm w).f (nrm w).t > 0:=by
 unfold nrm;split
 ·rename_i h
  have h:a0g w.f w.t > 0:=by simpa using h
  have:=wkC.anti w.f w.t hf ht;show ¬ a0g w.t w.f > 0;omega
 ·rename_i h;simpa using h
theorem b0X {u:Ux} {x y:Px} (hx:0 <= x.e) (hy:0 <= y.e) (ha:u.arc=false) (h:¬ a0g u.f u.t > 0) (r:Ro u x y):a0g x y < 0:=by
 unfold Ro at r;rw [aE0 ha h,aE0 ha h] at r
 rcases r with r | ⟨r,e⟩
 ·exact r
 ·have:=wkC.anti x y hx hy;unfold a0x at e;rw [beq_eq_false_iff_ne] at e;omega
theorem aVg {p v:Ux} {c:List Px} (hp:okU p) (ha:p.arc=false) (h:¬ a0g p.f p.t > 0) (sf:a2c p.l p.f=0) (st:a2c p.l p.t=0) (hc:∀ q ∈ c,okP q/\a02 p q=true) (hv:aEq p c v):MeU v:=by
 have ov:=aLn hp (fun q hq=>(hc q hq).1) hv;obtain ⟨x,y,rfl,r,mx,my⟩:=hv;have ex:0 <= x.e:=a2N ov.2.2.1;have ey:0 <= y.e:=a2N ov.2.2.2.1
 have sup:∀ q,q ∈ [p.f,p.t] ++ c->a2c p.l q=0:=fun q hq=>by
  simp only [mem_append,mem_cons,not_mem_nil,or_false] at hq;rcases hq with (rfl | rfl) | hq
  ·exact sf
  ·exact st
  ·have:=(aO9 (hc q hq).2).1;unfold a0T at this;rw [ha] at this;simpa using this
 refine ⟨ov,fun _ hb=>?_,b0X ex ey ha h r⟩;have hb:p.l.lb=0:=hb;exact aOi ex ey (sup _ mx) (sup _ my) hb ((hp.2.2.2.2.2 ha).resolve_right fun k=>k hb)
theorem aK3 {k:Kx} {p:Px} {s:Rat} (hk:0 <= k.kq) (hp:0 <= p.e) (hs:s=1 \/ s=-1) (h:IsE s k p):OnC k p:=by
 refine ((aBe hk).add ((h.1.mul (((b2I hp).add (a3D (-k.kx))).add ((a3D s).mul (a9I hk)))).add (h.2.mul ((b6y hp).add (a3D (-k.ky)))))).congr fun n=>?_;rcases hs with rfl | rfl <;> grind
theorem aF2 {k:Kx} {p q:Px} (hp:0 <= p.e) (hq:0 <= q.e) (a:OnC k p) (b:OnC k q) (hx:Zer fun n=>vX p n - vX q n) (hu:(0 <= a0J (a2m p) k.ky/\0 <= a0J (a2m q) k.ky) \/ (a0J (a2m p) k.ky <= 0/\a0J (a2m q) k.ky <= 0)):a0g p q=0:=by
 refine (a3H hp hq).2 ⟨hx,?_⟩;have:=aEQ (a7W hp k.ky) (a7W hq k.ky) hu (((a.add b.neg).add (hx.mul (((b2I hp).add (b2I hq)).add (a3D (-(2*k.kx))))).neg).congr fun n=>by grind)
 exact this.congr fun n=>by grind
theorem aLl {k:Kx} {L R:Px} (hk:0 < k.kq) (eL:0 <= L.e) (eR:0 <= R.e) (hL:IsE (-1) k L) (hR:IsE 1 k R):a0L k L L R=-1/\a0L k R R L=-1:=by
 have uL:=(a3s hk eL).2 hL;have uR:=(a3s hk eR).1 hR;have l0:=aEb k eL eL (a5Z eL);have r0:=aEb k eR eR (a5Z eR);have lr:=aLY uL uR;have rl:=aEa uR uL;rw [a4n,a4n,l0,r0,lr,rl];exact ⟨rfl,rfl⟩
theorem b1N {k:Kx} {L R:Px} (hk:0 < k.kq) (eL:0 <= L.e) (eR:0 <= R.e) (hL:IsE (-1) k L) (hR:IsE 1 k R):a0H (a0Q L) (a0Q R) < 0:=by
 have r:=aKh hk;exact (a2f eL eR).lt.2 (((r.add r).add_zer (hR.1.add hL.1.neg)).congr fun n=>by grind)
theorem aXw {u w:Ux} (hu:okU u) (ha:u.arc=true) (hw:u.cw=false) (h:(IsE (-1) u.k u.f/\IsE 1 u.k u.t) \/ (IsE 1 u.k u.f/\IsE (-1) u.k u.t)) (hc:aEq u [] w):w=u:=by
 have ef:=a2N hu.2.2.1;have et:=a2N hu.2.2.2.1;have hk:=hu.2.2.2.2.1 ha;obtain ⟨x,y,rfl,r,mx,my⟩:=hc
 have self:∀ p:Px,0 <= p.e->¬ Ro u p p:=fun p hp r=>by
  have o:=aXO (u:=u) ef hp hp (a5Z hp);have e:=a8i hp
  rcases r with r | ⟨_,r⟩
  ·omega
  ·rw [e] at r; cases r
 have ft:a0P u u.f u.t < 0:=by
  rw [a5w ha hw]
  rcases h with ⟨a,b⟩ | ⟨a,b⟩
  ·rw [(aLl hk ef et a b).1]; decide
  ·rw [(aLl hk et ef b a).2]; decide
 simp only [List.append_nil,mem_cons,not_mem_nil,or_false] at mx my;rcases mx with rfl | rfl
 ·rcases my with rfl | rfl
  ·exact (self _ ef r).elim
  ·cases u; rfl
 ·rcases my with rfl | rfl
  ·exfalso
   rcases r with r | ⟨r,_⟩
   ·rw [a5w ha hw] at r;exact aIB u.k ef r
   ·exact r ft
  ·exact (self _ et r).elim
theorem aVb {u:Ux} {p:Px} (ha:u.arc=true) (hp:0 <= p.e) (h:a0T u p=true):OnC u.k p:=by
 unfold a0T at h;rw [ha] at h;exact aUg hp (by simpa using h)
theorem aTJ {u v:Ux} {c:List Px} (hu:okU u) (ha:u.arc=true) (hw:u.cw=false) (a:IsE (-1) u.k u.f) (b:IsE 1 u.k u.t) (hc:∀ q ∈ c,okP q/\a02 u q=true) (hv:aEq u c v):MeU v:=by
 have ov:=aLn hu (fun q hq=>(hc q hq).1) hv;obtain ⟨x,y,rfl,r,mx,my⟩:=hv;have ex:0 <= x.e:=a2N ov.2.2.1;have ey:0 <= y.e:=a2N ov.2.2.2.1;have ef:=a2N hu.2.2.1;have et:=a2N hu.2.2.2.1;have hk:=hu.2.2.2.2.1 ha
 have all:∀ q,q ∈ [u.f,u.t] ++ c->OnC u.k q/\a0L u.k u.f q u.t <= 0:=fun q hq=>by
  simp only [mem_append,mem_cons,not_mem_nil,or_false] at hq;rcases hq with (rfl | rfl) | hq
  ·exact ⟨aK3 (le_of_lt hk) ef (.inr rfl) a,by rw [(aLl hk ef et a b).1]; decide⟩
  ·exact ⟨aK3 (le_of_lt hk) et (.inl rfl) b,by rw [aDq u.k u.f ef et et (a5Z et)]; decide⟩
  ·have h:=aO9 (hc q hq).2;exact ⟨aVb ha (a2N (hc q hq).1) h.1,by have:=h.2.2; rwa [a5w ha hw] at this⟩
 obtain ⟨cx,bx⟩:=all x mx;obtain ⟨cy,by_⟩:=all y my
 have lt:a0L u.k u.f x y < 0:=by
  unfold Ro at r;rw [a5w ha hw,a5w ha hw] at r
  rcases r with r | ⟨r,e⟩
  ·exact r
  ·have an:=(b5H u.k u.f).anti x y ex ey
   have ne:a0L u.k u.f x y ≠ 0:=fun e0=>by
    obtain ⟨h1,h2⟩:=aHc (aFZ e0);have:=aF2 ex ey cx cy ((a2f ex ey).zer.1 h2) (aBK h1);have h3:=wkC.anti x y ex ey;unfold a0x at e;rw [beq_eq_false_iff_ne] at e;omega
   omega
 refine ⟨ov,fun hn=>?_,a9p (aTL hk ef et ex ey a b cx cy bx by_ lt)⟩;have hn:u.arc=false:=hn;rw [ha] at hn; cases hn
theorem aTI {u v:Ux} {c:List Px} (hu:okU u) (ha:u.arc=true) (hw:u.cw=true) (a:IsE (-1) u.k u.f) (b:IsE 1 u.k u.t) (hc:∀ q ∈ c,okP q/\a02 u q=true) (hv:aEq u c v):MeU v:=by
 have ov:=aLn hu (fun q hq=>(hc q hq).1) hv;obtain ⟨x,y,rfl,r,mx,my⟩:=hv;have ex:0 <= x.e:=a2N ov.2.2.1;have ey:0 <= y.e:=a2N ov.2.2.2.1;have ef:=a2N hu.2.2.1;have et:=a2N hu.2.2.2.1;have hk:=hu.2.2.2.2.1 ha;have hk':0 < (a0k u).k.kq:=hk
 have fl:∀ q:Px,OnC u.k q->OnC (a0k u).k (a0r q):=fun q h=>h.congr fun n=>by
  simp only [vX,vY,a0r,a0k]; grind
 have fa:IsE 1 (a0k u).k (a0r u.f):=⟨a.1.neg.congr fun n=>(by simp only [vX,a0r,a0k]; grind),a.2⟩
 have fb:IsE (-1) (a0k u).k (a0r u.t):=⟨b.1.neg.congr fun n=>(by simp only [vX,a0r,a0k]; grind),b.2⟩
 have ef':0 <= (a0r u.f).e:=ef;have et':0 <= (a0r u.t).e:=et;have mf:(a0k u).f=a0r u.f:=rfl
 have all:∀ q,q ∈ [u.f,u.t] ++ c->OnC (a0k u).k (a0r q)/\a0L (a0k u).k (a0r u.f) (a0r q) (a0r u.t) <= 0:=fun q hq=>by
  simp only [mem_append,mem_cons,not_mem_nil,or_false] at hq;rcases hq with (rfl | rfl) | hq
  ·exact ⟨fl _ (aK3 (le_of_lt hk) ef (.inr rfl) a),by rw [(aLl hk' et' ef' fb fa).2]; decide⟩
  ·exact ⟨fl _ (aK3 (le_of_lt hk) et (.inl rfl) b),by rw [aDq _ _ ef' et' et' (a5Z et')]; decide⟩
  ·have h:=aO9 (hc q hq).2;exact ⟨fl _ (aVb ha (a2N (hc q hq).1) h.1),by have:=h.2.2; rwa [aCT ha hw,mf] at this⟩
 obtain ⟨cx,bx⟩:=all x mx;obtain ⟨cy,by_⟩:=all y my;have ex':0 <= (a0r x).e:=ex;have ey':0 <= (a0r y).e:=ey
 have lt:a0L (a0k u).k (a0r u.f) (a0r x) (a0r y) < 0:=by
  unfold Ro at r;rw [aCT ha hw,aCT ha hw,mf] at r
  rcases r with r | ⟨r,e⟩
  ·exact r
  ·have an:=(b5H (a0k u).k (a0r u.f)).anti (a0r x) (a0r y) ex' ey'
   have ne:a0L (a0k u).k (a0r u.f) (a0r x) (a0r y) ≠ 0:=fun e0=>by
    obtain ⟨h1,h2⟩:=aHc (aFZ e0);have c0:=aF2 ex' ey' cx cy ((a2f ex' ey').zer.1 h2) (aBK h1);obtain ⟨z1,z2⟩:=(a3H ex' ey').1 c0;have:a0g x y=0:=(a3H ex ey).2 ⟨z1.neg.congr fun n=>(by simp only [vX,a0r]; grind),z2⟩;have h3:=wkC.anti x y ex ey;unfold a0x at e;rw [beq_eq_false_iff_ne] at e;omega
   omega
 have up:=aS9 hk' et' ef' ex' ey' fb fa cx cy bx by_ lt;refine ⟨ov,fun hn=>?_,a9p ((a2f ex ey).lt.2 (((a2f ex' ey').pos.1 up).congr fun n=>by simp only [vX,a0r]; grind))⟩;have hn:u.arc=false:=hn;rw [ha] at hn; cases hn
theorem aTB {l:List Ux} {v:Ux} (hl:∀ u ∈ l,b5q u) (h:a4x l v):MeU v:=by
 obtain ⟨u,hu,p,⟨w,hw,rfl⟩,c,hc,hv⟩:=h;obtain ⟨h0,⟨ha,sf,st⟩ | ⟨ha,hcw,hE⟩⟩:=hl u hu
 ·obtain ⟨_,rfl⟩ | ⟨hb,_⟩:=hw
  ·have n:=b1s (a2N h0.2.2.1) (a2N h0.2.2.2.1);have o:=aXJ h0 ⟨_,.inl ⟨ha,rfl⟩,rfl⟩
   unfold nrm at *
   split at hv
   ·rename_i g;rw [if_pos g] at n o hc;exact aVg o ha n st sf hc hv
   ·rename_i g;rw [if_neg g] at n o hc;exact aVg o ha n sf st hc hv
  ·rw [ha] at hb; cases hb
 ·have hk:=h0.2.2.2.2.1 ha;obtain ⟨i1,i2⟩:=b2k (le_of_lt hk)
  have hE':(IsE (-1) u.k u.f/\IsE 1 u.k u.t) \/ (IsE 1 u.k u.f/\IsE (-1) u.k u.t):=by
   rcases hE with ⟨h1,h2⟩ | ⟨h1,h2⟩
   ·rw [h1,h2]; exact .inl ⟨i1,i2⟩
   ·rw [h1,h2]; exact .inr ⟨i2,i1⟩
  have ef:=a2N h0.2.2.1;have et:=a2N h0.2.2.2.1;obtain ⟨hb,_⟩ | ⟨_,hb⟩:=hw
  ·rw [ha] at hb; cases hb
  ·obtain rfl:=aXw h0 ha hcw hE' hb;have o:=aXJ h0 ⟨_,.inr ⟨ha,hb⟩,rfl⟩
   rcases hE' with ⟨a,b⟩ | ⟨a,b⟩
   ·have lt:=a9p (b1N hk ef et a b)
    have g:¬ decide (a0g w.f w.t > 0)=true:=by simp; omega
    unfold nrm at *
    rw [if_neg g] at *
    exact aTJ h0 ha hcw a b hc hv
   ·have lt:=a9p (b1N hk et ef b a);have an:=wkC.anti w.f w.t ef et
    have g:decide (a0g w.f w.t > 0)=true:=by simp; omega
    unfold nrm at *
    rw [if_pos g] at *
    refine aTI o ha ?_ b a hc hv;show (bif w.arc then (!w.cw) else false)=true;rw [ha,hcw]; rfl
end Lm
end Go.Proofs.YtbohkigffejhoaaGreat
namespace Go.Proofs.YtbohkigffejhoaaGreat
namespace Vc
def thr (v w:Vx):Lx:=⟨v.vy - w.vy,w.vx - v.vx,(v.vy - w.vy)*v.vx+(w.vx - v.vx)*v.vy⟩
def aA6 (v w:Vx):Ux:=⟨false,thr v w,⟨0,0,0⟩,false,a1Q v,a1Q w⟩
def okV (v:Vx):Prop:=szR v.vx <= 3/\szR v.vy <= 3
def aWs (l:List Vx) (u:Ux):Prop:=∃ v ∈ l,∃ w ∈ l,u=aA6 v w/\(u.l.la ≠ 0 \/ u.l.lb ≠ 0)
structure PoI (l:List Vx) (out:List Ux) (i:Nat):Prop where
 ho:∀ u ∈ out,aWs l u
 hn:out.length <= i
 hi:i <= l.length
def a6K (u:Ux):Prop:=Lm.b5q u/\u.sz <= 1500
theorem aOz (l:Lx) (x:Vx) (h:l.la*x.vx+l.lb*x.vy - l.lc=0):a2c l (a1Q x)=0:=by
 have q:isQ a1K=true:=by decide +kernel
 have z:=Lm.zr
 have e:a1n (a2h (a0z l.la x.vx) (a0z l.lb x.vy)) l.lc+a2h (a0z l.la a1K) (a0z l.lb a1K)*sqr a1K=0:=by
  simp only [a1n,a2h,a0z,a1K];grind
 unfold a2c a1U a1Q a05;simp only [q,if_true,e];decide +kernel
theorem b0L:szR (0:Rat) <= 2:=a2V (n:=0) (by decide)
theorem aTi {v w:Vx} (hv:okV v) (hw:okV w) (h:(thr v w).la ≠ 0 \/ (thr v w).lb ≠ 0):a6K (aA6 v w):=by
 obtain ⟨v1,v2⟩:=hv;obtain ⟨w1,w2⟩:=hw
 have a1:szR (v.vy - w.vy) <= 7:=by have:=a2z v.vy w.vy; omega
 have a2:szR (w.vx - v.vx) <= 7:=by have:=a2z w.vx v.vx; omega
 have a3:szR ((v.vy - w.vy)*v.vx+(w.vx - v.vx)*v.vy) <= 27:=by
  have h1:=a0C (v.vy - w.vy) v.vx;have h2:=a0C (w.vx - v.vx) v.vy;have h3:=a1C ((v.vy - w.vy)*v.vx) ((w.vx - v.vx)*v.vy);omega
 have z:=b0L;have pv:=aR6 (v:=v) (by omega) (by omega);have pw:=aR6 (v:=w) (by omega) (by omega);refine ⟨⟨⟨⟨a1,a2,a3⟩,⟨z,z,Nat.le_succ_of_le z⟩,pv,pw,fun e=>(by cases e),fun _=>h⟩,.inl ⟨rfl,aOz _ _ ?_,aOz _ _ ?_⟩⟩,?_⟩
 ·simp only [aA6,thr]; grind
 ·simp only [aA6,thr]; grind
 ·have e:=aCF (aA6 v w);have e1:(aA6 v w).l.sz <= 41:=aBX ⟨a1,a2,a3⟩;have e2:(aA6 v w).k.sz <= 7:=a7b ⟨z,z,Nat.le_succ_of_le z⟩;have e3:(aA6 v w).f.sz <= 12:=le_trans (aUy v) (by omega);have e4:(aA6 v w).t.sz <= 12:=le_trans (aUy w) (by omega);omega
theorem aEP {l:List Vx} (hl:∀ v ∈ l,okV v) {u:Ux} (h:aWs l u):a6K u:=by
 obtain ⟨v,hv,w,hw,rfl,h⟩:=h;exact aTi (hl v hv) (hl w hw) h
theorem aQz {k:Kx} (hk:okK k) (h0:0 < k.kq):∀ u ∈ a6z k,a6K u:=by
 have z:=b0L;have one:szR (((1:Int)):Rat) <= 2:=a2V (by decide);have zero:szR (((0:Int)):Rat) <= 2:=a2V (by decide);have mone:szR (a1Z (((1:Int)):Rat)) <= 2:=le_trans (a1Y _) one;obtain ⟨k1,k2,k3⟩:=hk;have e1:okP (a0e k).1:=aBR (le_of_lt h0) (by omega) (by omega) (by omega) (by omega) (by omega);have e2:okP (a0e k).2:=aBR (le_of_lt h0) (by omega) (by omega) (by omega) (by omega) (by omega)
 have l0:okL ⟨0,0,0⟩:=⟨le_trans z (by decide),le_trans z (by decide),le_trans z (by decide)⟩
 have s1:=a1B e1;have s2:=a1B e2;have s3:=a7b ⟨k1,k2,k3⟩;intro u hu;simp only [a6z,mem_cons,not_mem_nil,or_false] at hu
 have s4:(Lx.mk 0 0 0).sz <= 6:=by have:=aHL ⟨0,0,0⟩; simp only at this; omega
 rcases hu with rfl | rfl
 ·refine ⟨⟨⟨l0,⟨k1,k2,k3⟩,e1,e2,fun _=>h0,fun e=>(by cases e)⟩,.inr ⟨rfl,rfl,.inl ⟨rfl,rfl⟩⟩⟩,?_⟩;have:=aCF ⟨true,⟨0,0,0⟩,k,false,(a0e k).1,(a0e k).2⟩;simp only at this;omega
 ·refine ⟨⟨⟨l0,⟨k1,k2,k3⟩,e2,e1,fun _=>h0,fun e=>(by cases e)⟩,.inr ⟨rfl,rfl,.inr ⟨rfl,rfl⟩⟩⟩,?_⟩;have:=aCF ⟨true,⟨0,0,0⟩,k,false,(a0e k).2,(a0e k).1⟩;simp only at this;omega
end Vc
end Go.Proofs.YtbohkigffejhoaaGreat
namespace Go.Proofs.YtbohkigffejhoaaGreat
open Go.RowKit
set_option maxHeartbeats 4000000
namespace Vc
attribute [local irreducible] owes a1q
theorem aTC {L:List Lay} {C:List Ctr} {I:List LI} {fn:Func} {body:Code} {xs:List AK} {T:Nat} {φ:List Ux->Prop} {p:Prop} (h:p=aO6 L C I fn body xs T φ) (hp:p):aO6 L C I fn body xs T φ:=h ▸ hp
def aPL (v:Vx) (w:Vx):=(bif ((Rt.sg (a1n v.vy w.vy)) == (0:Int)) then ((Rt.sg (a1n w.vx v.vx)) == (0:Int)) else false)
def aPK (a:Lx × Bool) (v:Vx) (w:Vx):=((a.2=true->a.1=thr v w/\(a.1.la ≠ 0 \/ a.1.lb ≠ 0))/\(a.2=false->(thr v w).la=0/\(thr v w).lb=0))
theorem aAI (v:Vx) (w:Vx) (hp:(szR v.vx <= 3/\szR v.vy <= 3)/\szR w.vx <= 3/\szR w.vy <= 3):a1q LTL WF0 [] f310 (bd f310) [.g (eV v),.g (eV w)] (fun a:Lx × Bool=>(a.2=true->a.1=thr v w/\(a.1.la ≠ 0 \/ a.1.lb ≠ 0))/\(a.2=false->(thr v w).la=0/\(thr v w).lb=0)) (fun a=>.t [.g [.Z (a.2) (a.1.la),.Z (a.2) (a.1.lb),.Z (a.2) (a.1.lc)],.c (.v (.int .i64 ((if a.2=true then (0:Int) else 6))))]):=by
 refine a1u (show ((True/\True/\szR v.vy+szR w.vy <= 500000)/\((True/\True/\szR w.vx+szR v.vx <= 500000)/\((True/\True)/\(((((Rt.sg (a1n v.vy w.vy)) == (0:Int)) == true)=true->(True/\True))/\(((aPL v w)=true->(∃ a:Lx × Bool,((aPK a v w)/\((a0S/\((a.2=false)/\(a0S/\((a.2=false)/\(a0S/\((a.2=false)/\True))))))/\((Value.int .i64 (6:Int)=(.int .i64 (if a.2=true then (0:Int) else 6)))/\True)))))/\((aPL v w)=false->((True/\True/\szR (a1n v.vy w.vy)+szR v.vx <= 500000)/\((True/\True/\szR (a1n w.vx v.vx)+szR v.vy <= 500000)/\((True/\True/\szR (a0z (a1n v.vy w.vy) v.vx)+szR (a0z (a1n w.vx v.vx) v.vy) <= 500000)/\(∃ a:Lx × Bool,((aPK a v w)/\(((a.2=true)/\(((a1n v.vy w.vy)=a.1.la)/\((a.2=true)/\(((a1n w.vx v.vx)=a.1.lb)/\((a.2=true)/\(((a2h (a0z (a1n v.vy w.vy) v.vx) (a0z (a1n w.vx v.vx) v.vy))=a.1.lc)/\True))))))/\((Value.int .i64 (0:Int)=(.int .i64 (if a.2=true then (0:Int) else 6)))/\True)))))))))))))=_ by kernel_rfl) ?_;delta aPK aPL a0S;simp only [true_and,and_true,aBG,aNB,Value.int.injEq,beq_true,implies_true];obtain ⟨⟨v1,v2⟩,w1,w2⟩:=hp
 have a1:szR (a1n v.vy w.vy) <= 7:=by have:=a2z v.vy w.vy; unfold a1n; omega
 have a2:szR (a1n w.vx v.vx) <= 7:=by have:=a2z w.vx v.vx; unfold a1n; omega
 have m1:szR (a0z (a1n v.vy w.vy) v.vx) <= 10:=by have:=a0C (a1n v.vy w.vy) v.vx; unfold a0z; omega
 have m2:szR (a0z (a1n w.vx v.vx) v.vy) <= 10:=by have:=a0C (a1n w.vx v.vx) v.vy; unfold a0z; omega
 refine ⟨by omega,by omega,fun h=>⟨(⟨0,0,0⟩,false),⟨fun h=>(by cases h),fun _=>?_⟩,⟨rfl,rfl,rfl⟩,rfl⟩,fun h=>⟨by omega,by omega,by omega,(thr v w,true),⟨fun _=>⟨rfl,?_⟩,fun h=>(by cases h)⟩,⟨rfl,rfl,rfl,rfl,rfl,rfl⟩,rfl⟩⟩
 ·exact ⟨Rt.a3y.1 (eq_of_beq h.1),Rt.a3y.1 (eq_of_beq h.2)⟩
 ·by_cases h0:v.vy - w.vy=0
  ·right;intro h1
   have e1:(Rt.sg (a1n v.vy w.vy) == 0)=true:=by rw [show a1n v.vy w.vy=0 from h0]; rfl
   have e2:=h e1;rw [show a1n w.vx v.vx=0 from h1] at e2;cases e2
  ·exact .inl h0
def a3o:Ctr:=⟨310,fun | [.g v_,.g w_]=>(match rdV v_,rdV w_ with | some (qv,v),some (qw,w)=>.ex (Lx × Bool) (qv/\qw/\(szR v.vx <= 3/\szR v.vy <= 3)/\szR w.vx <= 3/\szR w.vy <= 3) (fun a=>(a.2=true->a.1=thr v w/\(a.1.la ≠ 0 \/ a.1.lb ≠ 0))/\(a.2=false->(thr v w).la=0/\(thr v w).lb=0)) (fun a=>.t [.g [.Z (a.2) (a.1.la),.Z (a.2) (a.1.lb),.Z (a.2) (a.1.lc)],.c (.v (.int .i64 ((if a.2=true then (0:Int) else 6))))]) | _,_=>.no) | _=>.no⟩
theorem a7D:CtrOK prog a3o:=.ofEx (by kernel_rfl) (fun bs w xs vs α pre φ r hr hA hG h hp=>by
 simp only [a3o] at h;split at h
 ·rename_i v_ w_;split at h
  ·rename_i qv v qw w ev ew;cases h;obtain ⟨kkv,kkw,hp⟩:=hp;exact a18 mixed a3d aHk Tryz.func310 (by kernel_rfl) ((a1k (a8C ev kkv) (a1k (a8C ew kkw) a3k)) vs hr) hA hG rfl (fun _=>rfl) (aAI v w hp)
  ·cases h
 ·cases h) (fun xs pre r=>by simp only [a3o]; split <;> (try split) <;> (intro h; cases h))
def aDZ:Ctr:=⟨310,fun | [.g v_,.g w_]=>(match rdV v_,rdV w_ with | some (qv,v),some (qw,w)=>.yes (qv/\qw/\((szR v.vx <= 3/\szR v.vy <= 3)/\szR w.vx <= 3/\szR w.vy <= 3)/\((thr v w).la ≠ 0 \/ (thr v w).lb ≠ 0)) (.t [.g [.R (thr v w).la,.R (thr v w).lb,.R (thr v w).lc],.c (.v (.int .i64 0))]) | _,_=>.no) | _=>.no⟩
def aDY:Ctr:=⟨310,fun | [.g v_,.g w_]=>(match rdV v_,rdV w_ with | some (qv,v),some (qw,w)=>.yes (qv/\qw/\((szR v.vx <= 3/\szR v.vy <= 3)/\szR w.vx <= 3/\szR w.vy <= 3)/\(thr v w).la=0/\(thr v w).lb=0) (.t [.g [.v (.bool false),.sl [],.v (.bool false),.sl [],.v (.bool false),.sl [],.v (.bool false),.sl [],.v (.bool false),.sl [],.v (.bool false),.sl []],.c (.v (.int .i64 6))]) | _,_=>.no) | _=>.no⟩
theorem aNq:CtrOK prog aDZ:=.of (by kernel_rfl) (fun bs W xs vs pre r hr hA hG h hp=>by
 simp only [aDZ] at h;split at h
 ·rename_i v_ w_;split at h
  ·rename_i qv v qw w ev ew;cases h;obtain ⟨kv,kw,hp,hne⟩:=hp
   have hsp:a3o.sp [.g v_,.g w_]=.ex (Lx × Bool) (qv/\qw/\(szR v.vx <= 3/\szR v.vy <= 3)/\szR w.vx <= 3/\szR w.vy <= 3) (fun a=>(a.2=true->a.1=thr v w/\(a.1.la ≠ 0 \/ a.1.lb ≠ 0))/\(a.2=false->(thr v w).la=0/\(thr v w).lb=0)) (fun a=>.t [.g [.Z (a.2) (a.1.la),.Z (a.2) (a.1.lb),.Z (a.2) (a.1.lc)],.c (.v (.int .i64 ((if a.2=true then (0:Int) else 6))))]):=by simp only [a3o,ev,ew]
   refine (a7D.ex bs W [.g v_,.g w_] vs _ _ _ _ hr hA hG hsp ⟨kv,kw,hp⟩).mono ?_;rintro e w2 ⟨u,rfl,hx,⟨L,b⟩,hf,hu⟩
   cases b with
   | false =>
     obtain ⟨z1,z2⟩:=hf.2 rfl;rcases hne with h | h
     ·exact absurd z1 h
     ·exact absurd z2 h
   | true =>
     obtain ⟨rfl,_⟩:=hf.1 rfl;obtain ⟨us,rfl,hk⟩:=hu
     match us,hk with
     | [u1,u2],⟨k1,k2,_⟩=>exact ⟨_,rfl,hx,_,rfl,a7V (by rfl) k1,k2,trivial⟩
  ·cases h
 ·cases h) (fun xs α pre φ r=>by simp only [aDZ]; split <;> (try split) <;> (intro h; cases h))
theorem aNp:CtrOK prog aDY:=.of (by kernel_rfl) (fun bs W xs vs pre r hr hA hG h hp=>by
 simp only [aDY] at h;split at h
 ·rename_i v_ w_;split at h
  ·rename_i qv v qw w ev ew;cases h;obtain ⟨kv,kw,hp,z1,z2⟩:=hp
   have hsp:a3o.sp [.g v_,.g w_]=.ex (Lx × Bool) (qv/\qw/\(szR v.vx <= 3/\szR v.vy <= 3)/\szR w.vx <= 3/\szR w.vy <= 3) (fun a=>(a.2=true->a.1=thr v w/\(a.1.la ≠ 0 \/ a.1.lb ≠ 0))/\(a.2=false->(thr v w).la=0/\(thr v w).lb=0)) (fun a=>.t [.g [.Z (a.2) (a.1.la),.Z (a.2) (a.1.lb),.Z (a.2) (a.1.lc)],.c (.v (.int .i64 ((if a.2=true then (0:Int) else 6))))]):=by simp only [a3o,ev,ew]
   refine (a7D.ex bs W [.g v_,.g w_] vs _ _ _ _ hr hA hG hsp ⟨kv,kw,hp⟩).mono ?_;rintro e w2 ⟨u,rfl,hx,⟨L,b⟩,hf,hu⟩
   cases b with
   | false =>
     obtain ⟨us,rfl,hk⟩:=hu
     match us,hk with
     | [u1,u2],⟨k1,k2,_⟩=>exact ⟨_,rfl,hx,_,rfl,a7V (by rfl) k1,k2,trivial⟩
   | true =>
     obtain ⟨rfl,h⟩:=hf.1 rfl;rcases h with h | h
     ·exact absurd z1 h
     ·exact absurd z2 h
  ·cases h
 ·cases h) (fun xs α pre φ r=>by simp only [aDY]; split <;> (try split) <;> (intro h; cases h))
def b5p:List Ctr:=WF0 ++ [aDZ]
theorem aZA:∀ c ∈ b5p,CtrOK prog c:=a0M aHk (a0Y aNq (a3e))
def b5o:List Ctr:=WF0 ++ [aDY]
theorem aZz:∀ c ∈ b5o,CtrOK prog c:=a0M aHk (a0Y aNp (a3e))
def a6k:=(Value.bool false=(.bool false))
theorem aGw (v:Vx) (w:Vx) (hp:((szR v.vx <= 3/\szR v.vy <= 3)/\szR w.vx <= 3/\szR w.vy <= 3)/\((thr v w).la ≠ 0 \/ (thr v w).lb ≠ 0)):a1q LTL b5p [] f196 (bd f196) [.g (eV v),.g (eV w)] (fun a:Ux × Bool=>a.2=true->a.1=aA6 v w/\(a.1.l.la ≠ 0 \/ a.1.l.lb ≠ 0)) (fun a=>.t [.g [.v (.bool (false)),.Z (a.2) (a.1.l.la),.Z (a.2) (a.1.l.lb),.Z (a.2) (a.1.l.lc),.Z (false) (a.1.k.kx),.Z (false) (a.1.k.ky),.Z (false) (a.1.k.kq),.v (.bool (false)),.Z (a.2) (a.1.f.a),.Z (a.2) (a.1.f.b),.Z (a.2) (a.1.f.c),.Z (a.2) (a.1.f.d),.Z (a.2) (a.1.f.e),.Z (a.2) (a.1.t.a),.Z (a.2) (a.1.t.b),.Z (a.2) (a.1.t.c),.Z (a.2) (a.1.t.d),.Z (a.2) (a.1.t.e)],.c (.v (.int .i64 ((if a.2=true then (0:Int) else 6))))]):=by
 refine a1u (show (((True/\True)/\(True/\True)/\((szR v.vx <= 3/\szR v.vy <= 3)/\szR w.vx <= 3/\szR w.vy <= 3)/\((thr v w).la ≠ 0 \/ (thr v w).lb ≠ 0))/\((((0) != (0:Int))=true->(∃ a:Ux × Bool,((a.2=true->a.1=aA6 v w/\(a.1.l.la ≠ 0 \/ a.1.l.lb ≠ 0))/\((a6k/\(a0S/\((a.2=false)/\(a0S/\((a.2=false)/\(a0S/\((a.2=false)/\(a0S/\((false=false)/\(a0S/\((false=false)/\(a0S/\((false=false)/\(a6k/\(a0S/\((a.2=false)/\(a0S/\((a.2=false)/\(a0S/\((a.2=false)/\(a0S/\((a.2=false)/\(a0S/\((a.2=false)/\(a0S/\((a.2=false)/\(a0S/\((a.2=false)/\(a0S/\((a.2=false)/\(a0S/\((a.2=false)/\(a0S/\((a.2=false)/\True))))))))))))))))))))))))))))))))))/\((Value.int .i64 (6:Int)=(.int .i64 (if a.2=true then (0:Int) else 6)))/\True)))))/\(((0) != (0:Int))=false->(((True/\True)/\True)/\(((True/\True)/\True)/\(∃ a:Ux × Bool,((a.2=true->a.1=aA6 v w/\(a.1.l.la ≠ 0 \/ a.1.l.lb ≠ 0))/\((a6k/\((a.2=true)/\(((thr v w).la=a.1.l.la)/\((a.2=true)/\(((thr v w).lb=a.1.l.lb)/\((a.2=true)/\(((thr v w).lc=a.1.l.lc)/\(a0S/\((false=false)/\(a0S/\((false=false)/\(a0S/\((false=false)/\(a6k/\((a.2=true)/\(((a1Q v).a=a.1.f.a)/\((a.2=true)/\(((a1Q v).b=a.1.f.b)/\((a.2=true)/\(((a1Q v).c=a.1.f.c)/\((a.2=true)/\(((a1Q v).d=a.1.f.d)/\((a.2=true)/\(((a1Q v).e=a.1.f.e)/\((a.2=true)/\(((a1Q w).a=a.1.t.a)/\((a.2=true)/\(((a1Q w).b=a.1.t.b)/\((a.2=true)/\(((a1Q w).c=a.1.t.c)/\((a.2=true)/\(((a1Q w).d=a.1.t.d)/\((a.2=true)/\(((a1Q w).e=a.1.t.e)/\True))))))))))))))))))))))))))))))))))/\((Value.int .i64 (0:Int)=(.int .i64 (if a.2=true then (0:Int) else 6)))/\True)))))))))=_ by kernel_rfl) ?_;delta a6k a0S;simp only [true_and,and_true,Value.int.injEq];obtain ⟨hp,hne⟩:=hp;refine ⟨⟨hp,hne⟩,fun h=>absurd h (by decide),fun _=>⟨(aA6 v w,true),fun _=>⟨rfl,hne⟩,?_,rfl⟩⟩
 repeat' first | exact rfl | apply And.intro
theorem aGv (v:Vx) (w:Vx) (hp:((szR v.vx <= 3/\szR v.vy <= 3)/\szR w.vx <= 3/\szR w.vy <= 3)/\(thr v w).la=0/\(thr v w).lb=0):a1q LTL b5o [] f196 (bd f196) [.g (eV v),.g (eV w)] (fun a:Ux × Bool=>a.2=true->a.1=aA6 v w/\(a.1.l.la ≠ 0 \/ a.1.l.lb ≠ 0)) (fun a=>.t [.g [.v (.bool (false)),.Z (a.2) (a.1.l.la),.Z (a.2) (a.1.l.lb),.Z (a.2) (a.1.l.lc),.Z (false) (a.1.k.kx),.Z (false) (a.1.k.ky),.Z (false) (a.1.k.kq),.v (.bool (false)),.Z (a.2) (a.1.f.a),.Z (a.2) (a.1.f.b),.Z (a.2) (a.1.f.c),.Z (a.2) (a.1.f.d),.Z (a.2) (a.1.f.e),.Z (a.2) (a.1.t.a),.Z (a.2) (a.1.t.b),.Z (a.2) (a.1.t.c),.Z (a.2) (a.1.t.d),.Z (a.2) (a.1.t.e)],.c (.v (.int .i64 ((if a.2=true then (0:Int) else 6))))]):=by
 refine a1u (show (((True/\True)/\(True/\True)/\((szR v.vx <= 3/\szR v.vy <= 3)/\szR w.vx <= 3/\szR w.vy <= 3)/\(thr v w).la=0/\(thr v w).lb=0)/\((((6) != (0:Int))=true->(∃ a:Ux × Bool,((a.2=true->a.1=aA6 v w/\(a.1.l.la ≠ 0 \/ a.1.l.lb ≠ 0))/\((a6k/\(a0S/\((a.2=false)/\(a0S/\((a.2=false)/\(a0S/\((a.2=false)/\(a0S/\((false=false)/\(a0S/\((false=false)/\(a0S/\((false=false)/\(a6k/\(a0S/\((a.2=false)/\(a0S/\((a.2=false)/\(a0S/\((a.2=false)/\(a0S/\((a.2=false)/\(a0S/\((a.2=false)/\(a0S/\((a.2=false)/\(a0S/\((a.2=false)/\(a0S/\((a.2=false)/\(a0S/\((a.2=false)/\(a0S/\((a.2=false)/\True))))))))))))))))))))))))))))))))))/\((Value.int .i64 (6:Int)=(.int .i64 (if a.2=true then (0:Int) else 6)))/\True)))))/\(((6) != (0:Int))=false->(((True/\True)/\True)/\(((True/\True)/\True)/\(∃ a:Ux × Bool,((a.2=true->a.1=aA6 v w/\(a.1.l.la ≠ 0 \/ a.1.l.lb ≠ 0))/\((a6k/\(a0S/\((a.2=false)/\(a0S/\((a.2=false)/\(a0S/\((a.2=false)/\(a0S/\((false=false)/\(a0S/\((false=false)/\(a0S/\((false=false)/\(a6k/\((a.2=true)/\(((a1Q v).a=a.1.f.a)/\((a.2=true)/\(((a1Q v).b=a.1.f.b)/\((a.2=true)/\(((a1Q v).c=a.1.f.c)/\((a.2=true)/\(((a1Q v).d=a.1.f.d)/\((a.2=true)/\(((a1Q v).e=a.1.f.e)/\((a.2=true)/\(((a1Q w).a=a.1.t.a)/\((a.2=true)/\(((a1Q w).b=a.1.t.b)/\((a.2=true)/\(((a1Q w).c=a.1.t.c)/\((a.2=true)/\(((a1Q w).d=a.1.t.d)/\((a.2=true)/\(((a1Q w).e=a.1.t.e)/\True))))))))))))))))))))))))))))))))))/\((Value.int .i64 (0:Int)=(.int .i64 (if a.2=true then (0:Int) else 6)))/\True)))))))))=_ by kernel_rfl) ?_;delta a6k a0S;simp only [true_and,and_true,Value.int.injEq];obtain ⟨hp,hz⟩:=hp;refine ⟨⟨hp,hz⟩,fun _=>⟨(aA6 v w,false),fun h=>(by cases h),?_,rfl⟩,fun h=>absurd h (by decide)⟩
 repeat' first | exact rfl | apply And.intro
def a6c:Ctr:=⟨196,fun | [.g v_,.g w_]=>(match rdV v_,rdV w_ with | some (qv,v),some (qw,w)=>.ex (Ux × Bool) (qv/\qw/\(szR v.vx <= 3/\szR v.vy <= 3)/\szR w.vx <= 3/\szR w.vy <= 3) (fun a=>a.2=true->a.1=aA6 v w/\(a.1.l.la ≠ 0 \/ a.1.l.lb ≠ 0)) (fun a=>.t [.g [.v (.bool (false)),.Z (a.2) (a.1.l.la),.Z (a.2) (a.1.l.lb),.Z (a.2) (a.1.l.lc),.Z (false) (a.1.k.kx),.Z (false) (a.1.k.ky),.Z (false) (a.1.k.kq),.v (.bool (false)),.Z (a.2) (a.1.f.a),.Z (a.2) (a.1.f.b),.Z (a.2) (a.1.f.c),.Z (a.2) (a.1.f.d),.Z (a.2) (a.1.f.e),.Z (a.2) (a.1.t.a),.Z (a.2) (a.1.t.b),.Z (a.2) (a.1.t.c),.Z (a.2) (a.1.t.d),.Z (a.2) (a.1.t.e)],.c (.v (.int .i64 ((if a.2=true then (0:Int) else 6))))]) | _,_=>.no) | _=>.no⟩
theorem aDO:CtrOK prog a6c:=.ofEx (by kernel_rfl) (fun bs W xs vs α pre φ r hr hA hG h hp=>by
 simp only [a6c] at h;split at h
 ·rename_i v_ w_;split at h
  ·rename_i qv v qw w ev ew;cases h;obtain ⟨kkv,kkw,hp⟩:=hp;by_cases hne:(thr v w).la ≠ 0 \/ (thr v w).lb ≠ 0
   ·exact a18 mixed a3d aZA func196 (by kernel_rfl) ((a1k (a8C ev kkv) (a1k (a8C ew kkw) a3k)) vs hr) hA hG rfl (fun _=>rfl) (aGw v w ⟨hp,hne⟩)
   ·have hz:(thr v w).la=0/\(thr v w).lb=0:=⟨Classical.byContradiction fun h=>hne (.inl h),Classical.byContradiction fun h=>hne (.inr h)⟩
    exact a18 mixed a3d aZz func196 (by kernel_rfl) ((a1k (a8C ev kkv) (a1k (a8C ew kkw) a3k)) vs hr) hA hG rfl (fun _=>rfl) (aGv v w ⟨hp,hz⟩)
  ·cases h
 ·cases h) (fun xs pre r=>by simp only [a6c]; split <;> (try split) <;> (intro h; cases h))
def WG1:List Ctr:=WF0 ++ [a6c]
theorem aWr:∀ c ∈ WG1,CtrOK prog c:=a0M aHk (a0Y aDO (a3e))
def aB6 (x1:List Ux × Nat) (l:List Vx):=(0 <= ((x1.2:Nat):Int)+(1:Int)/\0 < (l.length:Int))
def a7i (x1:List Ux × Nat):=(((x1.2:Nat):Int)+(1:Int))
def aPJ (e2:Ux × Bool) (x1:List Ux × Nat) (l:List Vx) (p_:Ux):=(((((if e2.2=true then (0:Int) else 6) == (0:Int))=true->(((((e2.2=(!false))/\((e2.2=(!false))/\(e2.2=(!false))))/\(((false=false)/\((false=false)/\(false=false)))/\(((e2.2=true)/\((e2.2=true)/\((e2.2=true)/\((e2.2=true)/\(e2.2=true)))))/\((e2.2=true)/\((e2.2=true)/\((e2.2=true)/\((e2.2=true)/\(e2.2=true))))))))/\True)/\((x1.1.length+([Ux.mk false p_.l p_.k false p_.f p_.t]:List Ux).length <= 10000000)/\((inR .i64 (a7i x1))/\(∃ y1:List Ux × Nat,((PoI l y1.1 y1.2)/\((l.length - y1.2 < l.length - x1.2)/\(((l=l)/\(((x1.1 ++ ([Ux.mk false p_.l p_.k false p_.f p_.t]:List Ux))=y1.1)/\((Value.int .i64 (a7i x1)=(.int .i64 ((y1.2:Nat):Int)))/\True)))/\True))))))))/\(((if e2.2=true then (0:Int) else 6) == (0:Int))=false->((inR .i64 (a7i x1))/\(∃ y1:List Ux × Nat,((PoI l y1.1 y1.2)/\((l.length - y1.2 < l.length - x1.2)/\(((l=l)/\((x1.1=y1.1)/\((Value.int .i64 (a7i x1)=(.int .i64 ((y1.2:Nat):Int)))/\True)))/\True)))))))/\True)
def aB7 (x1:List Ux × Nat) (l:List Vx):=(0 <= (a7i x1) % (l.length:Int)/\(a7i x1) % (l.length:Int) < (l.length:Int))
def aFo (l:List Vx) (x1:List Ux × Nat):=(l.getD (((a7i x1) % (l.length:Int)).toNat) (⟨0,0⟩:Vx))
def aFn (l:List Vx) (x1:List Ux × Nat):=(l.getD (((x1.2:Nat):Int).toNat) (⟨0,0⟩:Vx))
def aPI (l:List Vx) (x1:List Ux × Nat):=((True/\True)/\(True/\True)/\(szR (aFn l x1).vx <= 3/\szR (aFn l x1).vy <= 3)/\szR (aFo l x1).vx <= 3/\szR (aFo l x1).vy <= 3)
def a7j (l:List Vx) (x1:List Ux × Nat):=((((aPI l x1)/\(∀ e2:Ux × Bool,((e2.2=true->e2.1=aA6 (aFn l x1) (aFo l x1)/\(e2.1.l.la ≠ 0 \/ e2.1.l.lb ≠ 0))->(aPJ e2 x1 l e2.1))))/\True)/\True)
def aKP (l:List Vx) (x1:List Ux × Nat):=((((aPI l x1)/\(∀ e2:Ux × Bool,((e2.2=true->e2.1=aA6 (aFn l x1) (aFo l x1)/\(e2.1.l.la ≠ 0 \/ e2.1.l.lb ≠ 0))->((aPJ e2 x1 l e2.1)/\True))))/\(a7j l x1))/\((a7j l x1)/\True))
theorem aAw (l:List Vx) (hp:(∀ v ∈ l,okV v)/\l.length <= 2000000):aO6 LTL WG1 [.inv 3 (List Ux × Nat) (fun ξ=>⟨[.k (.c (.rd .V (false) (l))),.u,.u,.k (.c (.ow 0 52 .U (ξ.1))),.k (.c (.v (.int .i64 (((ξ.2:Nat):Int))))),.u,.u,.u,.u,.u,.u,.u,.u,.u,.u,.u,.u,.u,.u,.u,.u,.u,.u,.u,.u,.u,.u,.u,.u,.u,.u,.u,.u,.u,.u,.u],[]⟩) (fun _ ξ=>PoI l ξ.1 ξ.2) (fun ξ=>l.length - ξ.2),.cut 5 2000] f107 (bd f107) [.c (.rd .V (false) (l))] 52 (fun a=>(∀ u ∈ a,aWs l u)/\a.length <= l.length):=by
 refine aTC (show ((∃ x1:List Ux × Nat,((PoI l x1.1 x1.2)/\(((l=l)/\((x1.1=[])/\((Value.int .i64 (0:Int)=(.int .i64 ((x1.2:Nat):Int)))/\True)))/\True)))/\(∀ x1:List Ux × Nat,((PoI l x1.1 x1.2)->(((decide (((x1.2:Nat):Int) < (l.length:Int)))=true->((0 <= ((x1.2:Nat):Int)/\((x1.2:Nat):Int) < (l.length:Int))/\((inR .i64 (a7i x1))/\((((aB6 x1 l)/\((aB7 x1 l)/\(aKP l x1)))/\((((aB6 x1 l)/\((aB7 x1 l)/\(a7j l x1)))/\True)/\True))/\(((aB6 x1 l)/\((aB7 x1 l)/\((aKP l x1)/\((aKP l x1)/\(((a7j l x1)/\((a7j l x1)/\True))/\True)))))/\(((((aB6 x1 l)/\((aB7 x1 l)/\(a7j l x1)))/\True)/\(((aB6 x1 l)/\((aB7 x1 l)/\((a7j l x1)/\((a7j l x1)/\True))))/\True))/\True))))))/\((decide (((x1.2:Nat):Int) < (l.length:Int)))=false->((∀ u ∈ x1.1,aWs l u)/\x1.1.length <= l.length))))))=_ by kernel_rfl) ?_;delta aKP a7j aPI aFn aFo aB7 aPJ a7i aB6;simp only [true_and,and_true,Int.toNat_natCast,Value.int.injEq,decide_eq_true_eq,decide_eq_false_iff_not,Int.natCast_nonneg,Int.ofNat_lt];obtain ⟨hl,hn⟩:=hp;refine ⟨⟨([],0),⟨fun u hu=>(by simp at hu),le_refl _,zero_le _⟩,rfl,rfl⟩,fun x1 h1=>⟨fun hlt=>?_,fun hge=>⟨h1.ho,by have:=h1.hn; have:=h1.hi; omega⟩⟩⟩;have i1:=h1.hi;have i2:=h1.hn;have r1:=Int.emod_nonneg ((x1.2:Int)+1) (show (l.length:Int) ≠ 0 by omega);have r2:=Int.emod_lt_of_pos ((x1.2:Int)+1) (show (0:Int) < (l.length:Int) by omega)
 generalize ((x1.2:Int)+1) % (l.length:Int)=m at *
 have mv:l.getD x1.2 ⟨0,0⟩ ∈ l:=a0W hlt;have mw:l.getD m.toNat ⟨0,0⟩ ∈ l:=a0W (by omega);have ov:=hl _ mv;have ow:=hl _ mw
 have hin:inR .i64 ((x1.2:Int)+1):=by unfold inR; omega
 repeat' apply And.intro
 all_goals try omega
 all_goals try exact hin
 all_goals try exact ov.1
 all_goals try exact ov.2
 all_goals try exact ow.1
 all_goals try exact ow.2
 all_goals
  intro e2 h2;refine ⟨fun hc=>?_,fun hc=>⟨hin,(x1.1,x1.2+1),⟨h1.ho,by dsimp only; omega,hlt⟩,by dsimp only; omega,rfl,by simp⟩⟩
  have hb:e2.2=true:=by cases h:e2.2 <;> simp_all
  obtain ⟨s1,s2⟩:=h2 hb;refine ⟨?_,by simp only [length_cons,length_nil]; omega,hin,(x1.1 ++ [Ux.mk false e2.1.l e2.1.k false e2.1.f e2.1.t],x1.2+1),⟨fun u hu=>?_,by simp only [length_append,length_cons,length_nil]; omega,hlt⟩,by dsimp only; omega,rfl,by simp⟩
  ·rw [hb]; simp
  ·rcases mem_append.1 hu with hu | hu
   ·exact h1.ho u hu
   ·rw [s1] at s2;rw [mem_singleton.1 hu,s1];exact ⟨_,mv,_,mw,rfl,s2⟩
def a6b:Ctr:=⟨107,fun | [.c (.rd .V _ l)]=>.ex (List Ux) ((∀ v ∈ l,okV v)/\l.length <= 2000000) (fun a=>(∀ u ∈ a,aWs l u)/\a.length <= l.length) (fun a=>.k (.c (.rd .U false a))) | _=>.no⟩
theorem aDC:CtrOK prog a6b:=.ofOwn (T:=52) (by kernel_rfl) (by rfl) (fun bs w xs vs α pre φ r hr hA hG h hp=>by
 simp only [a6b] at h;split at h
 ·rename_i fll l;cases h;refine (aDr mixed a3d aWr Tryz.func107 (by kernel_rfl) ((aKn a3k) vs hr) hA hG rfl (aAw l hp)).mono ?_;rintro e w' ⟨v,e1,e2,m,ob,e3,e4⟩;exact ⟨v,e1,e2,m,m,ob,e3,rfl,e4⟩
 ·cases h) (fun xs pre r=>by simp only [a6b]; split <;> (intro h; cases h))
end Vc
end Go.Proofs.YtbohkigffejhoaaGreat
namespace Go.Proofs.YtbohkigffejhoaaGreat
open Go.RowKit
namespace Vc
def b4V (ops:List Oper) (g:Nat):Option Nat :=
 match ops[g]? with
 | some o=>o.dst
 | none=>none
def b3M (s:St) (t:Nat) (b:Bool):St:={ s with tm:=s.tm.set t (.k (.c (.v (.bool b)))) }
def aNO (n:Nat):List Nat->Bool
 | []=>false
 | x :: l=>bif Nat.beq x n then true else aNO n l
def aMk (ops:List Oper) (s:St) (o:Oper):Option Bool :=
 match o.guard with
 | none=>some true
 | some (g,v) =>
   match b4V ops g with
   | none=>none
   | some t =>
     match s.tm[t]? with
     | some (.k (.c (.v (.bool b))))=>some (bif b then v else !v)
     | _=>none
def b0E (ops:List Oper) (kn:List Nat) (i:Nat):Bool :=
 match ops[i]? with
 | some o=>(match o.guard with | some (g,_)=>!aNO g kn | none=>false)
 | none=>false
def b0T (ops:List Oper) (ls:Array Bool) (s:St) (i:Nat):Bool :=
 match ops[i]? with
 | some o=>(match aMk ops s o with | some b=>bif b then false else aG9 ops ls i o | none=>false)
 | none=>false
def b1g (L:List Lay) (ops:List Oper) (ls:Array Bool) (s:St) (i:Nat):Bool :=
 match ops[i]? with
 | some o=>(match aMk ops s o with | some b=>bif b then b3O true L (evS s) o.op && aG9 ops ls i o else false | none=>false)
 | none=>false
def b1j (s:St):Op->Option AV
 | .pick c x y =>
   match evS s c with
   | .k (.c (.v (.bool b)))=>some (bif b then evS s x else evS s y)
   | _=>none
 | _=>none
def b1k (ops:List Oper) (ls:Array Bool) (s:St) (i:Nat):Bool :=
 match ops[i]? with
 | some o =>
   (match o.op with
   | .pick _ _ _=>(match aMk ops s o with | some b=>bif b then aG9 ops ls i o else false | none=>false)
   | _=>false)
 | none=>false
abbrev bare (o:Oper):Oper:={ o with guard:=none }
def aAY (L:List Lay) (C:List Ctr) (ops:List Oper) (K:St->Prop):Nat->Nat->Array Bool->List Nat->St->Prop
 | 0,_,_,_,_=>False
 | e+1,d,ls,kn,s =>
   match d with
   | 0=>bif (Region.ready .any ops.toArray ls).isEmpty then K s else False
   | d+1 =>
     bif (Region.ready .any ops.toArray ls).isEmpty then False
     else match a8M (b0E ops kn) (Region.ready .any ops.toArray ls) with
      | some i =>
        match ops[i]? with
        | some o =>
          match o.guard with
          | some (g,_) =>
            match b4V ops g with
            | some t =>
              match s.tm[t]? with
              | some (.k (.c (.v (.bool x))))=>(x=true->aAY L C ops K e (d+1) ls (g :: kn) (b3M s t true))/\(x=false->aAY L C ops K e (d+1) ls (g :: kn) (b3M s t false))
              | _=>False
            | none=>False
          | none=>False
        | none=>False
      | none =>
        match a8M (b0T ops ls s) (Region.ready .any ops.toArray ls) with
        | some i =>
          match ops[i]? with
          | some o=>aAY L C ops K e d (ls.setIfInBounds i true) kn (a4u s o.dst .u)
          | none=>False
        | none =>
        match a8M (b1k ops ls s) (Region.ready .any ops.toArray ls) with
        | some i =>
          match ops[i]? with
          | some o =>
            match b1j s o.op with
            | some r=>aAY L C ops K e d (ls.setIfInBounds i true) kn (a4u s o.dst r)
            | none=>False
          | none=>False
        | none =>
          match a8M (b1g L ops ls s) (Region.ready .any ops.toArray ls) with
          | some i =>
            match ops[i]? with
            | some o =>
              match a2g L s.bx (evS s) o.op with
              | some (pre,r)=>owe pre (aAY L C ops K e d (ls.setIfInBounds i true) kn (a4u s o.dst r))
              | none=>False
            | none=>False
          | none=>aUd (fun i=>match ops[i]? with
              | some o =>
                match aMk ops s o with
                | some b=>bif b then aop L C (bare o) s fun s'=>aAY L C ops K e d (ls.setIfInBounds i true) kn s' else False
                | none=>False
              | none=>False) (Region.ready .any ops.toArray ls)
section
variable {P:Program} {L:List Lay} {C:List Ctr} {I:List LI} {W0:World} {F:List (Option Nat)}
theorem a4W {l:List Oper} {s:St} {bs:Bs} {a:Act} {w:World} (hR:Rl W0 F bs s a w) {o:Oper} {b:Bool} (h:aMk l s o=some b):Region.wanted o (yielded l.toArray a.tmps)=b:=by
 unfold aMk at h;unfold Region.wanted
 cases hg:o.guard with
 | none =>
   rw [hg] at h
   simpa using h
 | some gv =>
   obtain ⟨g,v⟩:=gv;rw [hg] at h;simp only at h
   split at h <;> try (cases h; done)
   rename_i t ht
   split at h <;> try (cases h; done)
   rename_i x hx;unfold b4V at ht
   split at ht <;> try (cases ht; done)
   rename_i og hog;have hv:relV bs w (.k (.c (.v (.bool x)))) (a.tmps.getD t undef):=hR.tmp t _ hx
   have hlt:t < a.tmps.size:=by rw [<- hR.tl]; exact (List.getElem?_eq_some_iff.1 hx).1
   have e:a.tmps[t]?=some (.bool x):=by
    have:a.tmps.getD t undef=.bool x:=hv.1;rw [Array.getElem?_eq_getElem hlt];rw [Array.getD,dif_pos hlt] at this;exact congrArg some this
   have hy:yielded l.toArray a.tmps g=some x:=by
    unfold yielded;simp [hog,ht,e]
   simp only [hy];cases x <;> cases v <;> simp_all
theorem aEO {s:St} {t:Nat} {x:Bool} (h:s.tm[t]?=some (.k (.c (.v (.bool x))))):b3M s t x=s:=by
 unfold b3M
 have:s.tm.set t (.k (.c (.v (.bool x))))=s.tm:=by
  apply List.ext_getElem?;intro i;rw [List.getElem?_set];split
  ·rename_i hi;subst hi;split
   ·exact h.symm
   ·rename_i hl;rw [List.getElem?_eq_none (by omega)] at h;cases h
  ·rfl
 rw [this]
theorem aJC (hz:none ∉ F) (hL:∀ l ∈ L,a1I P l) (hC:∀ c ∈ C,CtrOK P c) {Q:Exit->Act->World->Prop} {l:List Oper} {K:St->Prop} (hns:Region.noSelect l.toArray=true) (hp:∀ c a w,¬ Q (.panic c) a w) (hk:∀ s' bs' a' w',K s'->Rl W0 F bs' s' a' w'->Q .normal a' w') :
    ∀ (e d:Nat) (ls:Array Bool) (kn:List Nat) (s:St) (bs:Bs) (a:Act) (w:World),aAY L C l K e d ls kn s->Rl W0 F bs s a w->wpAny P .any l.toArray Q d ls a w:=by
 intro e
 induction e with
 | zero=>intro d ls kn s bs a w h hR; unfold aAY at h; exact h.elim
 | succ e ih =>
   intro d ls kn s bs a w h hR;unfold aAY at h
   cases d with
   | zero =>
     simp only at h
     cases he:(Region.ready .any l.toArray ls).isEmpty with
     | false=>rw [he] at h; exact h.elim
     | true =>
       rw [he] at h
       exact ⟨List.isEmpty_iff.1 he,hk _ _ _ _ h hR⟩
   | succ d =>
     simp only at h
     cases hr:(Region.ready .any l.toArray ls).isEmpty with
     | true=>rw [hr] at h; exact h.elim
     | false =>
       rw [hr] at h;simp only [cond_false] at h
       have aparts:∀ {i:Nat} {o:Oper},aG9 l ls i o=true->∀ j oj,l.toArray[j]?=some oj->j ≠ i->ls.getD j true=false->(∀ e ∈ oj.after,Region.binds .any e=true->e.on ≠ i)->o.apart l.toArray oj=true:=fun {i o} hap j oj hoj hji hun hno=>by
        have h5:=a7H hap (j:=j) (o:=oj) (by simpa using hoj);simp only [Nat.zero_add,Bool.or_eq_true] at h5;rcases h5 with ((h5 | h5) | h5) | h5
        ·exact absurd (Nat.eq_of_beq_eq_true h5) hji
        ·rw [hun] at h5; cases h5
        ·obtain ⟨e,he,hb,hon⟩:=a4H.1 h5;exact absurd hon (hno e he hb)
        ·exact h5
       split at h
       ·rename_i i hf
        split at h <;> try exact h.elim
        rename_i o ho
        split at h <;> try exact h.elim
        rename_i g v hg
        split at h <;> try exact h.elim
        rename_i t ht
        split at h <;> try exact h.elim
        rename_i x hx
        cases x with
        | true =>
          have h1:=h.1 rfl;rw [aEO hx] at h1
          exact ih _ _ _ _ _ _ _ h1 hR
        | false =>
          have h1:=h.2 rfl;rw [aEO hx] at h1;exact ih _ _ _ _ _ _ _ h1 hR
       ·split at h
        ·rename_i i hf;obtain ⟨hi,hpi⟩:=a3W hf
         split at h <;> try exact h.elim
         rename_i o ho;unfold b0T at hpi;rw [ho] at hpi;simp only at hpi
         split at hpi <;> try (cases hpi; done)
         rename_i b hb
         cases b with
         | true=>simp at hpi
         | false =>
           simp only [cond_false] at hpi;exact wpAny_first (by simpa using ho) (fun j o cs b ho=>Region.noSelect_spec hns j o cs b ho) (fun c a w hq=>absurd hq (hp _ _ _)) d ls a w (aparts hpi) hi (.inr ⟨a4W hR hb,rfl⟩) (ih _ _ _ _ _ _ _ h (hR.put (r:=.u) (v:=undef) trivial o.dst))
        ·split at h
         ·rename_i i hf;obtain ⟨hi,hpi⟩:=a3W hf
          split at h <;> try exact h.elim
          rename_i o ho
          split at h <;> try exact h.elim
          rename_i r hpk;unfold b1k at hpi;rw [ho] at hpi;simp only at hpi
          split at hpi <;> try (cases hpi; done)
          rename_i c x y hop
          split at hpi <;> try (cases hpi; done)
          rename_i b hb
          cases b with
          | false=>simp at hpi
          | true =>
            simp only [cond_true] at hpi;rw [hop] at hpk;unfold b1j at hpk;simp only at hpk
            split at hpk <;> try (cases hpk; done)
            rename_i q hq;simp only [Option.some.injEq] at hpk;subst hpk;have hc:=hR.ev c;rw [hq] at hc;have e1:a.eval c=.bool q:=hc.1
            obtain ⟨v,hv,h2⟩:∃ v,(∀ w',(execOp a.eval o).run P w'=.ok (.value v) w')/\relV bs w (bif q then evS s x else evS s y) v:=by
             cases q with
             | true=>exact ⟨a.eval x,fun w'=>by simp [execOp,hop,e1,asBool],hR.ev x⟩
             | false=>exact ⟨a.eval y,fun w'=>by simp [execOp,hop,e1,asBool],hR.ev y⟩
            exact wpAny_first (by simpa using ho) (fun j o cs b ho=>Region.noSelect_spec hns j o cs b ho) (fun c a w hq=>absurd hq (hp _ _ _)) d ls a w (aparts hpi) hi (.inl ⟨a4W hR hb,hv⟩) (ih _ _ _ _ _ _ _ h (hR.put h2 o.dst))
         split at h
         ·rename_i i hf;obtain ⟨hi,hpi⟩:=a3W hf
          split at h <;> try exact h.elim
          rename_i o ho;unfold b1g at hpi;rw [ho] at hpi;simp only at hpi
          split at hpi <;> try (cases hpi; done)
          rename_i b hb
          cases b with
          | false=>simp at hpi
          | true =>
            simp only [cond_true,Bool.and_eq_true] at hpi
            split at h <;> try exact h.elim
            rename_i pre r har
            have hd:due pre/\aAY L C l K e d (ls.setIfInBounds i true) kn (a4u s o.dst r):=by
             cases pre with
             | none=>exact ⟨trivial,h⟩
             | some p=>exact h
            obtain ⟨v,hv⟩:=aOW hL hR.ev hpi.1 har hd.1;obtain ⟨v',h1,h2⟩:=a3X hL hR.ev hR.box har hd.1;rw [hv w] at h1
            obtain rfl:v=v':=by simpa using h1
            exact wpAny_first (by simpa using ho) (fun j o cs b ho=>Region.noSelect_spec hns j o cs b ho) (fun c a w hq=>absurd hq (hp _ _ _)) d ls a w (aparts hpi.2) hi (.inl ⟨a4W hR hb,hv⟩) (ih _ _ _ _ _ _ _ hd.2 (hR.put h2 o.dst))
         ·refine ⟨fun he=>(by rw [he] at hr; cases hr),fun i hi=>?_⟩;have hx:=aAt h i hi
          split at hx <;> try exact hx.elim
          rename_i o ho
          split at hx <;> try exact hx.elim
          rename_i b hb
          cases b with
          | false=>exact hx.elim
          | true =>
            simp only [cond_true] at hx;obtain ⟨hg,h2⟩:=aLW (Q:=Q) hz hL hC hx hR
            have hoa:l.toArray[i]?=some o:=by simpa using ho
            unfold wpOp;simp only [hoa];rw [if_pos (a4W hR hb)];exact .inl (h2 _ fun s' bs' a' w' hK hR'=>ih _ _ _ _ _ _ _ hK hR')
def b2K (L:List Lay) (C:List Ctr) (I:List LI) (Qa:AEx->St->Prop):Code->St->Prop
 | .seq (.region _ ops true) c,s=>bif Region.noSelect ops then aAY L C ops.toList (fun s'=>awp L C I c s' Qa) (2*ops.size+1) ops.size (Array.replicate ops.size false) [] s else False
 | _,_=>False
theorem aQv (hm:P.follows .mixedOrders=true) (hL:∀ l ∈ L,a1I P l) (hC:∀ c ∈ C,CtrOK P c) {c:Code} {s:St} {Qa:AEx->St->Prop} (h:b2K L C I Qa c s) (W0:World):Good P W0 Qa c s:=fun F hz Q hk bs a w hR=>by
 unfold b2K at h
 split at h <;> try exact h.elim
 rename_i id ops r;obtain ⟨hns,h⟩:=a4K h;refine wp_seq ?_;have h1:=aJC (Q:=fun e a w=>e=.normal/\r.wp P Q a w) hz hL hC (l:=ops.toList) (by simpa using hns) (fun c a w h=>by cases h.1) (fun s' bs' a' w' h hR=>⟨rfl,a2k hz hm hL hC r s' bs' a' w' Qa Q h hR hk⟩) _ ops.size (Array.replicate ops.size false) [] s bs a w.drew h (hR.later (Ext.refl w).drew)
 exact wp_mono (wp_region_any hm (by simpa using h1)) fun e a w h=>by
  obtain ⟨rfl,h⟩:=h;exact h
