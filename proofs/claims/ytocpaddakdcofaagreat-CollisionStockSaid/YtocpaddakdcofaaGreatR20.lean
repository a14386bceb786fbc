import Derived.Test.YtocpaddakdcofaaGreatR19
import Derived.Test.YtocpaddakdcofaaGreatR11
namespace Go.Proofs.YtocpaddakdcofaaGreat
open Go.RowKit
namespace Vc
attribute [local irreducible] owes
def ClS (l:List (List Int)):Prop:=l.length <= 4/\∀ c ∈ l,sm64 (c.getD 0 0)/\sm64 (c.getD 1 0)/\sm64 (c.getD 2 0)/\sm64 (c.getD 3 0)
theorem ClS.at {l:List (List Int)} (h:ClS l) (i:Nat):sm64 ((l.getD i []).getD 0 0)/\sm64 ((l.getD i []).getD 1 0)/\sm64 ((l.getD i []).getD 2 0)/\sm64 ((l.getD i []).getD 3 0):=by
 rcases Nat.lt_or_ge i l.length with hi | hi
 ·have e:l.getD i []=l[i]:=by simp [List.getD_eq_getElem?_getD,hi]
  rw [e]
  exact h.2 _ (List.getElem_mem hi)
 ·have e:l.getD i []=[]:=by simp [List.getD_eq_getElem?_getD,hi]
  rw [e]
  exact ⟨by unfold sm64; simp,by unfold sm64; simp,by unfold sm64; simp,by unfold sm64; simp⟩
def hitB (nr:Mo->Int->Int->Int->Int->Int->Bool) (m:Mo) (t:To) (c:List Int):Bool:=(decide (deepS m < c.getD 4 0) && nr m (c.getD 0 0) (c.getD 1 0) (c.getD 2 0) (c.getD 3 0) t.ra) || (decide (deepS m+t.fl < c.getD 4 0) && nr m (c.getD 0 0) (c.getD 1 0) (c.getD 2 0) (c.getD 3 0) t.ho)
def firstS (nr:Mo->Int->Int->Int->Int->Int->Bool) (m:Mo) (t:To):List (List Int)->Int->Int
 | [],_=>-1
 | c :: l,i=>bif hitB nr m t c then i else firstS nr m t l (i+1)
theorem firstS_go {nr:Mo->Int->Int->Int->Int->Int->Bool} {m:Mo} {t:To} {l:List (List Int)} {n:Nat} (h:n < l.length):firstS nr m t (l.drop n) n=bif hitB nr m t (l.getD n []) then (n:Int) else firstS nr m t (l.drop (n+1)) ((n+1:Nat):Int):=by
 rw [List.drop_eq_getElem_cons h,firstS,List.getD_eq_getElem?_getD,List.getElem?_eq_getElem h]
 simp
def clampB (s:Se) (c:List Int):Bool:=rectB (c.getD 0 0) (c.getD 1 0) (c.getD 2 0) (c.getD 3 0) && (lenB (c.getD 4 0) (tableS s) && decide (c.getD 4 0 < s.sf))
def baseB (s:Se):Bool:=rectB s.x0 s.y0 s.x1 s.y1 && (lenB s.th 1 && (lenB s.ga 0 && (decide (s.cl.length <= 50) && lenB s.sf 1)))
def validS (s:Se):Bool:=baseB s && s.cl.all (clampB s)
def errS (b:Bool):Int:=bif b then 0 else 1
theorem bif_hit (a b c d:Bool):(bif bif a then b else false then true else bif c then d else false)=((a && b) || (c && d)):=by cases a <;> cases b <;> cases c <;> cases d <;> rfl
theorem bif_5 (a b c d e:Bool):(bif bif bif bif a then b else false then c else false then d else false then e else false)=(a && (b && (c && (d && e)))):=by cases a <;> cases b <;> cases c <;> cases d <;> cases e <;> rfl
theorem bif_3 (a b c:Bool):(bif bif a then b else false then c else false)=(a && (b && c)):=by cases a <;> cases b <;> cases c <;> rfl
theorem lenB_iff {n lo:Int}:lenB n lo=true ↔ lo <= n/\n <= 10000000:=by unfold lenB; exact decide_eq_true_iff
theorem baseB_spec {s:Se} (h:baseB s=true):rectB s.x0 s.y0 s.x1 s.y1=true/\(1 <= s.th/\s.th <= 10000000)/\(0 <= s.ga/\s.ga <= 10000000):=by
 unfold baseB at h
 simp only [Bool.and_eq_true,lenB_iff] at h
 exact ⟨h.1,h.2.1,h.2.2.1⟩
theorem all_go {f:List Int->Bool} {l:List (List Int)} {k:Nat} (h:k < l.length):(l.drop k).all f=(f (l.getD k []) && (l.drop (k+1)).all f):=by
 rw [List.drop_eq_getElem_cons h,List.all_cons,List.getD_eq_getElem?_getD,List.getElem?_eq_getElem h]
 rfl
def cRclamp:Ctr:=⟨8,fun | [.g m_,.g t_,.g s_]=>(match rdM m_,rdT t_,rdS s_ with | some m,some t,some s=>.yes (MoS m/\ToS t/\SeS s/\ClS s.cl) (.k (.c (.v (.int .i64 ((firstS nearR m t s.cl 0)))))) | _,_,_=>.no) | _=>.no⟩
set_option maxHeartbeats 4000000 in
theorem cRclamp_owes (m:Mo) (t:To) (s:Se) (hp:MoS m/\ToS t/\SeS s/\ClS s.cl):owes LT3 FT2 [.inv 3 (Nat) (fun ξ=>⟨[.u,.u,.u,.k (.c (.bx 0 0)),.k (.c (.bx 1 0)),.k (.c (.bx 2 0)),.u,.k (.c (.v (.int .i64 ((deepS m))))),.k (.c (.v (.int .i64 ((ξ:Int))))),.u,.u,.u,.u,.u,.u,.u,.u,.u,.u,.u,.u,.u,.u,.u,.u,.u,.u,.u,.u,.u,.u,.u,.u,.u,.u,.u,.u,.u,.u,.u,.u,.u,.u,.u,.u,.u,.u,.u,.u,.u,.u,.u],[⟨30,[.v (.int .i64 (m.fx)),.v (.int .i64 (m.fy)),.v (.int .i64 (m.fz)),.v (.int .i64 (m.tx)),.v (.int .i64 (m.ty)),.v (.int .i64 (m.tz)),.v (.int .i64 (m.mr)),.v (.int .i64 (m.mt)),.v (.int .i64 (m.mb))]⟩,⟨26,[.v (.int .i64 (t.nu)),.v (.int .i64 (t.ki)),.v (.int .i64 (t.ra)),.v (.int .i64 (t.fl)),.v (.int .i64 (t.ho)),.v (.int .i64 (t.st)),.v (.int .i64 (t.fe)),.v (.int .i64 (t.pu))]⟩,⟨24,[.v (.int .i64 (s.x0)),.v (.int .i64 (s.y0)),.v (.int .i64 (s.x1)),.v (.int .i64 (s.y1)),.v (.int .i64 (s.th)),.v (.int .i64 (s.ga)),.pl 5 (s.cl),.v (.int .i64 (s.sf))]⟩]⟩) (fun _ ξ=>(ξ <= s.cl.length/\firstS nearR m t s.cl 0=firstS nearR m t (s.cl.drop ξ) ξ)) (fun ξ=>s.cl.length - ξ)] Tryz.f8 (Tryz.f8.body.getD .skip) [.g [.v (.int .i64 (m.fx)),.v (.int .i64 (m.fy)),.v (.int .i64 (m.fz)),.v (.int .i64 (m.tx)),.v (.int .i64 (m.ty)),.v (.int .i64 (m.tz)),.v (.int .i64 (m.mr)),.v (.int .i64 (m.mt)),.v (.int .i64 (m.mb))],.g [.v (.int .i64 (t.nu)),.v (.int .i64 (t.ki)),.v (.int .i64 (t.ra)),.v (.int .i64 (t.fl)),.v (.int .i64 (t.ho)),.v (.int .i64 (t.st)),.v (.int .i64 (t.fe)),.v (.int .i64 (t.pu))],.g [.v (.int .i64 (s.x0)),.v (.int .i64 (s.y0)),.v (.int .i64 (s.x1)),.v (.int .i64 (s.y1)),.v (.int .i64 (s.th)),.v (.int .i64 (s.ga)),.pl 5 (s.cl),.v (.int .i64 (s.sf))]] (.k (.c (.v (.int .i64 ((firstS nearR m t s.cl 0)))))):=by
 refine owes_of (show ((True)/\((∃ x1:Nat,((x1 <= s.cl.length/\firstS nearR m t s.cl 0=firstS nearR m t (s.cl.drop x1) x1)/\(((True)/\((True)/\((True)/\((Value.int .i64 (deepS m)=(.int .i64 (deepS m)))/\((Value.int .i64 (0:Int)=(.int .i64 (x1:Int)))/\(True))))))/\(((Value.int .i64 m.fx=(.int .i64 m.fx))/\((Value.int .i64 m.fy=(.int .i64 m.fy))/\((Value.int .i64 m.fz=(.int .i64 m.fz))/\((Value.int .i64 m.tx=(.int .i64 m.tx))/\((Value.int .i64 m.ty=(.int .i64 m.ty))/\((Value.int .i64 m.tz=(.int .i64 m.tz))/\((Value.int .i64 m.mr=(.int .i64 m.mr))/\((Value.int .i64 m.mt=(.int .i64 m.mt))/\((Value.int .i64 m.mb=(.int .i64 m.mb))/\(True))))))))))/\(((Value.int .i64 t.nu=(.int .i64 t.nu))/\((Value.int .i64 t.ki=(.int .i64 t.ki))/\((Value.int .i64 t.ra=(.int .i64 t.ra))/\((Value.int .i64 t.fl=(.int .i64 t.fl))/\((Value.int .i64 t.ho=(.int .i64 t.ho))/\((Value.int .i64 t.st=(.int .i64 t.st))/\((Value.int .i64 t.fe=(.int .i64 t.fe))/\((Value.int .i64 t.pu=(.int .i64 t.pu))/\(True)))))))))/\(((Value.int .i64 s.x0=(.int .i64 s.x0))/\((Value.int .i64 s.y0=(.int .i64 s.y0))/\((Value.int .i64 s.x1=(.int .i64 s.x1))/\((Value.int .i64 s.y1=(.int .i64 s.y1))/\((Value.int .i64 s.th=(.int .i64 s.th))/\((Value.int .i64 s.ga=(.int .i64 s.ga))/\((5=5)/\((s.cl=s.cl)/\((Value.int .i64 s.sf=(.int .i64 s.sf))/\(True))))))))))/\(True)))))))/\(∀ x1:Nat,((x1 <= s.cl.length/\firstS nearR m t s.cl 0=firstS nearR m t (s.cl.drop x1) x1)->(((decide ((x1:Int) < ((s.cl).length:Int)))=true->((0 <= (x1:Int)/\(x1:Int) < ((s.cl).length:Int))/\((((decide ((deepS m) < (((s.cl).getD (x1:Int).toNat []).getD 4 0))) == true)=true->(sm64 (((s.cl).getD (x1:Int).toNat []).getD 0 0)/\sm64 (((s.cl).getD (x1:Int).toNat []).getD 1 0)/\sm64 (((s.cl).getD (x1:Int).toNat []).getD 2 0)/\sm64 (((s.cl).getD (x1:Int).toNat []).getD 3 0)/\sm64 m.fx/\sm64 m.fy/\sm64 m.tx/\sm64 m.ty/\sm64 t.ra))/\((((bif (decide ((deepS m) < (((s.cl).getD (x1:Int).toNat []).getD 4 0))) then (decide (Rt.sg (farS (((s.cl).getD (x1:Int).toNat []).getD 0 0) (((s.cl).getD (x1:Int).toNat []).getD 1 0) (((s.cl).getD (x1:Int).toNat []).getD 2 0) (((s.cl).getD (x1:Int).toNat []).getD 3 0) m.fx m.fy m.tx m.ty - (t.ra:Rat)*(t.ra:Rat)) < 0)) else false) == false)=true->(inR .i64 ((deepS m)+t.fl)))/\(((((bif (decide ((deepS m) < (((s.cl).getD (x1:Int).toNat []).getD 4 0))) then (decide (Rt.sg (farS (((s.cl).getD (x1:Int).toNat []).getD 0 0) (((s.cl).getD (x1:Int).toNat []).getD 1 0) (((s.cl).getD (x1:Int).toNat []).getD 2 0) (((s.cl).getD (x1:Int).toNat []).getD 3 0) m.fx m.fy m.tx m.ty - (t.ra:Rat)*(t.ra:Rat)) < 0)) else false) == false) && ((decide (((deepS m)+t.fl) < (((s.cl).getD (x1:Int).toNat []).getD 4 0))) == true))=true->(sm64 (((s.cl).getD (x1:Int).toNat []).getD 0 0)/\sm64 (((s.cl).getD (x1:Int).toNat []).getD 1 0)/\sm64 (((s.cl).getD (x1:Int).toNat []).getD 2 0)/\sm64 (((s.cl).getD (x1:Int).toNat []).getD 3 0)/\sm64 m.fx/\sm64 m.fy/\sm64 m.tx/\sm64 m.ty/\sm64 t.ho))/\(((bif (bif (decide ((deepS m) < (((s.cl).getD (x1:Int).toNat []).getD 4 0))) then (decide (Rt.sg (farS (((s.cl).getD (x1:Int).toNat []).getD 0 0) (((s.cl).getD (x1:Int).toNat []).getD 1 0) (((s.cl).getD (x1:Int).toNat []).getD 2 0) (((s.cl).getD (x1:Int).toNat []).getD 3 0) m.fx m.fy m.tx m.ty - (t.ra:Rat)*(t.ra:Rat)) < 0)) else false) then true else (bif (decide (((deepS m)+t.fl) < (((s.cl).getD (x1:Int).toNat []).getD 4 0))) then (decide (Rt.sg (farS (((s.cl).getD (x1:Int).toNat []).getD 0 0) (((s.cl).getD (x1:Int).toNat []).getD 1 0) (((s.cl).getD (x1:Int).toNat []).getD 2 0) (((s.cl).getD (x1:Int).toNat []).getD 3 0) m.fx m.fy m.tx m.ty - (t.ho:Rat)*(t.ho:Rat)) < 0)) else false))=true->(Value.int .i64 (x1:Int)=(.int .i64 (firstS nearR m t s.cl 0))))/\((bif (bif (decide ((deepS m) < (((s.cl).getD (x1:Int).toNat []).getD 4 0))) then (decide (Rt.sg (farS (((s.cl).getD (x1:Int).toNat []).getD 0 0) (((s.cl).getD (x1:Int).toNat []).getD 1 0) (((s.cl).getD (x1:Int).toNat []).getD 2 0) (((s.cl).getD (x1:Int).toNat []).getD 3 0) m.fx m.fy m.tx m.ty - (t.ra:Rat)*(t.ra:Rat)) < 0)) else false) then true else (bif (decide (((deepS m)+t.fl) < (((s.cl).getD (x1:Int).toNat []).getD 4 0))) then (decide (Rt.sg (farS (((s.cl).getD (x1:Int).toNat []).getD 0 0) (((s.cl).getD (x1:Int).toNat []).getD 1 0) (((s.cl).getD (x1:Int).toNat []).getD 2 0) (((s.cl).getD (x1:Int).toNat []).getD 3 0) m.fx m.fy m.tx m.ty - (t.ho:Rat)*(t.ho:Rat)) < 0)) else false))=false->((inR .i64 ((x1:Int)+(1:Int)))/\(∃ y1:Nat,((y1 <= s.cl.length/\firstS nearR m t s.cl 0=firstS nearR m t (s.cl.drop y1) y1)/\((s.cl.length - y1 < s.cl.length - x1)/\(((True)/\((True)/\((True)/\((Value.int .i64 (deepS m)=(.int .i64 (deepS m)))/\((Value.int .i64 ((x1:Int)+(1:Int))=(.int .i64 (y1:Int)))/\(True))))))/\(((Value.int .i64 m.fx=(.int .i64 m.fx))/\((Value.int .i64 m.fy=(.int .i64 m.fy))/\((Value.int .i64 m.fz=(.int .i64 m.fz))/\((Value.int .i64 m.tx=(.int .i64 m.tx))/\((Value.int .i64 m.ty=(.int .i64 m.ty))/\((Value.int .i64 m.tz=(.int .i64 m.tz))/\((Value.int .i64 m.mr=(.int .i64 m.mr))/\((Value.int .i64 m.mt=(.int .i64 m.mt))/\((Value.int .i64 m.mb=(.int .i64 m.mb))/\(True))))))))))/\(((Value.int .i64 t.nu=(.int .i64 t.nu))/\((Value.int .i64 t.ki=(.int .i64 t.ki))/\((Value.int .i64 t.ra=(.int .i64 t.ra))/\((Value.int .i64 t.fl=(.int .i64 t.fl))/\((Value.int .i64 t.ho=(.int .i64 t.ho))/\((Value.int .i64 t.st=(.int .i64 t.st))/\((Value.int .i64 t.fe=(.int .i64 t.fe))/\((Value.int .i64 t.pu=(.int .i64 t.pu))/\(True)))))))))/\(((Value.int .i64 s.x0=(.int .i64 s.x0))/\((Value.int .i64 s.y0=(.int .i64 s.y0))/\((Value.int .i64 s.x1=(.int .i64 s.x1))/\((Value.int .i64 s.y1=(.int .i64 s.y1))/\((Value.int .i64 s.th=(.int .i64 s.th))/\((Value.int .i64 s.ga=(.int .i64 s.ga))/\((5=5)/\((s.cl=s.cl)/\((Value.int .i64 s.sf=(.int .i64 s.sf))/\(True))))))))))/\(True))))))))))))))))/\((decide ((x1:Int) < ((s.cl).length:Int)))=false->(Value.int .i64 (-1:Int)=(.int .i64 (firstS nearR m t s.cl 0)))))))))=_ by kernel_rfl) ?_
 obtain ⟨pm,pt,ps,pc⟩:=hp
 have hl:=pc.1
 refine ⟨trivial,⟨0,⟨Nat.zero_le _,rfl⟩,by simp,by simp⟩,?_⟩
 rintro k ⟨hk,he⟩
 simp only [Int.toNat_natCast]
 have K:=pc.at k
 refine ⟨fun h=>?_,fun h=>?_⟩
 ·have hkl:k < s.cl.length:=by simpa using h
  have hg:=firstS_go (nr:=nearR) (m:=m) (t:=t) hkl
  refine ⟨⟨by omega,by omega⟩,fun _=>preR pm K pt.1,fun _=>sm_add pm.deep pt.2.1,fun _=>preR pm K pt.2.2,fun h=>?_,fun h=>?_⟩
  ·rw [bif_hit] at h
   have hh:hitB nearR m t (s.cl.getD k [])=true:=h
   rw [he,hg,hh]
   rfl
  ·rw [bif_hit] at h
   have hh:hitB nearR m t (s.cl.getD k [])=false:=h
   exact ⟨by unfold inR; omega,k+1,⟨hkl,by rw [he,hg,hh]; rfl⟩,by omega,by simp,by simp⟩
 ·have e:k=s.cl.length:=by
   have:=of_decide_eq_false h
   omega
  rw [he,e,List.drop_length]
  rfl
set_option maxHeartbeats 4000000 in
theorem cRclamp_ok:CtrOK Tryz.prog cRclamp:=.of (by kernel_rfl) (fun bs w xs vs pre r hr hA hG h hp=>by
 simp only [cRclamp] at h
 split at h
 ·rename_i m_ t_ s_
  split at h
  ·rename_i m t s em et es
   cases h
   obtain rfl:=rdM_eq em
   obtain rfl:=rdT_eq et
   obtain rfl:=rdS_eq es
   exact ctr_calls mixed LT3_ok FT2_ok Tryz.func8 (by kernel_rfl) hr hA hG rfl rfl (cRclamp_owes m t s hp)
  ·cases h
 ·cases h) (fun xs α pre φ r=>by simp only [cRclamp]; split <;> (try split) <;> (intro h; cases h))
def cPclamp:Ctr:=⟨7,fun | [.g m_,.g t_,.g s_]=>(match rdM m_,rdT t_,rdS s_ with | some m,some t,some s=>.yes (MoS m/\ToS t/\SeS s/\ClS s.cl) (.k (.c (.v (.int .i64 ((firstS nearP m t s.cl 0)))))) | _,_,_=>.no) | _=>.no⟩
set_option maxHeartbeats 4000000 in
theorem cPclamp_owes (m:Mo) (t:To) (s:Se) (hp:MoS m/\ToS t/\SeS s/\ClS s.cl):owes LT3 FT2 [.inv 3 (Nat) (fun ξ=>⟨[.u,.u,.u,.k (.c (.bx 0 0)),.k (.c (.bx 1 0)),.k (.c (.bx 2 0)),.u,.k (.c (.v (.int .i64 ((deepS m))))),.u,.u,.u,.u,.u,.k (.c (.pl 5 (s.cl))),.k (.c (.v (.int .i64 (((s.cl).length:Int))))),.k (.c (.v (.int .i64 ((ξ:Int))))),.u,.u,.u,.u,.u,.u,.u,.u,.u,.u,.u,.u,.u,.u,.u,.u,.u,.u,.u,.u,.u,.u,.u,.u,.u,.u,.u,.u,.u,.u,.u,.u,.u,.u,.u,.u,.u,.u,.u,.u,.u,.u,.u,.u,.u,.u,.u],[⟨30,[.v (.int .i64 (m.fx)),.v (.int .i64 (m.fy)),.v (.int .i64 (m.fz)),.v (.int .i64 (m.tx)),.v (.int .i64 (m.ty)),.v (.int .i64 (m.tz)),.v (.int .i64 (m.mr)),.v (.int .i64 (m.mt)),.v (.int .i64 (m.mb))]⟩,⟨26,[.v (.int .i64 (t.nu)),.v (.int .i64 (t.ki)),.v (.int .i64 (t.ra)),.v (.int .i64 (t.fl)),.v (.int .i64 (t.ho)),.v (.int .i64 (t.st)),.v (.int .i64 (t.fe)),.v (.int .i64 (t.pu))]⟩,⟨24,[.v (.int .i64 (s.x0)),.v (.int .i64 (s.y0)),.v (.int .i64 (s.x1)),.v (.int .i64 (s.y1)),.v (.int .i64 (s.th)),.v (.int .i64 (s.ga)),.pl 5 (s.cl),.v (.int .i64 (s.sf))]⟩]⟩) (fun _ ξ=>(ξ <= s.cl.length/\firstS nearP m t s.cl 0=firstS nearP m t (s.cl.drop ξ) ξ)) (fun ξ=>s.cl.length - ξ)] Tryz.f7 (Tryz.f7.body.getD .skip) [.g [.v (.int .i64 (m.fx)),.v (.int .i64 (m.fy)),.v (.int .i64 (m.fz)),.v (.int .i64 (m.tx)),.v (.int .i64 (m.ty)),.v (.int .i64 (m.tz)),.v (.int .i64 (m.mr)),.v (.int .i64 (m.mt)),.v (.int .i64 (m.mb))],.g [.v (.int .i64 (t.nu)),.v (.int .i64 (t.ki)),.v (.int .i64 (t.ra)),.v (.int .i64 (t.fl)),.v (.int .i64 (t.ho)),.v (.int .i64 (t.st)),.v (.int .i64 (t.fe)),.v (.int .i64 (t.pu))],.g [.v (.int .i64 (s.x0)),.v (.int .i64 (s.y0)),.v (.int .i64 (s.x1)),.v (.int .i64 (s.y1)),.v (.int .i64 (s.th)),.v (.int .i64 (s.ga)),.pl 5 (s.cl),.v (.int .i64 (s.sf))]] (.k (.c (.v (.int .i64 ((firstS nearP m t s.cl 0)))))):=by
 refine owes_of (show ((True)/\((∃ x1:Nat,((x1 <= s.cl.length/\firstS nearP m t s.cl 0=firstS nearP m t (s.cl.drop x1) x1)/\(((True)/\((True)/\((True)/\((Value.int .i64 (deepS m)=(.int .i64 (deepS m)))/\(((5=5)/\(s.cl=s.cl))/\((Value.int .i64 ((s.cl).length:Int)=(.int .i64 ((s.cl).length:Int)))/\((Value.int .i64 (0:Int)=(.int .i64 (x1:Int)))/\(True))))))))/\(((Value.int .i64 m.fx=(.int .i64 m.fx))/\((Value.int .i64 m.fy=(.int .i64 m.fy))/\((Value.int .i64 m.fz=(.int .i64 m.fz))/\((Value.int .i64 m.tx=(.int .i64 m.tx))/\((Value.int .i64 m.ty=(.int .i64 m.ty))/\((Value.int .i64 m.tz=(.int .i64 m.tz))/\((Value.int .i64 m.mr=(.int .i64 m.mr))/\((Value.int .i64 m.mt=(.int .i64 m.mt))/\((Value.int .i64 m.mb=(.int .i64 m.mb))/\(True))))))))))/\(((Value.int .i64 t.nu=(.int .i64 t.nu))/\((Value.int .i64 t.ki=(.int .i64 t.ki))/\((Value.int .i64 t.ra=(.int .i64 t.ra))/\((Value.int .i64 t.fl=(.int .i64 t.fl))/\((Value.int .i64 t.ho=(.int .i64 t.ho))/\((Value.int .i64 t.st=(.int .i64 t.st))/\((Value.int .i64 t.fe=(.int .i64 t.fe))/\((Value.int .i64 t.pu=(.int .i64 t.pu))/\(True)))))))))/\(((Value.int .i64 s.x0=(.int .i64 s.x0))/\((Value.int .i64 s.y0=(.int .i64 s.y0))/\((Value.int .i64 s.x1=(.int .i64 s.x1))/\((Value.int .i64 s.y1=(.int .i64 s.y1))/\((Value.int .i64 s.th=(.int .i64 s.th))/\((Value.int .i64 s.ga=(.int .i64 s.ga))/\((5=5)/\((s.cl=s.cl)/\((Value.int .i64 s.sf=(.int .i64 s.sf))/\(True))))))))))/\(True)))))))/\(∀ x1:Nat,((x1 <= s.cl.length/\firstS nearP m t s.cl 0=firstS nearP m t (s.cl.drop x1) x1)->(((decide ((x1:Int) < ((s.cl).length:Int)))=true->((0 <= (x1:Int)/\(x1:Int) < ((s.cl).length:Int))/\((((decide ((deepS m) < (((s.cl).getD (x1:Int).toNat []).getD 4 0))) == true)=true->(sm64 m.fx/\sm64 m.fy/\sm64 m.tx/\sm64 m.ty/\sm64 (((s.cl).getD (x1:Int).toNat []).getD 0 0)/\sm64 (((s.cl).getD (x1:Int).toNat []).getD 1 0)/\sm64 (((s.cl).getD (x1:Int).toNat []).getD 2 0)/\sm64 (((s.cl).getD (x1:Int).toNat []).getD 3 0)/\sm64 t.ra))/\((((bif (decide ((deepS m) < (((s.cl).getD (x1:Int).toNat []).getD 4 0))) then (nearB m.fx m.fy m.tx m.ty (((s.cl).getD (x1:Int).toNat []).getD 0 0) (((s.cl).getD (x1:Int).toNat []).getD 1 0) (((s.cl).getD (x1:Int).toNat []).getD 2 0) (((s.cl).getD (x1:Int).toNat []).getD 3 0) t.ra) else false) == false)=true->(inR .i64 ((deepS m)+t.fl)))/\(((((bif (decide ((deepS m) < (((s.cl).getD (x1:Int).toNat []).getD 4 0))) then (nearB m.fx m.fy m.tx m.ty (((s.cl).getD (x1:Int).toNat []).getD 0 0) (((s.cl).getD (x1:Int).toNat []).getD 1 0) (((s.cl).getD (x1:Int).toNat []).getD 2 0) (((s.cl).getD (x1:Int).toNat []).getD 3 0) t.ra) else false) == false) && ((decide (((deepS m)+t.fl) < (((s.cl).getD (x1:Int).toNat []).getD 4 0))) == true))=true->(sm64 m.fx/\sm64 m.fy/\sm64 m.tx/\sm64 m.ty/\sm64 (((s.cl).getD (x1:Int).toNat []).getD 0 0)/\sm64 (((s.cl).getD (x1:Int).toNat []).getD 1 0)/\sm64 (((s.cl).getD (x1:Int).toNat []).getD 2 0)/\sm64 (((s.cl).getD (x1:Int).toNat []).getD 3 0)/\sm64 t.ho))/\(((bif (bif (decide ((deepS m) < (((s.cl).getD (x1:Int).toNat []).getD 4 0))) then (nearB m.fx m.fy m.tx m.ty (((s.cl).getD (x1:Int).toNat []).getD 0 0) (((s.cl).getD (x1:Int).toNat []).getD 1 0) (((s.cl).getD (x1:Int).toNat []).getD 2 0) (((s.cl).getD (x1:Int).toNat []).getD 3 0) t.ra) else false) then true else (bif (decide (((deepS m)+t.fl) < (((s.cl).getD (x1:Int).toNat []).getD 4 0))) then (nearB m.fx m.fy m.tx m.ty (((s.cl).getD (x1:Int).toNat []).getD 0 0) (((s.cl).getD (x1:Int).toNat []).getD 1 0) (((s.cl).getD (x1:Int).toNat []).getD 2 0) (((s.cl).getD (x1:Int).toNat []).getD 3 0) t.ho) else false))=true->(Value.int .i64 (x1:Int)=(.int .i64 (firstS nearP m t s.cl 0))))/\((bif (bif (decide ((deepS m) < (((s.cl).getD (x1:Int).toNat []).getD 4 0))) then (nearB m.fx m.fy m.tx m.ty (((s.cl).getD (x1:Int).toNat []).getD 0 0) (((s.cl).getD (x1:Int).toNat []).getD 1 0) (((s.cl).getD (x1:Int).toNat []).getD 2 0) (((s.cl).getD (x1:Int).toNat []).getD 3 0) t.ra) else false) then true else (bif (decide (((deepS m)+t.fl) < (((s.cl).getD (x1:Int).toNat []).getD 4 0))) then (nearB m.fx m.fy m.tx m.ty (((s.cl).getD (x1:Int).toNat []).getD 0 0) (((s.cl).getD (x1:Int).toNat []).getD 1 0) (((s.cl).getD (x1:Int).toNat []).getD 2 0) (((s.cl).getD (x1:Int).toNat []).getD 3 0) t.ho) else false))=false->((inR .i64 ((x1:Int)+(1:Int)))/\(∃ y1:Nat,((y1 <= s.cl.length/\firstS nearP m t s.cl 0=firstS nearP m t (s.cl.drop y1) y1)/\((s.cl.length - y1 < s.cl.length - x1)/\(((True)/\((True)/\((True)/\((Value.int .i64 (deepS m)=(.int .i64 (deepS m)))/\(((5=5)/\(s.cl=s.cl))/\((Value.int .i64 ((s.cl).length:Int)=(.int .i64 ((s.cl).length:Int)))/\((Value.int .i64 ((x1:Int)+(1:Int))=(.int .i64 (y1:Int)))/\(True))))))))/\(((Value.int .i64 m.fx=(.int .i64 m.fx))/\((Value.int .i64 m.fy=(.int .i64 m.fy))/\((Value.int .i64 m.fz=(.int .i64 m.fz))/\((Value.int .i64 m.tx=(.int .i64 m.tx))/\((Value.int .i64 m.ty=(.int .i64 m.ty))/\((Value.int .i64 m.tz=(.int .i64 m.tz))/\((Value.int .i64 m.mr=(.int .i64 m.mr))/\((Value.int .i64 m.mt=(.int .i64 m.mt))/\((Value.int .i64 m.mb=(.int .i64 m.mb))/\(True))))))))))/\(((Value.int .i64 t.nu=(.int .i64 t.nu))/\((Value.int .i64 t.ki=(.int .i64 t.ki))/\((Value.int .i64 t.ra=(.int .i64 t.ra))/\((Value.int .i64 t.fl=(.int .i64 t.fl))/\((Value.int .i64 t.ho=(.int .i64 t.ho))/\((Value.int .i64 t.st=(.int .i64 t.st))/\((Value.int .i64 t.fe=(.int .i64 t.fe))/\((Value.int .i64 t.pu=(.int .i64 t.pu))/\(True)))))))))/\(((Value.int .i64 s.x0=(.int .i64 s.x0))/\((Value.int .i64 s.y0=(.int .i64 s.y0))/\((Value.int .i64 s.x1=(.int .i64 s.x1))/\((Value.int .i64 s.y1=(.int .i64 s.y1))/\((Value.int .i64 s.th=(.int .i64 s.th))/\((Value.int .i64 s.ga=(.int .i64 s.ga))/\((5=5)/\((s.cl=s.cl)/\((Value.int .i64 s.sf=(.int .i64 s.sf))/\(True))))))))))/\(True))))))))))))))))/\((decide ((x1:Int) < ((s.cl).length:Int)))=false->(Value.int .i64 (-1:Int)=(.int .i64 (firstS nearP m t s.cl 0)))))))))=_ by kernel_rfl) ?_
 obtain ⟨pm,pt,ps,pc⟩:=hp
 have hl:=pc.1
 refine ⟨trivial,⟨0,⟨Nat.zero_le _,rfl⟩,by simp,by simp⟩,?_⟩
 rintro k ⟨hk,he⟩
 simp only [Int.toNat_natCast]
 have K:=pc.at k
 refine ⟨fun h=>?_,fun h=>?_⟩
 ·have hkl:k < s.cl.length:=by simpa using h
  have hg:=firstS_go (nr:=nearP) (m:=m) (t:=t) hkl
  refine ⟨⟨by omega,by omega⟩,fun _=>preP pm K pt.1,fun _=>sm_add pm.deep pt.2.1,fun _=>preP pm K pt.2.2,fun h=>?_,fun h=>?_⟩
  ·rw [bif_hit] at h
   have hh:hitB nearP m t (s.cl.getD k [])=true:=h
   rw [he,hg,hh]
   rfl
  ·rw [bif_hit] at h
   have hh:hitB nearP m t (s.cl.getD k [])=false:=h
   exact ⟨by unfold inR; omega,k+1,⟨hkl,by rw [he,hg,hh]; rfl⟩,by omega,by simp,by simp⟩
 ·have e:k=s.cl.length:=by
   have:=of_decide_eq_false h
   omega
  rw [he,e,List.drop_length]
  rfl
set_option maxHeartbeats 4000000 in
theorem cPclamp_ok:CtrOK Tryz.prog cPclamp:=.of (by kernel_rfl) (fun bs w xs vs pre r hr hA hG h hp=>by
 simp only [cPclamp] at h
 split at h
 ·rename_i m_ t_ s_
  split at h
  ·rename_i m t s em et es
   cases h
   obtain rfl:=rdM_eq em
   obtain rfl:=rdT_eq et
   obtain rfl:=rdS_eq es
   exact ctr_calls mixed LT3_ok FT2_ok Tryz.func7 (by kernel_rfl) hr hA hG rfl rfl (cPclamp_owes m t s hp)
  ·cases h
 ·cases h) (fun xs α pre φ r=>by simp only [cPclamp]; split <;> (try split) <;> (intro h; cases h))
def cRvalid:Ctr:=⟨35,fun | [.g s_]=>(match rdS s_ with | some s=>.yes (s.cl.length <= 4) (.k (.c (.v (.int .i64 ((errS (validS s))))))) | _=>.no) | _=>.no⟩
set_option maxHeartbeats 4000000 in
theorem cRvalid_owes (s:Se) (hp:s.cl.length <= 4):owes LT3 FT2 [.inv 3 (Nat × Bool) (fun ξ=>⟨[.u,.k (.c (.bx 0 0)),.u,.k (.c (.v (.bool (ξ.2)))),.k (.c (.v (.int .i64 ((ξ.1:Int))))),.u,.u,.u,.u,.u,.u,.u,.u,.u,.u,.u,.u,.u,.u,.u,.u,.u,.u,.u,.u,.u,.u,.u,.u,.u,.u,.u,.u,.u,.u,.u,.u,.u,.u,.u,.u,.u,.u,.u,.u,.u,.u,.u,.u,.u,.u,.u,.u,.u,.u,.u,.u,.u,.u,.u,.u,.u,.u,.u,.u,.u,.u,.u,.u,.u,.u,.u,.u,.u,.u,.u,.u,.u,.u,.u],[⟨24,[.v (.int .i64 (s.x0)),.v (.int .i64 (s.y0)),.v (.int .i64 (s.x1)),.v (.int .i64 (s.y1)),.v (.int .i64 (s.th)),.v (.int .i64 (s.ga)),.pl 5 (s.cl),.v (.int .i64 (s.sf))]⟩]⟩) (fun _ ξ=>(ξ.1 <= s.cl.length/\validS s=(ξ.2 && (s.cl.drop ξ.1).all (clampB s))/\(ξ.2=true->baseB s=true))) (fun ξ=>s.cl.length - ξ.1)] Tryz.f35 (Tryz.f35.body.getD .skip) [.g [.v (.int .i64 (s.x0)),.v (.int .i64 (s.y0)),.v (.int .i64 (s.x1)),.v (.int .i64 (s.y1)),.v (.int .i64 (s.th)),.v (.int .i64 (s.ga)),.pl 5 (s.cl),.v (.int .i64 (s.sf))]] (.k (.c (.v (.int .i64 ((errS (validS s))))))):=by
 refine owes_of (show ((True)/\((((rectB s.x0 s.y0 s.x1 s.y1) == true)=true->(True))/\((((bif (rectB s.x0 s.y0 s.x1 s.y1) then (lenB s.th (1:Int)) else false) == true)=true->(True))/\((((bif (bif (bif (rectB s.x0 s.y0 s.x1 s.y1) then (lenB s.th (1:Int)) else false) then (lenB s.ga (0:Int)) else false) then (decide (((s.cl).length:Int) <= (50:Int))) else false) == true)=true->(True))/\((∃ x1:Nat × Bool,((x1.1 <= s.cl.length/\validS s=(x1.2 && (s.cl.drop x1.1).all (clampB s))/\(x1.2=true->baseB s=true))/\(((True)/\((Value.bool (bif (bif (bif (bif (rectB s.x0 s.y0 s.x1 s.y1) then (lenB s.th (1:Int)) else false) then (lenB s.ga (0:Int)) else false) then (decide (((s.cl).length:Int) <= (50:Int))) else false) then (lenB s.sf (1:Int)) else false)=(.bool x1.2))/\((Value.int .i64 (0:Int)=(.int .i64 (x1.1:Int)))/\(True))))/\(((Value.int .i64 s.x0=(.int .i64 s.x0))/\((Value.int .i64 s.y0=(.int .i64 s.y0))/\((Value.int .i64 s.x1=(.int .i64 s.x1))/\((Value.int .i64 s.y1=(.int .i64 s.y1))/\((Value.int .i64 s.th=(.int .i64 s.th))/\((Value.int .i64 s.ga=(.int .i64 s.ga))/\((5=5)/\((s.cl=s.cl)/\((Value.int .i64 s.sf=(.int .i64 s.sf))/\(True))))))))))/\(True)))))/\(∀ x1:Nat × Bool,((x1.1 <= s.cl.length/\validS s=(x1.2 && (s.cl.drop x1.1).all (clampB s))/\(x1.2=true->baseB s=true))->(((bif (decide ((x1.1:Int) < ((s.cl).length:Int))) then x1.2 else false)=true->((0 <= (x1.1:Int)/\(x1.1:Int) < ((s.cl).length:Int))/\((True)/\((((rectB (((s.cl).getD (x1.1:Int).toNat []).getD 0 0) (((s.cl).getD (x1.1:Int).toNat []).getD 1 0) (((s.cl).getD (x1.1:Int).toNat []).getD 2 0) (((s.cl).getD (x1.1:Int).toNat []).getD 3 0)) == true)=true->(inR .i64 ((0:Int) - s.th)))/\((((rectB (((s.cl).getD (x1.1:Int).toNat []).getD 0 0) (((s.cl).getD (x1.1:Int).toNat []).getD 1 0) (((s.cl).getD (x1.1:Int).toNat []).getD 2 0) (((s.cl).getD (x1.1:Int).toNat []).getD 3 0)) == true)=true->(inR .i64 (((0:Int) - s.th) - s.ga)))/\((((rectB (((s.cl).getD (x1.1:Int).toNat []).getD 0 0) (((s.cl).getD (x1.1:Int).toNat []).getD 1 0) (((s.cl).getD (x1.1:Int).toNat []).getD 2 0) (((s.cl).getD (x1.1:Int).toNat []).getD 3 0)) == true)=true->(True))/\((inR .i64 ((x1.1:Int)+(1:Int)))/\(∃ y1:Nat × Bool,((y1.1 <= s.cl.length/\validS s=(y1.2 && (s.cl.drop y1.1).all (clampB s))/\(y1.2=true->baseB s=true))/\((s.cl.length - y1.1 < s.cl.length - x1.1)/\(((True)/\((Value.bool (bif (bif (rectB (((s.cl).getD (x1.1:Int).toNat []).getD 0 0) (((s.cl).getD (x1.1:Int).toNat []).getD 1 0) (((s.cl).getD (x1.1:Int).toNat []).getD 2 0) (((s.cl).getD (x1.1:Int).toNat []).getD 3 0)) then (lenB (((s.cl).getD (x1.1:Int).toNat []).getD 4 0) (((0:Int) - s.th) - s.ga)) else false) then (decide ((((s.cl).getD (x1.1:Int).toNat []).getD 4 0) < s.sf)) else false)=(.bool y1.2))/\((Value.int .i64 ((x1.1:Int)+(1:Int))=(.int .i64 (y1.1:Int)))/\(True))))/\(((Value.int .i64 s.x0=(.int .i64 s.x0))/\((Value.int .i64 s.y0=(.int .i64 s.y0))/\((Value.int .i64 s.x1=(.int .i64 s.x1))/\((Value.int .i64 s.y1=(.int .i64 s.y1))/\((Value.int .i64 s.th=(.int .i64 s.th))/\((Value.int .i64 s.ga=(.int .i64 s.ga))/\((5=5)/\((s.cl=s.cl)/\((Value.int .i64 s.sf=(.int .i64 s.sf))/\(True))))))))))/\(True)))))))))))))/\((bif (decide ((x1.1:Int) < ((s.cl).length:Int))) then x1.2 else false)=false->(((!(x1.2))=true->(Value.int .i64 (1:Int)=(.int .i64 (errS (validS s)))))/\((!(x1.2))=false->(Value.int .i64 (0:Int)=(.int .i64 (errS (validS s)))))))))))))))=_ by kernel_rfl) ?_
 refine ⟨trivial,fun _=>trivial,fun _=>trivial,fun _=>trivial,⟨(0,baseB s),⟨Nat.zero_le _,rfl,fun h=>h⟩,⟨trivial,?_,by simp,trivial⟩,by simp⟩,?_⟩
 ·rw [bif_5]
  have:decide (((s.cl.length:Nat):Int) <= 50)=decide (s.cl.length <= 50):=decide_eq_decide.2 (by omega)
  rw [this]
  rfl
 ·rintro ⟨k,b⟩ ⟨hk,he,hb⟩
  simp only at hk he hb
  simp only [Int.toNat_natCast]
  refine ⟨fun h=>?_,fun h=>?_⟩
  ·obtain ⟨h1,rfl⟩:k < s.cl.length/\b=true:=by simpa using h
   have hB:=baseB_spec (hb rfl)
   have ha:=all_go (f:=clampB s) h1
   refine ⟨⟨by omega,by omega⟩,trivial,fun _=>by unfold inR; omega,fun _=>by unfold inR; omega,fun _=>trivial,by unfold inR; omega,(k+1,clampB s (s.cl.getD k [])),⟨h1,?_,fun _=>hb rfl⟩,by simp only; omega,⟨trivial,?_,by simp,trivial⟩,by simp⟩
   ·rw [he,ha,Bool.true_and]
   ·rw [bif_3]
    rfl
  ·refine ⟨fun hb'=>?_,fun hb'=>?_⟩
   ·obtain rfl:b=false:=by simpa using hb'
    rw [he]
    rfl
   ·obtain rfl:b=true:=by simpa using hb'
    have e:k=s.cl.length:=by
     have:¬ k < s.cl.length:=by simpa using h
     omega
    rw [he,e,List.drop_length]
    rfl
set_option maxHeartbeats 4000000 in
theorem cRvalid_ok:CtrOK Tryz.prog cRvalid:=.of (by kernel_rfl) (fun bs w xs vs pre r hr hA hG h hp=>by
 simp only [cRvalid] at h
 split at h
 ·rename_i s_
  split at h
  ·rename_i s es
   cases h
   obtain rfl:=rdS_eq es
   exact ctr_calls mixed LT3_ok FT2_ok Tryz.func35 (by kernel_rfl) hr hA hG rfl rfl (cRvalid_owes s hp)
  ·cases h
 ·cases h) (fun xs α pre φ r=>by simp only [cRvalid]; split <;> (try split) <;> (intro h; cases h))
def cPstand:Ctr:=⟨13,fun | [.g m_,.g t_,.g s_]=>(match rdM m_,rdT t_,rdS s_ with | some m,some t,some s=>.yes (MoS m/\ToS t/\SeS s) (.k (.c (.v (.bool ((standS (nearP m s.x0 s.y0 s.x1 s.y1 t.ra) m)))))) | _,_,_=>.no) | _=>.no⟩
set_option maxHeartbeats 4000000 in
theorem cPstand_owes (m:Mo) (t:To) (s:Se) (hp:MoS m/\ToS t/\SeS s):owes LT3 FT2 [] Tryz.f13 (Tryz.f13.body.getD .skip) [.g [.v (.int .i64 (m.fx)),.v (.int .i64 (m.fy)),.v (.int .i64 (m.fz)),.v (.int .i64 (m.tx)),.v (.int .i64 (m.ty)),.v (.int .i64 (m.tz)),.v (.int .i64 (m.mr)),.v (.int .i64 (m.mt)),.v (.int .i64 (m.mb))],.g [.v (.int .i64 (t.nu)),.v (.int .i64 (t.ki)),.v (.int .i64 (t.ra)),.v (.int .i64 (t.fl)),.v (.int .i64 (t.ho)),.v (.int .i64 (t.st)),.v (.int .i64 (t.fe)),.v (.int .i64 (t.pu))],.g [.v (.int .i64 (s.x0)),.v (.int .i64 (s.y0)),.v (.int .i64 (s.x1)),.v (.int .i64 (s.y1)),.v (.int .i64 (s.th)),.v (.int .i64 (s.ga)),.pl 5 (s.cl),.v (.int .i64 (s.sf))]] (.k (.c (.v (.bool ((standS (nearP m s.x0 s.y0 s.x1 s.y1 t.ra) m)))))):=by
 refine owes_of (show ((((m.mr == (0:Int)) == true)=true->(True))/\((((bif (bif (m.mr == (0:Int)) then (decide ((deepS m) < (0:Int))) else false) then (!(bif (bif (m.fx == m.tx) then (m.fy == m.ty) else false) then (decide (m.tz >= m.fz)) else false)) else false) == true)=true->(MoS m/\SeS s/\sm64 t.ra))/\(Value.bool (bif (bif (bif (m.mr == (0:Int)) then (decide ((deepS m) < (0:Int))) else false) then (!(bif (bif (m.fx == m.tx) then (m.fy == m.ty) else false) then (decide (m.tz >= m.fz)) else false)) else false) then (nearP m s.x0 s.y0 s.x1 s.y1 t.ra) else false)=(.bool (standS (nearP m s.x0 s.y0 s.x1 s.y1 t.ra) m)))))=_ by kernel_rfl) ?_
 refine ⟨fun _=>trivial,fun _=>⟨hp.1,hp.2.2,hp.2.1.1⟩,?_⟩
 unfold standS
 by_cases a:m.mr=0 <;> by_cases b:deepS m < 0 <;> by_cases c:m.fx=m.tx <;> by_cases c':m.fy=m.ty <;> by_cases d:m.fz <= m.tz <;> simp [a,b,c,c',d]
set_option maxHeartbeats 4000000 in
theorem cPstand_ok:CtrOK Tryz.prog cPstand:=.of (by kernel_rfl) (fun bs w xs vs pre r hr hA hG h hp=>by
 simp only [cPstand] at h
 split at h
 ·rename_i m_ t_ s_
  split at h
  ·rename_i m t s em et es
   cases h
   obtain rfl:=rdM_eq em
   obtain rfl:=rdT_eq et
   obtain rfl:=rdS_eq es
   exact ctr_calls mixed LT3_ok FT2_ok Tryz.func13 (by kernel_rfl) hr hA hG rfl rfl (cPstand_owes m t s hp)
  ·cases h
 ·cases h) (fun xs α pre φ r=>by simp only [cPstand]; split <;> (try split) <;> (intro h; cases h))
def cPhold:Ctr:=⟨15,fun | [.g m_,.g t_,.g s_]=>(match rdM m_,rdT t_,rdS s_ with | some m,some t,some s=>.yes (MoS m/\ToS t/\SeS s) (.k (.c (.v (.bool ((decide (deepS m+t.fl < 0) && nearP m s.x0 s.y0 s.x1 s.y1 t.ho)))))) | _,_,_=>.no) | _=>.no⟩
set_option maxHeartbeats 4000000 in
theorem cPhold_owes (m:Mo) (t:To) (s:Se) (hp:MoS m/\ToS t/\SeS s):owes LT3 FT2 [] Tryz.f15 (Tryz.f15.body.getD .skip) [.g [.v (.int .i64 (m.fx)),.v (.int .i64 (m.fy)),.v (.int .i64 (m.fz)),.v (.int .i64 (m.tx)),.v (.int .i64 (m.ty)),.v (.int .i64 (m.tz)),.v (.int .i64 (m.mr)),.v (.int .i64 (m.mt)),.v (.int .i64 (m.mb))],.g [.v (.int .i64 (t.nu)),.v (.int .i64 (t.ki)),.v (.int .i64 (t.ra)),.v (.int .i64 (t.fl)),.v (.int .i64 (t.ho)),.v (.int .i64 (t.st)),.v (.int .i64 (t.fe)),.v (.int .i64 (t.pu))],.g [.v (.int .i64 (s.x0)),.v (.int .i64 (s.y0)),.v (.int .i64 (s.x1)),.v (.int .i64 (s.y1)),.v (.int .i64 (s.th)),.v (.int .i64 (s.ga)),.pl 5 (s.cl),.v (.int .i64 (s.sf))]] (.k (.c (.v (.bool ((decide (deepS m+t.fl < 0) && nearP m s.x0 s.y0 s.x1 s.y1 t.ho)))))):=by
 refine owes_of (show ((True)/\((inR .i64 ((deepS m)+t.fl))/\((((decide (((deepS m)+t.fl) < (0:Int))) == true)=true->(MoS m/\SeS s/\sm64 t.ho))/\(Value.bool (bif (decide (((deepS m)+t.fl) < (0:Int))) then (nearP m s.x0 s.y0 s.x1 s.y1 t.ho) else false)=(.bool (decide (deepS m+t.fl < 0) && nearP m s.x0 s.y0 s.x1 s.y1 t.ho))))))=_ by kernel_rfl) ?_
 refine ⟨trivial,sm_add hp.1.deep hp.2.1.2.1,fun _=>⟨hp.1,hp.2.2,hp.2.1.2.2⟩,?_⟩
 by_cases b:deepS m+t.fl < 0 <;> simp [b]
set_option maxHeartbeats 4000000 in
theorem cPhold_ok:CtrOK Tryz.prog cPhold:=.of (by kernel_rfl) (fun bs w xs vs pre r hr hA hG h hp=>by
 simp only [cPhold] at h
 split at h
 ·rename_i m_ t_ s_
  split at h
  ·rename_i m t s em et es
   cases h
   obtain rfl:=rdM_eq em
   obtain rfl:=rdT_eq et
   obtain rfl:=rdS_eq es
   exact ctr_calls mixed LT3_ok FT2_ok Tryz.func15 (by kernel_rfl) hr hA hG rfl rfl (cPhold_owes m t s hp)
  ·cases h
 ·cases h) (fun xs α pre φ r=>by simp only [cPhold]; split <;> (try split) <;> (intro h; cases h))
def cRtool:Ctr:=⟨22,fun | [.g t_]=>(match rdT t_ with | some t=>.yes (True) (.k (.c (.v (.int .i64 ((errS (goodB t))))))) | _=>.no) | _=>.no⟩
set_option maxHeartbeats 4000000 in
theorem cRtool_owes (t:To):owes LT3 FT2 [] Tryz.f22 (Tryz.f22.body.getD .skip) [.g [.v (.int .i64 (t.nu)),.v (.int .i64 (t.ki)),.v (.int .i64 (t.ra)),.v (.int .i64 (t.fl)),.v (.int .i64 (t.ho)),.v (.int .i64 (t.st)),.v (.int .i64 (t.fe)),.v (.int .i64 (t.pu))]] (.k (.c (.v (.int .i64 ((errS (goodB t))))))):=by
 refine owes_of (show ((True)/\(((!(goodB t))=true->(Value.int .i64 (1:Int)=(.int .i64 (errS (goodB t)))))/\((!(goodB t))=false->(Value.int .i64 (0:Int)=(.int .i64 (errS (goodB t)))))))=_ by kernel_rfl) ?_
 refine ⟨trivial,fun h=>?_,fun h=>?_⟩
 ·have:goodB t=false:=by simpa using h
  rw [this]
  rfl
 ·have:goodB t=true:=by simpa using h
  rw [this]
  rfl
set_option maxHeartbeats 4000000 in
theorem cRtool_ok:CtrOK Tryz.prog cRtool:=.of (by kernel_rfl) (fun bs w xs vs pre r hr hA hG h hp=>by
 simp only [cRtool] at h
 split at h
 ·rename_i t_
  split at h
  ·rename_i t et
   cases h
   obtain rfl:=rdT_eq et
   exact ctr_calls mixed LT3_ok FT2_ok Tryz.func22 (by kernel_rfl) hr hA hG rfl rfl (cRtool_owes t)
  ·cases h
 ·cases h) (fun xs α pre φ r=>by simp only [cRtool]; split <;> (try split) <;> (intro h; cases h))
def FT3:List Ctr:=FT2 ++ [cRclamp,cPclamp,cRvalid,cPstand,cPhold,cRtool]
theorem FT3_ok:∀ c ∈ FT3,CtrOK Tryz.prog c:=ok_app FT2_ok (by
 intro c hc
 simp only [List.mem_cons,List.not_mem_nil,or_false] at hc
 rcases hc with rfl | rfl | rfl | rfl | rfl | rfl
 ·exact cRclamp_ok
 ·exact cPclamp_ok
 ·exact cRvalid_ok
 ·exact cPstand_ok
 ·exact cPhold_ok
 ·exact cRtool_ok)
end Vc
end Go.Proofs.YtocpaddakdcofaaGreat
namespace Go.Proofs.YtocpaddakdcofaaGreat
open Go.RowKit
namespace Zc
inductive D8
 | d0 | d1 | d2 | d3 | d4 | d5 | d6 | d7
structure N8 (α:Type) where
 (a0 a1 a2 a3 a4 a5 a6 a7:α)
def D8.no:D8->Nat
 | .d0=>0
 | .d1=>1
 | .d2=>2
 | .d3=>3
 | .d4=>4
 | .d5=>5
 | .d6=>6
 | .d7=>7
noncomputable def D8.of (n:Nat):D8:=Nat.rec (motive:=fun _=>D8) .d0 (fun n _=>Nat.rec (motive:=fun _=>D8) .d1 (fun n _=>Nat.rec (motive:=fun _=>D8) .d2 (fun n _=>Nat.rec (motive:=fun _=>D8) .d3 (fun n _=>Nat.rec (motive:=fun _=>D8) .d4 (fun n _=>Nat.rec (motive:=fun _=>D8) .d5 (fun n _=>Nat.rec (motive:=fun _=>D8) .d6 (fun n _=>Nat.rec (motive:=fun _=>D8) .d7 (fun _ _=>.d0) n) n) n) n) n) n) n) n
theorem D8.no_of:∀ i,i < 8->(D8.of i).no=i
 | 0,_=>rfl
 | 1,_=>rfl
 | 2,_=>rfl
 | 3,_=>rfl
 | 4,_=>rfl
 | 5,_=>rfl
 | 6,_=>rfl
 | 7,_=>rfl
 | n+8,h=>absurd h (by omega)
section
variable {α:Type}
noncomputable def N8.sel (d:D8) (t:N8 α):α:=D8.rec (motive:=fun _=>N8 α->α) (fun t=>t.a0) (fun t=>t.a1) (fun t=>t.a2) (fun t=>t.a3) (fun t=>t.a4) (fun t=>t.a5) (fun t=>t.a6) (fun t=>t.a7) d t
noncomputable def N8.upd (d:D8) (x:α) (t:N8 α):N8 α:=D8.rec (motive:=fun _=>α->N8 α->N8 α) (fun x t=>N8.rec (motive:=fun _=>α->N8 α) (fun _ a1 a2 a3 a4 a5 a6 a7 x=>⟨x,a1,a2,a3,a4,a5,a6,a7⟩) t x)
 (fun x t=>N8.rec (motive:=fun _=>α->N8 α) (fun a0 _ a2 a3 a4 a5 a6 a7 x=>⟨a0,x,a2,a3,a4,a5,a6,a7⟩) t x)
 (fun x t=>N8.rec (motive:=fun _=>α->N8 α) (fun a0 a1 _ a3 a4 a5 a6 a7 x=>⟨a0,a1,x,a3,a4,a5,a6,a7⟩) t x)
 (fun x t=>N8.rec (motive:=fun _=>α->N8 α) (fun a0 a1 a2 _ a4 a5 a6 a7 x=>⟨a0,a1,a2,x,a4,a5,a6,a7⟩) t x)
 (fun x t=>N8.rec (motive:=fun _=>α->N8 α) (fun a0 a1 a2 a3 _ a5 a6 a7 x=>⟨a0,a1,a2,a3,x,a5,a6,a7⟩) t x)
 (fun x t=>N8.rec (motive:=fun _=>α->N8 α) (fun a0 a1 a2 a3 a4 _ a6 a7 x=>⟨a0,a1,a2,a3,a4,x,a6,a7⟩) t x)
 (fun x t=>N8.rec (motive:=fun _=>α->N8 α) (fun a0 a1 a2 a3 a4 a5 _ a7 x=>⟨a0,a1,a2,a3,a4,a5,x,a7⟩) t x)
 (fun x t=>N8.rec (motive:=fun _=>α->N8 α) (fun a0 a1 a2 a3 a4 a5 a6 _ x=>⟨a0,a1,a2,a3,a4,a5,a6,x⟩) t x) d x t
def N8.all (x:α):N8 α:=⟨x,x,x,x,x,x,x,x⟩
theorem N8.sel_upd (d:D8) (x:α) (t:N8 α):(t.upd d x).sel d=x:=by cases t; cases d <;> rfl
theorem N8.sel_upd_ne {d e:D8} (h:e ≠ d) (x:α) (t:N8 α):(t.upd d x).sel e=t.sel e:=by
 cases t
 cases d <;> cases e <;> first | rfl | exact absurd rfl h
theorem N8.sel_all (d:D8) (x:α):(N8.all x).sel d=x:=by cases d <;> rfl
inductive P3
 | out
 | go (a b c:D8)
noncomputable def pt3 (i:Nat):P3:=bif Nat.ble 512 i then .out else .go (D8.of (Nat.div i 64)) (D8.of (Nat.mod (Nat.div i 8) 8)) (D8.of (Nat.mod i 8))
theorem pt3_inj {i j:Nat} {a b c:D8} (h:pt3 i=.go a b c) (k:pt3 j=.go a b c):i=j:=by
 have key:∀ n,pt3 n=.go a b c->n=a.no*64+b.no*8+c.no:=fun n h=>by
  unfold pt3 at h
  cases hn:Nat.ble 512 n with
  | true=>rw [hn] at h; cases h
  | false =>
    rw [hn] at h
    have hlt:n < 512:=by
     rcases Nat.lt_or_ge n 512 with q | q
     ·exact q
     ·rw [Nat.ble_eq_true_of_le q] at hn; cases hn
    simp only [cond_false,P3.go.injEq] at h
    obtain ⟨rfl,rfl,rfl⟩:=h
    have e1:=D8.no_of (Nat.div n 64) (by show n / 64 < 8; omega)
    have e2:=D8.no_of (Nat.mod (Nat.div n 8) 8) (by show n / 8 % 8 < 8; omega)
    have e3:=D8.no_of (Nat.mod n 8) (by show n % 8 < 8; omega)
    rw [e1,e2,e3]
    show n=n / 64*64+n / 8 % 8*8+n % 8
    omega
 rw [key i h,key j k]
abbrev Fr (α:Type):=N8 (N8 (N8 (Option α)))
noncomputable def Fr.get (t:Fr α) (i:Nat):Option α:=P3.rec (motive:=fun _=>Fr α->Option α) (fun _=>none) (fun a b c t=>N8.sel c (N8.sel b (N8.sel a t))) (pt3 i) t
noncomputable def Fr.put (t:Fr α) (i:Nat) (x:Option α):Fr α:=P3.rec (motive:=fun _=>Option α->Fr α->Fr α) (fun _ t=>t) (fun a b c x t=>N8.upd a (N8.upd b (N8.upd c x (N8.sel b (N8.sel a t))) (N8.sel a t)) t) (pt3 i) x t
def Fr.mk0:Fr α:=N8.all (N8.all (N8.all none))
theorem Fr.put_ne (t:Fr α) (i j:Nat) (x:Option α) (h:j ≠ i):(Fr.put t i x).get j=t.get j:=by
 unfold Fr.get Fr.put
 cases hi:pt3 i with
 | out=>rfl
 | go a b c =>
   cases hj:pt3 j with
   | out=>rfl
   | go a' b' c' =>
     show N8.sel c' (N8.sel b' (N8.sel a' (N8.upd a _ t)))=N8.sel c' (N8.sel b' (N8.sel a' t))
     by_cases ea:a'=a
     ·subst ea
      rw [N8.sel_upd]
      by_cases eb:b'=b
      ·subst eb
       rw [N8.sel_upd]
       by_cases ec:c'=c
       ·subst ec
        exact absurd (pt3_inj hj hi) h
       ·rw [N8.sel_upd_ne ec]
      ·rw [N8.sel_upd_ne eb]
     ·rw [N8.sel_upd_ne ea]
theorem Fr.put_eq (t:Fr α) (i:Nat) (x:Option α) (y:α) (h:(Fr.put t i x).get i=some y):x=some y:=by
 unfold Fr.get Fr.put at h
 cases hi:pt3 i with
 | out=>rw [hi] at h; cases h
 | go a b c =>
   rw [hi] at h
   have h':N8.sel c (N8.sel b (N8.sel a (N8.upd a (N8.upd b (N8.upd c x (N8.sel b (N8.sel a t))) (N8.sel a t)) t)))=some y:=h
   rwa [N8.sel_upd,N8.sel_upd,N8.sel_upd] at h'
theorem Fr.mk_none (i:Nat):(Fr.mk0:Fr α).get i=none:=by
 unfold Fr.get
 cases hi:pt3 i with
 | out=>rfl
 | go a b c =>
   show N8.sel c (N8.sel b (N8.sel a (Fr.mk0:Fr α)))=none
   unfold Fr.mk0
   rw [N8.sel_all,N8.sel_all,N8.sel_all]
inductive P2
 | out
 | go (a b:D8)
noncomputable def pt2 (i:Nat):P2:=bif Nat.ble 32768 i then .out else .go (D8.of (Nat.div i 4096)) (D8.of (Nat.mod (Nat.div i 512) 8))
theorem pt2_inj {i j:Nat} {a b:D8} (h:pt2 i=.go a b) (k:pt2 j=.go a b) (e:Nat.mod i 512=Nat.mod j 512):i=j:=by
 have key:∀ n,pt2 n=.go a b->n=a.no*4096+b.no*512+Nat.mod n 512:=fun n h=>by
  unfold pt2 at h
  cases hn:Nat.ble 32768 n with
  | true=>rw [hn] at h; cases h
  | false =>
    rw [hn] at h
    have hlt:n < 32768:=by
     rcases Nat.lt_or_ge n 32768 with q | q
     ·exact q
     ·rw [Nat.ble_eq_true_of_le q] at hn; cases hn
    simp only [cond_false,P2.go.injEq] at h
    obtain ⟨rfl,rfl⟩:=h
    have e1:=D8.no_of (Nat.div n 4096) (by show n / 4096 < 8; omega)
    have e2:=D8.no_of (Nat.mod (Nat.div n 512) 8) (by show n / 512 % 8 < 8; omega)
    rw [e1,e2]
    show n=n / 4096*4096+n / 512 % 8*512+n % 512
    omega
 rw [key i h,key j k,e]
abbrev Hp (α:Type):=N8 (N8 (Fr α))
noncomputable def Hp.get (t:Hp α) (i:Nat):Option α:=P2.rec (motive:=fun _=>Nat->Hp α->Option α) (fun _ _=>none) (fun a b j t=>Fr.get (N8.sel b (N8.sel a t)) j) (pt2 i) (Nat.mod i 512) t
noncomputable def Hp.put (t:Hp α) (i:Nat) (x:Option α):Hp α:=P2.rec (motive:=fun _=>Nat->Option α->Hp α->Hp α) (fun _ _ t=>t) (fun a b j x t=>N8.upd a (N8.upd b (Fr.put (N8.sel b (N8.sel a t)) j x) (N8.sel a t)) t) (pt2 i) (Nat.mod i 512) x t
def Hp.mk0:Hp α:=N8.all (N8.all Fr.mk0)
theorem Hp.put_ne (t:Hp α) (i j:Nat) (x:Option α) (h:j ≠ i):(Hp.put t i x).get j=t.get j:=by
 unfold Hp.get Hp.put
 cases hi:pt2 i with
 | out=>rfl
 | go a b =>
   cases hj:pt2 j with
   | out=>rfl
   | go a' b' =>
     show Fr.get (N8.sel b' (N8.sel a' (N8.upd a (N8.upd b (Fr.put (N8.sel b (N8.sel a t)) (Nat.mod i 512) x) (N8.sel a t)) t))) (Nat.mod j 512)=Fr.get (N8.sel b' (N8.sel a' t)) (Nat.mod j 512)
     by_cases ea:a'=a
     ·subst ea
      rw [N8.sel_upd]
      by_cases eb:b'=b
      ·subst eb
       rw [N8.sel_upd]
       exact Fr.put_ne _ _ _ _ fun e=>h (pt2_inj hj hi e)
      ·rw [N8.sel_upd_ne eb]
     ·rw [N8.sel_upd_ne ea]
theorem Hp.put_eq (t:Hp α) (i:Nat) (x:Option α) (y:α) (h:(Hp.put t i x).get i=some y):x=some y:=by
 unfold Hp.get Hp.put at h
 cases hi:pt2 i with
 | out=>rw [hi] at h; cases h
 | go a b =>
   rw [hi] at h
   have h':Fr.get (N8.sel b (N8.sel a (N8.upd a (N8.upd b (Fr.put (N8.sel b (N8.sel a t)) (Nat.mod i 512) x) (N8.sel a t)) t))) (Nat.mod i 512)=some y:=h
   rw [N8.sel_upd,N8.sel_upd] at h'
   exact Fr.put_eq _ _ _ _ h'
theorem Hp.mk_none (i:Nat):(Hp.mk0:Hp α).get i=none:=by
 unfold Hp.get
 cases hi:pt2 i with
 | out=>rfl
 | go a b =>
   show Fr.get (N8.sel b (N8.sel a (Hp.mk0:Hp α))) _=none
   unfold Hp.mk0
   rw [N8.sel_all,N8.sel_all]
   exact Fr.mk_none _
end
end Zc
end Go.Proofs.YtocpaddakdcofaaGreat
namespace Go.Proofs.YtocpaddakdcofaaGreat
open Go.RowKit
namespace Zc
inductive Tr (α:Type)
 | l
 | n (v:Option α) (a b:Tr α)
noncomputable def Tr.get {α:Type} (t:Tr α):Nat->Option α :=
 Tr.rec (fun _=>none) (fun v _ _ ia ib i=>bif Nat.beq i 0 then v else bif Nat.beq (Nat.mod i 2) 1 then ia (Nat.div (Nat.sub i 1) 2) else ib (Nat.div (Nat.sub i 1) 2)) t
noncomputable def Tr.put {α:Type} (t:Tr α) (i:Nat) (x:Option α):Tr α :=
 Tr.rec (fun _=>.l) (fun v a b ia ib i=>bif Nat.beq i 0 then .n x a b else bif Nat.beq (Nat.mod i 2) 1 then .n v (ia (Nat.div (Nat.sub i 1) 2)) b else .n v a (ib (Nat.div (Nat.sub i 1) 2))) t i
def Tr.mk {α:Type} (x:Option α):Nat->Tr α
 | 0=>.l
 | d+1=>.n x (Tr.mk x d) (Tr.mk x d)
theorem nbeq_f {a b:Nat} (h:¬ a=b):Nat.beq a b=false:=by
 cases hb:Nat.beq a b with
 | false=>rfl
 | true=>exact absurd (Nat.eq_of_beq_eq_true hb) h
theorem nbeq_t (a:Nat):Nat.beq a a=true:=Nat.beq_refl a
section
variable {α:Type}
theorem Tr.get_l (i:Nat):(Tr.l:Tr α).get i=none:=rfl
theorem Tr.get_n (v:Option α) (a b:Tr α) (i:Nat):(Tr.n v a b).get i=if i=0 then v else if i % 2=1 then a.get ((i - 1) / 2) else b.get ((i - 1) / 2):=by
 show (bif Nat.beq i 0 then v else bif Nat.beq (Nat.mod i 2) 1 then a.get (Nat.div (Nat.sub i 1) 2) else b.get (Nat.div (Nat.sub i 1) 2))=_
 rw [show Nat.mod i 2=i % 2 from rfl,show Nat.div (Nat.sub i 1) 2=(i - 1) / 2 from rfl]
 by_cases h:i=0
 ·subst h; rfl
 ·rw [nbeq_f h,if_neg h]
  by_cases h2:i % 2=1
  ·rw [h2,if_pos rfl]; rfl
  ·rw [nbeq_f h2,if_neg h2]; rfl
theorem Tr.put_l (i:Nat) (x:Option α):(Tr.l:Tr α).put i x=Tr.l:=rfl
theorem Tr.put_n (v:Option α) (a b:Tr α) (i:Nat) (x:Option α):(Tr.n v a b).put i x=if i=0 then Tr.n x a b else if i % 2=1 then Tr.n v (a.put ((i - 1) / 2) x) b else Tr.n v a (b.put ((i - 1) / 2) x):=by
 show (bif Nat.beq i 0 then Tr.n x a b else bif Nat.beq (Nat.mod i 2) 1 then Tr.n v (a.put (Nat.div (Nat.sub i 1) 2) x) b else Tr.n v a (b.put (Nat.div (Nat.sub i 1) 2) x))=_
 rw [show Nat.mod i 2=i % 2 from rfl,show Nat.div (Nat.sub i 1) 2=(i - 1) / 2 from rfl]
 by_cases h:i=0
 ·subst h; rfl
 ·rw [nbeq_f h,if_neg h]
  by_cases h2:i % 2=1
  ·rw [h2,if_pos rfl]; rfl
  ·rw [nbeq_f h2,if_neg h2]; rfl
theorem Tr.put_ne:∀ (t:Tr α) (i j:Nat) (x:Option α),j ≠ i->(t.put i x).get j=t.get j
 | .l,_,_,_,_=>rfl
 | .n v a b,i,j,x,h=>by
   rw [Tr.put_n]
   by_cases h0:i=0
   ·rw [if_pos h0,Tr.get_n,Tr.get_n]
    have:¬ j=0:=by omega
    simp [this]
   ·rw [if_neg h0]
    by_cases h1:i % 2=1
    ·rw [if_pos h1,Tr.get_n,Tr.get_n]
     by_cases j0:j=0
     ·simp [j0]
     ·by_cases j1:j % 2=1
      ·simp only [j0,j1,if_true,if_false]
       exact Tr.put_ne a _ _ x (by omega)
      ·simp [j0,j1]
    ·rw [if_neg h1,Tr.get_n,Tr.get_n]
     by_cases j0:j=0
     ·simp [j0]
     ·by_cases j1:j % 2=1
      ·simp [j0,j1]
      ·simp only [j0,j1,if_false]
       exact Tr.put_ne b _ _ x (by omega)
theorem Tr.put_eq:∀ (t:Tr α) (i:Nat) (x:Option α) (y:α),(t.put i x).get i=some y->x=some y
 | .l,_,_,_,h=>by simp [Tr.put_l,Tr.get_l] at h
 | .n v a b,i,x,y,h=>by
   rw [Tr.put_n] at h
   by_cases h0:i=0
   ·rw [if_pos h0,Tr.get_n,if_pos h0] at h
    exact h
   ·rw [if_neg h0] at h
    by_cases h1:i % 2=1
    ·rw [if_pos h1,Tr.get_n,if_neg h0,if_pos h1] at h
     exact Tr.put_eq a _ x y h
    ·rw [if_neg h1,Tr.get_n,if_neg h0,if_neg h1] at h
     exact Tr.put_eq b _ x y h
theorem Tr.mk_none:∀ (d i:Nat),(Tr.mk (α:=α) none d).get i=none
 | 0,_=>rfl
 | d+1,i=>by
   rw [Tr.mk,Tr.get_n,Tr.mk_none d]
   simp
end
inductive LF
 | v (x:Value)
 | sl (l:List Nat)
 | I (z:Int)
 | p (k off:Nat)
 | s (k off n c sz:Nat)
 | e0
 | fn (f:Nat) (ks:List (Nat × Nat))
inductive KK
 | c (x:LF)
 | g (xs:List LF)
inductive KV
 | u
 | k (x:KK)
 | t (xs:List KK)
structure Bx where
 T:Nat
 cs:List LF
def LF.width:LF->Nat
 | .I _=>2
 | _=>1
def LF.flat:LF->List LF
 | .I z=>[.v (.bool (decide (z < 0))),.sl (Lb.limbs z.natAbs)]
 | x=>[x]
noncomputable def flats (l:List LF):List LF:=List.rec [] (fun x _ ih=>x.flat ++ ih) l
noncomputable def wid (l:List LF):Nat:=List.rec 0 (fun x _ ih=>Nat.add x.width ih) l
theorem flats_nil:flats []=[]:=rfl
theorem flats_cons (x:LF) (l:List LF):flats (x :: l)=x.flat ++ flats l:=rfl
theorem wid_cons (x:LF) (l:List LF):wid (x :: l)=x.width+wid l:=rfl
theorem flats_append:∀ a b,flats (a ++ b)=flats a ++ flats b
 | [],_=>rfl
 | x :: a,b=>by rw [List.cons_append,flats_cons,flats_cons,flats_append a b,List.append_assoc]
theorem flat_length (x:LF):x.flat.length=x.width:=by cases x <;> rfl
theorem wid_eq:∀ l,(flats l).length=wid l
 | []=>rfl
 | x :: l=>by rw [flats_cons,List.length_append,flat_length,wid_eq l,wid_cons]
abbrev BM:=Nat->Option Nat
def SzAt (w:World) (b N:Nat):Prop:=∃ (vs:Array Value) (T:TypeId),w.heap[b]?=some (.cells vs T (0,0))/\N <= vs.size
def relP (bm:BM):List (Nat × Nat)->List Value->Prop
 | [],[]=>True
 | x :: l,u :: us=>(∃ b,bm x.1=some b/\u=.pointer (some ⟨b,x.2,none⟩))/\relP bm l us
 | _,_=>False
def rel1 (bm:BM) (w:World):LF->Value->Prop
 | .v x,u=>u=x/\x.oneCell'=true
 | .sl l,u=>SlU w u l
 | .I _,_=>False
 | .p k off,u=>∃ b,bm k=some b/\u=.pointer (some ⟨b,off,none⟩)
 | .s k off n c sz,u=>∃ b c' a,bm k=some b/\u=.slice a n c'/\c <= c'/\n <= c'/\(c' ≠ 0->a=some ⟨b,off,none⟩/\SzAt w b (off+c'*sz))
 | .e0,u=>∃ a,u=.slice a 0 0
 | .fn f ks,u=>∃ us,relP bm ks us/\u=.func (.func f) #[] us.toArray
def relL (bm:BM) (w:World):List LF->List Value->Prop
 | [],[]=>True
 | x :: l,u :: us=>rel1 bm w x u/\relL bm w l us
 | _,_=>False
def relK (bm:BM) (w:World):KK->Value->Prop
 | .c x,u=>rel1 bm w x u
 | .g xs,u=>∃ us:List Value,u=.agg us.toArray/\relL bm w (flats xs) us
def relKs (bm:BM) (w:World):List KK->List Value->Prop
 | [],[]=>True
 | x :: l,u :: us=>relK bm w x u/\relKs bm w l us
 | _,_=>False
def relV (bm:BM) (w:World):KV->Value->Prop
 | .u,_=>True
 | .k x,u=>relK bm w x u
 | .t xs,u=>∃ us:List Value,u=.tuple us.toArray/\relKs bm w xs us
section
variable {bm bm':BM} {w w':World}
theorem rel1.one {x:LF} {u:Value} (h:rel1 bm w x u):u.oneCell'=true:=by
 cases x with
 | v x=>obtain ⟨rfl,h⟩:=h; exact h
 | sl l=>obtain ⟨a,c,rfl⟩:=SlU.form h; rfl
 | p k off=>obtain ⟨b,_,rfl⟩:=h; rfl
 | s k off n c sz=>obtain ⟨b,c',a,_,rfl,_⟩:=h; rfl
 | e0=>obtain ⟨a,rfl⟩:=h; rfl
 | fn f ks=>obtain ⟨us,_,rfl⟩:=h; rfl
 | I z=>exact h.elim
theorem relL.len:∀ {l:List LF} {us:List Value},relL bm w l us->l.length=us.length
 | [],[],_=>rfl
 | _ :: _,_ :: _,h=>by rw [List.length_cons,List.length_cons,relL.len h.2]
 | [],_ :: _,h=>h.elim
 | _ :: _,[],h=>h.elim
theorem relKs.len:∀ {l:List KK} {us:List Value},relKs bm w l us->l.length=us.length
 | [],[],_=>rfl
 | _ :: _,_ :: _,h=>by rw [List.length_cons,List.length_cons,relKs.len h.2]
 | [],_ :: _,h=>h.elim
 | _ :: _,[],h=>h.elim
theorem relL.append:∀ {a b:List LF} {us vs:List Value},relL bm w a us->relL bm w b vs->relL bm w (a ++ b) (us ++ vs)
 | [],_,[],_,_,h=>h
 | _ :: _,_,_ :: _,_,h,k=>⟨h.1,relL.append h.2 k⟩
 | [],_,_ :: _,_,h,_=>h.elim
 | _ :: _,_,[],_,h,_=>h.elim
theorem relL.drop:∀ {a:List LF} {us:List Value} (n:Nat),relL bm w a us->relL bm w (a.drop n) (us.drop n)
 | _,_,0,h=>h
 | [],[],_+1,_=>trivial
 | _ :: _,_ :: _,n+1,h=>relL.drop n h.2
 | [],_ :: _,_+1,h=>h.elim
 | _ :: _,[],_+1,h=>h.elim
theorem relL.take:∀ {a:List LF} {us:List Value} (n:Nat),relL bm w a us->relL bm w (a.take n) (us.take n)
 | _,_,0,_=>by simp [relL]
 | [],[],_+1,_=>trivial
 | _ :: _,_ :: _,n+1,h=>⟨h.1,relL.take n h.2⟩
 | [],_ :: _,_+1,h=>h.elim
 | _ :: _,[],_+1,h=>h.elim
theorem relL.one:∀ {a:List LF} {us:List Value},relL bm w a us->∀ u ∈ us,u.oneCell'=true
 | [],[],_,_,hu=>by cases hu
 | _ :: _,_ :: _,h,u,hu=>by
   rcases List.mem_cons.1 hu with rfl | hu
   ·exact rel1.one h.1
   ·exact relL.one h.2 u hu
 | [],_ :: _,h,_,_=>h.elim
 | _ :: _,[],h,_,_=>h.elim
theorem relKs.get:∀ {a:List KK} {us:List Value} {i:Nat} {x:KK},relKs bm w a us->a[i]?=some x->∃ u,us[i]?=some u/\relK bm w x u
 | [],[],_,_,_,hi=>by simp at hi
 | y :: _,v :: _,0,x,h,hi=>⟨v,rfl,by have e:y=x:=(by simpa using hi); subst e; exact h.1⟩
 | _ :: _,_ :: _,i+1,_,h,hi=>by
   obtain ⟨u,h1,h2⟩:=relKs.get h.2 (by simpa using hi)
   exact ⟨u,by simpa using h1,h2⟩
 | [],_ :: _,_,_,h,_=>h.elim
 | _ :: _,[],_,_,h,_=>h.elim
structure Keep (bm bm':BM) (w w':World):Prop where
 sl:∀ u l,SlU w u l->SlU w' u l
 bm:∀ (k b:Nat),bm k=some b->bm' k=some b
 sz:∀ (b N:Nat),SzAt w b N->SzAt w' b N
theorem Keep.refl (bm:BM) (w:World):Keep bm bm w w:=⟨fun _ _ h=>h,fun _ _ h=>h,fun _ _ h=>h⟩
theorem Keep.trans {a b c:BM} {x y z:World} (h:Keep a b x y) (k:Keep b c y z):Keep a c x z:=⟨fun u l e=>k.sl u l (h.sl u l e),fun i d e=>k.bm i d (h.bm i d e),fun b N e=>k.sz b N (h.sz b N e)⟩
theorem Keep.relP (h:Keep bm bm' w w'):∀ {ks:List (Nat × Nat)} {us:List Value},relP bm ks us->relP bm' ks us
 | [],[],_=>trivial
 | _ :: _,_ :: _,⟨⟨b,e1,e2⟩,k⟩=>⟨⟨b,h.bm _ _ e1,e2⟩,h.relP k⟩
 | [],_ :: _,k=>k.elim
 | _ :: _,[],k=>k.elim
theorem Keep.rel1 (h:Keep bm bm' w w'):∀ {x:LF} {u:Value},rel1 bm w x u->rel1 bm' w' x u
 | .v _,_,k=>k
 | .sl _,_,k=>h.sl _ _ k
 | .p _ _,_,⟨b,k,e⟩=>⟨b,h.bm _ _ k,e⟩
 | .s _ _ _ _ _,_,⟨b,c',a,k,e,h1,h2,h3⟩=>⟨b,c',a,h.bm _ _ k,e,h1,h2,fun hc=>⟨(h3 hc).1,h.sz _ _ (h3 hc).2⟩⟩
 | .e0,_,k=>k
 | .fn _ _,_,⟨us,k,e⟩=>⟨us,h.relP k,e⟩
 | .I _,_,k=>k
theorem Keep.relL (h:Keep bm bm' w w'):∀ {x:List LF} {u:List Value},relL bm w x u->relL bm' w' x u
 | [],[],_=>trivial
 | _ :: _,_ :: _,k=>⟨h.rel1 k.1,h.relL k.2⟩
 | [],_ :: _,k=>k.elim
 | _ :: _,[],k=>k.elim
theorem Keep.relK (h:Keep bm bm' w w'):∀ {x:KK} {u:Value},relK bm w x u->relK bm' w' x u
 | .c _,_,k=>h.rel1 k
 | .g _,_,⟨us,e,k⟩=>⟨us,e,h.relL k⟩
theorem Keep.relKs (h:Keep bm bm' w w'):∀ {x:List KK} {u:List Value},relKs bm w x u->relKs bm' w' x u
 | [],[],_=>trivial
 | _ :: _,_ :: _,k=>⟨h.relK k.1,h.relKs k.2⟩
 | [],_ :: _,k=>k.elim
 | _ :: _,[],k=>k.elim
theorem Keep.relV (h:Keep bm bm' w w'):∀ {x:KV} {u:Value},relV bm w x u->relV bm' w' x u
 | .u,_,_=>trivial
 | .k _,_,k=>h.relK k
 | .t _,_,⟨us,e,k⟩=>⟨us,e,h.relKs k⟩
end
abbrev notU:=@Vc.notU
def LF.soft:LF->Bool
 | .v (.int .u32 _)=>false
 | _=>true
noncomputable def softs (l:List LF):Bool:=List.rec true (fun x _ ih=>x.soft && ih) l
theorem softs_cons (x:LF) (l:List LF):softs (x :: l)=(x.soft && softs l):=rfl
theorem soft_rel {bm:BM} {w:World}:∀ {x:LF} {u:Value},x.soft=true->rel1 bm w x u->notU u
 | .v x,u,hs,h=>by
   obtain ⟨rfl,_⟩:=h
   intro n e
   subst e
   simp [LF.soft] at hs
 | .sl _,_,_,h=>by obtain ⟨a,c,rfl⟩:=SlU.form h; intro n e; cases e
 | .p _ _,_,_,⟨_,_,h⟩=>by subst h; intro n e; cases e
 | .s _ _ _ _ _,_,_,⟨_,_,_,_,h,_⟩=>by subst h; intro n e; cases e
 | .e0,_,_,⟨_,h⟩=>by subst h; intro n e; cases e
 | .fn _ _,_,_,⟨_,_,h⟩=>by subst h; intro n e; cases e
 | .I _,_,_,h=>h.elim
theorem flat_soft:∀ {x:LF},x.soft=true->∀ y ∈ x.flat,y.soft=true
 | .I _,_,y,hy=>by simp only [LF.flat,List.mem_cons,List.not_mem_nil,or_false] at hy; rcases hy with rfl | rfl <;> rfl
 | .v _,h,y,hy | .sl _,h,y,hy | .p _ _,h,y,hy | .s _ _ _ _ _,h,y,hy | .e0,h,y,hy | .fn _ _,h,y,hy=>by simp only [LF.flat,List.mem_singleton] at hy; subst hy; exact h
theorem softs_flat:∀ {l:List LF},softs l=true->∀ y ∈ flats l,y.soft=true
 | [],_,y,hy=>by simp [flats_nil] at hy
 | x :: l,h,y,hy=>by
   simp only [softs_cons,Bool.and_eq_true] at h
   simp only [flats_cons,List.mem_append] at hy
   rcases hy with hy | hy
   ·exact flat_soft h.1 y hy
   ·exact softs_flat h.2 y hy
theorem softs_rel {bm:BM} {w:World}:∀ {l:List LF} {us:List Value},(∀ y ∈ l,y.soft=true)->relL bm w l us->∀ u ∈ us,notU u
 | [],[],_,_,_,hu=>by cases hu
 | x :: _,_ :: _,hs,h,u,hu=>by
   rcases List.mem_cons.1 hu with rfl | hu
   ·exact soft_rel (hs x (List.mem_cons_self ..)) h.1
   ·exact softs_rel (fun y hy=>hs y (List.mem_cons_of_mem _ hy)) h.2 u hu
 | [],_ :: _,_,h,_,_=>h.elim
 | _ :: _,[],_,h,_,_=>h.elim
def BoxAt (bm:BM) (w:World) (b:Nat) (x:Bx):Prop :=
 ∃ vs rs:List Value,w.heap[b]?=some (.cells (vs ++ rs).toArray x.T (0,0))/\relL bm w (flats x.cs) vs/\∀ u ∈ vs ++ rs,notU u
def SoftAt (w:World) (b:Nat):Prop:=∃ (vs:Array Value) (T:TypeId),w.heap[b]?=some (.cells vs T (0,0))/\∀ u ∈ vs,notU u
structure Ok (H:Hp Bx) (bm:BM) (w:World):Prop where
 box:∀ k b x,bm k=some b->H.get k=some x->BoxAt bm w b x
 soft:∀ k b,bm k=some b->SoftAt w b
 inj:∀ k j b x y,bm k=some b->bm j=some b->H.get k=some x->H.get j=some y->k=j
theorem SoftAt.lt {w:World} {b:Nat} (h:SoftAt w b):b < w.heap.size:=by
 obtain ⟨vs,T,h,_⟩:=h
 rcases Nat.lt_or_ge b w.heap.size with h' | h'
 ·exact h'
 ·rw [Array.getElem?_eq_none h'] at h; cases h
structure Frame (m n:Nat) (bm:BM) (w w':World):Prop where
 le:w.heap.size <= w'.heap.size
 same:∀ b,b < w.heap.size->(∀ k,m <= k->k < n->bm k ≠ some b)->w'.heap[b]?=w.heap[b]?
 sz:∀ b N,SzAt w b N->SzAt w' b N
 soft:∀ b,SoftAt w b->SoftAt w' b
 env:w'.os=w.os/\w'.tape=w.tape/\w'.output=w.output
structure Grow (m n n':Nat) (w:World) (bm bm':BM):Prop where
 le:n <= n'
 same:∀ k,¬ (n <= k/\k < n')->bm' k=bm k
 fresh:∀ k b,n <= k->k < n'->bm' k=some b->w.heap.size <= b \/ ∃ j,m <= j/\j < n/\bm j=some b
theorem Frame.refl (m n:Nat) (bm:BM) (w:World):Frame m n bm w w:=⟨Nat.le_refl _,fun _ _ _=>rfl,fun _ _ h=>h,fun _ h=>h,rfl,rfl,rfl⟩
theorem Grow.refl (m n:Nat) (w:World) (bm:BM):Grow m n n w bm bm:=⟨Nat.le_refl _,fun _ _=>rfl,fun k b h1 h2 _=>by omega⟩
theorem Frame.mono {m m' n:Nat} {bm:BM} {w w':World} (h:Frame m' n bm w w') (hm:m <= m'):Frame m n bm w w' :=
 ⟨h.le,fun b hb hk=>h.same b hb fun k h1 h2=>hk k (by omega) h2,h.sz,h.soft,h.env⟩
theorem Grow.mono {m m' n n':Nat} {w:World} {bm bm':BM} (h:Grow m' n n' w bm bm') (hm:m <= m'):Grow m n n' w bm bm' :=
 ⟨h.le,h.same,fun k b h1 h2 h3=>(h.fresh k b h1 h2 h3).imp id fun ⟨j,g1,g2,g3⟩=>⟨j,by omega,g2,g3⟩⟩
theorem Frame.of_ext {m n:Nat} {bm:BM} {w w':World} (h:Ext w w'):Frame m n bm w w':=by
 have hs:∀ b,b < w.heap.size->w'.heap[b]?=w.heap[b]?:=fun b hb=>by
  have hx:w.heap[b]?=some w.heap[b]:=by simp [hb]
  rw [hx]
  exact heap_keep hx h
 refine ⟨h.size,fun b hb _=>hs b hb,fun b N ⟨vs,T,h1,h2⟩=>⟨vs,T,heap_keep h1 h,h2⟩,fun b ⟨vs,T,h1,h2⟩=>⟨vs,T,heap_keep h1 h,h2⟩,h.os,h.tape,h.output⟩
theorem Grow.trans {m n n1 n2:Nat} {w w1:World} {bm bm1 bm2:BM} (h:Grow m n n1 w bm bm1) (hw:w.heap.size <= w1.heap.size) (k:Grow m n1 n2 w1 bm1 bm2):Grow m n n2 w bm bm2:=by
 refine ⟨Nat.le_trans h.le k.le,fun i hi=>?_,fun i b h1 h2 hb=>?_⟩
 ·have h1:=h.le; have h2:=k.le
  rw [k.same i (by omega),h.same i (by omega)]
 ·rcases Nat.lt_or_ge i n1 with hlt | hge
  ·rw [k.same i (by omega)] at hb
   exact h.fresh i b h1 hlt hb
  ·rcases k.fresh i b hge h2 hb with h3 | ⟨j,hmj,hj,hbj⟩
   ·exact .inl (by omega)
   ·rcases Nat.lt_or_ge j n with hjn | hjn
    ·rw [h.same j (by omega)] at hbj
     exact .inr ⟨j,hmj,hjn,hbj⟩
    ·exact h.fresh j b hjn hj hbj
theorem Frame.trans {m n n1:Nat} {w w1 w2:World} {bm bm1:BM} (g:Grow m n n1 w bm bm1) (h:Frame m n bm w w1) (k:Frame m n1 bm1 w1 w2):Frame m n bm w w2:=by
 refine ⟨Nat.le_trans h.le k.le,fun b hb hn=>?_,fun b N e=>k.sz b N (h.sz b N e),fun b e=>k.soft b (h.soft b e),k.env.1.trans h.env.1,k.env.2.1.trans h.env.2.1,k.env.2.2.trans h.env.2.2⟩
 rw [k.same b (Nat.lt_of_lt_of_le hb h.le) (fun i hm hi e=>?_),h.same b hb hn]
 rcases Nat.lt_or_ge i n with hin | hin
 ·rw [g.same i (by omega)] at e
  exact hn i hm hin e
 ·rcases g.fresh i b hin hi e with h1 | ⟨j,hmj,hj,hbj⟩
  ·omega
  ·exact hn j hmj hj hbj
theorem Keep.of {m n n':Nat} {w w':World} {bm bm':BM} {H:Hp Bx} (ok:Ok H bm w) (g:Grow m n n' w bm bm') (hn:∀ k,n <= k->k < n'->bm k=none) (f:Frame m n bm w w'):Keep bm bm' w w':=by
 refine ⟨fun u l h=>?_,fun k b h=>?_,f.sz⟩
 ·rcases h.cases with ⟨rfl,a,cap,rfl,hc⟩ | ⟨h0,b,off,cap,rfl,hcap,hb,hcell⟩
  ·exact SlU.empty hc
  ·refine SlU.mk rfl hcap (fun _=>Nat.lt_of_lt_of_le hb f.le) fun i hi=>?_
   rw [<- hcell i hi]
   unfold World.cell?
   simp only
   rw [f.same b hb fun k _ _ e=>?_]
   obtain ⟨vs,T,h1,h2⟩:=ok.soft k b e
   have:=hcell i hi
   rw [Lib.cell_of_heap h1] at this
   exact h2 _ (Array.mem_of_getElem? this) _ rfl
 ·rw [g.same k fun h'=>by rw [hn k h'.1 h'.2] at h; cases h]
  exact h
end Zc
end Go.Proofs.YtocpaddakdcofaaGreat
