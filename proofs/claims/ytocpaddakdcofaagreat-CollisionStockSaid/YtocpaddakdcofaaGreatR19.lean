import Derived.Test.YtocpaddakdcofaaGreatR18
namespace Go.Proofs.YtocpaddakdcofaaGreat
open Go.RowKit
namespace Vc
theorem cKcmpz_owes (p:Rat) (hp:szR p <= 1000000):owes LT XT0 [] Tryz.f43 (Tryz.f43.body.getD .skip) [.g [.R (p)],.g [.I ((0:Int)),.I ((0:Int))]] (.k (.c (.v (.int .i64 ((0:Int)))))):=by
 refine Eq.mp (show ((szI ((p).num) <= 10000000/\szI (0:Int) <= 10000000)/\((szI (0:Int) <= 10000000/\szI ((p).den:Int) <= 10000000)/\((szI (((p).num)*(0:Int)) <= 10000000/\szI ((0:Int)*((p).den:Int)) <= 10000000)/\(Value.int .i64 (((((p).num)*(0:Int)) - ((0:Int)*((p).den:Int))).sign)=(.int .i64 (0:Int))))))=_ by kernel_rfl) ?_
 have a1:=szR_num p; have a2:=szR_den p
 have a0:szI 0 <= 10000000:=Nat.le_trans (szI_le (k:=1) (by decide)) (by decide)
 refine ⟨⟨by omega,a0⟩,⟨a0,by omega⟩,⟨by rw [Int.mul_zero]; exact a0,by rw [Int.zero_mul]; exact a0⟩,?_⟩
 rw [Int.mul_zero,Int.zero_mul]
 rfl
theorem raw_zero {bs:Bs} {w:World} {u:Value} (h:relK bs w (.g [.v (.bool false),.sl [],.v (.bool false),.sl []]) u):relK bs w (.g [.I 0,.I 0]) u:=by
 obtain ⟨us,rfl,k⟩:=h
 refine ⟨us,rfl,?_⟩
 have e:flats [.I 0,.I 0]=flats [.v (.bool false),.sl [],.v (.bool false),.sl []]:=by
  show [AC.v (.bool (decide ((0:Int) < 0))),AC.sl (Lb.limbs (0:Int).natAbs),AC.v (.bool (decide ((0:Int) < 0))),AC.sl (Lb.limbs (0:Int).natAbs)]=[.v (.bool false),.sl [],.v (.bool false),.sl []]
  rw [show (0:Int).natAbs=0 from rfl,Lb.limbs_zero]
  rfl
 rw [e]
 exact k
def cKcmp2:Ctr:=⟨43,fun | [.g [.R p],.g [.R q]]=>.yes (szR p <= 1000000/\szR q <= 1000000) (.k (.c (.v (.int .i64 (Rt.sg (p - q)))))) | [.g [.R p],.g [.v (.bool false),.sl [],.v (.bool false),.sl []]]=>.yes (szR p <= 1000000) (.k (.c (.v (.int .i64 0)))) | _=>.no⟩
theorem cKcmp2_ok:CtrOK Tryz.prog cKcmp2:=.of (by kernel_rfl) (fun bs w xs vs pre r hr hA hG h hp=>by
 simp only [cKcmp2] at h
 split at h
 ·cases h
  exact ctr_calls mixed LT_ok XT0_ok Tryz.func43 (by kernel_rfl) hr hA hG rfl rfl (cKcmp_owes _ _ hp)
 ·cases h
  match vs,hr with
  | [u,v],hr=>exact ctr_calls mixed LT_ok XT0_ok Tryz.func43 (by kernel_rfl) (show relKs bs w [.g [.R _],.g [.I 0,.I 0]] [u,v] from ⟨hr.1,raw_zero hr.2.1,trivial⟩) hA hG rfl rfl (cKcmpz_owes _ hp)
 ·cases h) (fun xs α pre φ r=>by simp only [cKcmp2]; split <;> (intro h; cases h))
def cSvec:Ctr:=⟨73,fun | [.c (.v (.int .i64 (x))),.c (.v (.int .i64 (y)))]=>.yes (sm64 x/\sm64 y) (.k (.g [.R ((x:Rat)),.R ((y:Rat))])) | _=>.no⟩
theorem cSvec_owes (x:Int) (y:Int) (hp:sm64 x/\sm64 y):owes LT2 BT6 [] Tryz.f73 (Tryz.f73.body.getD .skip) [.c (.v (.int .i64 (x))),.c (.v (.int .i64 (y)))] (.k (.g [.R ((x:Rat)),.R ((y:Rat))])):=by
 refine Eq.mp (show ((-9223372036854775808 <= x/\x <= 9223372036854775807)/\((-9223372036854775808 <= y/\y <= 9223372036854775807)/\(((x:Rat)=(x:Rat))/\(((y:Rat)=(y:Rat))/\(True)))))=_ by kernel_rfl) ?_
 exact ⟨hp.1.i64,hp.2.i64,rfl,rfl,trivial⟩
theorem cSvec_ok:CtrOK Tryz.prog cSvec:=.of (by kernel_rfl) (fun bs w xs vs pre r hr hA hG h hp=>by
 simp only [cSvec] at h
 split at h
 ·cases h
  exact ctr_calls mixed LT2_ok BT6_ok Tryz.func73 (by kernel_rfl) hr hA hG rfl rfl (cSvec_owes _ _ hp)
 ·cases h) (fun xs α pre φ r=>by simp only [cSvec]; split <;> (intro h; cases h))
def cSins:Ctr:=⟨72,fun | [.g [.v (.int .i64 (x0)),.v (.int .i64 (y0)),.v (.int .i64 (x1)),.v (.int .i64 (y1)),.v (.int .i64 (_ct))],.g [.v (.int .i64 (px)),.v (.int .i64 (py))]]=>.yes (True) (.k (.c (.v (.bool ((bif (bif (bif (decide (x0 <= px)) then (decide (px <= x1)) else false) then (decide (y0 <= py)) else false) then (decide (py <= y1)) else false)))))) | _=>.no⟩
theorem cSins_owes (x0:Int) (y0:Int) (x1:Int) (y1:Int) (ct:Int) (px:Int) (py:Int):owes LT2 BT6 [] Tryz.f72 (Tryz.f72.body.getD .skip) [.g [.v (.int .i64 (x0)),.v (.int .i64 (y0)),.v (.int .i64 (x1)),.v (.int .i64 (y1)),.v (.int .i64 (ct))],.g [.v (.int .i64 (px)),.v (.int .i64 (py))]] (.k (.c (.v (.bool ((bif (bif (bif (decide (x0 <= px)) then (decide (px <= x1)) else false) then (decide (y0 <= py)) else false) then (decide (py <= y1)) else false)))))):=by
 refine Eq.mp (show (Value.bool (bif (bif (bif (decide (x0 <= px)) then (decide (px <= x1)) else false) then (decide (y0 <= py)) else false) then (decide (py <= y1)) else false)=(.bool (bif (bif (bif (decide (x0 <= px)) then (decide (px <= x1)) else false) then (decide (y0 <= py)) else false) then (decide (py <= y1)) else false)))=_ by kernel_rfl) ?_
 rfl
theorem cSins_ok:CtrOK Tryz.prog cSins:=.of (by kernel_rfl) (fun bs w xs vs pre r hr hA hG h hp=>by
 simp only [cSins] at h
 split at h
 ·cases h
  exact ctr_calls mixed LT2_ok BT6_ok Tryz.func72 (by kernel_rfl) hr hA hG rfl rfl (cSins_owes _ _ _ _ _ _ _)
 ·cases h) (fun xs α pre φ r=>by simp only [cSins]; split <;> (intro h; cases h))
def ST10:List Ctr:=[cKcmp2] ++ (BT6 ++ [cSvec,cSins])
theorem ST10_ok:∀ c ∈ ST10,CtrOK Tryz.prog c:=ok_app (by
 intro c hc
 simp only [List.mem_cons,List.not_mem_nil,or_false] at hc
 subst hc
 exact cKcmp2_ok) (ok_app BT6_ok (by
 intro c hc
 simp only [List.mem_cons,List.not_mem_nil,or_false] at hc
 rcases hc with rfl | rfl
 ·exact cSvec_ok
 ·exact cSins_ok))
theorem mnT {p q:Rat} (h:decide (Rt.sg (q - p) < 0)=true):Rt.mn p q=q:=by
 rw [dec_sg] at h
 exact if_pos (of_decide_eq_true h)
theorem mnF {p q:Rat} (h:decide (Rt.sg (q - p) < 0)=false):Rt.mn p q=p:=by
 rw [dec_sg] at h
 exact if_neg (of_decide_eq_false h)
def farS (x0 y0 x1 y1 ax ay ux uy:Int):Rat:=if (bif (bif (bif (bif (decide (x0 <= ax)) then (decide (ax <= x1)) else false) then (decide (y0 <= ay)) else false) then (decide (ay <= y1)) else false) then true else (bif (bif (bif (decide (x0 <= ux)) then (decide (ux <= x1)) else false) then (decide (y0 <= uy)) else false) then (decide (uy <= y1)) else false))=true then 0 else Rt.mn (Rt.mn (Rt.mn (Rt.sgs (ax:Rat) (ay:Rat) (ux:Rat) (uy:Rat) (x0:Rat) (y0:Rat) (x1:Rat) (y0:Rat)) (Rt.sgs (ax:Rat) (ay:Rat) (ux:Rat) (uy:Rat) (x1:Rat) (y0:Rat) (x1:Rat) (y1:Rat))) (Rt.sgs (ax:Rat) (ay:Rat) (ux:Rat) (uy:Rat) (x1:Rat) (y1:Rat) (x0:Rat) (y1:Rat))) (Rt.sgs (ax:Rat) (ay:Rat) (ux:Rat) (uy:Rat) (x0:Rat) (y1:Rat) (x0:Rat) (y0:Rat))
theorem far_eq {x0 y0 x1 y1 ax ay ux uy:Int} (h:(bif (bif (bif (bif (decide (x0 <= ax)) then (decide (ax <= x1)) else false) then (decide (y0 <= ay)) else false) then (decide (ay <= y1)) else false) then true else (bif (bif (bif (decide (x0 <= ux)) then (decide (ux <= x1)) else false) then (decide (y0 <= uy)) else false) then (decide (uy <= y1)) else false))=false) {A B C:Rat} (e1:Rt.mn (Rt.sgs (ax:Rat) (ay:Rat) (ux:Rat) (uy:Rat) (x0:Rat) (y0:Rat) (x1:Rat) (y0:Rat)) (Rt.sgs (ax:Rat) (ay:Rat) (ux:Rat) (uy:Rat) (x1:Rat) (y0:Rat) (x1:Rat) (y1:Rat))=A) (e2:Rt.mn A (Rt.sgs (ax:Rat) (ay:Rat) (ux:Rat) (uy:Rat) (x1:Rat) (y1:Rat) (x0:Rat) (y1:Rat))=B) (e3:Rt.mn B (Rt.sgs (ax:Rat) (ay:Rat) (ux:Rat) (uy:Rat) (x0:Rat) (y1:Rat) (x0:Rat) (y0:Rat))=C):C=farS x0 y0 x1 y1 ax ay ux uy:=by
 unfold farS
 rw [if_neg (by rw [h]; decide),e1,e2,e3]
theorem szR_far {x0 y0 x1 y1 ax ay ux uy:Int} (h:sm64 x0/\sm64 y0/\sm64 x1/\sm64 y1/\sm64 ax/\sm64 ay/\sm64 ux/\sm64 uy):szR (farS x0 y0 x1 y1 ax ay ux uy) <= 1000000:=by
 obtain ⟨h1,h2,h3,h4,h5,h6,h7,h8⟩:=h
 unfold farS
 split
 ·exact Nat.le_trans (szR_int (n:=0) ⟨by decide,by decide⟩) (by decide)
 ·exact szR_mn (szR_mn (szR_mn (szR_sgs (szR_sm h5) (szR_sm h6) (szR_sm h7) (szR_sm h8) (szR_sm h1) (szR_sm h2) (szR_sm h3) (szR_sm h2)) (szR_sgs (szR_sm h5) (szR_sm h6) (szR_sm h7) (szR_sm h8) (szR_sm h3) (szR_sm h2) (szR_sm h3) (szR_sm h4))) (szR_sgs (szR_sm h5) (szR_sm h6) (szR_sm h7) (szR_sm h8) (szR_sm h3) (szR_sm h4) (szR_sm h1) (szR_sm h4))) (szR_sgs (szR_sm h5) (szR_sm h6) (szR_sm h7) (szR_sm h8) (szR_sm h1) (szR_sm h4) (szR_sm h1) (szR_sm h2))
def cSfar:Ctr:=⟨44,fun | [.g [.v (.int .i64 (x0)),.v (.int .i64 (y0)),.v (.int .i64 (x1)),.v (.int .i64 (y1)),.v (.int .i64 (_ct))],.g [.v (.int .i64 (ax)),.v (.int .i64 (ay))],.g [.v (.int .i64 (ux)),.v (.int .i64 (uy))]]=>.yes (sm64 x0/\sm64 y0/\sm64 x1/\sm64 y1/\sm64 ax/\sm64 ay/\sm64 ux/\sm64 uy) (.k (.g [.R ((farS x0 y0 x1 y1 ax ay ux uy))])) | _=>.no⟩
set_option maxHeartbeats 4000000 in
theorem cSfar_owes (x0:Int) (y0:Int) (x1:Int) (y1:Int) (ct:Int) (ax:Int) (ay:Int) (ux:Int) (uy:Int) (hp:sm64 x0/\sm64 y0/\sm64 x1/\sm64 y1/\sm64 ax/\sm64 ay/\sm64 ux/\sm64 uy):owes LT2 ST10 [.unroll 0 6,.unroll 1 6,.unroll 2 6,.unroll 3 6,.unroll 4 6,.unroll 5 6,.unroll 6 6,.unroll 7 6,.unroll 8 6,.unroll 9 6,.unroll 10 6,.unroll 11 6,.unroll 12 6,.unroll 13 6,.unroll 14 6,.unroll 15 6,.unroll 16 6,.unroll 17 6,.unroll 18 6,.unroll 19 6,.unroll 20 6,.unroll 21 6,.unroll 22 6,.unroll 23 6,.unroll 24 6,.unroll 25 6,.unroll 26 6,.unroll 27 6,.unroll 28 6,.unroll 29 6,.unroll 30 6,.unroll 31 6,.unroll 32 6,.unroll 33 6,.unroll 34 6,.unroll 35 6,.unroll 36 6,.unroll 37 6,.unroll 38 6,.unroll 39 6] Tryz.f44 (Tryz.f44.body.getD .skip) [.g [.v (.int .i64 (x0)),.v (.int .i64 (y0)),.v (.int .i64 (x1)),.v (.int .i64 (y1)),.v (.int .i64 (ct))],.g [.v (.int .i64 (ax)),.v (.int .i64 (ay))],.g [.v (.int .i64 (ux)),.v (.int .i64 (uy))]] (.k (.g [.R ((farS x0 y0 x1 y1 ax ay ux uy))])):=by
 refine Eq.mp (show ((True)/\((((bif (bif (bif (decide (x0 <= ax)) then (decide (ax <= x1)) else false) then (decide (y0 <= ay)) else false) then (decide (ay <= y1)) else false) == false)=true->(True))/\(((bif (bif (bif (bif (decide (x0 <= ax)) then (decide (ax <= x1)) else false) then (decide (y0 <= ay)) else false) then (decide (ay <= y1)) else false) then true else (bif (bif (bif (decide (x0 <= ux)) then (decide (ux <= x1)) else false) then (decide (y0 <= uy)) else false) then (decide (uy <= y1)) else false))=true->((-9223372036854775808 <= (0:Int)/\(0:Int) <= 9223372036854775807)/\((((0:Int):Rat)=(farS x0 y0 x1 y1 ax ay ux uy))/\(True))))/\((bif (bif (bif (bif (decide (x0 <= ax)) then (decide (ax <= x1)) else false) then (decide (y0 <= ay)) else false) then (decide (ay <= y1)) else false) then true else (bif (bif (bif (decide (x0 <= ux)) then (decide (ux <= x1)) else false) then (decide (y0 <= uy)) else false) then (decide (uy <= y1)) else false))=false->((sm64 x0/\sm64 y0)/\((sm64 x1/\sm64 y0)/\((sm64 x1/\sm64 y1)/\((sm64 x0/\sm64 y1)/\(((decide ((0:Int) < (4:Int)))=true->((sm64 ax/\sm64 ay)/\((sm64 ux/\sm64 uy)/\((inR .i64 ((0:Int)+(1:Int)))/\((0 <= (0:Int)+(1:Int)/\0 < (4:Int))/\((szR (ax:Rat) <= 100/\szR (ay:Rat) <= 100/\szR (ux:Rat) <= 100/\szR (uy:Rat) <= 100/\szR (x0:Rat) <= 100/\szR (y0:Rat) <= 100/\szR (x1:Rat) <= 100/\szR (y0:Rat) <= 100)/\(((((0:Int) == (0:Int)) == false)=true->(szR (Rt.sgs (ax:Rat) (ay:Rat) (ux:Rat) (uy:Rat) (x0:Rat) (y0:Rat) (x1:Rat) (y0:Rat)) <= 1000000))/\(((bif ((0:Int) == (0:Int)) then true else (decide ((0:Int) < (0:Int))))=true->((inR .i64 ((0:Int)+(1:Int)))/\(((decide (((0:Int)+(1:Int)) < (4:Int)))=true->((sm64 ax/\sm64 ay)/\((sm64 ux/\sm64 uy)/\((inR .i64 (((0:Int)+(1:Int))+(1:Int)))/\((0 <= ((0:Int)+(1:Int))+(1:Int)/\0 < (4:Int))/\((szR (ax:Rat) <= 100/\szR (ay:Rat) <= 100/\szR (ux:Rat) <= 100/\szR (uy:Rat) <= 100/\szR (x1:Rat) <= 100/\szR (y0:Rat) <= 100/\szR (x1:Rat) <= 100/\szR (y1:Rat) <= 100)/\((((((0:Int)+(1:Int)) == (0:Int)) == false)=true->(szR (Rt.sgs (ax:Rat) (ay:Rat) (ux:Rat) (uy:Rat) (x1:Rat) (y0:Rat) (x1:Rat) (y1:Rat)) <= 1000000/\szR (Rt.sgs (ax:Rat) (ay:Rat) (ux:Rat) (uy:Rat) (x0:Rat) (y0:Rat) (x1:Rat) (y0:Rat)) <= 1000000))/\(((bif (((0:Int)+(1:Int)) == (0:Int)) then true else (decide ((Rt.sg ((Rt.sgs (ax:Rat) (ay:Rat) (ux:Rat) (uy:Rat) (x1:Rat) (y0:Rat) (x1:Rat) (y1:Rat)) - (Rt.sgs (ax:Rat) (ay:Rat) (ux:Rat) (uy:Rat) (x0:Rat) (y0:Rat) (x1:Rat) (y0:Rat)))) < (0:Int))))=true->((inR .i64 (((0:Int)+(1:Int))+(1:Int)))/\(((decide ((((0:Int)+(1:Int))+(1:Int)) < (4:Int)))=true->((sm64 ax/\sm64 ay)/\((sm64 ux/\sm64 uy)/\((inR .i64 ((((0:Int)+(1:Int))+(1:Int))+(1:Int)))/\((0 <= (((0:Int)+(1:Int))+(1:Int))+(1:Int)/\0 < (4:Int))/\((szR (ax:Rat) <= 100/\szR (ay:Rat) <= 100/\szR (ux:Rat) <= 100/\szR (uy:Rat) <= 100/\szR (x1:Rat) <= 100/\szR (y1:Rat) <= 100/\szR (x0:Rat) <= 100/\szR (y1:Rat) <= 100)/\(((((((0:Int)+(1:Int))+(1:Int)) == (0:Int)) == false)=true->(szR (Rt.sgs (ax:Rat) (ay:Rat) (ux:Rat) (uy:Rat) (x1:Rat) (y1:Rat) (x0:Rat) (y1:Rat)) <= 1000000/\szR (Rt.sgs (ax:Rat) (ay:Rat) (ux:Rat) (uy:Rat) (x1:Rat) (y0:Rat) (x1:Rat) (y1:Rat)) <= 1000000))/\(((bif ((((0:Int)+(1:Int))+(1:Int)) == (0:Int)) then true else (decide ((Rt.sg ((Rt.sgs (ax:Rat) (ay:Rat) (ux:Rat) (uy:Rat) (x1:Rat) (y1:Rat) (x0:Rat) (y1:Rat)) - (Rt.sgs (ax:Rat) (ay:Rat) (ux:Rat) (uy:Rat) (x1:Rat) (y0:Rat) (x1:Rat) (y1:Rat)))) < (0:Int))))=true->((inR .i64 ((((0:Int)+(1:Int))+(1:Int))+(1:Int)))/\(((decide (((((0:Int)+(1:Int))+(1:Int))+(1:Int)) < (4:Int)))=true->((sm64 ax/\sm64 ay)/\((sm64 ux/\sm64 uy)/\((inR .i64 (((((0:Int)+(1:Int))+(1:Int))+(1:Int))+(1:Int)))/\((0 <= ((((0:Int)+(1:Int))+(1:Int))+(1:Int))+(1:Int)/\0 < (4:Int))/\((szR (ax:Rat) <= 100/\szR (ay:Rat) <= 100/\szR (ux:Rat) <= 100/\szR (uy:Rat) <= 100/\szR (x0:Rat) <= 100/\szR (y1:Rat) <= 100/\szR (x0:Rat) <= 100/\szR (y0:Rat) <= 100)/\((((((((0:Int)+(1:Int))+(1:Int))+(1:Int)) == (0:Int)) == false)=true->(szR (Rt.sgs (ax:Rat) (ay:Rat) (ux:Rat) (uy:Rat) (x0:Rat) (y1:Rat) (x0:Rat) (y0:Rat)) <= 1000000/\szR (Rt.sgs (ax:Rat) (ay:Rat) (ux:Rat) (uy:Rat) (x1:Rat) (y1:Rat) (x0:Rat) (y1:Rat)) <= 1000000))/\(((bif (((((0:Int)+(1:Int))+(1:Int))+(1:Int)) == (0:Int)) then true else (decide ((Rt.sg ((Rt.sgs (ax:Rat) (ay:Rat) (ux:Rat) (uy:Rat) (x0:Rat) (y1:Rat) (x0:Rat) (y0:Rat)) - (Rt.sgs (ax:Rat) (ay:Rat) (ux:Rat) (uy:Rat) (x1:Rat) (y1:Rat) (x0:Rat) (y1:Rat)))) < (0:Int))))=true->((inR .i64 (((((0:Int)+(1:Int))+(1:Int))+(1:Int))+(1:Int)))/\(((decide ((((((0:Int)+(1:Int))+(1:Int))+(1:Int))+(1:Int)) < (4:Int)))=true->((sm64 ax/\sm64 ay)/\((sm64 ux/\sm64 uy)/\(False))))/\((decide ((((((0:Int)+(1:Int))+(1:Int))+(1:Int))+(1:Int)) < (4:Int)))=false->(((Rt.sgs (ax:Rat) (ay:Rat) (ux:Rat) (uy:Rat) (x0:Rat) (y1:Rat) (x0:Rat) (y0:Rat))=(farS x0 y0 x1 y1 ax ay ux uy))/\(True))))))/\((bif (((((0:Int)+(1:Int))+(1:Int))+(1:Int)) == (0:Int)) then true else (decide ((Rt.sg ((Rt.sgs (ax:Rat) (ay:Rat) (ux:Rat) (uy:Rat) (x0:Rat) (y1:Rat) (x0:Rat) (y0:Rat)) - (Rt.sgs (ax:Rat) (ay:Rat) (ux:Rat) (uy:Rat) (x1:Rat) (y1:Rat) (x0:Rat) (y1:Rat)))) < (0:Int))))=false->((inR .i64 (((((0:Int)+(1:Int))+(1:Int))+(1:Int))+(1:Int)))/\(((decide ((((((0:Int)+(1:Int))+(1:Int))+(1:Int))+(1:Int)) < (4:Int)))=true->((sm64 ax/\sm64 ay)/\((sm64 ux/\sm64 uy)/\(False))))/\((decide ((((((0:Int)+(1:Int))+(1:Int))+(1:Int))+(1:Int)) < (4:Int)))=false->(((Rt.sgs (ax:Rat) (ay:Rat) (ux:Rat) (uy:Rat) (x1:Rat) (y1:Rat) (x0:Rat) (y1:Rat))=(farS x0 y0 x1 y1 ax ay ux uy))/\(True))))))))))))))/\((decide (((((0:Int)+(1:Int))+(1:Int))+(1:Int)) < (4:Int)))=false->(((Rt.sgs (ax:Rat) (ay:Rat) (ux:Rat) (uy:Rat) (x1:Rat) (y1:Rat) (x0:Rat) (y1:Rat))=(farS x0 y0 x1 y1 ax ay ux uy))/\(True))))))/\((bif ((((0:Int)+(1:Int))+(1:Int)) == (0:Int)) then true else (decide ((Rt.sg ((Rt.sgs (ax:Rat) (ay:Rat) (ux:Rat) (uy:Rat) (x1:Rat) (y1:Rat) (x0:Rat) (y1:Rat)) - (Rt.sgs (ax:Rat) (ay:Rat) (ux:Rat) (uy:Rat) (x1:Rat) (y0:Rat) (x1:Rat) (y1:Rat)))) < (0:Int))))=false->((inR .i64 ((((0:Int)+(1:Int))+(1:Int))+(1:Int)))/\(((decide (((((0:Int)+(1:Int))+(1:Int))+(1:Int)) < (4:Int)))=true->((sm64 ax/\sm64 ay)/\((sm64 ux/\sm64 uy)/\((inR .i64 (((((0:Int)+(1:Int))+(1:Int))+(1:Int))+(1:Int)))/\((0 <= ((((0:Int)+(1:Int))+(1:Int))+(1:Int))+(1:Int)/\0 < (4:Int))/\((szR (ax:Rat) <= 100/\szR (ay:Rat) <= 100/\szR (ux:Rat) <= 100/\szR (uy:Rat) <= 100/\szR (x0:Rat) <= 100/\szR (y1:Rat) <= 100/\szR (x0:Rat) <= 100/\szR (y0:Rat) <= 100)/\((((((((0:Int)+(1:Int))+(1:Int))+(1:Int)) == (0:Int)) == false)=true->(szR (Rt.sgs (ax:Rat) (ay:Rat) (ux:Rat) (uy:Rat) (x0:Rat) (y1:Rat) (x0:Rat) (y0:Rat)) <= 1000000/\szR (Rt.sgs (ax:Rat) (ay:Rat) (ux:Rat) (uy:Rat) (x1:Rat) (y0:Rat) (x1:Rat) (y1:Rat)) <= 1000000))/\(((bif (((((0:Int)+(1:Int))+(1:Int))+(1:Int)) == (0:Int)) then true else (decide ((Rt.sg ((Rt.sgs (ax:Rat) (ay:Rat) (ux:Rat) (uy:Rat) (x0:Rat) (y1:Rat) (x0:Rat) (y0:Rat)) - (Rt.sgs (ax:Rat) (ay:Rat) (ux:Rat) (uy:Rat) (x1:Rat) (y0:Rat) (x1:Rat) (y1:Rat)))) < (0:Int))))=true->((inR .i64 (((((0:Int)+(1:Int))+(1:Int))+(1:Int))+(1:Int)))/\(((decide ((((((0:Int)+(1:Int))+(1:Int))+(1:Int))+(1:Int)) < (4:Int)))=true->((sm64 ax/\sm64 ay)/\((sm64 ux/\sm64 uy)/\(False))))/\((decide ((((((0:Int)+(1:Int))+(1:Int))+(1:Int))+(1:Int)) < (4:Int)))=false->(((Rt.sgs (ax:Rat) (ay:Rat) (ux:Rat) (uy:Rat) (x0:Rat) (y1:Rat) (x0:Rat) (y0:Rat))=(farS x0 y0 x1 y1 ax ay ux uy))/\(True))))))/\((bif (((((0:Int)+(1:Int))+(1:Int))+(1:Int)) == (0:Int)) then true else (decide ((Rt.sg ((Rt.sgs (ax:Rat) (ay:Rat) (ux:Rat) (uy:Rat) (x0:Rat) (y1:Rat) (x0:Rat) (y0:Rat)) - (Rt.sgs (ax:Rat) (ay:Rat) (ux:Rat) (uy:Rat) (x1:Rat) (y0:Rat) (x1:Rat) (y1:Rat)))) < (0:Int))))=false->((inR .i64 (((((0:Int)+(1:Int))+(1:Int))+(1:Int))+(1:Int)))/\(((decide ((((((0:Int)+(1:Int))+(1:Int))+(1:Int))+(1:Int)) < (4:Int)))=true->((sm64 ax/\sm64 ay)/\((sm64 ux/\sm64 uy)/\(False))))/\((decide ((((((0:Int)+(1:Int))+(1:Int))+(1:Int))+(1:Int)) < (4:Int)))=false->(((Rt.sgs (ax:Rat) (ay:Rat) (ux:Rat) (uy:Rat) (x1:Rat) (y0:Rat) (x1:Rat) (y1:Rat))=(farS x0 y0 x1 y1 ax ay ux uy))/\(True))))))))))))))/\((decide (((((0:Int)+(1:Int))+(1:Int))+(1:Int)) < (4:Int)))=false->(((Rt.sgs (ax:Rat) (ay:Rat) (ux:Rat) (uy:Rat) (x1:Rat) (y0:Rat) (x1:Rat) (y1:Rat))=(farS x0 y0 x1 y1 ax ay ux uy))/\(True))))))))))))))/\((decide ((((0:Int)+(1:Int))+(1:Int)) < (4:Int)))=false->(((Rt.sgs (ax:Rat) (ay:Rat) (ux:Rat) (uy:Rat) (x1:Rat) (y0:Rat) (x1:Rat) (y1:Rat))=(farS x0 y0 x1 y1 ax ay ux uy))/\(True))))))/\((bif (((0:Int)+(1:Int)) == (0:Int)) then true else (decide ((Rt.sg ((Rt.sgs (ax:Rat) (ay:Rat) (ux:Rat) (uy:Rat) (x1:Rat) (y0:Rat) (x1:Rat) (y1:Rat)) - (Rt.sgs (ax:Rat) (ay:Rat) (ux:Rat) (uy:Rat) (x0:Rat) (y0:Rat) (x1:Rat) (y0:Rat)))) < (0:Int))))=false->((inR .i64 (((0:Int)+(1:Int))+(1:Int)))/\(((decide ((((0:Int)+(1:Int))+(1:Int)) < (4:Int)))=true->((sm64 ax/\sm64 ay)/\((sm64 ux/\sm64 uy)/\((inR .i64 ((((0:Int)+(1:Int))+(1:Int))+(1:Int)))/\((0 <= (((0:Int)+(1:Int))+(1:Int))+(1:Int)/\0 < (4:Int))/\((szR (ax:Rat) <= 100/\szR (ay:Rat) <= 100/\szR (ux:Rat) <= 100/\szR (uy:Rat) <= 100/\szR (x1:Rat) <= 100/\szR (y1:Rat) <= 100/\szR (x0:Rat) <= 100/\szR (y1:Rat) <= 100)/\(((((((0:Int)+(1:Int))+(1:Int)) == (0:Int)) == false)=true->(szR (Rt.sgs (ax:Rat) (ay:Rat) (ux:Rat) (uy:Rat) (x1:Rat) (y1:Rat) (x0:Rat) (y1:Rat)) <= 1000000/\szR (Rt.sgs (ax:Rat) (ay:Rat) (ux:Rat) (uy:Rat) (x0:Rat) (y0:Rat) (x1:Rat) (y0:Rat)) <= 1000000))/\(((bif ((((0:Int)+(1:Int))+(1:Int)) == (0:Int)) then true else (decide ((Rt.sg ((Rt.sgs (ax:Rat) (ay:Rat) (ux:Rat) (uy:Rat) (x1:Rat) (y1:Rat) (x0:Rat) (y1:Rat)) - (Rt.sgs (ax:Rat) (ay:Rat) (ux:Rat) (uy:Rat) (x0:Rat) (y0:Rat) (x1:Rat) (y0:Rat)))) < (0:Int))))=true->((inR .i64 ((((0:Int)+(1:Int))+(1:Int))+(1:Int)))/\(((decide (((((0:Int)+(1:Int))+(1:Int))+(1:Int)) < (4:Int)))=true->((sm64 ax/\sm64 ay)/\((sm64 ux/\sm64 uy)/\((inR .i64 (((((0:Int)+(1:Int))+(1:Int))+(1:Int))+(1:Int)))/\((0 <= ((((0:Int)+(1:Int))+(1:Int))+(1:Int))+(1:Int)/\0 < (4:Int))/\((szR (ax:Rat) <= 100/\szR (ay:Rat) <= 100/\szR (ux:Rat) <= 100/\szR (uy:Rat) <= 100/\szR (x0:Rat) <= 100/\szR (y1:Rat) <= 100/\szR (x0:Rat) <= 100/\szR (y0:Rat) <= 100)/\((((((((0:Int)+(1:Int))+(1:Int))+(1:Int)) == (0:Int)) == false)=true->(szR (Rt.sgs (ax:Rat) (ay:Rat) (ux:Rat) (uy:Rat) (x0:Rat) (y1:Rat) (x0:Rat) (y0:Rat)) <= 1000000/\szR (Rt.sgs (ax:Rat) (ay:Rat) (ux:Rat) (uy:Rat) (x1:Rat) (y1:Rat) (x0:Rat) (y1:Rat)) <= 1000000))/\(((bif (((((0:Int)+(1:Int))+(1:Int))+(1:Int)) == (0:Int)) then true else (decide ((Rt.sg ((Rt.sgs (ax:Rat) (ay:Rat) (ux:Rat) (uy:Rat) (x0:Rat) (y1:Rat) (x0:Rat) (y0:Rat)) - (Rt.sgs (ax:Rat) (ay:Rat) (ux:Rat) (uy:Rat) (x1:Rat) (y1:Rat) (x0:Rat) (y1:Rat)))) < (0:Int))))=true->((inR .i64 (((((0:Int)+(1:Int))+(1:Int))+(1:Int))+(1:Int)))/\(((decide ((((((0:Int)+(1:Int))+(1:Int))+(1:Int))+(1:Int)) < (4:Int)))=true->((sm64 ax/\sm64 ay)/\((sm64 ux/\sm64 uy)/\(False))))/\((decide ((((((0:Int)+(1:Int))+(1:Int))+(1:Int))+(1:Int)) < (4:Int)))=false->(((Rt.sgs (ax:Rat) (ay:Rat) (ux:Rat) (uy:Rat) (x0:Rat) (y1:Rat) (x0:Rat) (y0:Rat))=(farS x0 y0 x1 y1 ax ay ux uy))/\(True))))))/\((bif (((((0:Int)+(1:Int))+(1:Int))+(1:Int)) == (0:Int)) then true else (decide ((Rt.sg ((Rt.sgs (ax:Rat) (ay:Rat) (ux:Rat) (uy:Rat) (x0:Rat) (y1:Rat) (x0:Rat) (y0:Rat)) - (Rt.sgs (ax:Rat) (ay:Rat) (ux:Rat) (uy:Rat) (x1:Rat) (y1:Rat) (x0:Rat) (y1:Rat)))) < (0:Int))))=false->((inR .i64 (((((0:Int)+(1:Int))+(1:Int))+(1:Int))+(1:Int)))/\(((decide ((((((0:Int)+(1:Int))+(1:Int))+(1:Int))+(1:Int)) < (4:Int)))=true->((sm64 ax/\sm64 ay)/\((sm64 ux/\sm64 uy)/\(False))))/\((decide ((((((0:Int)+(1:Int))+(1:Int))+(1:Int))+(1:Int)) < (4:Int)))=false->(((Rt.sgs (ax:Rat) (ay:Rat) (ux:Rat) (uy:Rat) (x1:Rat) (y1:Rat) (x0:Rat) (y1:Rat))=(farS x0 y0 x1 y1 ax ay ux uy))/\(True))))))))))))))/\((decide (((((0:Int)+(1:Int))+(1:Int))+(1:Int)) < (4:Int)))=false->(((Rt.sgs (ax:Rat) (ay:Rat) (ux:Rat) (uy:Rat) (x1:Rat) (y1:Rat) (x0:Rat) (y1:Rat))=(farS x0 y0 x1 y1 ax ay ux uy))/\(True))))))/\((bif ((((0:Int)+(1:Int))+(1:Int)) == (0:Int)) then true else (decide ((Rt.sg ((Rt.sgs (ax:Rat) (ay:Rat) (ux:Rat) (uy:Rat) (x1:Rat) (y1:Rat) (x0:Rat) (y1:Rat)) - (Rt.sgs (ax:Rat) (ay:Rat) (ux:Rat) (uy:Rat) (x0:Rat) (y0:Rat) (x1:Rat) (y0:Rat)))) < (0:Int))))=false->((inR .i64 ((((0:Int)+(1:Int))+(1:Int))+(1:Int)))/\(((decide (((((0:Int)+(1:Int))+(1:Int))+(1:Int)) < (4:Int)))=true->((sm64 ax/\sm64 ay)/\((sm64 ux/\sm64 uy)/\((inR .i64 (((((0:Int)+(1:Int))+(1:Int))+(1:Int))+(1:Int)))/\((0 <= ((((0:Int)+(1:Int))+(1:Int))+(1:Int))+(1:Int)/\0 < (4:Int))/\((szR (ax:Rat) <= 100/\szR (ay:Rat) <= 100/\szR (ux:Rat) <= 100/\szR (uy:Rat) <= 100/\szR (x0:Rat) <= 100/\szR (y1:Rat) <= 100/\szR (x0:Rat) <= 100/\szR (y0:Rat) <= 100)/\((((((((0:Int)+(1:Int))+(1:Int))+(1:Int)) == (0:Int)) == false)=true->(szR (Rt.sgs (ax:Rat) (ay:Rat) (ux:Rat) (uy:Rat) (x0:Rat) (y1:Rat) (x0:Rat) (y0:Rat)) <= 1000000/\szR (Rt.sgs (ax:Rat) (ay:Rat) (ux:Rat) (uy:Rat) (x0:Rat) (y0:Rat) (x1:Rat) (y0:Rat)) <= 1000000))/\(((bif (((((0:Int)+(1:Int))+(1:Int))+(1:Int)) == (0:Int)) then true else (decide ((Rt.sg ((Rt.sgs (ax:Rat) (ay:Rat) (ux:Rat) (uy:Rat) (x0:Rat) (y1:Rat) (x0:Rat) (y0:Rat)) - (Rt.sgs (ax:Rat) (ay:Rat) (ux:Rat) (uy:Rat) (x0:Rat) (y0:Rat) (x1:Rat) (y0:Rat)))) < (0:Int))))=true->((inR .i64 (((((0:Int)+(1:Int))+(1:Int))+(1:Int))+(1:Int)))/\(((decide ((((((0:Int)+(1:Int))+(1:Int))+(1:Int))+(1:Int)) < (4:Int)))=true->((sm64 ax/\sm64 ay)/\((sm64 ux/\sm64 uy)/\(False))))/\((decide ((((((0:Int)+(1:Int))+(1:Int))+(1:Int))+(1:Int)) < (4:Int)))=false->(((Rt.sgs (ax:Rat) (ay:Rat) (ux:Rat) (uy:Rat) (x0:Rat) (y1:Rat) (x0:Rat) (y0:Rat))=(farS x0 y0 x1 y1 ax ay ux uy))/\(True))))))/\((bif (((((0:Int)+(1:Int))+(1:Int))+(1:Int)) == (0:Int)) then true else (decide ((Rt.sg ((Rt.sgs (ax:Rat) (ay:Rat) (ux:Rat) (uy:Rat) (x0:Rat) (y1:Rat) (x0:Rat) (y0:Rat)) - (Rt.sgs (ax:Rat) (ay:Rat) (ux:Rat) (uy:Rat) (x0:Rat) (y0:Rat) (x1:Rat) (y0:Rat)))) < (0:Int))))=false->((inR .i64 (((((0:Int)+(1:Int))+(1:Int))+(1:Int))+(1:Int)))/\(((decide ((((((0:Int)+(1:Int))+(1:Int))+(1:Int))+(1:Int)) < (4:Int)))=true->((sm64 ax/\sm64 ay)/\((sm64 ux/\sm64 uy)/\(False))))/\((decide ((((((0:Int)+(1:Int))+(1:Int))+(1:Int))+(1:Int)) < (4:Int)))=false->(((Rt.sgs (ax:Rat) (ay:Rat) (ux:Rat) (uy:Rat) (x0:Rat) (y0:Rat) (x1:Rat) (y0:Rat))=(farS x0 y0 x1 y1 ax ay ux uy))/\(True))))))))))))))/\((decide (((((0:Int)+(1:Int))+(1:Int))+(1:Int)) < (4:Int)))=false->(((Rt.sgs (ax:Rat) (ay:Rat) (ux:Rat) (uy:Rat) (x0:Rat) (y0:Rat) (x1:Rat) (y0:Rat))=(farS x0 y0 x1 y1 ax ay ux uy))/\(True))))))))))))))/\((decide ((((0:Int)+(1:Int))+(1:Int)) < (4:Int)))=false->(((Rt.sgs (ax:Rat) (ay:Rat) (ux:Rat) (uy:Rat) (x0:Rat) (y0:Rat) (x1:Rat) (y0:Rat))=(farS x0 y0 x1 y1 ax ay ux uy))/\(True))))))))))))))/\((decide (((0:Int)+(1:Int)) < (4:Int)))=false->(((Rt.sgs (ax:Rat) (ay:Rat) (ux:Rat) (uy:Rat) (x0:Rat) (y0:Rat) (x1:Rat) (y0:Rat))=(farS x0 y0 x1 y1 ax ay ux uy))/\(True))))))/\((bif ((0:Int) == (0:Int)) then true else (decide ((0:Int) < (0:Int))))=false->((inR .i64 ((0:Int)+(1:Int)))/\(((decide (((0:Int)+(1:Int)) < (4:Int)))=true->((sm64 ax/\sm64 ay)/\((sm64 ux/\sm64 uy)/\((inR .i64 (((0:Int)+(1:Int))+(1:Int)))/\((0 <= ((0:Int)+(1:Int))+(1:Int)/\0 < (4:Int))/\((szR (ax:Rat) <= 100/\szR (ay:Rat) <= 100/\szR (ux:Rat) <= 100/\szR (uy:Rat) <= 100/\szR (x1:Rat) <= 100/\szR (y0:Rat) <= 100/\szR (x1:Rat) <= 100/\szR (y1:Rat) <= 100)/\((((((0:Int)+(1:Int)) == (0:Int)) == false)=true->(szR (Rt.sgs (ax:Rat) (ay:Rat) (ux:Rat) (uy:Rat) (x1:Rat) (y0:Rat) (x1:Rat) (y1:Rat)) <= 1000000))/\(((bif (((0:Int)+(1:Int)) == (0:Int)) then true else (decide ((0:Int) < (0:Int))))=true->((inR .i64 (((0:Int)+(1:Int))+(1:Int)))/\(((decide ((((0:Int)+(1:Int))+(1:Int)) < (4:Int)))=true->((sm64 ax/\sm64 ay)/\((sm64 ux/\sm64 uy)/\((inR .i64 ((((0:Int)+(1:Int))+(1:Int))+(1:Int)))/\((0 <= (((0:Int)+(1:Int))+(1:Int))+(1:Int)/\0 < (4:Int))/\((szR (ax:Rat) <= 100/\szR (ay:Rat) <= 100/\szR (ux:Rat) <= 100/\szR (uy:Rat) <= 100/\szR (x1:Rat) <= 100/\szR (y1:Rat) <= 100/\szR (x0:Rat) <= 100/\szR (y1:Rat) <= 100)/\(((((((0:Int)+(1:Int))+(1:Int)) == (0:Int)) == false)=true->(szR (Rt.sgs (ax:Rat) (ay:Rat) (ux:Rat) (uy:Rat) (x1:Rat) (y1:Rat) (x0:Rat) (y1:Rat)) <= 1000000/\szR (Rt.sgs (ax:Rat) (ay:Rat) (ux:Rat) (uy:Rat) (x1:Rat) (y0:Rat) (x1:Rat) (y1:Rat)) <= 1000000))/\(((bif ((((0:Int)+(1:Int))+(1:Int)) == (0:Int)) then true else (decide ((Rt.sg ((Rt.sgs (ax:Rat) (ay:Rat) (ux:Rat) (uy:Rat) (x1:Rat) (y1:Rat) (x0:Rat) (y1:Rat)) - (Rt.sgs (ax:Rat) (ay:Rat) (ux:Rat) (uy:Rat) (x1:Rat) (y0:Rat) (x1:Rat) (y1:Rat)))) < (0:Int))))=true->((inR .i64 ((((0:Int)+(1:Int))+(1:Int))+(1:Int)))/\(((decide (((((0:Int)+(1:Int))+(1:Int))+(1:Int)) < (4:Int)))=true->((sm64 ax/\sm64 ay)/\((sm64 ux/\sm64 uy)/\((inR .i64 (((((0:Int)+(1:Int))+(1:Int))+(1:Int))+(1:Int)))/\((0 <= ((((0:Int)+(1:Int))+(1:Int))+(1:Int))+(1:Int)/\0 < (4:Int))/\((szR (ax:Rat) <= 100/\szR (ay:Rat) <= 100/\szR (ux:Rat) <= 100/\szR (uy:Rat) <= 100/\szR (x0:Rat) <= 100/\szR (y1:Rat) <= 100/\szR (x0:Rat) <= 100/\szR (y0:Rat) <= 100)/\((((((((0:Int)+(1:Int))+(1:Int))+(1:Int)) == (0:Int)) == false)=true->(szR (Rt.sgs (ax:Rat) (ay:Rat) (ux:Rat) (uy:Rat) (x0:Rat) (y1:Rat) (x0:Rat) (y0:Rat)) <= 1000000/\szR (Rt.sgs (ax:Rat) (ay:Rat) (ux:Rat) (uy:Rat) (x1:Rat) (y1:Rat) (x0:Rat) (y1:Rat)) <= 1000000))/\(((bif (((((0:Int)+(1:Int))+(1:Int))+(1:Int)) == (0:Int)) then true else (decide ((Rt.sg ((Rt.sgs (ax:Rat) (ay:Rat) (ux:Rat) (uy:Rat) (x0:Rat) (y1:Rat) (x0:Rat) (y0:Rat)) - (Rt.sgs (ax:Rat) (ay:Rat) (ux:Rat) (uy:Rat) (x1:Rat) (y1:Rat) (x0:Rat) (y1:Rat)))) < (0:Int))))=true->((inR .i64 (((((0:Int)+(1:Int))+(1:Int))+(1:Int))+(1:Int)))/\(((decide ((((((0:Int)+(1:Int))+(1:Int))+(1:Int))+(1:Int)) < (4:Int)))=true->((sm64 ax/\sm64 ay)/\((sm64 ux/\sm64 uy)/\(False))))/\((decide ((((((0:Int)+(1:Int))+(1:Int))+(1:Int))+(1:Int)) < (4:Int)))=false->(((Rt.sgs (ax:Rat) (ay:Rat) (ux:Rat) (uy:Rat) (x0:Rat) (y1:Rat) (x0:Rat) (y0:Rat))=(farS x0 y0 x1 y1 ax ay ux uy))/\(True))))))/\((bif (((((0:Int)+(1:Int))+(1:Int))+(1:Int)) == (0:Int)) then true else (decide ((Rt.sg ((Rt.sgs (ax:Rat) (ay:Rat) (ux:Rat) (uy:Rat) (x0:Rat) (y1:Rat) (x0:Rat) (y0:Rat)) - (Rt.sgs (ax:Rat) (ay:Rat) (ux:Rat) (uy:Rat) (x1:Rat) (y1:Rat) (x0:Rat) (y1:Rat)))) < (0:Int))))=false->((inR .i64 (((((0:Int)+(1:Int))+(1:Int))+(1:Int))+(1:Int)))/\(((decide ((((((0:Int)+(1:Int))+(1:Int))+(1:Int))+(1:Int)) < (4:Int)))=true->((sm64 ax/\sm64 ay)/\((sm64 ux/\sm64 uy)/\(False))))/\((decide ((((((0:Int)+(1:Int))+(1:Int))+(1:Int))+(1:Int)) < (4:Int)))=false->(((Rt.sgs (ax:Rat) (ay:Rat) (ux:Rat) (uy:Rat) (x1:Rat) (y1:Rat) (x0:Rat) (y1:Rat))=(farS x0 y0 x1 y1 ax ay ux uy))/\(True))))))))))))))/\((decide (((((0:Int)+(1:Int))+(1:Int))+(1:Int)) < (4:Int)))=false->(((Rt.sgs (ax:Rat) (ay:Rat) (ux:Rat) (uy:Rat) (x1:Rat) (y1:Rat) (x0:Rat) (y1:Rat))=(farS x0 y0 x1 y1 ax ay ux uy))/\(True))))))/\((bif ((((0:Int)+(1:Int))+(1:Int)) == (0:Int)) then true else (decide ((Rt.sg ((Rt.sgs (ax:Rat) (ay:Rat) (ux:Rat) (uy:Rat) (x1:Rat) (y1:Rat) (x0:Rat) (y1:Rat)) - (Rt.sgs (ax:Rat) (ay:Rat) (ux:Rat) (uy:Rat) (x1:Rat) (y0:Rat) (x1:Rat) (y1:Rat)))) < (0:Int))))=false->((inR .i64 ((((0:Int)+(1:Int))+(1:Int))+(1:Int)))/\(((decide (((((0:Int)+(1:Int))+(1:Int))+(1:Int)) < (4:Int)))=true->((sm64 ax/\sm64 ay)/\((sm64 ux/\sm64 uy)/\((inR .i64 (((((0:Int)+(1:Int))+(1:Int))+(1:Int))+(1:Int)))/\((0 <= ((((0:Int)+(1:Int))+(1:Int))+(1:Int))+(1:Int)/\0 < (4:Int))/\((szR (ax:Rat) <= 100/\szR (ay:Rat) <= 100/\szR (ux:Rat) <= 100/\szR (uy:Rat) <= 100/\szR (x0:Rat) <= 100/\szR (y1:Rat) <= 100/\szR (x0:Rat) <= 100/\szR (y0:Rat) <= 100)/\((((((((0:Int)+(1:Int))+(1:Int))+(1:Int)) == (0:Int)) == false)=true->(szR (Rt.sgs (ax:Rat) (ay:Rat) (ux:Rat) (uy:Rat) (x0:Rat) (y1:Rat) (x0:Rat) (y0:Rat)) <= 1000000/\szR (Rt.sgs (ax:Rat) (ay:Rat) (ux:Rat) (uy:Rat) (x1:Rat) (y0:Rat) (x1:Rat) (y1:Rat)) <= 1000000))/\(((bif (((((0:Int)+(1:Int))+(1:Int))+(1:Int)) == (0:Int)) then true else (decide ((Rt.sg ((Rt.sgs (ax:Rat) (ay:Rat) (ux:Rat) (uy:Rat) (x0:Rat) (y1:Rat) (x0:Rat) (y0:Rat)) - (Rt.sgs (ax:Rat) (ay:Rat) (ux:Rat) (uy:Rat) (x1:Rat) (y0:Rat) (x1:Rat) (y1:Rat)))) < (0:Int))))=true->((inR .i64 (((((0:Int)+(1:Int))+(1:Int))+(1:Int))+(1:Int)))/\(((decide ((((((0:Int)+(1:Int))+(1:Int))+(1:Int))+(1:Int)) < (4:Int)))=true->((sm64 ax/\sm64 ay)/\((sm64 ux/\sm64 uy)/\(False))))/\((decide ((((((0:Int)+(1:Int))+(1:Int))+(1:Int))+(1:Int)) < (4:Int)))=false->(((Rt.sgs (ax:Rat) (ay:Rat) (ux:Rat) (uy:Rat) (x0:Rat) (y1:Rat) (x0:Rat) (y0:Rat))=(farS x0 y0 x1 y1 ax ay ux uy))/\(True))))))/\((bif (((((0:Int)+(1:Int))+(1:Int))+(1:Int)) == (0:Int)) then true else (decide ((Rt.sg ((Rt.sgs (ax:Rat) (ay:Rat) (ux:Rat) (uy:Rat) (x0:Rat) (y1:Rat) (x0:Rat) (y0:Rat)) - (Rt.sgs (ax:Rat) (ay:Rat) (ux:Rat) (uy:Rat) (x1:Rat) (y0:Rat) (x1:Rat) (y1:Rat)))) < (0:Int))))=false->((inR .i64 (((((0:Int)+(1:Int))+(1:Int))+(1:Int))+(1:Int)))/\(((decide ((((((0:Int)+(1:Int))+(1:Int))+(1:Int))+(1:Int)) < (4:Int)))=true->((sm64 ax/\sm64 ay)/\((sm64 ux/\sm64 uy)/\(False))))/\((decide ((((((0:Int)+(1:Int))+(1:Int))+(1:Int))+(1:Int)) < (4:Int)))=false->(((Rt.sgs (ax:Rat) (ay:Rat) (ux:Rat) (uy:Rat) (x1:Rat) (y0:Rat) (x1:Rat) (y1:Rat))=(farS x0 y0 x1 y1 ax ay ux uy))/\(True))))))))))))))/\((decide (((((0:Int)+(1:Int))+(1:Int))+(1:Int)) < (4:Int)))=false->(((Rt.sgs (ax:Rat) (ay:Rat) (ux:Rat) (uy:Rat) (x1:Rat) (y0:Rat) (x1:Rat) (y1:Rat))=(farS x0 y0 x1 y1 ax ay ux uy))/\(True))))))))))))))/\((decide ((((0:Int)+(1:Int))+(1:Int)) < (4:Int)))=false->(((Rt.sgs (ax:Rat) (ay:Rat) (ux:Rat) (uy:Rat) (x1:Rat) (y0:Rat) (x1:Rat) (y1:Rat))=(farS x0 y0 x1 y1 ax ay ux uy))/\(True))))))/\((bif (((0:Int)+(1:Int)) == (0:Int)) then true else (decide ((0:Int) < (0:Int))))=false->((inR .i64 (((0:Int)+(1:Int))+(1:Int)))/\(((decide ((((0:Int)+(1:Int))+(1:Int)) < (4:Int)))=true->((sm64 ax/\sm64 ay)/\((sm64 ux/\sm64 uy)/\((inR .i64 ((((0:Int)+(1:Int))+(1:Int))+(1:Int)))/\((0 <= (((0:Int)+(1:Int))+(1:Int))+(1:Int)/\0 < (4:Int))/\((szR (ax:Rat) <= 100/\szR (ay:Rat) <= 100/\szR (ux:Rat) <= 100/\szR (uy:Rat) <= 100/\szR (x1:Rat) <= 100/\szR (y1:Rat) <= 100/\szR (x0:Rat) <= 100/\szR (y1:Rat) <= 100)/\(((((((0:Int)+(1:Int))+(1:Int)) == (0:Int)) == false)=true->(szR (Rt.sgs (ax:Rat) (ay:Rat) (ux:Rat) (uy:Rat) (x1:Rat) (y1:Rat) (x0:Rat) (y1:Rat)) <= 1000000))/\(((bif ((((0:Int)+(1:Int))+(1:Int)) == (0:Int)) then true else (decide ((0:Int) < (0:Int))))=true->((inR .i64 ((((0:Int)+(1:Int))+(1:Int))+(1:Int)))/\(((decide (((((0:Int)+(1:Int))+(1:Int))+(1:Int)) < (4:Int)))=true->((sm64 ax/\sm64 ay)/\((sm64 ux/\sm64 uy)/\((inR .i64 (((((0:Int)+(1:Int))+(1:Int))+(1:Int))+(1:Int)))/\((0 <= ((((0:Int)+(1:Int))+(1:Int))+(1:Int))+(1:Int)/\0 < (4:Int))/\((szR (ax:Rat) <= 100/\szR (ay:Rat) <= 100/\szR (ux:Rat) <= 100/\szR (uy:Rat) <= 100/\szR (x0:Rat) <= 100/\szR (y1:Rat) <= 100/\szR (x0:Rat) <= 100/\szR (y0:Rat) <= 100)/\((((((((0:Int)+(1:Int))+(1:Int))+(1:Int)) == (0:Int)) == false)=true->(szR (Rt.sgs (ax:Rat) (ay:Rat) (ux:Rat) (uy:Rat) (x0:Rat) (y1:Rat) (x0:Rat) (y0:Rat)) <= 1000000/\szR (Rt.sgs (ax:Rat) (ay:Rat) (ux:Rat) (uy:Rat) (x1:Rat) (y1:Rat) (x0:Rat) (y1:Rat)) <= 1000000))/\(((bif (((((0:Int)+(1:Int))+(1:Int))+(1:Int)) == (0:Int)) then true else (decide ((Rt.sg ((Rt.sgs (ax:Rat) (ay:Rat) (ux:Rat) (uy:Rat) (x0:Rat) (y1:Rat) (x0:Rat) (y0:Rat)) - (Rt.sgs (ax:Rat) (ay:Rat) (ux:Rat) (uy:Rat) (x1:Rat) (y1:Rat) (x0:Rat) (y1:Rat)))) < (0:Int))))=true->((inR .i64 (((((0:Int)+(1:Int))+(1:Int))+(1:Int))+(1:Int)))/\(((decide ((((((0:Int)+(1:Int))+(1:Int))+(1:Int))+(1:Int)) < (4:Int)))=true->((sm64 ax/\sm64 ay)/\((sm64 ux/\sm64 uy)/\(False))))/\((decide ((((((0:Int)+(1:Int))+(1:Int))+(1:Int))+(1:Int)) < (4:Int)))=false->(((Rt.sgs (ax:Rat) (ay:Rat) (ux:Rat) (uy:Rat) (x0:Rat) (y1:Rat) (x0:Rat) (y0:Rat))=(farS x0 y0 x1 y1 ax ay ux uy))/\(True))))))/\((bif (((((0:Int)+(1:Int))+(1:Int))+(1:Int)) == (0:Int)) then true else (decide ((Rt.sg ((Rt.sgs (ax:Rat) (ay:Rat) (ux:Rat) (uy:Rat) (x0:Rat) (y1:Rat) (x0:Rat) (y0:Rat)) - (Rt.sgs (ax:Rat) (ay:Rat) (ux:Rat) (uy:Rat) (x1:Rat) (y1:Rat) (x0:Rat) (y1:Rat)))) < (0:Int))))=false->((inR .i64 (((((0:Int)+(1:Int))+(1:Int))+(1:Int))+(1:Int)))/\(((decide ((((((0:Int)+(1:Int))+(1:Int))+(1:Int))+(1:Int)) < (4:Int)))=true->((sm64 ax/\sm64 ay)/\((sm64 ux/\sm64 uy)/\(False))))/\((decide ((((((0:Int)+(1:Int))+(1:Int))+(1:Int))+(1:Int)) < (4:Int)))=false->(((Rt.sgs (ax:Rat) (ay:Rat) (ux:Rat) (uy:Rat) (x1:Rat) (y1:Rat) (x0:Rat) (y1:Rat))=(farS x0 y0 x1 y1 ax ay ux uy))/\(True))))))))))))))/\((decide (((((0:Int)+(1:Int))+(1:Int))+(1:Int)) < (4:Int)))=false->(((Rt.sgs (ax:Rat) (ay:Rat) (ux:Rat) (uy:Rat) (x1:Rat) (y1:Rat) (x0:Rat) (y1:Rat))=(farS x0 y0 x1 y1 ax ay ux uy))/\(True))))))/\((bif ((((0:Int)+(1:Int))+(1:Int)) == (0:Int)) then true else (decide ((0:Int) < (0:Int))))=false->((inR .i64 ((((0:Int)+(1:Int))+(1:Int))+(1:Int)))/\(((decide (((((0:Int)+(1:Int))+(1:Int))+(1:Int)) < (4:Int)))=true->((sm64 ax/\sm64 ay)/\((sm64 ux/\sm64 uy)/\((inR .i64 (((((0:Int)+(1:Int))+(1:Int))+(1:Int))+(1:Int)))/\((0 <= ((((0:Int)+(1:Int))+(1:Int))+(1:Int))+(1:Int)/\0 < (4:Int))/\((szR (ax:Rat) <= 100/\szR (ay:Rat) <= 100/\szR (ux:Rat) <= 100/\szR (uy:Rat) <= 100/\szR (x0:Rat) <= 100/\szR (y1:Rat) <= 100/\szR (x0:Rat) <= 100/\szR (y0:Rat) <= 100)/\((((((((0:Int)+(1:Int))+(1:Int))+(1:Int)) == (0:Int)) == false)=true->(szR (Rt.sgs (ax:Rat) (ay:Rat) (ux:Rat) (uy:Rat) (x0:Rat) (y1:Rat) (x0:Rat) (y0:Rat)) <= 1000000))/\(((bif (((((0:Int)+(1:Int))+(1:Int))+(1:Int)) == (0:Int)) then true else (decide ((0:Int) < (0:Int))))=true->((inR .i64 (((((0:Int)+(1:Int))+(1:Int))+(1:Int))+(1:Int)))/\(((decide ((((((0:Int)+(1:Int))+(1:Int))+(1:Int))+(1:Int)) < (4:Int)))=true->((sm64 ax/\sm64 ay)/\((sm64 ux/\sm64 uy)/\(False))))/\((decide ((((((0:Int)+(1:Int))+(1:Int))+(1:Int))+(1:Int)) < (4:Int)))=false->(((Rt.sgs (ax:Rat) (ay:Rat) (ux:Rat) (uy:Rat) (x0:Rat) (y1:Rat) (x0:Rat) (y0:Rat))=(farS x0 y0 x1 y1 ax ay ux uy))/\(True))))))/\((bif (((((0:Int)+(1:Int))+(1:Int))+(1:Int)) == (0:Int)) then true else (decide ((0:Int) < (0:Int))))=false->((inR .i64 (((((0:Int)+(1:Int))+(1:Int))+(1:Int))+(1:Int)))/\(((decide ((((((0:Int)+(1:Int))+(1:Int))+(1:Int))+(1:Int)) < (4:Int)))=true->((sm64 ax/\sm64 ay)/\((sm64 ux/\sm64 uy)/\(False))))/\((decide ((((((0:Int)+(1:Int))+(1:Int))+(1:Int))+(1:Int)) < (4:Int)))=false->(False)))))))))))))/\((decide (((((0:Int)+(1:Int))+(1:Int))+(1:Int)) < (4:Int)))=false->(False)))))))))))))/\((decide ((((0:Int)+(1:Int))+(1:Int)) < (4:Int)))=false->(False)))))))))))))/\((decide (((0:Int)+(1:Int)) < (4:Int)))=false->(False)))))))))))))/\((decide ((0:Int) < (4:Int)))=false->(False)))))))))))=_ by kernel_rfl) ?_
 obtain ⟨h1,h2,h3,h4,h5,h6,h7,h8⟩:=hp
 have s1:=szR_sm h1; have s2:=szR_sm h2; have s3:=szR_sm h3; have s4:=szR_sm h4; have s5:=szR_sm h5; have s6:=szR_sm h6; have s7:=szR_sm h7; have s8:=szR_sm h8
 have z0:=szR_sgs s5 s6 s7 s8 s1 s2 s3 s2
 have z1:=szR_sgs s5 s6 s7 s8 s3 s2 s3 s4
 have z2:=szR_sgs s5 s6 s7 s8 s3 s4 s1 s4
 have z3:=szR_sgs s5 s6 s7 s8 s1 s4 s1 s2
 exact ⟨trivial,fun _=>trivial,fun c=>⟨⟨by decide,by decide⟩,(show ((0:Int):Rat)=farS x0 y0 x1 y1 ax ay ux uy from (if_pos c).symm),trivial⟩,fun hc=>⟨⟨h1,h2⟩,⟨h3,h2⟩,⟨h3,h4⟩,⟨h1,h4⟩,⟨fun _=>⟨⟨h5,h6⟩,⟨h7,h8⟩,by simp only [inR]; omega,⟨by omega,by omega⟩,⟨s5,s6,s7,s8,s1,s2,s3,s2⟩,fun _=>z0,fun _=>⟨by simp only [inR]; omega,⟨fun _=>⟨⟨h5,h6⟩,⟨h7,h8⟩,by simp only [inR]; omega,⟨by omega,by omega⟩,⟨s5,s6,s7,s8,s3,s2,s3,s4⟩,fun _=>⟨z1,z0⟩,fun c=>have e1:Rt.mn (Rt.sgs (ax:Rat) (ay:Rat) (ux:Rat) (uy:Rat) (x0:Rat) (y0:Rat) (x1:Rat) (y0:Rat)) (Rt.sgs (ax:Rat) (ay:Rat) (ux:Rat) (uy:Rat) (x1:Rat) (y0:Rat) (x1:Rat) (y1:Rat))=(Rt.sgs (ax:Rat) (ay:Rat) (ux:Rat) (uy:Rat) (x1:Rat) (y0:Rat) (x1:Rat) (y1:Rat)):=mnT (show decide (Rt.sg ((Rt.sgs (ax:Rat) (ay:Rat) (ux:Rat) (uy:Rat) (x1:Rat) (y0:Rat) (x1:Rat) (y1:Rat)) - (Rt.sgs (ax:Rat) (ay:Rat) (ux:Rat) (uy:Rat) (x0:Rat) (y0:Rat) (x1:Rat) (y0:Rat))) < 0)=true from c); ⟨by simp only [inR]; omega,⟨fun _=>⟨⟨h5,h6⟩,⟨h7,h8⟩,by simp only [inR]; omega,⟨by omega,by omega⟩,⟨s5,s6,s7,s8,s3,s4,s1,s4⟩,fun _=>⟨z2,z1⟩,fun c=>have e2:Rt.mn (Rt.sgs (ax:Rat) (ay:Rat) (ux:Rat) (uy:Rat) (x1:Rat) (y0:Rat) (x1:Rat) (y1:Rat)) (Rt.sgs (ax:Rat) (ay:Rat) (ux:Rat) (uy:Rat) (x1:Rat) (y1:Rat) (x0:Rat) (y1:Rat))=(Rt.sgs (ax:Rat) (ay:Rat) (ux:Rat) (uy:Rat) (x1:Rat) (y1:Rat) (x0:Rat) (y1:Rat)):=mnT (show decide (Rt.sg ((Rt.sgs (ax:Rat) (ay:Rat) (ux:Rat) (uy:Rat) (x1:Rat) (y1:Rat) (x0:Rat) (y1:Rat)) - (Rt.sgs (ax:Rat) (ay:Rat) (ux:Rat) (uy:Rat) (x1:Rat) (y0:Rat) (x1:Rat) (y1:Rat))) < 0)=true from c); ⟨by simp only [inR]; omega,⟨fun _=>⟨⟨h5,h6⟩,⟨h7,h8⟩,by simp only [inR]; omega,⟨by omega,by omega⟩,⟨s5,s6,s7,s8,s1,s4,s1,s2⟩,fun _=>⟨z3,z2⟩,fun c=>have e3:Rt.mn (Rt.sgs (ax:Rat) (ay:Rat) (ux:Rat) (uy:Rat) (x1:Rat) (y1:Rat) (x0:Rat) (y1:Rat)) (Rt.sgs (ax:Rat) (ay:Rat) (ux:Rat) (uy:Rat) (x0:Rat) (y1:Rat) (x0:Rat) (y0:Rat))=(Rt.sgs (ax:Rat) (ay:Rat) (ux:Rat) (uy:Rat) (x0:Rat) (y1:Rat) (x0:Rat) (y0:Rat)):=mnT (show decide (Rt.sg ((Rt.sgs (ax:Rat) (ay:Rat) (ux:Rat) (uy:Rat) (x0:Rat) (y1:Rat) (x0:Rat) (y0:Rat)) - (Rt.sgs (ax:Rat) (ay:Rat) (ux:Rat) (uy:Rat) (x1:Rat) (y1:Rat) (x0:Rat) (y1:Rat))) < 0)=true from c); ⟨by simp only [inR]; omega,⟨fun h=>absurd h (by decide),fun _=>⟨far_eq hc e1 e2 e3,trivial⟩⟩⟩,fun c=>have e3:Rt.mn (Rt.sgs (ax:Rat) (ay:Rat) (ux:Rat) (uy:Rat) (x1:Rat) (y1:Rat) (x0:Rat) (y1:Rat)) (Rt.sgs (ax:Rat) (ay:Rat) (ux:Rat) (uy:Rat) (x0:Rat) (y1:Rat) (x0:Rat) (y0:Rat))=(Rt.sgs (ax:Rat) (ay:Rat) (ux:Rat) (uy:Rat) (x1:Rat) (y1:Rat) (x0:Rat) (y1:Rat)):=mnF (show decide (Rt.sg ((Rt.sgs (ax:Rat) (ay:Rat) (ux:Rat) (uy:Rat) (x0:Rat) (y1:Rat) (x0:Rat) (y0:Rat)) - (Rt.sgs (ax:Rat) (ay:Rat) (ux:Rat) (uy:Rat) (x1:Rat) (y1:Rat) (x0:Rat) (y1:Rat))) < 0)=false from c); ⟨by simp only [inR]; omega,⟨fun h=>absurd h (by decide),fun _=>⟨far_eq hc e1 e2 e3,trivial⟩⟩⟩⟩,fun h=>absurd h (by decide)⟩⟩,fun c=>have e2:Rt.mn (Rt.sgs (ax:Rat) (ay:Rat) (ux:Rat) (uy:Rat) (x1:Rat) (y0:Rat) (x1:Rat) (y1:Rat)) (Rt.sgs (ax:Rat) (ay:Rat) (ux:Rat) (uy:Rat) (x1:Rat) (y1:Rat) (x0:Rat) (y1:Rat))=(Rt.sgs (ax:Rat) (ay:Rat) (ux:Rat) (uy:Rat) (x1:Rat) (y0:Rat) (x1:Rat) (y1:Rat)):=mnF (show decide (Rt.sg ((Rt.sgs (ax:Rat) (ay:Rat) (ux:Rat) (uy:Rat) (x1:Rat) (y1:Rat) (x0:Rat) (y1:Rat)) - (Rt.sgs (ax:Rat) (ay:Rat) (ux:Rat) (uy:Rat) (x1:Rat) (y0:Rat) (x1:Rat) (y1:Rat))) < 0)=false from c); ⟨by simp only [inR]; omega,⟨fun _=>⟨⟨h5,h6⟩,⟨h7,h8⟩,by simp only [inR]; omega,⟨by omega,by omega⟩,⟨s5,s6,s7,s8,s1,s4,s1,s2⟩,fun _=>⟨z3,z1⟩,fun c=>have e3:Rt.mn (Rt.sgs (ax:Rat) (ay:Rat) (ux:Rat) (uy:Rat) (x1:Rat) (y0:Rat) (x1:Rat) (y1:Rat)) (Rt.sgs (ax:Rat) (ay:Rat) (ux:Rat) (uy:Rat) (x0:Rat) (y1:Rat) (x0:Rat) (y0:Rat))=(Rt.sgs (ax:Rat) (ay:Rat) (ux:Rat) (uy:Rat) (x0:Rat) (y1:Rat) (x0:Rat) (y0:Rat)):=mnT (show decide (Rt.sg ((Rt.sgs (ax:Rat) (ay:Rat) (ux:Rat) (uy:Rat) (x0:Rat) (y1:Rat) (x0:Rat) (y0:Rat)) - (Rt.sgs (ax:Rat) (ay:Rat) (ux:Rat) (uy:Rat) (x1:Rat) (y0:Rat) (x1:Rat) (y1:Rat))) < 0)=true from c); ⟨by simp only [inR]; omega,⟨fun h=>absurd h (by decide),fun _=>⟨far_eq hc e1 e2 e3,trivial⟩⟩⟩,fun c=>have e3:Rt.mn (Rt.sgs (ax:Rat) (ay:Rat) (ux:Rat) (uy:Rat) (x1:Rat) (y0:Rat) (x1:Rat) (y1:Rat)) (Rt.sgs (ax:Rat) (ay:Rat) (ux:Rat) (uy:Rat) (x0:Rat) (y1:Rat) (x0:Rat) (y0:Rat))=(Rt.sgs (ax:Rat) (ay:Rat) (ux:Rat) (uy:Rat) (x1:Rat) (y0:Rat) (x1:Rat) (y1:Rat)):=mnF (show decide (Rt.sg ((Rt.sgs (ax:Rat) (ay:Rat) (ux:Rat) (uy:Rat) (x0:Rat) (y1:Rat) (x0:Rat) (y0:Rat)) - (Rt.sgs (ax:Rat) (ay:Rat) (ux:Rat) (uy:Rat) (x1:Rat) (y0:Rat) (x1:Rat) (y1:Rat))) < 0)=false from c); ⟨by simp only [inR]; omega,⟨fun h=>absurd h (by decide),fun _=>⟨far_eq hc e1 e2 e3,trivial⟩⟩⟩⟩,fun h=>absurd h (by decide)⟩⟩⟩,fun h=>absurd h (by decide)⟩⟩,fun c=>have e1:Rt.mn (Rt.sgs (ax:Rat) (ay:Rat) (ux:Rat) (uy:Rat) (x0:Rat) (y0:Rat) (x1:Rat) (y0:Rat)) (Rt.sgs (ax:Rat) (ay:Rat) (ux:Rat) (uy:Rat) (x1:Rat) (y0:Rat) (x1:Rat) (y1:Rat))=(Rt.sgs (ax:Rat) (ay:Rat) (ux:Rat) (uy:Rat) (x0:Rat) (y0:Rat) (x1:Rat) (y0:Rat)):=mnF (show decide (Rt.sg ((Rt.sgs (ax:Rat) (ay:Rat) (ux:Rat) (uy:Rat) (x1:Rat) (y0:Rat) (x1:Rat) (y1:Rat)) - (Rt.sgs (ax:Rat) (ay:Rat) (ux:Rat) (uy:Rat) (x0:Rat) (y0:Rat) (x1:Rat) (y0:Rat))) < 0)=false from c); ⟨by simp only [inR]; omega,⟨fun _=>⟨⟨h5,h6⟩,⟨h7,h8⟩,by simp only [inR]; omega,⟨by omega,by omega⟩,⟨s5,s6,s7,s8,s3,s4,s1,s4⟩,fun _=>⟨z2,z0⟩,fun c=>have e2:Rt.mn (Rt.sgs (ax:Rat) (ay:Rat) (ux:Rat) (uy:Rat) (x0:Rat) (y0:Rat) (x1:Rat) (y0:Rat)) (Rt.sgs (ax:Rat) (ay:Rat) (ux:Rat) (uy:Rat) (x1:Rat) (y1:Rat) (x0:Rat) (y1:Rat))=(Rt.sgs (ax:Rat) (ay:Rat) (ux:Rat) (uy:Rat) (x1:Rat) (y1:Rat) (x0:Rat) (y1:Rat)):=mnT (show decide (Rt.sg ((Rt.sgs (ax:Rat) (ay:Rat) (ux:Rat) (uy:Rat) (x1:Rat) (y1:Rat) (x0:Rat) (y1:Rat)) - (Rt.sgs (ax:Rat) (ay:Rat) (ux:Rat) (uy:Rat) (x0:Rat) (y0:Rat) (x1:Rat) (y0:Rat))) < 0)=true from c); ⟨by simp only [inR]; omega,⟨fun _=>⟨⟨h5,h6⟩,⟨h7,h8⟩,by simp only [inR]; omega,⟨by omega,by omega⟩,⟨s5,s6,s7,s8,s1,s4,s1,s2⟩,fun _=>⟨z3,z2⟩,fun c=>have e3:Rt.mn (Rt.sgs (ax:Rat) (ay:Rat) (ux:Rat) (uy:Rat) (x1:Rat) (y1:Rat) (x0:Rat) (y1:Rat)) (Rt.sgs (ax:Rat) (ay:Rat) (ux:Rat) (uy:Rat) (x0:Rat) (y1:Rat) (x0:Rat) (y0:Rat))=(Rt.sgs (ax:Rat) (ay:Rat) (ux:Rat) (uy:Rat) (x0:Rat) (y1:Rat) (x0:Rat) (y0:Rat)):=mnT (show decide (Rt.sg ((Rt.sgs (ax:Rat) (ay:Rat) (ux:Rat) (uy:Rat) (x0:Rat) (y1:Rat) (x0:Rat) (y0:Rat)) - (Rt.sgs (ax:Rat) (ay:Rat) (ux:Rat) (uy:Rat) (x1:Rat) (y1:Rat) (x0:Rat) (y1:Rat))) < 0)=true from c); ⟨by simp only [inR]; omega,⟨fun h=>absurd h (by decide),fun _=>⟨far_eq hc e1 e2 e3,trivial⟩⟩⟩,fun c=>have e3:Rt.mn (Rt.sgs (ax:Rat) (ay:Rat) (ux:Rat) (uy:Rat) (x1:Rat) (y1:Rat) (x0:Rat) (y1:Rat)) (Rt.sgs (ax:Rat) (ay:Rat) (ux:Rat) (uy:Rat) (x0:Rat) (y1:Rat) (x0:Rat) (y0:Rat))=(Rt.sgs (ax:Rat) (ay:Rat) (ux:Rat) (uy:Rat) (x1:Rat) (y1:Rat) (x0:Rat) (y1:Rat)):=mnF (show decide (Rt.sg ((Rt.sgs (ax:Rat) (ay:Rat) (ux:Rat) (uy:Rat) (x0:Rat) (y1:Rat) (x0:Rat) (y0:Rat)) - (Rt.sgs (ax:Rat) (ay:Rat) (ux:Rat) (uy:Rat) (x1:Rat) (y1:Rat) (x0:Rat) (y1:Rat))) < 0)=false from c); ⟨by simp only [inR]; omega,⟨fun h=>absurd h (by decide),fun _=>⟨far_eq hc e1 e2 e3,trivial⟩⟩⟩⟩,fun h=>absurd h (by decide)⟩⟩,fun c=>have e2:Rt.mn (Rt.sgs (ax:Rat) (ay:Rat) (ux:Rat) (uy:Rat) (x0:Rat) (y0:Rat) (x1:Rat) (y0:Rat)) (Rt.sgs (ax:Rat) (ay:Rat) (ux:Rat) (uy:Rat) (x1:Rat) (y1:Rat) (x0:Rat) (y1:Rat))=(Rt.sgs (ax:Rat) (ay:Rat) (ux:Rat) (uy:Rat) (x0:Rat) (y0:Rat) (x1:Rat) (y0:Rat)):=mnF (show decide (Rt.sg ((Rt.sgs (ax:Rat) (ay:Rat) (ux:Rat) (uy:Rat) (x1:Rat) (y1:Rat) (x0:Rat) (y1:Rat)) - (Rt.sgs (ax:Rat) (ay:Rat) (ux:Rat) (uy:Rat) (x0:Rat) (y0:Rat) (x1:Rat) (y0:Rat))) < 0)=false from c); ⟨by simp only [inR]; omega,⟨fun _=>⟨⟨h5,h6⟩,⟨h7,h8⟩,by simp only [inR]; omega,⟨by omega,by omega⟩,⟨s5,s6,s7,s8,s1,s4,s1,s2⟩,fun _=>⟨z3,z0⟩,fun c=>have e3:Rt.mn (Rt.sgs (ax:Rat) (ay:Rat) (ux:Rat) (uy:Rat) (x0:Rat) (y0:Rat) (x1:Rat) (y0:Rat)) (Rt.sgs (ax:Rat) (ay:Rat) (ux:Rat) (uy:Rat) (x0:Rat) (y1:Rat) (x0:Rat) (y0:Rat))=(Rt.sgs (ax:Rat) (ay:Rat) (ux:Rat) (uy:Rat) (x0:Rat) (y1:Rat) (x0:Rat) (y0:Rat)):=mnT (show decide (Rt.sg ((Rt.sgs (ax:Rat) (ay:Rat) (ux:Rat) (uy:Rat) (x0:Rat) (y1:Rat) (x0:Rat) (y0:Rat)) - (Rt.sgs (ax:Rat) (ay:Rat) (ux:Rat) (uy:Rat) (x0:Rat) (y0:Rat) (x1:Rat) (y0:Rat))) < 0)=true from c); ⟨by simp only [inR]; omega,⟨fun h=>absurd h (by decide),fun _=>⟨far_eq hc e1 e2 e3,trivial⟩⟩⟩,fun c=>have e3:Rt.mn (Rt.sgs (ax:Rat) (ay:Rat) (ux:Rat) (uy:Rat) (x0:Rat) (y0:Rat) (x1:Rat) (y0:Rat)) (Rt.sgs (ax:Rat) (ay:Rat) (ux:Rat) (uy:Rat) (x0:Rat) (y1:Rat) (x0:Rat) (y0:Rat))=(Rt.sgs (ax:Rat) (ay:Rat) (ux:Rat) (uy:Rat) (x0:Rat) (y0:Rat) (x1:Rat) (y0:Rat)):=mnF (show decide (Rt.sg ((Rt.sgs (ax:Rat) (ay:Rat) (ux:Rat) (uy:Rat) (x0:Rat) (y1:Rat) (x0:Rat) (y0:Rat)) - (Rt.sgs (ax:Rat) (ay:Rat) (ux:Rat) (uy:Rat) (x0:Rat) (y0:Rat) (x1:Rat) (y0:Rat))) < 0)=false from c); ⟨by simp only [inR]; omega,⟨fun h=>absurd h (by decide),fun _=>⟨far_eq hc e1 e2 e3,trivial⟩⟩⟩⟩,fun h=>absurd h (by decide)⟩⟩⟩,fun h=>absurd h (by decide)⟩⟩⟩,fun h=>absurd h (by decide)⟩⟩,fun c=>absurd c (by decide)⟩,fun h=>absurd h (by decide)⟩⟩⟩
theorem cSfar_ok:CtrOK Tryz.prog cSfar:=.of (by kernel_rfl) (fun bs w xs vs pre r hr hA hG h hp=>by
 simp only [cSfar] at h
 split at h
 ·cases h
  exact ctr_calls mixed LT2_ok ST10_ok Tryz.func44 (by kernel_rfl) hr hA hG rfl rfl (cSfar_owes _ _ _ _ _ _ _ _ _ hp)
 ·cases h) (fun xs α pre φ r=>by simp only [cSfar]; split <;> (intro h; cases h))
def ST11:List Ctr:=ST10 ++ [cSfar]
theorem ST11_ok:∀ c ∈ ST11,CtrOK Tryz.prog c:=ok_app ST10_ok (by
 intro c hc
 simp only [List.mem_cons,List.not_mem_nil,or_false] at hc
 rcases hc with rfl
 ·exact cSfar_ok)
end Vc
end Go.Proofs.YtocpaddakdcofaaGreat
namespace Go.Proofs.YtocpaddakdcofaaGreat
open Go.RowKit
namespace Vc
def cFflat:Ctr:=⟨29,fun | [.g [.v (.int .i64 (px)),.v (.int .i64 (py)),.v (.int .i64 (_pz))]]=>.yes (True) (.k (.g [.v (.int .i64 (px)),.v (.int .i64 (py))])) | _=>.no⟩
theorem cFflat_owes (px:Int) (py:Int) (pz:Int):owes LT2 ST11 [] Tryz.f29 (Tryz.f29.body.getD .skip) [.g [.v (.int .i64 (px)),.v (.int .i64 (py)),.v (.int .i64 (pz))]] (.k (.g [.v (.int .i64 (px)),.v (.int .i64 (py))])):=by
 refine Eq.mp (show ((Value.int .i64 px=(.int .i64 px))/\((Value.int .i64 py=(.int .i64 py))/\(True)))=_ by kernel_rfl) ?_
 exact ⟨rfl,rfl,trivial⟩
theorem cFflat_ok:CtrOK Tryz.prog cFflat:=.of (by kernel_rfl) (fun bs w xs vs pre r hr hA hG h hp=>by
 simp only [cFflat] at h
 split at h
 ·cases h
  exact ctr_calls mixed LT2_ok ST11_ok Tryz.func29 (by kernel_rfl) hr hA hG rfl rfl (cFflat_owes _ _ _)
 ·cases h) (fun xs α pre φ r=>by simp only [cFflat]; split <;> (intro h; cases h))
def ST12:List Ctr:=ST11 ++ [cFflat]
theorem ST12_ok:∀ c ∈ ST12,CtrOK Tryz.prog c:=ok_app ST11_ok (by
 intro c hc
 simp only [List.mem_cons,List.not_mem_nil,or_false] at hc
 rcases hc with rfl
 ·exact cFflat_ok)
def cFnear:Ctr:=⟨25,fun | [.g [.v (.int .i64 (x0)),.v (.int .i64 (y0)),.v (.int .i64 (x1)),.v (.int .i64 (y1)),.v (.int .i64 (_ct))],.g [.v (.int .i64 (fx)),.v (.int .i64 (fy)),.v (.int .i64 (_fz)),.v (.int .i64 (tx)),.v (.int .i64 (ty)),.v (.int .i64 (_tz)),.v (.int .i64 (_mr)),.v (.int .i64 (_mt)),.v (.int .i64 (_mb))],.c (.v (.int .i64 (r)))]=>.yes (sm64 x0/\sm64 y0/\sm64 x1/\sm64 y1/\sm64 fx/\sm64 fy/\sm64 tx/\sm64 ty/\sm64 r) (.k (.c (.v (.bool ((decide (Rt.sg (farS x0 y0 x1 y1 fx fy tx ty - (r:Rat)*(r:Rat)) < 0))))))) | _=>.no⟩
theorem cFnear_owes (x0:Int) (y0:Int) (x1:Int) (y1:Int) (ct:Int) (fx:Int) (fy:Int) (fz:Int) (tx:Int) (ty:Int) (tz:Int) (mr:Int) (mt:Int) (mb:Int) (r:Int) (hp:sm64 x0/\sm64 y0/\sm64 x1/\sm64 y1/\sm64 fx/\sm64 fy/\sm64 tx/\sm64 ty/\sm64 r):owes LT2 ST12 [] Tryz.f25 (Tryz.f25.body.getD .skip) [.g [.v (.int .i64 (x0)),.v (.int .i64 (y0)),.v (.int .i64 (x1)),.v (.int .i64 (y1)),.v (.int .i64 (ct))],.g [.v (.int .i64 (fx)),.v (.int .i64 (fy)),.v (.int .i64 (fz)),.v (.int .i64 (tx)),.v (.int .i64 (ty)),.v (.int .i64 (tz)),.v (.int .i64 (mr)),.v (.int .i64 (mt)),.v (.int .i64 (mb))],.c (.v (.int .i64 (r)))] (.k (.c (.v (.bool ((decide (Rt.sg (farS x0 y0 x1 y1 fx fy tx ty - (r:Rat)*(r:Rat)) < 0))))))):=by
 refine Eq.mp (show ((-9223372036854775808 <= r/\r <= 9223372036854775807)/\((True)/\((True)/\((sm64 x0/\sm64 y0/\sm64 x1/\sm64 y1/\sm64 fx/\sm64 fy/\sm64 tx/\sm64 ty)/\((szR (r:Rat) <= 1000000/\szR (r:Rat) <= 1000000)/\((szR (farS x0 y0 x1 y1 fx fy tx ty) <= 1000000/\szR ((r:Rat)*(r:Rat)) <= 1000000)/\(Value.bool (decide ((Rt.sg ((farS x0 y0 x1 y1 fx fy tx ty) - ((r:Rat)*(r:Rat)))) < (0:Int)))=(.bool (decide (Rt.sg (farS x0 y0 x1 y1 fx fy tx ty - (r:Rat)*(r:Rat)) < 0))))))))))=_ by kernel_rfl) ?_
 obtain ⟨h1,h2,h3,h4,h5,h6,h7,h8,h9⟩:=hp
 have s9:=szR_sm h9
 exact ⟨h9.i64,trivial,trivial,⟨h1,h2,h3,h4,h5,h6,h7,h8⟩,⟨by omega,by omega⟩,⟨szR_far ⟨h1,h2,h3,h4,h5,h6,h7,h8⟩,Nat.le_trans (szR_mul_le s9 s9) (by decide)⟩,rfl⟩
set_option maxHeartbeats 4000000 in
theorem cFnear_ok:CtrOK Tryz.prog cFnear:=.of (by kernel_rfl) (fun bs w xs vs pre r hr hA hG h hp=>by
 simp only [cFnear] at h
 split at h
 ·cases h
  exact ctr_calls mixed LT2_ok ST12_ok Tryz.func25 (by kernel_rfl) hr hA hG rfl rfl (cFnear_owes _ _ _ _ _ _ _ _ _ _ _ _ _ _ _ hp)
 ·cases h) (fun xs α pre φ r=>by simp only [cFnear]; split <;> (intro h; cases h))
def ST13:List Ctr:=ST12 ++ [cFnear]
theorem ST13_ok:∀ c ∈ ST13,CtrOK Tryz.prog c:=ok_app ST12_ok (by
 intro c hc
 simp only [List.mem_cons,List.not_mem_nil,or_false] at hc
 rcases hc with rfl
 ·exact cFnear_ok)
end Vc
end Go.Proofs.YtocpaddakdcofaaGreat
namespace Go.Proofs.YtocpaddakdcofaaGreat
open Go.RowKit
namespace Vc
theorem owes_of {L:List Lay} {C:List Ctr} {I:List LI} {fn:Func} {body:Code} {xs:List AK} {r:AV} {p:Prop} (h:p=owes L C I fn body xs r) (hp:p):owes L C I fn body xs r:=h ▸ hp
structure Mo where
 (fx fy fz tx ty tz mr mt mb:Int)
structure To where
 (nu ki ra fl ho st fe pu:Int)
structure Se where
 (x0 y0 x1 y1 th ga:Int)
 cl:List (List Int)
 sf:Int
structure Cq where
 (x0 y0 x1 y1 ct:Int)
def rdM:List AC->Option Mo
 | [.v (.int .i64 fx),.v (.int .i64 fy),.v (.int .i64 fz),.v (.int .i64 tx),.v (.int .i64 ty),.v (.int .i64 tz),.v (.int .i64 mr),.v (.int .i64 mt),.v (.int .i64 mb)]=>some ⟨fx,fy,fz,tx,ty,tz,mr,mt,mb⟩
 | _=>none
def Mo.cs (q:Mo):List AC:=[.v (.int .i64 q.fx),.v (.int .i64 q.fy),.v (.int .i64 q.fz),.v (.int .i64 q.tx),.v (.int .i64 q.ty),.v (.int .i64 q.tz),.v (.int .i64 q.mr),.v (.int .i64 q.mt),.v (.int .i64 q.mb)]
theorem rdM_eq {l:List AC} {q:Mo} (h:rdM l=some q):l=q.cs:=by
 unfold rdM at h
 split at h
 ·cases h; rfl
 ·cases h
def rdT:List AC->Option To
 | [.v (.int .i64 nu),.v (.int .i64 ki),.v (.int .i64 ra),.v (.int .i64 fl),.v (.int .i64 ho),.v (.int .i64 st),.v (.int .i64 fe),.v (.int .i64 pu)]=>some ⟨nu,ki,ra,fl,ho,st,fe,pu⟩
 | _=>none
def To.cs (q:To):List AC:=[.v (.int .i64 q.nu),.v (.int .i64 q.ki),.v (.int .i64 q.ra),.v (.int .i64 q.fl),.v (.int .i64 q.ho),.v (.int .i64 q.st),.v (.int .i64 q.fe),.v (.int .i64 q.pu)]
theorem rdT_eq {l:List AC} {q:To} (h:rdT l=some q):l=q.cs:=by
 unfold rdT at h
 split at h
 ·cases h; rfl
 ·cases h
def rdS:List AC->Option Se
 | [.v (.int .i64 x0),.v (.int .i64 y0),.v (.int .i64 x1),.v (.int .i64 y1),.v (.int .i64 th),.v (.int .i64 ga),.pl 5 cl,.v (.int .i64 sf)]=>some ⟨x0,y0,x1,y1,th,ga,cl,sf⟩
 | _=>none
def Se.cs (q:Se):List AC:=[.v (.int .i64 q.x0),.v (.int .i64 q.y0),.v (.int .i64 q.x1),.v (.int .i64 q.y1),.v (.int .i64 q.th),.v (.int .i64 q.ga),.pl 5 q.cl,.v (.int .i64 q.sf)]
theorem rdS_eq {l:List AC} {q:Se} (h:rdS l=some q):l=q.cs:=by
 unfold rdS at h
 split at h
 ·cases h; rfl
 ·cases h
def Cq.cs (q:Cq):List AC:=[.v (.int .i64 q.x0),.v (.int .i64 q.y0),.v (.int .i64 q.x1),.v (.int .i64 q.y1),.v (.int .i64 q.ct)]
def deepS (m:Mo):Int:=if m.tz < m.fz then m.tz else m.fz
def tableS (s:Se):Int:=0 - s.th - s.ga
def lenB (n lo:Int):Bool:=decide (lo <= n/\n <= 10000000)
def rectB (x0 y0 x1 y1:Int):Bool:=decide ((-10000000 <= x0/\x0 <= 10000000)/\(-10000000 <= y0/\y0 <= 10000000)/\(-10000000 <= x1/\x1 <= 10000000)/\(-10000000 <= y1/\y1 <= 10000000)/\x0 < x1/\y0 < y1)
def LT3:List Lay:=LT2 ++ [⟨22,1,false,105,59,[.v (.slice none 0 0)],[]⟩]
theorem LT3_ok:∀ l ∈ LT3,LayOK Tryz.prog l:=by
 have h:LT3.all (layB Tryz.prog)=true:=by kernel_rfl
 intro l hl
 exact layB_ok (List.all_eq_true.1 h l hl)
def FT0:List Ctr:=ST13 ++ [cCnear]
theorem FT0_ok:∀ c ∈ FT0,CtrOK Tryz.prog c:=ok_app ST13_ok (by
 intro c hc
 simp only [List.mem_cons,List.not_mem_nil,or_false] at hc
 subst hc
 exact cCnear_ok)
def cPtable:Ctr:=⟨26,fun | [.g s_]=>(match rdS s_ with | some s=>.yes (sm64 s.th/\sm64 s.ga) (.k (.c (.v (.int .i64 ((tableS s)))))) | _=>.no) | _=>.no⟩
set_option maxHeartbeats 4000000 in
theorem cPtable_owes (s:Se) (hp:sm64 s.th/\sm64 s.ga):owes LT3 FT0 [] Tryz.f26 (Tryz.f26.body.getD .skip) [.g [.v (.int .i64 (s.x0)),.v (.int .i64 (s.y0)),.v (.int .i64 (s.x1)),.v (.int .i64 (s.y1)),.v (.int .i64 (s.th)),.v (.int .i64 (s.ga)),.pl 5 (s.cl),.v (.int .i64 (s.sf))]] (.k (.c (.v (.int .i64 ((tableS s)))))):=by
 refine owes_of (show ((inR .i64 ((0:Int) - s.th))/\((inR .i64 (((0:Int) - s.th) - s.ga))/\(Value.int .i64 (((0:Int) - s.th) - s.ga)=(.int .i64 (tableS s)))))=_ by kernel_rfl) ?_
 obtain ⟨h1,h2⟩:=hp
 unfold sm64 at h1 h2
 refine ⟨by unfold inR; omega,by unfold inR; omega,rfl⟩
set_option maxHeartbeats 4000000 in
theorem cPtable_ok:CtrOK Tryz.prog cPtable:=.of (by kernel_rfl) (fun bs w xs vs pre r hr hA hG h hp=>by
 simp only [cPtable] at h
 split at h
 ·rename_i s_
  split at h
  ·rename_i s es
   cases h
   obtain rfl:=rdS_eq es
   exact ctr_calls mixed LT3_ok FT0_ok Tryz.func26 (by kernel_rfl) hr hA hG rfl rfl (cPtable_owes s hp)
  ·cases h
 ·cases h) (fun xs α pre φ r=>by simp only [cPtable]; split <;> (try split) <;> (intro h; cases h))
def cRtable:Ctr:=⟨27,fun | [.g s_]=>(match rdS s_ with | some s=>.yes (sm64 s.th/\sm64 s.ga) (.k (.c (.v (.int .i64 ((tableS s)))))) | _=>.no) | _=>.no⟩
set_option maxHeartbeats 4000000 in
theorem cRtable_owes (s:Se) (hp:sm64 s.th/\sm64 s.ga):owes LT3 FT0 [] Tryz.f27 (Tryz.f27.body.getD .skip) [.g [.v (.int .i64 (s.x0)),.v (.int .i64 (s.y0)),.v (.int .i64 (s.x1)),.v (.int .i64 (s.y1)),.v (.int .i64 (s.th)),.v (.int .i64 (s.ga)),.pl 5 (s.cl),.v (.int .i64 (s.sf))]] (.k (.c (.v (.int .i64 ((tableS s)))))):=by
 refine owes_of (show ((inR .i64 ((0:Int) - s.th))/\((inR .i64 (((0:Int) - s.th) - s.ga))/\(Value.int .i64 (((0:Int) - s.th) - s.ga)=(.int .i64 (tableS s)))))=_ by kernel_rfl) ?_
 obtain ⟨h1,h2⟩:=hp
 unfold sm64 at h1 h2
 refine ⟨by unfold inR; omega,by unfold inR; omega,rfl⟩
set_option maxHeartbeats 4000000 in
theorem cRtable_ok:CtrOK Tryz.prog cRtable:=.of (by kernel_rfl) (fun bs w xs vs pre r hr hA hG h hp=>by
 simp only [cRtable] at h
 split at h
 ·rename_i s_
  split at h
  ·rename_i s es
   cases h
   obtain rfl:=rdS_eq es
   exact ctr_calls mixed LT3_ok FT0_ok Tryz.func27 (by kernel_rfl) hr hA hG rfl rfl (cRtable_owes s hp)
  ·cases h
 ·cases h) (fun xs α pre φ r=>by simp only [cRtable]; split <;> (try split) <;> (intro h; cases h))
def cPdeep:Ctr:=⟨9,fun | [.g m_]=>(match rdM m_ with | some m=>.yes (True) (.k (.c (.v (.int .i64 ((deepS m)))))) | _=>.no) | _=>.no⟩
set_option maxHeartbeats 4000000 in
theorem cPdeep_owes (m:Mo):owes LT3 FT0 [] Tryz.f9 (Tryz.f9.body.getD .skip) [.g [.v (.int .i64 (m.fx)),.v (.int .i64 (m.fy)),.v (.int .i64 (m.fz)),.v (.int .i64 (m.tx)),.v (.int .i64 (m.ty)),.v (.int .i64 (m.tz)),.v (.int .i64 (m.mr)),.v (.int .i64 (m.mt)),.v (.int .i64 (m.mb))]] (.k (.c (.v (.int .i64 ((deepS m)))))):=by
 refine owes_of (show (Value.int .i64 (if m.tz < m.fz then m.tz else m.fz)=(.int .i64 (deepS m)))=_ by kernel_rfl) ?_
 exact rfl
set_option maxHeartbeats 4000000 in
theorem cPdeep_ok:CtrOK Tryz.prog cPdeep:=.of (by kernel_rfl) (fun bs w xs vs pre r hr hA hG h hp=>by
 simp only [cPdeep] at h
 split at h
 ·rename_i m_
  split at h
  ·rename_i m em
   cases h
   obtain rfl:=rdM_eq em
   exact ctr_calls mixed LT3_ok FT0_ok Tryz.func9 (by kernel_rfl) hr hA hG rfl rfl (cPdeep_owes m)
  ·cases h
 ·cases h) (fun xs α pre φ r=>by simp only [cPdeep]; split <;> (try split) <;> (intro h; cases h))
def cRdeep:Ctr:=⟨10,fun | [.g m_]=>(match rdM m_ with | some m=>.yes (True) (.k (.c (.v (.int .i64 ((deepS m)))))) | _=>.no) | _=>.no⟩
set_option maxHeartbeats 4000000 in
theorem cRdeep_owes (m:Mo):owes LT3 FT0 [] Tryz.f10 (Tryz.f10.body.getD .skip) [.g [.v (.int .i64 (m.fx)),.v (.int .i64 (m.fy)),.v (.int .i64 (m.fz)),.v (.int .i64 (m.tx)),.v (.int .i64 (m.ty)),.v (.int .i64 (m.tz)),.v (.int .i64 (m.mr)),.v (.int .i64 (m.mt)),.v (.int .i64 (m.mb))]] (.k (.c (.v (.int .i64 ((deepS m)))))):=by
 refine owes_of (show (Value.int .i64 (if m.tz < m.fz then m.tz else m.fz)=(.int .i64 (deepS m)))=_ by kernel_rfl) ?_
 exact rfl
set_option maxHeartbeats 4000000 in
theorem cRdeep_ok:CtrOK Tryz.prog cRdeep:=.of (by kernel_rfl) (fun bs w xs vs pre r hr hA hG h hp=>by
 simp only [cRdeep] at h
 split at h
 ·rename_i m_
  split at h
  ·rename_i m em
   cases h
   obtain rfl:=rdM_eq em
   exact ctr_calls mixed LT3_ok FT0_ok Tryz.func10 (by kernel_rfl) hr hA hG rfl rfl (cRdeep_owes m)
  ·cases h
 ·cases h) (fun xs α pre φ r=>by simp only [cRdeep]; split <;> (try split) <;> (intro h; cases h))
def cRstock:Ctr:=⟨30,fun | [.g s_]=>(match rdS s_ with | some s=>.yes (True) (.k (.g [.v (.int .i64 (s.x0)),.v (.int .i64 (s.y0)),.v (.int .i64 (s.x1)),.v (.int .i64 (s.y1)),.v (.int .i64 ((0:Int)))])) | _=>.no) | _=>.no⟩
set_option maxHeartbeats 4000000 in
theorem cRstock_owes (s:Se):owes LT3 FT0 [] Tryz.f30 (Tryz.f30.body.getD .skip) [.g [.v (.int .i64 (s.x0)),.v (.int .i64 (s.y0)),.v (.int .i64 (s.x1)),.v (.int .i64 (s.y1)),.v (.int .i64 (s.th)),.v (.int .i64 (s.ga)),.pl 5 (s.cl),.v (.int .i64 (s.sf))]] (.k (.g [.v (.int .i64 (s.x0)),.v (.int .i64 (s.y0)),.v (.int .i64 (s.x1)),.v (.int .i64 (s.y1)),.v (.int .i64 ((0:Int)))])):=by
 refine owes_of (show ((Value.int .i64 s.x0=(.int .i64 s.x0))/\((Value.int .i64 s.y0=(.int .i64 s.y0))/\((Value.int .i64 s.x1=(.int .i64 s.x1))/\((Value.int .i64 s.y1=(.int .i64 s.y1))/\((Value.int .i64 (0:Int)=(.int .i64 (0:Int)))/\(True))))))=_ by kernel_rfl) ?_
 exact ⟨rfl,rfl,rfl,rfl,rfl,trivial⟩
set_option maxHeartbeats 4000000 in
theorem cRstock_ok:CtrOK Tryz.prog cRstock:=.of (by kernel_rfl) (fun bs w xs vs pre r hr hA hG h hp=>by
 simp only [cRstock] at h
 split at h
 ·rename_i s_
  split at h
  ·rename_i s es
   cases h
   obtain rfl:=rdS_eq es
   exact ctr_calls mixed LT3_ok FT0_ok Tryz.func30 (by kernel_rfl) hr hA hG rfl rfl (cRstock_owes s)
  ·cases h
 ·cases h) (fun xs α pre φ r=>by simp only [cRstock]; split <;> (try split) <;> (intro h; cases h))
def cR26len:Ctr:=⟨59,fun | [.c (.v (.int .i64 n)),.c (.v (.int .i64 lo))]=>.yes (True) (.k (.c (.v (.bool ((lenB n lo)))))) | _=>.no⟩
set_option maxHeartbeats 4000000 in
theorem cR26len_owes (n:Int) (lo:Int):owes LT3 FT0 [] Tryz.f59 (Tryz.f59.body.getD .skip) [.c (.v (.int .i64 (n))),.c (.v (.int .i64 (lo)))] (.k (.c (.v (.bool ((lenB n lo)))))):=by
 refine owes_of (show (Value.bool (bif (decide (n >= lo)) then (decide (n <= (10000000:Int))) else false)=(.bool (lenB n lo)))=_ by kernel_rfl) ?_
 unfold lenB
 by_cases h:lo <= n <;> by_cases h':n <= 10000000 <;> simp [h,h']
set_option maxHeartbeats 4000000 in
theorem cR26len_ok:CtrOK Tryz.prog cR26len:=.of (by kernel_rfl) (fun bs w xs vs pre r hr hA hG h hp=>by
 simp only [cR26len] at h
 split at h
 ·rename_i n lo
  cases h
  exact ctr_calls mixed LT3_ok FT0_ok Tryz.func59 (by kernel_rfl) hr hA hG rfl rfl (cR26len_owes n lo)
 ·cases h) (fun xs α pre φ r=>by simp only [cR26len]; split <;> (try split) <;> (intro h; cases h))
def cR27len:Ctr:=⟨60,fun | [.c (.v (.int .i64 n))]=>.yes (True) (.k (.c (.v (.bool ((lenB n 1)))))) | _=>.no⟩
set_option maxHeartbeats 4000000 in
theorem cR27len_owes (n:Int):owes LT3 FT0 [] Tryz.f60 (Tryz.f60.body.getD .skip) [.c (.v (.int .i64 (n)))] (.k (.c (.v (.bool ((lenB n 1)))))):=by
 refine owes_of (show (Value.bool (bif (decide (n >= (1:Int))) then (decide (n <= (10000000:Int))) else false)=(.bool (lenB n 1)))=_ by kernel_rfl) ?_
 unfold lenB
 by_cases h:1 <= n <;> by_cases h':n <= 10000000 <;> simp [h,h']
set_option maxHeartbeats 4000000 in
theorem cR27len_ok:CtrOK Tryz.prog cR27len:=.of (by kernel_rfl) (fun bs w xs vs pre r hr hA hG h hp=>by
 simp only [cR27len] at h
 split at h
 ·rename_i n
  cases h
  exact ctr_calls mixed LT3_ok FT0_ok Tryz.func60 (by kernel_rfl) hr hA hG rfl rfl (cR27len_owes n)
 ·cases h) (fun xs α pre φ r=>by simp only [cR27len]; split <;> (try split) <;> (intro h; cases h))
def FT1:List Ctr:=FT0 ++ [cPtable,cRtable,cPdeep,cRdeep,cRstock,cR26len,cR27len]
theorem FT1_ok:∀ c ∈ FT1,CtrOK Tryz.prog c:=ok_app FT0_ok (by
 intro c hc
 simp only [List.mem_cons,List.not_mem_nil,or_false] at hc
 rcases hc with rfl | rfl | rfl | rfl | rfl | rfl | rfl
 ·exact cPtable_ok
 ·exact cRtable_ok
 ·exact cPdeep_ok
 ·exact cRdeep_ok
 ·exact cRstock_ok
 ·exact cR26len_ok
 ·exact cR27len_ok)
end Vc
end Go.Proofs.YtocpaddakdcofaaGreat
namespace Go.Proofs.YtocpaddakdcofaaGreat
open Go.RowKit
namespace Vc
attribute [local irreducible] owes
def MoS (m:Mo):Prop:=sm64 m.fx/\sm64 m.fy/\sm64 m.fz/\sm64 m.tx/\sm64 m.ty/\sm64 m.tz
def SeS (s:Se):Prop:=sm64 s.x0/\sm64 s.y0/\sm64 s.x1/\sm64 s.y1/\sm64 s.th/\sm64 s.ga
def ToS (t:To):Prop:=sm64 t.ra/\sm64 t.fl/\sm64 t.ho
def nearP (m:Mo) (x0 y0 x1 y1 r:Int):Bool:=nearB m.fx m.fy m.tx m.ty x0 y0 x1 y1 r
def nearR (m:Mo) (x0 y0 x1 y1 r:Int):Bool:=decide (Rt.sg (farS x0 y0 x1 y1 m.fx m.fy m.tx m.ty - (r:Rat)*(r:Rat)) < 0)
def standS (nb:Bool) (m:Mo):Bool:=(decide (m.mr=0) && (decide (deepS m < 0) && !(decide (m.fx=m.tx/\m.fy=m.ty) && decide (m.fz <= m.tz)))) && nb
def goodB (t:To):Bool:=decide ((1 <= t.nu/\t.nu <= 9999)/\(1 <= t.ki/\t.ki <= 4)/\(1 <= t.ra/\t.ra <= 10000000)/\(1 <= t.fl/\t.fl <= 10000000)/\(1 <= t.st/\t.st <= 10000000)/\(1 <= t.fe/\t.fe <= 10000000)/\(1 <= t.pu/\t.pu <= 10000000)/\(t.ra <= t.ho/\t.ho <= 10000000)/\t.st <= t.fl)
def mediumB (n:Int):Bool:=decide (-1000 <= n/\n <= 1000)
theorem med_not (n:Int):(bif decide (n > 1000) then true else decide (n < -1000))=!mediumB n:=by
 unfold mediumB
 by_cases a:n > 1000 <;> by_cases b:n < -1000 <;> simp [a,b] <;> omega
def smallB (m:Mo):Bool:=mediumB m.fx && (mediumB m.fy && (mediumB m.fz && (mediumB m.tx && (mediumB m.ty && mediumB m.tz))))
theorem preP {m:Mo} {x0 y0 x1 y1 r:Int} (h:MoS m) (h0:sm64 x0/\sm64 y0/\sm64 x1/\sm64 y1) (hr:sm64 r):sm64 m.fx/\sm64 m.fy/\sm64 m.tx/\sm64 m.ty/\sm64 x0/\sm64 y0/\sm64 x1/\sm64 y1/\sm64 r:=⟨h.1,h.2.1,h.2.2.2.1,h.2.2.2.2.1,h0.1,h0.2.1,h0.2.2.1,h0.2.2.2,hr⟩
theorem preR {m:Mo} {x0 y0 x1 y1 r:Int} (h:MoS m) (h0:sm64 x0/\sm64 y0/\sm64 x1/\sm64 y1) (hr:sm64 r):sm64 x0/\sm64 y0/\sm64 x1/\sm64 y1/\sm64 m.fx/\sm64 m.fy/\sm64 m.tx/\sm64 m.ty/\sm64 r:=⟨h0.1,h0.2.1,h0.2.2.1,h0.2.2.2,h.1,h.2.1,h.2.2.2.1,h.2.2.2.2.1,hr⟩
theorem SeS.box {s:Se} (h:SeS s):sm64 s.x0/\sm64 s.y0/\sm64 s.x1/\sm64 s.y1:=⟨h.1,h.2.1,h.2.2.1,h.2.2.2.1⟩
theorem MoS.deep {m:Mo} (h:MoS m):sm64 (deepS m):=by
 unfold deepS
 split
 ·exact h.2.2.2.2.2
 ·exact h.2.2.1
theorem sm_add {a b:Int} (h:sm64 a) (k:sm64 b):inR .i64 (a+b):=by
 unfold sm64 at h k
 unfold inR
 omega
def cPover:Ctr:=⟨28,fun | [.g m_,.g s_,.c (.v (.int .i64 r))]=>(match rdM m_,rdS s_ with | some m,some s=>.yes (MoS m/\SeS s/\sm64 r) (.k (.c (.v (.bool ((nearP m s.x0 s.y0 s.x1 s.y1 r)))))) | _,_=>.no) | _=>.no⟩
set_option maxHeartbeats 4000000 in
theorem cPover_owes (m:Mo) (s:Se) (r:Int) (hp:MoS m/\SeS s/\sm64 r):owes LT3 FT1 [] Tryz.f28 (Tryz.f28.body.getD .skip) [.g [.v (.int .i64 (m.fx)),.v (.int .i64 (m.fy)),.v (.int .i64 (m.fz)),.v (.int .i64 (m.tx)),.v (.int .i64 (m.ty)),.v (.int .i64 (m.tz)),.v (.int .i64 (m.mr)),.v (.int .i64 (m.mt)),.v (.int .i64 (m.mb))],.g [.v (.int .i64 (s.x0)),.v (.int .i64 (s.y0)),.v (.int .i64 (s.x1)),.v (.int .i64 (s.y1)),.v (.int .i64 (s.th)),.v (.int .i64 (s.ga)),.pl 5 (s.cl),.v (.int .i64 (s.sf))],.c (.v (.int .i64 (r)))] (.k (.c (.v (.bool ((nearP m s.x0 s.y0 s.x1 s.y1 r)))))):=by
 refine owes_of (show ((sm64 m.fx/\sm64 m.fy/\sm64 m.tx/\sm64 m.ty/\sm64 s.x0/\sm64 s.y0/\sm64 s.x1/\sm64 s.y1/\sm64 r)/\(Value.bool (nearB m.fx m.fy m.tx m.ty s.x0 s.y0 s.x1 s.y1 r)=(.bool (nearP m s.x0 s.y0 s.x1 s.y1 r))))=_ by kernel_rfl) ?_
 exact ⟨preP hp.1 hp.2.1.box hp.2.2,rfl⟩
set_option maxHeartbeats 4000000 in
theorem cPover_ok:CtrOK Tryz.prog cPover:=.of (by kernel_rfl) (fun bs w xs vs pre r hr hA hG h hp=>by
 simp only [cPover] at h
 split at h
 ·rename_i m_ s_ r
  split at h
  ·rename_i m s em es
   cases h
   obtain rfl:=rdM_eq em
   obtain rfl:=rdS_eq es
   exact ctr_calls mixed LT3_ok FT1_ok Tryz.func28 (by kernel_rfl) hr hA hG rfl rfl (cPover_owes m s r hp)
  ·cases h
 ·cases h) (fun xs α pre φ r=>by simp only [cPover]; split <;> (try split) <;> (intro h; cases h))
def cRrect:Ctr:=⟨58,fun | [.c (.v (.int .i64 x0)),.c (.v (.int .i64 y0)),.c (.v (.int .i64 x1)),.c (.v (.int .i64 y1))]=>.yes (True) (.k (.c (.v (.bool ((rectB x0 y0 x1 y1)))))) | _=>.no⟩
set_option maxHeartbeats 4000000 in
theorem cRrect_owes (x0:Int) (y0:Int) (x1:Int) (y1:Int):owes LT3 FT1 [] Tryz.f58 (Tryz.f58.body.getD .skip) [.c (.v (.int .i64 (x0))),.c (.v (.int .i64 (y0))),.c (.v (.int .i64 (x1))),.c (.v (.int .i64 (y1)))] (.k (.c (.v (.bool ((rectB x0 y0 x1 y1)))))):=by
 refine owes_of (show ((True)/\((((lenB x0 (-10000000:Int)) == true)=true->(True))/\((((bif (lenB x0 (-10000000:Int)) then (lenB y0 (-10000000:Int)) else false) == true)=true->(True))/\((((bif (bif (lenB x0 (-10000000:Int)) then (lenB y0 (-10000000:Int)) else false) then (lenB x1 (-10000000:Int)) else false) == true)=true->(True))/\(Value.bool (bif (bif (bif (bif (bif (lenB x0 (-10000000:Int)) then (lenB y0 (-10000000:Int)) else false) then (lenB x1 (-10000000:Int)) else false) then (lenB y1 (-10000000:Int)) else false) then (decide (x0 < x1)) else false) then (decide (y0 < y1)) else false)=(.bool (rectB x0 y0 x1 y1)))))))=_ by kernel_rfl) ?_
 refine ⟨trivial,fun _=>trivial,fun _=>trivial,fun _=>trivial,?_⟩
 unfold lenB rectB
 by_cases a:-10000000 <= x0/\x0 <= 10000000 <;> by_cases b:-10000000 <= y0/\y0 <= 10000000 <;> by_cases c:-10000000 <= x1/\x1 <= 10000000 <;> by_cases d:-10000000 <= y1/\y1 <= 10000000 <;> by_cases e:x0 < x1 <;> by_cases f:y0 < y1 <;> simp [a,b,c,d,e,f]
set_option maxHeartbeats 4000000 in
theorem cRrect_ok:CtrOK Tryz.prog cRrect:=.of (by kernel_rfl) (fun bs w xs vs pre r hr hA hG h hp=>by
 simp only [cRrect] at h
 split at h
 ·rename_i x0 y0 x1 y1
  cases h
  exact ctr_calls mixed LT3_ok FT1_ok Tryz.func58 (by kernel_rfl) hr hA hG rfl rfl (cRrect_owes x0 y0 x1 y1)
 ·cases h) (fun xs α pre φ r=>by simp only [cRrect]; split <;> (try split) <;> (intro h; cases h))
def cPtabled:Ctr:=⟨11,fun | [.g m_,.g s_]=>(match rdM m_,rdS s_ with | some m,some s=>.yes (SeS s) (.k (.c (.v (.bool ((decide (deepS m < tableS s))))))) | _,_=>.no) | _=>.no⟩
set_option maxHeartbeats 4000000 in
theorem cPtabled_owes (m:Mo) (s:Se) (hp:SeS s):owes LT3 FT1 [] Tryz.f11 (Tryz.f11.body.getD .skip) [.g [.v (.int .i64 (m.fx)),.v (.int .i64 (m.fy)),.v (.int .i64 (m.fz)),.v (.int .i64 (m.tx)),.v (.int .i64 (m.ty)),.v (.int .i64 (m.tz)),.v (.int .i64 (m.mr)),.v (.int .i64 (m.mt)),.v (.int .i64 (m.mb))],.g [.v (.int .i64 (s.x0)),.v (.int .i64 (s.y0)),.v (.int .i64 (s.x1)),.v (.int .i64 (s.y1)),.v (.int .i64 (s.th)),.v (.int .i64 (s.ga)),.pl 5 (s.cl),.v (.int .i64 (s.sf))]] (.k (.c (.v (.bool ((decide (deepS m < tableS s))))))):=by
 refine owes_of (show ((True)/\((sm64 s.th/\sm64 s.ga)/\(Value.bool (decide ((deepS m) < (tableS s)))=(.bool (decide (deepS m < tableS s))))))=_ by kernel_rfl) ?_
 exact ⟨trivial,⟨hp.2.2.2.2.1,hp.2.2.2.2.2⟩,rfl⟩
set_option maxHeartbeats 4000000 in
theorem cPtabled_ok:CtrOK Tryz.prog cPtabled:=.of (by kernel_rfl) (fun bs w xs vs pre r hr hA hG h hp=>by
 simp only [cPtabled] at h
 split at h
 ·rename_i m_ s_
  split at h
  ·rename_i m s em es
   cases h
   obtain rfl:=rdM_eq em
   obtain rfl:=rdS_eq es
   exact ctr_calls mixed LT3_ok FT1_ok Tryz.func11 (by kernel_rfl) hr hA hG rfl rfl (cPtabled_owes m s hp)
  ·cases h
 ·cases h) (fun xs α pre φ r=>by simp only [cPtabled]; split <;> (try split) <;> (intro h; cases h))
def cRtabled:Ctr:=⟨12,fun | [.g m_,.g s_]=>(match rdM m_,rdS s_ with | some m,some s=>.yes (SeS s) (.k (.c (.v (.bool ((decide (deepS m < tableS s))))))) | _,_=>.no) | _=>.no⟩
set_option maxHeartbeats 4000000 in
theorem cRtabled_owes (m:Mo) (s:Se) (hp:SeS s):owes LT3 FT1 [] Tryz.f12 (Tryz.f12.body.getD .skip) [.g [.v (.int .i64 (m.fx)),.v (.int .i64 (m.fy)),.v (.int .i64 (m.fz)),.v (.int .i64 (m.tx)),.v (.int .i64 (m.ty)),.v (.int .i64 (m.tz)),.v (.int .i64 (m.mr)),.v (.int .i64 (m.mt)),.v (.int .i64 (m.mb))],.g [.v (.int .i64 (s.x0)),.v (.int .i64 (s.y0)),.v (.int .i64 (s.x1)),.v (.int .i64 (s.y1)),.v (.int .i64 (s.th)),.v (.int .i64 (s.ga)),.pl 5 (s.cl),.v (.int .i64 (s.sf))]] (.k (.c (.v (.bool ((decide (deepS m < tableS s))))))):=by
 refine owes_of (show ((True)/\((sm64 s.th/\sm64 s.ga)/\(Value.bool (decide ((deepS m) < (tableS s)))=(.bool (decide (deepS m < tableS s))))))=_ by kernel_rfl) ?_
 exact ⟨trivial,⟨hp.2.2.2.2.1,hp.2.2.2.2.2⟩,rfl⟩
set_option maxHeartbeats 4000000 in
theorem cRtabled_ok:CtrOK Tryz.prog cRtabled:=.of (by kernel_rfl) (fun bs w xs vs pre r hr hA hG h hp=>by
 simp only [cRtabled] at h
 split at h
 ·rename_i m_ s_
  split at h
  ·rename_i m s em es
   cases h
   obtain rfl:=rdM_eq em
   obtain rfl:=rdS_eq es
   exact ctr_calls mixed LT3_ok FT1_ok Tryz.func12 (by kernel_rfl) hr hA hG rfl rfl (cRtabled_owes m s hp)
  ·cases h
 ·cases h) (fun xs α pre φ r=>by simp only [cRtabled]; split <;> (try split) <;> (intro h; cases h))
def cRstand:Ctr:=⟨14,fun | [.g m_,.g t_,.g s_]=>(match rdM m_,rdT t_,rdS s_ with | some m,some t,some s=>.yes (MoS m/\ToS t/\SeS s) (.k (.c (.v (.bool ((standS (nearR m s.x0 s.y0 s.x1 s.y1 t.ra) m)))))) | _,_,_=>.no) | _=>.no⟩
set_option maxHeartbeats 4000000 in
theorem cRstand_owes (m:Mo) (t:To) (s:Se) (hp:MoS m/\ToS t/\SeS s):owes LT3 FT1 [] Tryz.f14 (Tryz.f14.body.getD .skip) [.g [.v (.int .i64 (m.fx)),.v (.int .i64 (m.fy)),.v (.int .i64 (m.fz)),.v (.int .i64 (m.tx)),.v (.int .i64 (m.ty)),.v (.int .i64 (m.tz)),.v (.int .i64 (m.mr)),.v (.int .i64 (m.mt)),.v (.int .i64 (m.mb))],.g [.v (.int .i64 (t.nu)),.v (.int .i64 (t.ki)),.v (.int .i64 (t.ra)),.v (.int .i64 (t.fl)),.v (.int .i64 (t.ho)),.v (.int .i64 (t.st)),.v (.int .i64 (t.fe)),.v (.int .i64 (t.pu))],.g [.v (.int .i64 (s.x0)),.v (.int .i64 (s.y0)),.v (.int .i64 (s.x1)),.v (.int .i64 (s.y1)),.v (.int .i64 (s.th)),.v (.int .i64 (s.ga)),.pl 5 (s.cl),.v (.int .i64 (s.sf))]] (.k (.c (.v (.bool ((standS (nearR m s.x0 s.y0 s.x1 s.y1 t.ra) m)))))):=by
 refine owes_of (show ((True)/\((True)/\((((m.mr == (0:Int)) == true)=true->(True))/\((((bif (bif (m.mr == (0:Int)) then (decide ((deepS m) < (0:Int))) else false) then (!(bif (decide (m.fx=m.tx/\m.fy=m.ty)) then (decide (m.tz >= m.fz)) else false)) else false) == true)=true->(True))/\((((bif (bif (m.mr == (0:Int)) then (decide ((deepS m) < (0:Int))) else false) then (!(bif (decide (m.fx=m.tx/\m.fy=m.ty)) then (decide (m.tz >= m.fz)) else false)) else false) == true)=true->(sm64 s.x0/\sm64 s.y0/\sm64 s.x1/\sm64 s.y1/\sm64 m.fx/\sm64 m.fy/\sm64 m.tx/\sm64 m.ty/\sm64 t.ra))/\(Value.bool (bif (bif (bif (m.mr == (0:Int)) then (decide ((deepS m) < (0:Int))) else false) then (!(bif (decide (m.fx=m.tx/\m.fy=m.ty)) then (decide (m.tz >= m.fz)) else false)) else false) then (decide (Rt.sg (farS s.x0 s.y0 s.x1 s.y1 m.fx m.fy m.tx m.ty - (t.ra:Rat)*(t.ra:Rat)) < 0)) else false)=(.bool (standS (nearR m s.x0 s.y0 s.x1 s.y1 t.ra) m))))))))=_ by kernel_rfl) ?_
 refine ⟨trivial,trivial,fun _=>trivial,fun _=>trivial,fun _=>preR hp.1 hp.2.2.box hp.2.1.1,?_⟩
 unfold standS nearR
 by_cases a:m.mr=0 <;> by_cases b:deepS m < 0 <;> by_cases c:m.fx=m.tx/\m.fy=m.ty <;> by_cases d:m.fz <= m.tz <;> simp [a,b,c,d]
set_option maxHeartbeats 4000000 in
theorem cRstand_ok:CtrOK Tryz.prog cRstand:=.of (by kernel_rfl) (fun bs w xs vs pre r hr hA hG h hp=>by
 simp only [cRstand] at h
 split at h
 ·rename_i m_ t_ s_
  split at h
  ·rename_i m t s em et es
   cases h
   obtain rfl:=rdM_eq em
   obtain rfl:=rdT_eq et
   obtain rfl:=rdS_eq es
   exact ctr_calls mixed LT3_ok FT1_ok Tryz.func14 (by kernel_rfl) hr hA hG rfl rfl (cRstand_owes m t s hp)
  ·cases h
 ·cases h) (fun xs α pre φ r=>by simp only [cRstand]; split <;> (try split) <;> (intro h; cases h))
def cRhold:Ctr:=⟨16,fun | [.g m_,.g t_,.g s_]=>(match rdM m_,rdT t_,rdS s_ with | some m,some t,some s=>.yes (MoS m/\ToS t/\SeS s) (.k (.c (.v (.bool ((decide (deepS m+t.fl < 0) && nearR m s.x0 s.y0 s.x1 s.y1 t.ho)))))) | _,_,_=>.no) | _=>.no⟩
set_option maxHeartbeats 4000000 in
theorem cRhold_owes (m:Mo) (t:To) (s:Se) (hp:MoS m/\ToS t/\SeS s):owes LT3 FT1 [] Tryz.f16 (Tryz.f16.body.getD .skip) [.g [.v (.int .i64 (m.fx)),.v (.int .i64 (m.fy)),.v (.int .i64 (m.fz)),.v (.int .i64 (m.tx)),.v (.int .i64 (m.ty)),.v (.int .i64 (m.tz)),.v (.int .i64 (m.mr)),.v (.int .i64 (m.mt)),.v (.int .i64 (m.mb))],.g [.v (.int .i64 (t.nu)),.v (.int .i64 (t.ki)),.v (.int .i64 (t.ra)),.v (.int .i64 (t.fl)),.v (.int .i64 (t.ho)),.v (.int .i64 (t.st)),.v (.int .i64 (t.fe)),.v (.int .i64 (t.pu))],.g [.v (.int .i64 (s.x0)),.v (.int .i64 (s.y0)),.v (.int .i64 (s.x1)),.v (.int .i64 (s.y1)),.v (.int .i64 (s.th)),.v (.int .i64 (s.ga)),.pl 5 (s.cl),.v (.int .i64 (s.sf))]] (.k (.c (.v (.bool ((decide (deepS m+t.fl < 0) && nearR m s.x0 s.y0 s.x1 s.y1 t.ho)))))):=by
 refine owes_of (show ((True)/\((inR .i64 ((deepS m)+t.fl))/\((((decide (((deepS m)+t.fl) < (0:Int))) == true)=true->(True))/\((((decide (((deepS m)+t.fl) < (0:Int))) == true)=true->(sm64 s.x0/\sm64 s.y0/\sm64 s.x1/\sm64 s.y1/\sm64 m.fx/\sm64 m.fy/\sm64 m.tx/\sm64 m.ty/\sm64 t.ho))/\(Value.bool (bif (decide (((deepS m)+t.fl) < (0:Int))) then (decide (Rt.sg (farS s.x0 s.y0 s.x1 s.y1 m.fx m.fy m.tx m.ty - (t.ho:Rat)*(t.ho:Rat)) < 0)) else false)=(.bool (decide (deepS m+t.fl < 0) && nearR m s.x0 s.y0 s.x1 s.y1 t.ho)))))))=_ by kernel_rfl) ?_
 refine ⟨trivial,sm_add hp.1.deep hp.2.1.2.1,fun _=>trivial,fun _=>preR hp.1 hp.2.2.box hp.2.1.2.2,?_⟩
 unfold nearR
 by_cases b:deepS m+t.fl < 0 <;> simp [b]
set_option maxHeartbeats 4000000 in
theorem cRhold_ok:CtrOK Tryz.prog cRhold:=.of (by kernel_rfl) (fun bs w xs vs pre r hr hA hG h hp=>by
 simp only [cRhold] at h
 split at h
 ·rename_i m_ t_ s_
  split at h
  ·rename_i m t s em et es
   cases h
   obtain rfl:=rdM_eq em
   obtain rfl:=rdT_eq et
   obtain rfl:=rdS_eq es
   exact ctr_calls mixed LT3_ok FT1_ok Tryz.func16 (by kernel_rfl) hr hA hG rfl rfl (cRhold_owes m t s hp)
  ·cases h
 ·cases h) (fun xs α pre φ r=>by simp only [cRhold]; split <;> (try split) <;> (intro h; cases h))
def cRgood:Ctr:=⟨36,fun | [.g t_]=>(match rdT t_ with | some t=>.yes (True) (.k (.c (.v (.bool ((goodB t)))))) | _=>.no) | _=>.no⟩
set_option maxHeartbeats 4000000 in
theorem cRgood_owes (t:To):owes LT3 FT1 [] Tryz.f36 (Tryz.f36.body.getD .skip) [.g [.v (.int .i64 (t.nu)),.v (.int .i64 (t.ki)),.v (.int .i64 (t.ra)),.v (.int .i64 (t.fl)),.v (.int .i64 (t.ho)),.v (.int .i64 (t.st)),.v (.int .i64 (t.fe)),.v (.int .i64 (t.pu))]] (.k (.c (.v (.bool ((goodB t)))))):=by
 refine owes_of (show ((((bif (bif (bif (decide (t.nu >= (1:Int))) then (decide (t.nu <= (9999:Int))) else false) then (decide (t.ki >= (1:Int))) else false) then (decide (t.ki <= (4:Int))) else false) == true)=true->(True))/\((((bif (bif (bif (bif (decide (t.nu >= (1:Int))) then (decide (t.nu <= (9999:Int))) else false) then (decide (t.ki >= (1:Int))) else false) then (decide (t.ki <= (4:Int))) else false) then (lenB t.ra 1) else false) == true)=true->(True))/\((((bif (bif (bif (bif (bif (decide (t.nu >= (1:Int))) then (decide (t.nu <= (9999:Int))) else false) then (decide (t.ki >= (1:Int))) else false) then (decide (t.ki <= (4:Int))) else false) then (lenB t.ra 1) else false) then (lenB t.fl 1) else false) == true)=true->(True))/\((((bif (bif (bif (bif (bif (bif (decide (t.nu >= (1:Int))) then (decide (t.nu <= (9999:Int))) else false) then (decide (t.ki >= (1:Int))) else false) then (decide (t.ki <= (4:Int))) else false) then (lenB t.ra 1) else false) then (lenB t.fl 1) else false) then (lenB t.st 1) else false) == true)=true->(True))/\((((bif (bif (bif (bif (bif (bif (bif (decide (t.nu >= (1:Int))) then (decide (t.nu <= (9999:Int))) else false) then (decide (t.ki >= (1:Int))) else false) then (decide (t.ki <= (4:Int))) else false) then (lenB t.ra 1) else false) then (lenB t.fl 1) else false) then (lenB t.st 1) else false) then (lenB t.fe 1) else false) == true)=true->(True))/\(Value.bool (bif (bif (bif (bif (bif (bif (bif (bif (bif (bif (bif (decide (t.nu >= (1:Int))) then (decide (t.nu <= (9999:Int))) else false) then (decide (t.ki >= (1:Int))) else false) then (decide (t.ki <= (4:Int))) else false) then (lenB t.ra 1) else false) then (lenB t.fl 1) else false) then (lenB t.st 1) else false) then (lenB t.fe 1) else false) then (lenB t.pu 1) else false) then (decide (t.ho >= t.ra)) else false) then (decide (t.ho <= (10000000:Int))) else false) then (decide (t.st <= t.fl)) else false)=(.bool (goodB t))))))))=_ by kernel_rfl) ?_
 refine ⟨fun _=>trivial,fun _=>trivial,fun _=>trivial,fun _=>trivial,fun _=>trivial,?_⟩
 unfold lenB goodB
 congr 1
 rw [Bool.eq_iff_iff]
 simp only [Bool.cond_false_right,Bool.and_eq_true,decide_eq_true_eq,ge_iff_le]
 omega
set_option maxHeartbeats 4000000 in
theorem cRgood_ok:CtrOK Tryz.prog cRgood:=.of (by kernel_rfl) (fun bs w xs vs pre r hr hA hG h hp=>by
 simp only [cRgood] at h
 split at h
 ·rename_i t_
  split at h
  ·rename_i t et
   cases h
   obtain rfl:=rdT_eq et
   exact ctr_calls mixed LT3_ok FT1_ok Tryz.func36 (by kernel_rfl) hr hA hG rfl rfl (cRgood_owes t)
  ·cases h
 ·cases h) (fun xs α pre φ r=>by simp only [cRgood]; split <;> (try split) <;> (intro h; cases h))
def cRsmall:Ctr:=⟨23,fun | [.g m_]=>(match rdM m_ with | some m=>.yes (True) (.k (.c (.v (.bool ((smallB m)))))) | _=>.no) | _=>.no⟩
set_option maxHeartbeats 4000000 in
theorem cRsmall_owes (m:Mo):owes LT3 FT1 [.unroll 3 7] Tryz.f23 (Tryz.f23.body.getD .skip) [.g [.v (.int .i64 (m.fx)),.v (.int .i64 (m.fy)),.v (.int .i64 (m.fz)),.v (.int .i64 (m.tx)),.v (.int .i64 (m.ty)),.v (.int .i64 (m.tz)),.v (.int .i64 (m.mr)),.v (.int .i64 (m.mt)),.v (.int .i64 (m.mb))]] (.k (.c (.v (.bool ((smallB m)))))):=by
 refine owes_of (show (((decide ((0:Int) < (6:Int)))=true->(((bif (decide (m.fx > (1000:Int))) then true else (decide (m.fx < (-1000:Int))))=true->(Value.bool false=(.bool (smallB m))))/\((bif (decide (m.fx > (1000:Int))) then true else (decide (m.fx < (-1000:Int))))=false->((inR .i64 ((0:Int)+(1:Int)))/\(((decide (((0:Int)+(1:Int)) < (6:Int)))=true->(((bif (decide (m.fy > (1000:Int))) then true else (decide (m.fy < (-1000:Int))))=true->(Value.bool false=(.bool (smallB m))))/\((bif (decide (m.fy > (1000:Int))) then true else (decide (m.fy < (-1000:Int))))=false->((inR .i64 (((0:Int)+(1:Int))+(1:Int)))/\(((decide ((((0:Int)+(1:Int))+(1:Int)) < (6:Int)))=true->(((bif (decide (m.fz > (1000:Int))) then true else (decide (m.fz < (-1000:Int))))=true->(Value.bool false=(.bool (smallB m))))/\((bif (decide (m.fz > (1000:Int))) then true else (decide (m.fz < (-1000:Int))))=false->((inR .i64 ((((0:Int)+(1:Int))+(1:Int))+(1:Int)))/\(((decide (((((0:Int)+(1:Int))+(1:Int))+(1:Int)) < (6:Int)))=true->(((bif (decide (m.tx > (1000:Int))) then true else (decide (m.tx < (-1000:Int))))=true->(Value.bool false=(.bool (smallB m))))/\((bif (decide (m.tx > (1000:Int))) then true else (decide (m.tx < (-1000:Int))))=false->((inR .i64 (((((0:Int)+(1:Int))+(1:Int))+(1:Int))+(1:Int)))/\(((decide ((((((0:Int)+(1:Int))+(1:Int))+(1:Int))+(1:Int)) < (6:Int)))=true->(((bif (decide (m.ty > (1000:Int))) then true else (decide (m.ty < (-1000:Int))))=true->(Value.bool false=(.bool (smallB m))))/\((bif (decide (m.ty > (1000:Int))) then true else (decide (m.ty < (-1000:Int))))=false->((inR .i64 ((((((0:Int)+(1:Int))+(1:Int))+(1:Int))+(1:Int))+(1:Int)))/\(((decide (((((((0:Int)+(1:Int))+(1:Int))+(1:Int))+(1:Int))+(1:Int)) < (6:Int)))=true->(((bif (decide (m.tz > (1000:Int))) then true else (decide (m.tz < (-1000:Int))))=true->(Value.bool false=(.bool (smallB m))))/\((bif (decide (m.tz > (1000:Int))) then true else (decide (m.tz < (-1000:Int))))=false->((inR .i64 (((((((0:Int)+(1:Int))+(1:Int))+(1:Int))+(1:Int))+(1:Int))+(1:Int)))/\(((decide ((((((((0:Int)+(1:Int))+(1:Int))+(1:Int))+(1:Int))+(1:Int))+(1:Int)) < (6:Int)))=true->(False))/\((decide ((((((((0:Int)+(1:Int))+(1:Int))+(1:Int))+(1:Int))+(1:Int))+(1:Int)) < (6:Int)))=false->(Value.bool true=(.bool (smallB m)))))))))/\((decide (((((((0:Int)+(1:Int))+(1:Int))+(1:Int))+(1:Int))+(1:Int)) < (6:Int)))=false->(Value.bool true=(.bool (smallB m)))))))))/\((decide ((((((0:Int)+(1:Int))+(1:Int))+(1:Int))+(1:Int)) < (6:Int)))=false->(Value.bool true=(.bool (smallB m)))))))))/\((decide (((((0:Int)+(1:Int))+(1:Int))+(1:Int)) < (6:Int)))=false->(Value.bool true=(.bool (smallB m)))))))))/\((decide ((((0:Int)+(1:Int))+(1:Int)) < (6:Int)))=false->(Value.bool true=(.bool (smallB m)))))))))/\((decide (((0:Int)+(1:Int)) < (6:Int)))=false->(Value.bool true=(.bool (smallB m)))))))))/\((decide ((0:Int) < (6:Int)))=false->(Value.bool true=(.bool (smallB m)))))=_ by kernel_rfl) ?_
 simp only [med_not]
 unfold smallB
 generalize mediumB m.fx=b1
 generalize mediumB m.fy=b2
 generalize mediumB m.fz=b3
 generalize mediumB m.tx=b4
 generalize mediumB m.ty=b5
 generalize mediumB m.tz=b6
 cases b1 <;> (try simp [inR]) <;> cases b2 <;> (try simp) <;> cases b3 <;> (try simp) <;> cases b4 <;> (try simp) <;> cases b5 <;> (try simp) <;> cases b6 <;> simp
set_option maxHeartbeats 4000000 in
theorem cRsmall_ok:CtrOK Tryz.prog cRsmall:=.of (by kernel_rfl) (fun bs w xs vs pre r hr hA hG h hp=>by
 simp only [cRsmall] at h
 split at h
 ·rename_i m_
  split at h
  ·rename_i m em
   cases h
   obtain rfl:=rdM_eq em
   exact ctr_calls mixed LT3_ok FT1_ok Tryz.func23 (by kernel_rfl) hr hA hG rfl rfl (cRsmall_owes m)
  ·cases h
 ·cases h) (fun xs α pre φ r=>by simp only [cRsmall]; split <;> (try split) <;> (intro h; cases h))
def FT2:List Ctr:=FT1 ++ [cPover,cRrect,cPtabled,cRtabled,cRstand,cRhold,cRgood,cRsmall]
theorem FT2_ok:∀ c ∈ FT2,CtrOK Tryz.prog c:=ok_app FT1_ok (by
 intro c hc
 simp only [List.mem_cons,List.not_mem_nil,or_false] at hc
 rcases hc with rfl | rfl | rfl | rfl | rfl | rfl | rfl | rfl
 ·exact cPover_ok
 ·exact cRrect_ok
 ·exact cPtabled_ok
 ·exact cRtabled_ok
 ·exact cRstand_ok
 ·exact cRhold_ok
 ·exact cRgood_ok
 ·exact cRsmall_ok)
end Vc
end Go.Proofs.YtocpaddakdcofaaGreat
