import Derived.Test.YtocpaddakdcofaaGreatR27
import Derived.Test.YtocpaddakdcofaaGreatR33
import Derived.Test.YtocpaddakdcofaaGreatR34
import Derived.Test.YtocpaddakdcofaaGreatR35
import Derived.Test.YtocpaddakdcofaaGreatR36
import Derived.Test.YtocpaddakdcofaaGreatR20
namespace Go.Proofs.YtocpaddakdcofaaGreat
open Go.RowKit
namespace Zc
theorem mP5_ok:MPOK Tryz.prog 18 mP5:=MPOK.run_of (L:=LZ) (W:=WZ) (U:=UZ) (F:=FZ) (D:=E9) (M:=TP1) (fuel:=fuZ) (d:=dpZ) Vc.mixed LZ_ok FZ_ok E9_ok TP1_ok (show runM LZ WZ UZ FZ E9 TP1 fuZ dpZ 18 mP5=.ok .u by kernel_rfl)
end Zc
end Go.Proofs.YtocpaddakdcofaaGreat
namespace Go.Proofs.YtocpaddakdcofaaGreat
open Go.RowKit
namespace Zc
theorem TP2_ok:MOK Tryz.prog TP2:=TP1_ok.add mP1_ok
theorem TP3_ok:MOK Tryz.prog TP3:=TP2_ok.add mP2_ok
theorem TP4_ok:MOK Tryz.prog TP4:=TP3_ok.add mP3_ok
theorem TP5_ok:MOK Tryz.prog TP5:=TP4_ok.add mP4_ok
theorem TP6_ok:MOK Tryz.prog TP6:=TP5_ok.add mP5_ok
end Zc
end Go.Proofs.YtocpaddakdcofaaGreat
namespace Go.Proofs.YtocpaddakdcofaaGreat
open Go.RowKit
namespace Zc
noncomputable def mPZ:MP:=⟨0,[],[],.k (.c (.v (.bool true))),[]⟩
theorem mPZ_ok:MPOK Tryz.prog 5 mPZ:=MPOK.run_of (L:=LZ) (W:=WZ) (U:=UZ) (F:=FZ) (D:=E9) (M:=TP6) (fuel:=fuZ) (d:=dpZ) Vc.mixed LZ_ok FZ_ok E9_ok TP6_ok (show runM LZ WZ UZ FZ E9 TP6 fuZ dpZ 5 mPZ=.ok .u by kernel_rfl)
theorem awake_any (w:World):Calls Tryz.prog 5 #[] w fun e w'=>e=.returned (.bool true)/\Frame 0 0 (fun _=>none) w w':=by
 refine (mPZ_ok.run (fun _=>none) w [] (fun _ _=>rfl) (fun k b x h1=>(by cases h1)) (fun k b h1=>(by cases h1)) (fun k j b h1=>(by cases h1)) trivial).mono ?_
 rintro e w' ⟨v,bm',rfl,hf,_,_,_,_,hv⟩
 obtain ⟨rfl,_⟩:=hv
 exact ⟨rfl,hf⟩
end Zc
end Go.Proofs.YtocpaddakdcofaaGreat
namespace Go.Proofs.YtocpaddakdcofaaGreat
open Go.RowKit
namespace Vc
attribute [local irreducible] owes
def rightS (s:Se) (t:To) (m:Mo):Bool:=(decide (s.cl.length <= 4) && validS s) && (goodB t && smallB m)
theorem errS_eq (b:Bool):((errS b == (0:Int)))=b:=by cases b <;> rfl
theorem med_sm {n:Int} (h:mediumB n=true):sm64 n:=by
 have:=of_decide_eq_true h
 unfold sm64
 omega
theorem rect_sm {x0 y0 x1 y1:Int} (h:rectB x0 y0 x1 y1=true):sm64 x0/\sm64 y0/\sm64 x1/\sm64 y1:=by
 have:=of_decide_eq_true h
 unfold sm64
 omega
theorem rightS_spec {s:Se} {t:To} {m:Mo} (h:rightS s t m=true):(MoS m/\ToS t/\SeS s/\ClS s.cl)/\1 <= t.ra/\1 <= t.ho:=by
 unfold rightS at h
 simp only [Bool.and_eq_true,decide_eq_true_eq] at h
 obtain ⟨⟨h1,h2⟩,h3,h4⟩:=h
 unfold validS at h2
 unfold smallB at h4
 simp only [Bool.and_eq_true] at h2 h4
 obtain ⟨b1,b2⟩:=h2
 obtain ⟨m1,m2,m3,m4,m5,m6⟩:=h4
 obtain ⟨c1,c2,c3⟩:=baseB_spec b1
 have hr:=rect_sm c1
 have ht:=of_decide_eq_true h3
 refine ⟨⟨⟨med_sm m1,med_sm m2,med_sm m3,med_sm m4,med_sm m5,med_sm m6⟩,?_,⟨hr.1,hr.2.1,hr.2.2.1,hr.2.2.2,?_,?_⟩,h1,fun c hc=>?_⟩,by omega,by omega⟩
 ·unfold ToS sm64; omega
 ·unfold sm64; omega
 ·unfold sm64; omega
 ·have:=List.all_eq_true.1 b2 c hc
  unfold clampB at this
  simp only [Bool.and_eq_true] at this
  exact rect_sm this.1
def cAwake:Ctr:=⟨5,fun | []=>.yes True (.k (.c (.v (.bool true)))) | _=>.no⟩
theorem cAwake_ok:CtrOK Tryz.prog cAwake:=.of (by kernel_rfl) (fun bs w xs vs pre r hr hA hG h hp=>by
 simp only [cAwake] at h
 split at h
 ·cases h
  match vs,hr with
  | [],_ =>
  refine (Zc.awake_any w).mono ?_
  rintro e w' ⟨rfl,hf⟩
  exact ⟨_,rfl,⟨hf.env.1,hf.env.2.1,hf.env.2.2,hf.le,fun b hb=>hf.same b hb fun k _ h=>by omega⟩,rfl,rfl⟩
 ·cases h) (fun xs α pre φ r=>by simp only [cAwake]; split <;> (intro h; cases h))
def cRright:Ctr:=⟨21,fun | [.g s_]=>(match rdS s_ with | some s=>.yes (True) (.k (.c (.v (.bool ((decide (s.cl.length <= 4) && validS s)))))) | _=>.no) | _=>.no⟩
set_option maxHeartbeats 4000000 in
theorem cRright_owes (s:Se):owes LT3 FT3 [] Tryz.f21 (Tryz.f21.body.getD .skip) [.g [.v (.int .i64 (s.x0)),.v (.int .i64 (s.y0)),.v (.int .i64 (s.x1)),.v (.int .i64 (s.y1)),.v (.int .i64 (s.th)),.v (.int .i64 (s.ga)),.pl 5 (s.cl),.v (.int .i64 (s.sf))]] (.k (.c (.v (.bool ((decide (s.cl.length <= 4) && validS s)))))):=by
 refine owes_of (show ((((decide (((s.cl).length:Int) <= (4:Int))) == true)=true->(s.cl.length <= 4))/\(Value.bool (bif (decide (((s.cl).length:Int) <= (4:Int))) then ((errS (validS s)) == (0:Int)) else false)=(.bool (decide (s.cl.length <= 4) && validS s))))=_ by kernel_rfl) ?_
 refine ⟨fun h=>by have h':((s.cl.length:Nat):Int) <= 4:=(by simpa using h); omega,?_⟩
 rw [errS_eq]
 have:decide (((s.cl.length:Nat):Int) <= 4)=decide (s.cl.length <= 4):=decide_eq_decide.2 (by omega)
 rw [this]
 cases decide (s.cl.length <= 4) <;> rfl
set_option maxHeartbeats 4000000 in
theorem cRright_ok:CtrOK Tryz.prog cRright:=.of (by kernel_rfl) (fun bs w xs vs pre r hr hA hG h hp=>by
 simp only [cRright] at h
 split at h
 ·rename_i s_
  split at h
  ·rename_i s es
   cases h
   obtain rfl:=rdS_eq es
   exact ctr_calls mixed LT3_ok FT3_ok Tryz.func21 (by kernel_rfl) hr hA hG rfl rfl (cRright_owes s)
  ·cases h
 ·cases h) (fun xs α pre φ r=>by simp only [cRright]; split <;> (try split) <;> (intro h; cases h))
def FT4:List Ctr:=FT3 ++ [cRright,cAwake]
theorem FT4_ok:∀ c ∈ FT4,CtrOK Tryz.prog c:=ok_app FT3_ok (by
 intro c hc
 simp only [List.mem_cons,List.not_mem_nil,or_false] at hc
 rcases hc with rfl | rfl
 ·exact cRright_ok
 ·exact cAwake_ok)
def cLright:Ctr:=⟨6,fun | [.g s_,.g t_,.g m_]=>(match rdS s_,rdT t_,rdM m_ with | some s,some t,some m=>.yes (True) (.k (.c (.v (.bool ((rightS s t m)))))) | _,_,_=>.no) | _=>.no⟩
set_option maxHeartbeats 4000000 in
theorem cLright_owes (s:Se) (t:To) (m:Mo):owes LT3 FT4 [] Tryz.f6 (Tryz.f6.body.getD .skip) [.g [.v (.int .i64 (s.x0)),.v (.int .i64 (s.y0)),.v (.int .i64 (s.x1)),.v (.int .i64 (s.y1)),.v (.int .i64 (s.th)),.v (.int .i64 (s.ga)),.pl 5 (s.cl),.v (.int .i64 (s.sf))],.g [.v (.int .i64 (t.nu)),.v (.int .i64 (t.ki)),.v (.int .i64 (t.ra)),.v (.int .i64 (t.fl)),.v (.int .i64 (t.ho)),.v (.int .i64 (t.st)),.v (.int .i64 (t.fe)),.v (.int .i64 (t.pu))],.g [.v (.int .i64 (m.fx)),.v (.int .i64 (m.fy)),.v (.int .i64 (m.fz)),.v (.int .i64 (m.tx)),.v (.int .i64 (m.ty)),.v (.int .i64 (m.tz)),.v (.int .i64 (m.mr)),.v (.int .i64 (m.mt)),.v (.int .i64 (m.mb))]] (.k (.c (.v (.bool ((rightS s t m)))))):=by
 refine owes_of (show ((True)/\((((decide (s.cl.length <= 4) && validS s) == true)=true->(True))/\((((bif (decide (s.cl.length <= 4) && validS s) then ((errS (goodB t)) == (0:Int)) else false) == true)=true->(True))/\(Value.bool (bif (bif (decide (s.cl.length <= 4) && validS s) then ((errS (goodB t)) == (0:Int)) else false) then (smallB m) else false)=(.bool (rightS s t m))))))=_ by kernel_rfl) ?_
 refine ⟨trivial,fun _=>trivial,fun _=>trivial,?_⟩
 rw [errS_eq]
 unfold rightS
 cases (decide (s.cl.length <= 4) && validS s) <;> cases goodB t <;> rfl
set_option maxHeartbeats 4000000 in
theorem cLright_ok:CtrOK Tryz.prog cLright:=.of (by kernel_rfl) (fun bs w xs vs pre r hr hA hG h hp=>by
 simp only [cLright] at h
 split at h
 ·rename_i s_ t_ m_
  split at h
  ·rename_i s t m es et em
   cases h
   obtain rfl:=rdS_eq es
   obtain rfl:=rdT_eq et
   obtain rfl:=rdM_eq em
   exact ctr_calls mixed LT3_ok FT4_ok Tryz.func6 (by kernel_rfl) hr hA hG rfl rfl (cLright_owes s t m)
  ·cases h
 ·cases h) (fun xs α pre φ r=>by simp only [cLright]; split <;> (try split) <;> (intro h; cases h))
def FT5:List Ctr:=FT4 ++ [cLright]
theorem FT5_ok:∀ c ∈ FT5,CtrOK Tryz.prog c:=ok_app FT4_ok (by
 intro c hc
 simp only [List.mem_cons,List.not_mem_nil,or_false] at hc
 rcases hc with rfl
 ·exact cLright_ok)
end Vc
end Go.Proofs.YtocpaddakdcofaaGreat
namespace Go.Proofs.YtocpaddakdcofaaGreat
open Go.RowKit
namespace Vc
attribute [local irreducible] owes
theorem mn_lt {p q k:Rat}:Rt.mn p q < k ↔ p < k \/ q < k:=by
 unfold Rt.mn
 split
 ·rename_i h
  exact ⟨.inr,fun h'=>h'.elim (fun h1=>Std.lt_trans h h1) id⟩
 ·rename_i h
  exact ⟨.inl,fun h'=>h'.elim id (fun h1=>Std.lt_of_le_of_lt (Rat.not_lt.1 h) h1)⟩
theorem inB_eq {fx fy x0 y0 x1 y1 r:Int} (hr:1 <= r):inB fx fy x0 y0 x1 y1 r=(bif (bif (bif (decide (x0 <= fx)) then (decide (fx <= x1)) else false) then (decide (y0 <= fy)) else false) then (decide (fy <= y1)) else false):=by
 have hp:decide (r > 0)=true:=decide_eq_true (by omega)
 unfold inB
 rw [hp]
 rfl
theorem clB_eq {fx fy tx ty p1 p2 q1 q2 r:Int} (hr:1 <= r):clB fx fy tx ty p1 p2 q1 q2 r=decide (Rt.sgs (fx:Rat) (fy:Rat) (tx:Rat) (ty:Rat) (p1:Rat) (p2:Rat) (q1:Rat) (q2:Rat) < (r:Rat)*(r:Rat)):=by
 have hp:decide (r > 0)=true:=decide_eq_true (by omega)
 unfold clB
 rw [hp,dec_sg]
 rfl
theorem near_eq {m:Mo} {x0 y0 x1 y1 r:Int} (hr:1 <= r):nearP m x0 y0 x1 y1 r=nearR m x0 y0 x1 y1 r:=by
 have h0:(0:Rat) < (r:Rat)*(r:Rat):=by
  have h1:(0:Rat) < (r:Rat):=by exact_mod_cast (show (0:Int) < r by omega)
  exact Rat.mul_pos h1 h1
 unfold nearP nearB nearR farS
 rw [dec_sg,inB_eq hr,inB_eq hr,clB_eq hr,clB_eq hr,clB_eq hr,clB_eq hr]
 generalize (bif (bif (bif (decide (x0 <= m.fx)) then (decide (m.fx <= x1)) else false) then (decide (y0 <= m.fy)) else false) then (decide (m.fy <= y1)) else false)=A
 generalize (bif (bif (bif (decide (x0 <= m.tx)) then (decide (m.tx <= x1)) else false) then (decide (y0 <= m.ty)) else false) then (decide (m.ty <= y1)) else false)=B
 generalize Rt.sgs (m.fx:Rat) (m.fy:Rat) (m.tx:Rat) (m.ty:Rat) (x0:Rat) (y0:Rat) (x1:Rat) (y0:Rat)=S1
 generalize Rt.sgs (m.fx:Rat) (m.fy:Rat) (m.tx:Rat) (m.ty:Rat) (x1:Rat) (y0:Rat) (x1:Rat) (y1:Rat)=S2
 generalize Rt.sgs (m.fx:Rat) (m.fy:Rat) (m.tx:Rat) (m.ty:Rat) (x1:Rat) (y1:Rat) (x0:Rat) (y1:Rat)=S3
 generalize Rt.sgs (m.fx:Rat) (m.fy:Rat) (m.tx:Rat) (m.ty:Rat) (x0:Rat) (y1:Rat) (x0:Rat) (y0:Rat)=S4
 cases A with
 | true=>simp [h0]
 | false =>
   cases B with
   | true=>simp [h0]
   | false =>
     have e:(if (bif false then true else false)=true then (0:Rat) else Rt.mn (Rt.mn (Rt.mn S1 S2) S3) S4)=Rt.mn (Rt.mn (Rt.mn S1 S2) S3) S4:=rfl
     rw [e,Bool.eq_iff_iff]
     simp only [Bool.false_or,Bool.or_eq_true,decide_eq_true_eq,mn_lt,or_assoc]
theorem firstS_eq {m:Mo} {t:To} (h1:1 <= t.ra) (h2:1 <= t.ho):∀ (l:List (List Int)) (i:Int),firstS nearP m t l i=firstS nearR m t l i
 | [],_=>rfl
 | c :: l,i=>by
   rw [firstS,firstS,firstS_eq h1 h2 l (i+1)]
   unfold hitB
   rw [near_eq h1,near_eq h2]
def cLclamped:Ctr:=⟨3,fun | [.g s_,.g t_,.g m_]=>(match rdS s_,rdT t_,rdM m_ with | some _s,some _t,some _m=>.yes (True) (.k (.c (.v (.bool (true))))) | _,_,_=>.no) | _=>.no⟩
set_option maxHeartbeats 4000000 in
theorem cLclamped_owes (s:Se) (t:To) (m:Mo):owes LT3 FT5 [] Tryz.f3 (Tryz.f3.body.getD .skip) [.g [.v (.int .i64 (s.x0)),.v (.int .i64 (s.y0)),.v (.int .i64 (s.x1)),.v (.int .i64 (s.y1)),.v (.int .i64 (s.th)),.v (.int .i64 (s.ga)),.pl 5 (s.cl),.v (.int .i64 (s.sf))],.g [.v (.int .i64 (t.nu)),.v (.int .i64 (t.ki)),.v (.int .i64 (t.ra)),.v (.int .i64 (t.fl)),.v (.int .i64 (t.ho)),.v (.int .i64 (t.st)),.v (.int .i64 (t.fe)),.v (.int .i64 (t.pu))],.g [.v (.int .i64 (m.fx)),.v (.int .i64 (m.fy)),.v (.int .i64 (m.fz)),.v (.int .i64 (m.tx)),.v (.int .i64 (m.ty)),.v (.int .i64 (m.tz)),.v (.int .i64 (m.mr)),.v (.int .i64 (m.mt)),.v (.int .i64 (m.mb))]] (.k (.c (.v (.bool (true))))):=by
 refine owes_of (show ((True)/\((((!(true)) == false)=true->(True))/\(((bif (!(true)) then true else (!(rightS s t m)))=true->((True)/\(Value.bool true=(.bool true))))/\((bif (!(true)) then true else (!(rightS s t m)))=false->((MoS m/\ToS t/\SeS s/\ClS s.cl)/\((MoS m/\ToS t/\SeS s/\ClS s.cl)/\(Value.bool ((firstS nearP m t s.cl 0) == (firstS nearR m t s.cl 0))=(.bool true))))))))=_ by kernel_rfl) ?_
 refine ⟨trivial,fun _=>trivial,fun _=>⟨trivial,rfl⟩,fun h=>?_⟩
 have hR:rightS s t m=true:=by simpa using h
 obtain ⟨⟨pm,pt,ps,pc⟩,h1,h2⟩:=rightS_spec hR
 rw [firstS_eq h1 h2]
 exact ⟨⟨pm,pt,ps,pc⟩,⟨pm,pt,ps,pc⟩,congrArg Value.bool (beq_self_eq_true _)⟩
set_option maxHeartbeats 4000000 in
theorem cLclamped_ok:CtrOK Tryz.prog cLclamped:=.of (by kernel_rfl) (fun bs w xs vs pre r hr hA hG h hp=>by
 simp only [cLclamped] at h
 split at h
 ·rename_i s_ t_ m_
  split at h
  ·rename_i s t m es et em
   cases h
   obtain rfl:=rdS_eq es
   obtain rfl:=rdT_eq et
   obtain rfl:=rdM_eq em
   exact ctr_calls mixed LT3_ok FT5_ok Tryz.func3 (by kernel_rfl) hr hA hG rfl rfl (cLclamped_owes s t m)
  ·cases h
 ·cases h) (fun xs α pre φ r=>by simp only [cLclamped]; split <;> (try split) <;> (intro h; cases h))
def cLstock:Ctr:=⟨4,fun | [.g s_,.g t_,.g m_]=>(match rdS s_,rdT t_,rdM m_ with | some _s,some _t,some _m=>.yes (True) (.k (.c (.v (.bool (true))))) | _,_,_=>.no) | _=>.no⟩
set_option maxHeartbeats 4000000 in
theorem cLstock_owes (s:Se) (t:To) (m:Mo):owes LT3 FT5 [] Tryz.f4 (Tryz.f4.body.getD .skip) [.g [.v (.int .i64 (s.x0)),.v (.int .i64 (s.y0)),.v (.int .i64 (s.x1)),.v (.int .i64 (s.y1)),.v (.int .i64 (s.th)),.v (.int .i64 (s.ga)),.pl 5 (s.cl),.v (.int .i64 (s.sf))],.g [.v (.int .i64 (t.nu)),.v (.int .i64 (t.ki)),.v (.int .i64 (t.ra)),.v (.int .i64 (t.fl)),.v (.int .i64 (t.ho)),.v (.int .i64 (t.st)),.v (.int .i64 (t.fe)),.v (.int .i64 (t.pu))],.g [.v (.int .i64 (m.fx)),.v (.int .i64 (m.fy)),.v (.int .i64 (m.fz)),.v (.int .i64 (m.tx)),.v (.int .i64 (m.ty)),.v (.int .i64 (m.tz)),.v (.int .i64 (m.mr)),.v (.int .i64 (m.mt)),.v (.int .i64 (m.mb))]] (.k (.c (.v (.bool (true))))):=by
 refine owes_of (show ((True)/\((((!(true)) == false)=true->(True))/\(((bif (!(true)) then true else (!(rightS s t m)))=true->((True)/\(Value.bool true=(.bool true))))/\((bif (!(true)) then true else (!(rightS s t m)))=false->((True)/\((True)/\(((((deepS m) == (deepS m)) == true)=true->(SeS s))/\(((((deepS m) == (deepS m)) == true)=true->(SeS s))/\((((bif ((deepS m) == (deepS m)) then ((decide (deepS m < tableS s)) == (decide (deepS m < tableS s))) else false) == true)=true->(MoS m/\ToS t/\SeS s))/\((((bif ((deepS m) == (deepS m)) then ((decide (deepS m < tableS s)) == (decide (deepS m < tableS s))) else false) == true)=true->(MoS m/\ToS t/\SeS s))/\((((bif (bif ((deepS m) == (deepS m)) then ((decide (deepS m < tableS s)) == (decide (deepS m < tableS s))) else false) then ((standS (nearP m s.x0 s.y0 s.x1 s.y1 t.ra) m) == (standS (nearR m s.x0 s.y0 s.x1 s.y1 t.ra) m)) else false) == true)=true->(MoS m/\ToS t/\SeS s))/\((((bif (bif ((deepS m) == (deepS m)) then ((decide (deepS m < tableS s)) == (decide (deepS m < tableS s))) else false) then ((standS (nearP m s.x0 s.y0 s.x1 s.y1 t.ra) m) == (standS (nearR m s.x0 s.y0 s.x1 s.y1 t.ra) m)) else false) == true)=true->(MoS m/\ToS t/\SeS s))/\(Value.bool (bif (bif (bif ((deepS m) == (deepS m)) then ((decide (deepS m < tableS s)) == (decide (deepS m < tableS s))) else false) then ((standS (nearP m s.x0 s.y0 s.x1 s.y1 t.ra) m) == (standS (nearR m s.x0 s.y0 s.x1 s.y1 t.ra) m)) else false) then ((decide (deepS m+t.fl < 0) && nearP m s.x0 s.y0 s.x1 s.y1 t.ho) == (decide (deepS m+t.fl < 0) && nearR m s.x0 s.y0 s.x1 s.y1 t.ho)) else false)=(.bool true))))))))))))))=_ by kernel_rfl) ?_
 refine ⟨trivial,fun _=>trivial,fun _=>⟨trivial,rfl⟩,fun h=>?_⟩
 have hR:rightS s t m=true:=by simpa using h
 obtain ⟨⟨pm,pt,ps,pc⟩,h1,h2⟩:=rightS_spec hR
 rw [near_eq h1,near_eq h2]
 refine ⟨trivial,trivial,fun _=>ps,fun _=>ps,fun _=>⟨pm,pt,ps⟩,fun _=>⟨pm,pt,ps⟩,fun _=>⟨pm,pt,ps⟩,fun _=>⟨pm,pt,ps⟩,?_⟩
 simp only [beq_self_eq_true,cond_true]
set_option maxHeartbeats 4000000 in
theorem cLstock_ok:CtrOK Tryz.prog cLstock:=.of (by kernel_rfl) (fun bs w xs vs pre r hr hA hG h hp=>by
 simp only [cLstock] at h
 split at h
 ·rename_i s_ t_ m_
  split at h
  ·rename_i s t m es et em
   cases h
   obtain rfl:=rdS_eq es
   obtain rfl:=rdT_eq et
   obtain rfl:=rdM_eq em
   exact ctr_calls mixed LT3_ok FT5_ok Tryz.func4 (by kernel_rfl) hr hA hG rfl rfl (cLstock_owes s t m)
  ·cases h
 ·cases h) (fun xs α pre φ r=>by simp only [cLstock]; split <;> (try split) <;> (intro h; cases h))
end Vc
end Go.Proofs.YtocpaddakdcofaaGreat
