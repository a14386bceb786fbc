import Derived.Test.YtbohkigffejhoaaGreatR05
import Derived.Laws.MakeOwn
import Derived.Laws.OwnMore
import Derived.Laws.Rows
namespace Go.Proofs.YtbohkigffejhoaaGreat
open Go.RowKit
set_option maxRecDepth 8000
theorem Tryz.info_u32:(Tryz.prog.info? 189).map (fun i=>(i.zero,i.size,i.bytes))=some (some (.int .u32 0),1,4):=by kernel_rfl
def uV (x:Nat):Value:=.int .u32 (x:Int)
def ArrU (w:World) (b:Nat) (l:List Nat):Prop:=w.heap[b]?=some (.cells (l.map uV).toArray 189 (0,0))
theorem Ext.grown {w w1 w2:World} {row:Option Nat} (h:Ext w w1) (hg:w1.grownBy w2 row) (hr:∀ k,row=some k->w.heap.size <= k):Ext w w2:=Below.grown h.out hg h.size hr
theorem ArrU.lt {w:World} {b:Nat} {l:List Nat} (h:ArrU w b l):b < w.heap.size:=by
 rcases Nat.lt_or_ge b w.heap.size with h' | h'
 ·exact h'
 ·unfold ArrU at h; rw [Array.getElem?_eq_none h'] at h; cases h
theorem ArrU.cell {w:World} {b:Nat} {l:List Nat} (h:ArrU w b l) (i:Nat) (hi:i < l.length):w.cell? ⟨b,i,none⟩=some (.int .u32 (l[i]:Int)):=by
 unfold ArrU at h
 simp [World.cell?,h,hi,uV]
theorem ArrU.free {w:World} {b:Nat} {l:List Nat} (h:ArrU w b l) (i:Nat):w.frozen? ⟨b,i,none⟩=false:=by
 unfold ArrU at h
 simp [World.frozen?,h]
theorem ArrU.set {w:World} {b:Nat} {l:List Nat} (h:ArrU w b l) (i x:Nat):ArrU (w.setCell ⟨b,i,none⟩ (.int .u32 (x:Int))) b (l.set i x):=by
 unfold ArrU at *
 rw [heap_setCell_same w b i _ _ _ h]
 simp [uV,List.map_set]
theorem ArrU.ext {w w':World} {b:Nat} {l:List Nat} (h:ArrU w b l) (he:Ext w w'):ArrU w' b l:=by
 have:=h.lt
 unfold ArrU at *
 rw [he.out.block b this]; exact h
theorem ArrU.other {w:World} {b:Nat} {l:List Nat} (h:ArrU w b l) {a:Addr} (hne:b ≠ a.block) (v:Value):ArrU (w.setCell a v) b l:=by
 unfold ArrU at *
 rw [Below.heap_setCell _ _ _ _ hne]; exact h
theorem ArrU.sl {w:World} {b n cap:Nat} {l:List Nat} (h:ArrU w b l) (hn:n <= l.length) (hc:n <= cap):SlU w (.slice (some ⟨b,0,none⟩) n cap) (l.take n) :=
 SlU.mk (by simp; omega) hc (fun _=>h.lt) (fun i hi=>by
  have hi':i < l.length:=by simp at hi; omega
  rw [Nat.zero_add,h.cell i hi']
  simp)
theorem ArrU.all {w:World} {b n cap:Nat} {l:List Nat} (h:ArrU w b l) (hn:n=l.length) (hc:n <= cap):SlU w (.slice (some ⟨b,0,none⟩) n cap) l:=by
 have:=h.sl (n:=n) (by omega) hc
 rwa [hn,List.take_length,<- hn] at this
theorem a8k (n:Nat):madeCells #[Value.int .u32 0] (n*1)=Array.replicate n (Value.int .u32 0):=by
 apply Array.ext
 ·simp [size_madeCells]
 ·intro i h1 h2
  simp [madeCells,Nat.mod_one]
theorem a3K (n:Nat) (hn:n <= 1000000000) (w:World):(Instr.makeSlice 31 (.int .i64 (n:Int)) (.int .i64 (n:Int))).run Tryz.prog w=.ok (.slice (some ⟨w.heap.size,0,none⟩) n n) (w.alloc (.cells (Array.replicate n (.int .u32 0)) 189)):=by
 obtain ⟨i,hi,hz,hs,hb⟩:=info_parts Tryz.info_u32
 have:=run_make (P:=Tryz.prog) w 31 189 i (.int .u32 0) Tryz.underlying31 hi hz .i64 .i64 (n:Int) (n:Int) (by omega) (Int.le_refl _) (by rw [hb]; omega) (by omega)
 rw [this,hs]
 simp only [Int.toNat_natCast]
 rw [show (Value.int IntKind.u32 0).cells=#[Value.int .u32 0] from rfl,a8k]
theorem aFc (n:Nat) (hn:n <= 1000000000) (w:World):(Instr.makeSlice 31 (.int .i64 0) (.int .i64 (n:Int))).run Tryz.prog w=.ok (.slice (some ⟨w.heap.size,0,none⟩) 0 n) (w.alloc (.cells (Array.replicate n (.int .u32 0)) 189)):=by
 obtain ⟨i,hi,hz,hs,hb⟩:=info_parts Tryz.info_u32
 have:=run_make (P:=Tryz.prog) w 31 189 i (.int .u32 0) Tryz.underlying31 hi hz .i64 .i64 0 (n:Int) (by omega) (by omega) (by rw [hb]; omega) (by omega)
 rw [this,hs]
 simp only [Int.toNat_natCast,Int.toNat_zero]
 rw [show (Value.int IntKind.u32 0).cells=#[Value.int .u32 0] from rfl,a8k]
theorem a1L (w:World) (l:List Nat):∃ W:World,w.alloc (.cells (l.map uV).toArray 189)=W/\ArrU W w.heap.size l/\Ext w W/\W.heap.size=w.heap.size+1:=by
 obtain ⟨W,h1,h2,h3,h4⟩:=a0y w (l.map uV).toArray 189
 exact ⟨W,h1,h2,h3,h4⟩
theorem a1P (w:World) (n:Nat):∃ W:World,w.alloc (.cells (Array.replicate n (.int .u32 0)) 189)=W/\ArrU W w.heap.size (List.replicate n 0)/\Ext w W/\W.heap.size=w.heap.size+1:=by
 obtain ⟨W,h1,h2,h3,h4⟩:=a0y w (Array.replicate n (.int .u32 0)) 189
 refine ⟨W,h1,?_,h3,h4⟩
 unfold ArrU
 rw [h2]
 congr 2
 simp [uV]
theorem aKr {B:Nat} {w:World} {b n:Nat} (h:ArrU w b (List.replicate n 0)) (hB:B <= b) (hn:n <= maxLen):OwnG B 189 1 uC w (.slice (some ⟨b,0,none⟩) 0 n) [] :=
 ⟨rfl,.inr ⟨b,n,_,rfl,hB,h,Nat.zero_le _,hn,by simp,by simp [cat]⟩⟩
theorem aEF (u:Nat):Lb.val [u % 1000000000,u / 1000000000 % 1000000000,u / 1000000000 / 1000000000]=u:=by
 simp only [Lb.val,Lb.a4R]
 omega
set_option maxHeartbeats 1000000 in
theorem a9L (u:Nat) (w:World) (hu:u < 18446744073709551616) :
    Calls Tryz.prog 174 #[.int .u64 (u:Int)] w (aZ4 w [u % 1000000000,u / 1000000000 % 1000000000,u / 1000000000 / 1000000000]):=by
 obtain ⟨W1,hW1,hA,hE,hz⟩:=a1L w [u % 1000000000,u / 1000000000 % 1000000000,u / 1000000000 / 1000000000]
 have e1:(u:Int) / 1000000000 / 1000000000 < 1000000000:=by omega
 have e2:0 <= (u:Int) / 1000000000 / 1000000000:=by omega
 have e3:(u:Int) / 1000000000 % 1000000000 < 1000000000:=by omega
 have e4:0 <= (u:Int) / 1000000000 % 1000000000:=by omega
 have e5:(u:Int) % 1000000000 < 1000000000:=by omega
 have e6:0 <= (u:Int) % 1000000000:=by omega
 have e7:0 <= (u:Int) / 1000000000:=by omega
 have HA:=Lib.hid hA
 simp only [List.map_cons,List.map_nil,uV,Int.natCast_emod,Int.natCast_ediv] at hW1
 have e8:((1000000000:Nat):Int)=1000000000:=rfl
 simp only [e8] at hW1
 clear hA hz
 go_enter Tryz.func174,Tryz.ntmps174
 go_wp2_with fail
 go_ret
 exact ⟨_,_,_,rfl,HA.out.all rfl (by simp),hE⟩
theorem aKE (u:Nat) (hu:u < 18446744073709551616):Lb.Lt [u % 1000000000,u / 1000000000 % 1000000000,u / 1000000000 / 1000000000]:=by
 intro x hx
 rw [Lb.a4R]
 simp only [List.mem_cons,List.not_mem_nil,or_false] at hx
 rcases hx with rfl | rfl | rfl <;> omega
theorem a0P {w w':World} {b:Nat} {o:Obj} (h:w.heap[b]?=some o) (k:Ext w w'):w'.heap[b]?=some o:=by
 rw [k.out.block b ?_]; exact h
 rcases Nat.lt_or_ge b w.heap.size with h' | h'
 ·exact h'
 ·rw [Array.getElem?_eq_none h'] at h; cases h
theorem aWE {w w':World} {z:Int} {b:Bool} {a:Option Addr} {n c:Nat} (h:IsI w' b (.slice a n c) z) (he:Ext w w'):aEt w z (.returned (.agg #[.bool b,.slice a n c])) w':=⟨b,a,n,c,rfl,h,he⟩
theorem a2B {w:World} {b:Nat} {t:TypeId} (h:w.heap[b]?=some (.cells #[.bool false,.slice none 0 0] t (0,0))) :
    w.cell? ⟨b,0,none⟩=some (.bool false)/\w.cell? ⟨b,1,none⟩=some (.slice none 0 0)/\w.frozen? ⟨b,0,none⟩=false/\w.frozen? ⟨b,1,none⟩=false:=by
 simp [World.cell?,World.frozen?,h]
def NoU (w:World) (b:Nat):Prop:=∀ i x,w.cell? ⟨b,i,none⟩ ≠ some (.int .u32 x)
theorem SlU.set {w:World} {s:Value} {l:List Nat} (h:SlU w s l) {b i:Nat} (hn:NoU w b) (v:Value):SlU (w.setCell ⟨b,i,none⟩ v) s l:=by
 obtain ⟨a,n,cap,g,off,rfl,h2,h3,h4,h5,h6⟩:=h
 refine ⟨a,n,cap,g,off,rfl,h2,h3,h4,h5,fun j x hx=>?_⟩
 obtain ⟨p,q⟩:=h6 j x hx
 refine ⟨by simpa [World.setCell] using p,fun r u hu=>?_⟩
 have hq:=q r u hu
 have hne:g ≠ b:=by
  rintro rfl
  have hr:r=0:=by
   cases r with
   | zero=>rfl
   | succ r=>simp [uC] at hu
  subst hr
  have:u=.int .u32 x:=by simpa [uC] using hu.symm
  subst this
  exact hn _ _ hq
 rw [World.cell?_setCell_other _ _ _ _ (by intro e; cases e; exact hne rfl)]
 exact hq
theorem NoU.set {w:World} {b i:Nat} (h:NoU w b) (v:Value) (hv:∀ x,v ≠ .int .u32 x):NoU (w.setCell ⟨b,i,none⟩ v) b:=by
 intro j x hc
 by_cases e:i=j
 ·subst e
  cases hc0:w.cell? ⟨b,i,none⟩ with
  | none =>
    have:(w.setCell ⟨b,i,none⟩ v).cell? ⟨b,i,none⟩=none:=by
     unfold World.cell? World.setCell at *
     simp only [Array.getElem?_modify,if_pos] at *
     cases hb:w.heap[b]? with
     | none=>simp
     | some o =>
       cases o with
       | cells cs t fz =>
         simp only [hb] at hc0
         simp at hc0 ⊢
         exact hc0
       | _=>simp
    rw [this] at hc
    cases hc
  | some u =>
    rw [World.cell?_setCell_same _ _ _ hc0] at hc
    exact hv x (Option.some.inj hc)
 ·rw [World.cell?_setCell_other _ _ _ _ (by intro e'; cases e'; exact e rfl)] at hc
  exact h j x hc
theorem aWZ {w:World} {b:Nat} {t:TypeId} (h:w.heap[b]?=some (.cells #[.bool false,.slice none 0 0] t (0,0))):NoU w b:=by
 intro i x hc
 have:i=0 \/ i=1 \/ 2 <= i:=by omega
 rcases this with rfl | rfl | h2
 ·simp [World.cell?,h] at hc
 ·simp [World.cell?,h] at hc
 ·obtain ⟨k,rfl⟩:∃ k,i=k+2:=⟨i - 2,by omega⟩
  simp [World.cell?,h] at hc
theorem a3U {w w3:World} {b:Nat} {t:TypeId} {bb:Bool} {a:Option Addr} {n c:Nat} {z:Int} (hx:Ext w w3) (hb:w.heap.size <= b) (h:w3.heap[b]?=some (.cells #[.bool false,.slice none 0 0] t (0,0))) (hi:IsI w3 bb (.slice a n c) z) :
    aEt w z (.returned (.agg #[.bool bb,.slice a n c])) ((w3.setCell ⟨b,0,none⟩ (.bool bb)).setCell ⟨b,1,none⟩ (.slice a n c)):=by
 have h0:=aWZ h
 have h1:=h0.set (i:=0) (.bool bb) (by simp)
 exact aWE ⟨hi.1,(hi.2.set h0 _).set h1 _⟩ ((hx.setCell hb _).setCell hb _)
set_option maxHeartbeats 1000000 in
theorem aII (n:Int) (w:World) (h0:-9223372036854775808 <= n) (h1:n <= 9223372036854775807) :
    Calls Tryz.prog 92 #[.int .i64 n] w (aEt w n):=by
 obtain ⟨W,hW,hb,hE,hz⟩:=a0y w #[.bool false,.slice none 0 0] 33
 have HB:=Lib.hid hb; have HZ:=Lib.hid hz
 clear hb hz
 by_cases hneg:n < 0
 ·obtain ⟨u,rfl⟩:∃ u:Nat,n=-(u:Int):=⟨n.natAbs,by omega⟩
  have hu:u < 18446744073709551616:=by omega
  have hwr:IntKind.u64.wrap (-IntKind.u64.wrap (-(u:Int)))=(u:Int):=by rw [IntKind.wrap_u64,IntKind.wrap_u64]; omega
  have hsg:sgn true u=-(u:Int):=rfl
  have hup:0 < u:=by omega
  go_enter Tryz.func92,Tryz.ntmps92
  go_wp2_with fail
  refine (a9L u _ hu).mono ?_
  rintro e w2 ⟨a,m,c,rfl,hs,hx⟩
  go_wp2_with fail
  refine (a3m true _ _ w2 hs (aKE u hu) (by simp)).mono ?_
  rintro e w3 ⟨b3,a3,m3,c3,rfl,hs3,hx3⟩
  rw [aEF,hsg] at hs3
  have HK:=Lib.hid (a0P HB.out (hx.trans hx3))
  obtain ⟨r0,r1,r2,r3⟩:=a2B HK.out
  go_wp2_with fail
  exact bodyPost_ret (v:=.agg #[.bool b3,.slice a3 m3 c3]) (by simp [results,Tryz.results92,go_sem,r0,r1]) rfl (a3U ((hE.trans hx).trans hx3) (Nat.le_refl _) HK.out hs3)
 ·obtain ⟨u,rfl⟩:∃ u:Nat,n=(u:Int):=⟨n.natAbs,by omega⟩
  have hu:u < 18446744073709551616:=by omega
  have hsg:sgn false u=(u:Int):=rfl
  go_enter Tryz.func92,Tryz.ntmps92
  go_wp2_with fail
  refine (a9L u _ hu).mono ?_
  rintro e w2 ⟨a,m,c,rfl,hs,hx⟩
  go_wp2_with fail
  refine (a3m false _ _ w2 hs (aKE u hu) (by simp)).mono ?_
  rintro e w3 ⟨b3,a3,m3,c3,rfl,hs3,hx3⟩
  rw [aEF,hsg] at hs3
  have HK:=Lib.hid (a0P HB.out (hx.trans hx3))
  obtain ⟨r0,r1,r2,r3⟩:=a2B HK.out
  go_wp2_with fail
  exact bodyPost_ret (v:=.agg #[.bool b3,.slice a3 m3 c3]) (by simp [results,Tryz.results92,go_sem,r0,r1]) rfl (a3U ((hE.trans hx).trans hx3) (Nat.le_refl _) HK.out hs3)
theorem aRB {B:Nat} {w:World} {b:Nat} {l:List Nat} (h:ArrU w b l) (hB:B <= b) (hn:l.length <= maxLen):OwnG B 189 1 uC w (.slice (some ⟨b,0,none⟩) l.length l.length) l:=by
 refine ⟨by simp [a4h (f:=uC) (k:=1) a15],.inr ⟨b,l.length,_,rfl,hB,h,Nat.le_refl _,hn,by simp,?_⟩⟩
 have:∀ l:List Nat,cat uC l=l.map uV:=fun l=>by
  induction l with
  | nil=>rfl
  | cons x l ih=>simp [cat,uC,uV,ih]
 rw [this]
 simp only [Nat.mul_one]
 exact List.take_of_length_le (by simp)
def RetX (w:World) (m:Nat) (v:Nat) (e:Ending) (w':World):Prop:=∃ l s,e=.returned s/\l.length=m/\Lb.Lt l/\Lb.val l=v/\OwnG w.heap.size 189 1 uC w' s l/\Ext w w'
end Go.Proofs.YtbohkigffejhoaaGreat
namespace Go.Proofs.YtbohkigffejhoaaGreat
open Go.RowKit
set_option maxRecDepth 8000
theorem a3f {w:World} {s:Value} {l:List Nat} (h:SlU w s l) (i:Nat) (hi:i < l.length):∃ b off cap,s=.slice (some ⟨b,off,none⟩) l.length cap/\b < w.heap.size/\w.cell? ⟨b,off+i,none⟩=some (.int .u32 (l[i]:Int)):=by
 rcases h.cases with ⟨rfl,_⟩ | ⟨_,b,off,cap,rfl,_,hb,hc⟩
 ·simp at hi
 ·exact ⟨b,off,cap,rfl,hb,hc i hi⟩
def b0b (w:World) (p:Option Addr) (i x:Nat):Prop:=∃ b off,p=some ⟨b,off,none⟩/\w.cell? ⟨b,off+i,none⟩=some (.int .u32 (x:Int))
theorem SlU.at {w:World} {p:Option Addr} {n q:Nat} {l:List Nat} (h:SlU w (.slice p n q) l) (i:Nat) (hi:i < l.length):b0b w p i l[i]:=by
 obtain ⟨b,off,cap,e,hb,hc⟩:=a3f h i hi
 cases e
 exact ⟨b,off,rfl,hc⟩
structure a4w (a b:List Nat) (k c:Nat) (o:List Nat):Prop where
 len:o.length=k
 lt:Lb.Lt o
 sum:Lb.val o+Lb.B ^ k*c=Lb.val (a.take k)+Lb.val (b.take k)
theorem a3O (a b:List Nat):a4w a b 0 0 []:=⟨rfl,Lb.a2Q,by simp [Lb.val]⟩
theorem a4g {a b o:List Nat} {k c s:Nat} (h:a4w a b k c o) (hs:s=a.getD k 0+b.getD k 0+c) (hlt:s < 1000000000):a4w a b (k+1) 0 (o ++ [s]) :=
 ⟨by simp [h.len],Lb.a2p h.lt (Lb.a2R hlt Lb.a2Q),Lb.a9Q h.len h.sum (by omega)⟩
theorem a3F {a b o:List Nat} {k c s:Nat} (h:a4w a b k c o) (hs:s+1000000000=a.getD k 0+b.getD k 0+c) (hlt:s < 1000000000):a4w a b (k+1) 1 (o ++ [s]) :=
 ⟨by simp [h.len],Lb.a2p h.lt (Lb.a2R hlt Lb.a2Q),Lb.a9Q h.len h.sum (by rw [Lb.a4R]; omega)⟩
theorem a6i {a b o:List Nat} {k c:Nat} (h:a4w a b k c o) (ha:a.length=k) (hb:b.length <= k) (hc:c <= 1):Lb.Lt (o ++ [c])/\Lb.val (o ++ [c])=Lb.val a+Lb.val b:=by
 refine ⟨Lb.a2p h.lt (Lb.a2R (by rw [Lb.a4R]; omega) Lb.a2Q),?_⟩
 have:=h.sum
 rw [List.take_of_length_le (by omega),List.take_of_length_le hb] at this
 rw [Lb.a4A,h.len]
 exact this
def aYu (w:World) (m:Nat) (v:Nat) (e:Ending) (w':World):Prop:=∃ l,Lb.Lt l/\Lb.val l=v/\l.length <= m/\aZ4 w l e w'
set_option maxHeartbeats 16000000 in
theorem aSj (v1 v2:Value) (a b:List Nat) (w:World) (h1:SlU w v1 a) (h2:SlU w v2 b) (k1:Lb.Lt a) (k2:Lb.Lt b) (n1:a.length <= 100000000) (hab:b.length <= a.length) :
    Calls Tryz.prog 176 #[v1,v2] w (aYu w (a.length+1) (Lb.val a+Lb.val b)):=by
 obtain ⟨p1,q1,rfl⟩:=h1.form
 obtain ⟨p2,q2,rfl⟩:=h2.form
 have hlt:decide (a.length < b.length)=false:=by simp; omega
 have hmk:=aFc (a.length+1) (by omega)
 rw [Int.natCast_add] at hmk
 have e1:((1:Nat):Int)=1:=rfl
 rw [e1] at hmk
 obtain ⟨W,hW,hA,hE,hz⟩:=a1P w (a.length+1)
 have HO:=Lib.hid (aKr hA (Nat.le_refl _) (by unfold maxLen; omega))
 have HE:=Lib.hid hE
 have H1:=Lib.hid h1; have H2:=Lib.hid h2; have HK1:=Lib.hid k1; have HK2:=Lib.hid k2; have HAB:=Lib.hid hab
 clear e1 hA hE hz h1 h2 k1 k2 hab
 go_enter Tryz.func176,Tryz.ntmps176
 go_wp2_with fail
 clear hmk
 go_loopw [5,6,22] (fun out c i wr=>∃ (k cn:Nat) (o:List Nat),k <= a.length/\i=.int .i64 k/\c=.int .u32 cn/\cn <= 1/\Hid (a4w a b k cn o)/\Hid (OwnG w.heap.size 189 1 uC wr out o)/\Hid (Ext w wr)) (fun _ _ i _=>a.length - (intOf i).toNat)
 case atStart=>exact ⟨0,0,[],Nat.zero_le _,rfl,rfl,by omega,Lib.hid (a3O a b),HO,HE⟩
 case round =>
  clear hW HO HE hlt
  obtain ⟨k,cn,o,hk,rfl,rfl,hcn,HP,HO,HE⟩:=hrel
  by_cases hka:k < a.length
  ·have hx:a[k] < 1000000000:=Lb.a1s HK1.out k hka
   have HX:Hid (a.getD k 0=a[k]):=Lib.hid (by simp [hka])
   obtain ⟨g1,o1,rfl,cell1⟩:=(H1.out.later HE.out).at k hka
   have HL:Hid (o.length=k):=Lib.hid HP.out.len
   generalize a[k]=x at *
   by_cases hkb:k < b.length
   ·have hy:b[k] < 1000000000:=Lb.a1s HK2.out k hkb
    have HY:Hid (b.getD k 0=b[k]):=Lib.hid (by simp [hkb])
    obtain ⟨g2,o2,rfl,cell2⟩:=(H2.out.later HE.out).at k hkb
    generalize b[k]=y at *
    by_cases hge:1000000000 <= x+cn+y
    ·have hq:decide (1000000000 <= (x:Int)+cn+y)=true:=by simp; omega
     have hge2:(1000000000:Int) <= (x:Int)+cn+y:=by omega
     obtain ⟨s,hs⟩:∃ s,x+cn+y=s+1000000000:=⟨x+cn+y - 1000000000,by omega⟩
     have hsi:(x:Int)+cn+y - 1000000000=(s:Int):=by omega
     have HP2:=Lib.hid (a3F (s:=s) HP.out (by rw [HX.out,HY.out]; omega) (by omega))
     have hs9:s < 1000000000:=by omega
     obtain ⟨X,hX,hAX,heX,hzX⟩:=a1L wr [s]
     have HSX:=Lib.hid (hAX.all (n:=1) (cap:=1) rfl (Nat.le_refl _)); have HOX:=Lib.hid (HO.out.later heX); have HEX:=Lib.hid (HE.out.trans heX)
     have HBX:Hid (w.heap.size <= X.heap.size):=Lib.hid HEX.out.size
     have HM:Hid (o.length+[s].length <= maxLen):=Lib.hid (by have:=HL.out; unfold maxLen; simp; omega)
     have HN:Hid ((o.length+[s].length)*4 <= 140737488355328):=Lib.hid (by have:=HL.out; simp; omega)
     simp only [List.map_cons,List.map_nil,uV] at hX
     rw [<- hsi] at hX
     clear hsi hAX heX hzX hs hge HX HY HP HO HE HL
     go_wp2_with ((at_builtin; refine a2G rfl _ _ rfl Tryz.underlying31 Tryz.info_u32 rfl (by decide) a15 a3X w.heap.size _ _ o [s] rfl rfl HOX.out HSX.out HM.out HN.out HBX.out ?_; intro v6 w6 own6 hg6 hloc6))
     have E6:Ext w w6:=HEX.out.grown hg6 (fun i hi=>(HOX.out.base hi).1)
     go_roundw
     case rel=>exact ⟨k+1,1,o ++ [s],by omega,by go_num,rfl,by omega,HP2,Lib.hid own6,Lib.hid E6⟩
     case measure=>simp [intOf]; omega
    ·have hq:decide (1000000000 <= (x:Int)+cn+y)=false:=by simp; omega
     obtain ⟨s,hs⟩:∃ s,x+cn+y=s:=⟨_,rfl⟩
     have hsi:(x:Int)+cn+y=(s:Int):=by omega
     have HP2:=Lib.hid (a4g (s:=s) HP.out (by rw [HX.out,HY.out]; omega) (by omega))
     have hs9:s < 1000000000:=by omega
     obtain ⟨X,hX,hAX,heX,hzX⟩:=a1L wr [s]
     have HSX:=Lib.hid (hAX.all (n:=1) (cap:=1) rfl (Nat.le_refl _)); have HOX:=Lib.hid (HO.out.later heX); have HEX:=Lib.hid (HE.out.trans heX)
     have HBX:Hid (w.heap.size <= X.heap.size):=Lib.hid HEX.out.size
     have HM:Hid (o.length+[s].length <= maxLen):=Lib.hid (by have:=HL.out; unfold maxLen; simp; omega)
     have HN:Hid ((o.length+[s].length)*4 <= 140737488355328):=Lib.hid (by have:=HL.out; simp; omega)
     simp only [List.map_cons,List.map_nil,uV] at hX
     rw [<- hsi] at hX
     clear hsi hAX heX hzX hs hge HX HY HP HO HE HL
     go_wp2_with ((at_builtin; refine a2G rfl _ _ rfl Tryz.underlying31 Tryz.info_u32 rfl (by decide) a15 a3X w.heap.size _ _ o [s] rfl rfl HOX.out HSX.out HM.out HN.out HBX.out ?_; intro v6 w6 own6 hg6 hloc6))
     have E6:Ext w w6:=HEX.out.grown hg6 (fun i hi=>(HOX.out.base hi).1)
     go_roundw
     case rel=>exact ⟨k+1,0,o ++ [s],by omega,by go_num,rfl,by omega,HP2,Lib.hid own6,Lib.hid E6⟩
     case measure=>simp [intOf]; omega
   ·have HY:Hid (b.getD k 0=0):=Lib.hid (by simp [Nat.le_of_not_lt hkb])
    by_cases hge:1000000000 <= x+cn
    ·have hq:decide (1000000000 <= (x:Int)+cn)=true:=by simp; omega
     have hge2:(1000000000:Int) <= (x:Int)+cn:=by omega
     obtain ⟨s,hs⟩:∃ s,x+cn=s+1000000000:=⟨x+cn - 1000000000,by omega⟩
     have hsi:(x:Int)+cn - 1000000000=(s:Int):=by omega
     have HP2:=Lib.hid (a3F (s:=s) HP.out (by rw [HX.out,HY.out]; omega) (by omega))
     have hs9:s < 1000000000:=by omega
     obtain ⟨X,hX,hAX,heX,hzX⟩:=a1L wr [s]
     have HSX:=Lib.hid (hAX.all (n:=1) (cap:=1) rfl (Nat.le_refl _)); have HOX:=Lib.hid (HO.out.later heX); have HEX:=Lib.hid (HE.out.trans heX)
     have HBX:Hid (w.heap.size <= X.heap.size):=Lib.hid HEX.out.size
     have HM:Hid (o.length+[s].length <= maxLen):=Lib.hid (by have:=HL.out; unfold maxLen; simp; omega)
     have HN:Hid ((o.length+[s].length)*4 <= 140737488355328):=Lib.hid (by have:=HL.out; simp; omega)
     simp only [List.map_cons,List.map_nil,uV] at hX
     rw [<- hsi] at hX
     clear hsi hAX heX hzX hs hge HX HY HP HO HE HL
     go_wp2_with ((at_builtin; refine a2G rfl _ _ rfl Tryz.underlying31 Tryz.info_u32 rfl (by decide) a15 a3X w.heap.size _ _ o [s] rfl rfl HOX.out HSX.out HM.out HN.out HBX.out ?_; intro v6 w6 own6 hg6 hloc6))
     have E6:Ext w w6:=HEX.out.grown hg6 (fun i hi=>(HOX.out.base hi).1)
     go_roundw
     case rel=>exact ⟨k+1,1,o ++ [s],by omega,by go_num,rfl,by omega,HP2,Lib.hid own6,Lib.hid E6⟩
     case measure=>simp [intOf]; omega
    ·have hq:decide (1000000000 <= (x:Int)+cn)=false:=by simp; omega
     obtain ⟨s,hs⟩:∃ s,x+cn=s:=⟨_,rfl⟩
     have hsi:(x:Int)+cn=(s:Int):=by omega
     have HP2:=Lib.hid (a4g (s:=s) HP.out (by rw [HX.out,HY.out]; omega) (by omega))
     have hs9:s < 1000000000:=by omega
     obtain ⟨X,hX,hAX,heX,hzX⟩:=a1L wr [s]
     have HSX:=Lib.hid (hAX.all (n:=1) (cap:=1) rfl (Nat.le_refl _)); have HOX:=Lib.hid (HO.out.later heX); have HEX:=Lib.hid (HE.out.trans heX)
     have HBX:Hid (w.heap.size <= X.heap.size):=Lib.hid HEX.out.size
     have HM:Hid (o.length+[s].length <= maxLen):=Lib.hid (by have:=HL.out; unfold maxLen; simp; omega)
     have HN:Hid ((o.length+[s].length)*4 <= 140737488355328):=Lib.hid (by have:=HL.out; simp; omega)
     simp only [List.map_cons,List.map_nil,uV] at hX
     rw [<- hsi] at hX
     clear hsi hAX heX hzX hs hge HX HY HP HO HE HL
     go_wp2_with ((at_builtin; refine a2G rfl _ _ rfl Tryz.underlying31 Tryz.info_u32 rfl (by decide) a15 a3X w.heap.size _ _ o [s] rfl rfl HOX.out HSX.out HM.out HN.out HBX.out ?_; intro v6 w6 own6 hg6 hloc6))
     have E6:Ext w w6:=HEX.out.grown hg6 (fun i hi=>(HOX.out.base hi).1)
     go_roundw
     case rel=>exact ⟨k+1,0,o ++ [s],by omega,by go_num,rfl,by omega,HP2,Lib.hid own6,Lib.hid E6⟩
     case measure=>simp [intOf]; omega
  ·obtain rfl:k=a.length:=by omega
   have HC:=Lib.hid (a6i HP.out rfl HAB.out hcn)
   have HL:Hid (o.length=a.length):=Lib.hid HP.out.len
   obtain ⟨X,hX,hAX,heX,hzX⟩:=a1L wr [cn]
   have HSX:=Lib.hid (hAX.all (n:=1) (cap:=1) rfl (Nat.le_refl _)); have HOX:=Lib.hid (HO.out.later heX); have HEX:=Lib.hid (HE.out.trans heX)
   have HBX:Hid (w.heap.size <= X.heap.size):=Lib.hid HEX.out.size
   have HM:Hid (o.length+[cn].length <= maxLen):=Lib.hid (by have:=HL.out; unfold maxLen; simp; omega)
   have HN:Hid ((o.length+[cn].length)*4 <= 140737488355328):=Lib.hid (by have:=HL.out; simp; omega)
   simp only [List.map_cons,List.map_nil,uV] at hX
   clear hAX heX hzX hka
   go_wp2_with ((at_builtin; refine a2G rfl _ _ rfl Tryz.underlying31 Tryz.info_u32 rfl (by decide) a15 a3X w.heap.size _ _ o [cn] rfl rfl HOX.out HSX.out HM.out HN.out HBX.out ?_; intro v6 w6 own6 hg6 hloc6))
   go_ret
   have s6:=own6.sl a15
   obtain ⟨p6,q6,rfl⟩:=SlU.form s6
   refine ⟨_,HC.out.1,HC.out.2,by have:=HL.out; simp; omega,_,_,_,rfl,s6,?_⟩
   exact HEX.out.grown hg6 (fun i hi=>(HOX.out.base hi).1)
set_option maxHeartbeats 16000000 in
theorem aSi (v1 v2:Value) (a b:List Nat) (w:World) (h1:SlU w v1 a) (h2:SlU w v2 b) (k1:Lb.Lt a) (k2:Lb.Lt b) (n1:a.length <= 100000000) (hab:b.length < a.length) :
    Calls Tryz.prog 176 #[v2,v1] w (aYu w (a.length+1) (Lb.val a+Lb.val b)):=by
 obtain ⟨p1,q1,rfl⟩:=h1.form
 obtain ⟨p2,q2,rfl⟩:=h2.form
 have hlt:decide (b.length < a.length)=true:=by simp; omega
 have hmk:=aFc (a.length+1) (by omega)
 rw [Int.natCast_add] at hmk
 have e1:((1:Nat):Int)=1:=rfl
 rw [e1] at hmk
 obtain ⟨W,hW,hA,hE,hz⟩:=a1P w (a.length+1)
 have HO:=Lib.hid (aKr hA (Nat.le_refl _) (by unfold maxLen; omega))
 have HE:=Lib.hid hE
 have H1:=Lib.hid h1; have H2:=Lib.hid h2; have HK1:=Lib.hid k1; have HK2:=Lib.hid k2; have HAB:=Lib.hid hab
 clear e1 hA hE hz h1 h2 k1 k2 hab
 go_enter Tryz.func176,Tryz.ntmps176
 go_wp2_with fail
 clear hmk
 go_loopw [5,6,22] (fun out c i wr=>∃ (k cn:Nat) (o:List Nat),k <= a.length/\i=.int .i64 k/\c=.int .u32 cn/\cn <= 1/\Hid (a4w a b k cn o)/\Hid (OwnG w.heap.size 189 1 uC wr out o)/\Hid (Ext w wr)) (fun _ _ i _=>a.length - (intOf i).toNat)
 case atStart=>exact ⟨0,0,[],Nat.zero_le _,rfl,rfl,by omega,Lib.hid (a3O a b),HO,HE⟩
 case round =>
  clear hW HO HE hlt
  obtain ⟨k,cn,o,hk,rfl,rfl,hcn,HP,HO,HE⟩:=hrel
  by_cases hka:k < a.length
  ·have hx:a[k] < 1000000000:=Lb.a1s HK1.out k hka
   have HX:Hid (a.getD k 0=a[k]):=Lib.hid (by simp [hka])
   obtain ⟨g1,o1,rfl,cell1⟩:=(H1.out.later HE.out).at k hka
   have HL:Hid (o.length=k):=Lib.hid HP.out.len
   generalize a[k]=x at *
   by_cases hkb:k < b.length
   ·have hy:b[k] < 1000000000:=Lb.a1s HK2.out k hkb
    have HY:Hid (b.getD k 0=b[k]):=Lib.hid (by simp [hkb])
    obtain ⟨g2,o2,rfl,cell2⟩:=(H2.out.later HE.out).at k hkb
    generalize b[k]=y at *
    by_cases hge:1000000000 <= x+cn+y
    ·have hq:decide (1000000000 <= (x:Int)+cn+y)=true:=by simp; omega
     have hge2:(1000000000:Int) <= (x:Int)+cn+y:=by omega
     obtain ⟨s,hs⟩:∃ s,x+cn+y=s+1000000000:=⟨x+cn+y - 1000000000,by omega⟩
     have hsi:(x:Int)+cn+y - 1000000000=(s:Int):=by omega
     have HP2:=Lib.hid (a3F (s:=s) HP.out (by rw [HX.out,HY.out]; omega) (by omega))
     have hs9:s < 1000000000:=by omega
     obtain ⟨X,hX,hAX,heX,hzX⟩:=a1L wr [s]
     have HSX:=Lib.hid (hAX.all (n:=1) (cap:=1) rfl (Nat.le_refl _)); have HOX:=Lib.hid (HO.out.later heX); have HEX:=Lib.hid (HE.out.trans heX)
     have HBX:Hid (w.heap.size <= X.heap.size):=Lib.hid HEX.out.size
     have HM:Hid (o.length+[s].length <= maxLen):=Lib.hid (by have:=HL.out; unfold maxLen; simp; omega)
     have HN:Hid ((o.length+[s].length)*4 <= 140737488355328):=Lib.hid (by have:=HL.out; simp; omega)
     simp only [List.map_cons,List.map_nil,uV] at hX
     rw [<- hsi] at hX
     clear hsi hAX heX hzX hs hge HX HY HP HO HE HL
     go_wp2_with ((at_builtin; refine a2G rfl _ _ rfl Tryz.underlying31 Tryz.info_u32 rfl (by decide) a15 a3X w.heap.size _ _ o [s] rfl rfl HOX.out HSX.out HM.out HN.out HBX.out ?_; intro v6 w6 own6 hg6 hloc6))
     have E6:Ext w w6:=HEX.out.grown hg6 (fun i hi=>(HOX.out.base hi).1)
     go_roundw
     case rel=>exact ⟨k+1,1,o ++ [s],by omega,by go_num,rfl,by omega,HP2,Lib.hid own6,Lib.hid E6⟩
     case measure=>simp [intOf]; omega
    ·have hq:decide (1000000000 <= (x:Int)+cn+y)=false:=by simp; omega
     obtain ⟨s,hs⟩:∃ s,x+cn+y=s:=⟨_,rfl⟩
     have hsi:(x:Int)+cn+y=(s:Int):=by omega
     have HP2:=Lib.hid (a4g (s:=s) HP.out (by rw [HX.out,HY.out]; omega) (by omega))
     have hs9:s < 1000000000:=by omega
     obtain ⟨X,hX,hAX,heX,hzX⟩:=a1L wr [s]
     have HSX:=Lib.hid (hAX.all (n:=1) (cap:=1) rfl (Nat.le_refl _)); have HOX:=Lib.hid (HO.out.later heX); have HEX:=Lib.hid (HE.out.trans heX)
     have HBX:Hid (w.heap.size <= X.heap.size):=Lib.hid HEX.out.size
     have HM:Hid (o.length+[s].length <= maxLen):=Lib.hid (by have:=HL.out; unfold maxLen; simp; omega)
     have HN:Hid ((o.length+[s].length)*4 <= 140737488355328):=Lib.hid (by have:=HL.out; simp; omega)
     simp only [List.map_cons,List.map_nil,uV] at hX
     rw [<- hsi] at hX
     clear hsi hAX heX hzX hs hge HX HY HP HO HE HL
     go_wp2_with ((at_builtin; refine a2G rfl _ _ rfl Tryz.underlying31 Tryz.info_u32 rfl (by decide) a15 a3X w.heap.size _ _ o [s] rfl rfl HOX.out HSX.out HM.out HN.out HBX.out ?_; intro v6 w6 own6 hg6 hloc6))
     have E6:Ext w w6:=HEX.out.grown hg6 (fun i hi=>(HOX.out.base hi).1)
     go_roundw
     case rel=>exact ⟨k+1,0,o ++ [s],by omega,by go_num,rfl,by omega,HP2,Lib.hid own6,Lib.hid E6⟩
     case measure=>simp [intOf]; omega
   ·have HY:Hid (b.getD k 0=0):=Lib.hid (by simp [Nat.le_of_not_lt hkb])
    by_cases hge:1000000000 <= x+cn
    ·have hq:decide (1000000000 <= (x:Int)+cn)=true:=by simp; omega
     have hge2:(1000000000:Int) <= (x:Int)+cn:=by omega
     obtain ⟨s,hs⟩:∃ s,x+cn=s+1000000000:=⟨x+cn - 1000000000,by omega⟩
     have hsi:(x:Int)+cn - 1000000000=(s:Int):=by omega
     have HP2:=Lib.hid (a3F (s:=s) HP.out (by rw [HX.out,HY.out]; omega) (by omega))
     have hs9:s < 1000000000:=by omega
     obtain ⟨X,hX,hAX,heX,hzX⟩:=a1L wr [s]
     have HSX:=Lib.hid (hAX.all (n:=1) (cap:=1) rfl (Nat.le_refl _)); have HOX:=Lib.hid (HO.out.later heX); have HEX:=Lib.hid (HE.out.trans heX)
     have HBX:Hid (w.heap.size <= X.heap.size):=Lib.hid HEX.out.size
     have HM:Hid (o.length+[s].length <= maxLen):=Lib.hid (by have:=HL.out; unfold maxLen; simp; omega)
     have HN:Hid ((o.length+[s].length)*4 <= 140737488355328):=Lib.hid (by have:=HL.out; simp; omega)
     simp only [List.map_cons,List.map_nil,uV] at hX
     rw [<- hsi] at hX
     clear hsi hAX heX hzX hs hge HX HY HP HO HE HL
     go_wp2_with ((at_builtin; refine a2G rfl _ _ rfl Tryz.underlying31 Tryz.info_u32 rfl (by decide) a15 a3X w.heap.size _ _ o [s] rfl rfl HOX.out HSX.out HM.out HN.out HBX.out ?_; intro v6 w6 own6 hg6 hloc6))
     have E6:Ext w w6:=HEX.out.grown hg6 (fun i hi=>(HOX.out.base hi).1)
     go_roundw
     case rel=>exact ⟨k+1,1,o ++ [s],by omega,by go_num,rfl,by omega,HP2,Lib.hid own6,Lib.hid E6⟩
     case measure=>simp [intOf]; omega
    ·have hq:decide (1000000000 <= (x:Int)+cn)=false:=by simp; omega
     obtain ⟨s,hs⟩:∃ s,x+cn=s:=⟨_,rfl⟩
     have hsi:(x:Int)+cn=(s:Int):=by omega
     have HP2:=Lib.hid (a4g (s:=s) HP.out (by rw [HX.out,HY.out]; omega) (by omega))
     have hs9:s < 1000000000:=by omega
     obtain ⟨X,hX,hAX,heX,hzX⟩:=a1L wr [s]
     have HSX:=Lib.hid (hAX.all (n:=1) (cap:=1) rfl (Nat.le_refl _)); have HOX:=Lib.hid (HO.out.later heX); have HEX:=Lib.hid (HE.out.trans heX)
     have HBX:Hid (w.heap.size <= X.heap.size):=Lib.hid HEX.out.size
     have HM:Hid (o.length+[s].length <= maxLen):=Lib.hid (by have:=HL.out; unfold maxLen; simp; omega)
     have HN:Hid ((o.length+[s].length)*4 <= 140737488355328):=Lib.hid (by have:=HL.out; simp; omega)
     simp only [List.map_cons,List.map_nil,uV] at hX
     rw [<- hsi] at hX
     clear hsi hAX heX hzX hs hge HX HY HP HO HE HL
     go_wp2_with ((at_builtin; refine a2G rfl _ _ rfl Tryz.underlying31 Tryz.info_u32 rfl (by decide) a15 a3X w.heap.size _ _ o [s] rfl rfl HOX.out HSX.out HM.out HN.out HBX.out ?_; intro v6 w6 own6 hg6 hloc6))
     have E6:Ext w w6:=HEX.out.grown hg6 (fun i hi=>(HOX.out.base hi).1)
     go_roundw
     case rel=>exact ⟨k+1,0,o ++ [s],by omega,by go_num,rfl,by omega,HP2,Lib.hid own6,Lib.hid E6⟩
     case measure=>simp [intOf]; omega
  ·obtain rfl:k=a.length:=by omega
   have HC:=Lib.hid (a6i HP.out rfl (Nat.le_of_lt HAB.out) hcn)
   have HL:Hid (o.length=a.length):=Lib.hid HP.out.len
   obtain ⟨X,hX,hAX,heX,hzX⟩:=a1L wr [cn]
   have HSX:=Lib.hid (hAX.all (n:=1) (cap:=1) rfl (Nat.le_refl _)); have HOX:=Lib.hid (HO.out.later heX); have HEX:=Lib.hid (HE.out.trans heX)
   have HBX:Hid (w.heap.size <= X.heap.size):=Lib.hid HEX.out.size
   have HM:Hid (o.length+[cn].length <= maxLen):=Lib.hid (by have:=HL.out; unfold maxLen; simp; omega)
   have HN:Hid ((o.length+[cn].length)*4 <= 140737488355328):=Lib.hid (by have:=HL.out; simp; omega)
   simp only [List.map_cons,List.map_nil,uV] at hX
   clear hAX heX hzX hka
   go_wp2_with ((at_builtin; refine a2G rfl _ _ rfl Tryz.underlying31 Tryz.info_u32 rfl (by decide) a15 a3X w.heap.size _ _ o [cn] rfl rfl HOX.out HSX.out HM.out HN.out HBX.out ?_; intro v6 w6 own6 hg6 hloc6))
   go_ret
   have s6:=own6.sl a15
   obtain ⟨p6,q6,rfl⟩:=SlU.form s6
   refine ⟨_,HC.out.1,HC.out.2,by have:=HL.out; simp; omega,_,_,_,rfl,s6,?_⟩
   exact HEX.out.grown hg6 (fun i hi=>(HOX.out.base hi).1)
theorem aOa (v1 v2:Value) (a b:List Nat) (w:World) (h1:SlU w v1 a) (h2:SlU w v2 b) (k1:Lb.Lt a) (k2:Lb.Lt b) (n1:a.length <= 100000000) (n2:b.length <= 100000000) :
    Calls Tryz.prog 176 #[v1,v2] w (aYu w (max a.length b.length+1) (Lb.val a+Lb.val b)):=by
 by_cases h:b.length <= a.length
 ·exact (aSj v1 v2 a b w h1 h2 k1 k2 n1 h).mono fun e w' ⟨l,q1,q2,q3,q4⟩=>⟨l,q1,q2,by omega,q4⟩
 ·exact (aSi v2 v1 b a w h2 h1 k2 k1 n2 (by omega)).mono fun e w' ⟨l,q1,q2,q3,q4⟩=>⟨l,q1,by rw [q2,Nat.add_comm],by omega,q4⟩
end Go.Proofs.YtbohkigffejhoaaGreat
namespace Go.Proofs.YtbohkigffejhoaaGreat
open Go.RowKit
set_option maxRecDepth 8000
structure a6V (a b:List Nat) (k c:Nat) (o:List Nat):Prop where
 len:o.length=k
 lt:Lb.Lt o
 sum:Lb.val o+Lb.val (b.take k)=Lb.val (a.take k)+Lb.B ^ k*c
theorem a7m (a b:List Nat):a6V a b 0 0 []:=⟨rfl,Lb.a2Q,by simp [Lb.val]⟩
theorem a5s {a b o:List Nat} {k c s:Nat} (h:a6V a b k c o) (hs:s+b.getD k 0+c=a.getD k 0) (hlt:s < 1000000000):a6V a b (k+1) 0 (o ++ [s]) :=
 ⟨by simp [h.len],Lb.a2p h.lt (Lb.a2R hlt Lb.a2Q),Lb.aCb h.len h.sum (by omega)⟩
theorem a4L {a b o:List Nat} {k c s:Nat} (h:a6V a b k c o) (hs:s+b.getD k 0+c=a.getD k 0+1000000000) (hlt:s < 1000000000):a6V a b (k+1) 1 (o ++ [s]) :=
 ⟨by simp [h.len],Lb.a2p h.lt (Lb.a2R hlt Lb.a2Q),Lb.aCb h.len h.sum (by rw [Lb.a4R]; omega)⟩
set_option maxHeartbeats 16000000 in
theorem aBT (v1 v2:Value) (a b:List Nat) (w:World) (h1:SlU w v1 a) (h2:SlU w v2 b) (k1:Lb.Lt a) (k2:Lb.Lt b) (n1:a.length <= 100000000) (hab:b.length <= a.length) (hle:Lb.val b <= Lb.val a) :
    Calls Tryz.prog 177 #[v1,v2] w (aYu w a.length (Lb.val a - Lb.val b)):=by
 obtain ⟨p1,q1,rfl⟩:=h1.form
 obtain ⟨p2,q2,rfl⟩:=h2.form
 have hmk:=a3K a.length (by omega)
 obtain ⟨W,hW,hA,hE,hz⟩:=a1P w a.length
 have HA0:=Lib.hid hA
 have HE:=Lib.hid hE
 have H1:=Lib.hid h1; have H2:=Lib.hid h2; have HK1:=Lib.hid k1; have HK2:=Lib.hid k2; have HAB:=Lib.hid hab; have HLE:=Lib.hid hle
 clear hA hE hz h1 h2 k1 k2 hab hle
 go_enter Tryz.func177,Tryz.ntmps177
 go_wp2_with fail
 clear hmk
 go_loopw [6,15] (fun c i wr=>∃ (k cn:Nat) (o:List Nat),k <= a.length/\i=.int .i64 k/\c=.int .u32 cn/\cn <= 1/\Hid (a6V a b k cn o)/\Hid (ArrU wr w.heap.size (o ++ List.replicate (a.length - k) 0))/\Hid (Ext w wr)) (fun _ i _=>a.length - (intOf i).toNat)
 case atStart=>exact ⟨0,0,[],Nat.zero_le _,rfl,rfl,by omega,Lib.hid (a7m a b),HA0,HE⟩
 case round =>
  clear hW HA0 HE
  obtain ⟨k,cn,o,hk,rfl,rfl,hcn,HP,HA,HE⟩:=hrel
  by_cases hka:k < a.length
  ·have hx:a[k] < 1000000000:=Lb.a1s HK1.out k hka
   have HX:Hid (a.getD k 0=a[k]):=Lib.hid (by simp [hka])
   obtain ⟨g1,o1,rfl,cell1⟩:=(H1.out.later HE.out).at k hka
   have HL:Hid (o.length=k):=Lib.hid HP.out.len
   have hlen:k < (o ++ List.replicate (a.length - k) 0).length:=by have:=HL.out; simp; omega
   have cs:=HA.out.cell k hlen
   have fs:=HA.out.free k
   generalize ((o ++ List.replicate (a.length - k) 0)[k]:Int)=old at cs
   clear hlen
   generalize a[k]=x at *
   by_cases hkb:k < b.length
   ·have hy:b[k] < 1000000000:=Lb.a1s HK2.out k hkb
    have HY:Hid (b.getD k 0=b[k]):=Lib.hid (by simp [hkb])
    obtain ⟨g2,o2,rfl,cell2⟩:=(H2.out.later HE.out).at k hkb
    generalize b[k]=y at *
    by_cases hge:x < cn+y
    ·have hq:decide ((x:Int) < (cn:Int)+y)=true:=by simp; omega
     obtain ⟨s,hs⟩:∃ s,x+1000000000=s+(cn+y):=⟨x+1000000000 - (cn+y),by omega⟩
     have hsi:(x:Int)+1000000000 - ((cn:Int)+y)=(s:Int):=by omega
     have hge2:0 <= (x:Int)+1000000000 - ((cn:Int)+y):=by omega
     have HP2:=Lib.hid (a4L (s:=s) HP.out (by rw [HX.out,HY.out]; omega) (by omega))
     have HAX:Hid (∀ u:Int,u=(s:Int)->ArrU (wr.setCell ⟨w.heap.size,k,none⟩ (.int .u32 u)) w.heap.size ((o ++ [s]) ++ List.replicate (a.length - (k+1)) 0)):=Lib.hid (fun u hu=>by subst hu; have:=HA.out.set k s; rwa [Lb.a2e HL.out hka] at this)
     have HSI:=Lib.hid hsi
     clear hsi hs hge HX HY HP HA HL
     go_wp2_with fail
     go_roundw
     case rel=>exact ⟨k+1,1,o ++ [s],by omega,by go_num,rfl,by omega,HP2,Lib.hid (HAX.out _ HSI.out),Lib.hid (HE.out.setCell (Nat.le_refl _) _)⟩
     case measure=>simp [intOf]; omega
    ·have hq:decide ((x:Int) < (cn:Int)+y)=false:=by simp; omega
     obtain ⟨s,hs⟩:∃ s,x=s+(cn+y):=⟨x - (cn+y),by omega⟩
     have hsi:(x:Int) - ((cn:Int)+y)=(s:Int):=by omega
     have hge2:0 <= (x:Int) - ((cn:Int)+y):=by omega
     have HP2:=Lib.hid (a5s (s:=s) HP.out (by rw [HX.out,HY.out]; omega) (by omega))
     have HAX:Hid (∀ u:Int,u=(s:Int)->ArrU (wr.setCell ⟨w.heap.size,k,none⟩ (.int .u32 u)) w.heap.size ((o ++ [s]) ++ List.replicate (a.length - (k+1)) 0)):=Lib.hid (fun u hu=>by subst hu; have:=HA.out.set k s; rwa [Lb.a2e HL.out hka] at this)
     have HSI:=Lib.hid hsi
     clear hsi hs hge HX HY HP HA HL
     go_wp2_with fail
     go_roundw
     case rel=>exact ⟨k+1,0,o ++ [s],by omega,by go_num,rfl,by omega,HP2,Lib.hid (HAX.out _ HSI.out),Lib.hid (HE.out.setCell (Nat.le_refl _) _)⟩
     case measure=>simp [intOf]; omega
   ·have HY:Hid (b.getD k 0=0):=Lib.hid (by simp [Nat.le_of_not_lt hkb])
    by_cases hge:x < cn
    ·have hq:decide (x < cn)=true:=by simp; omega
     obtain ⟨s,hs⟩:∃ s,x+1000000000=s+(cn):=⟨x+1000000000 - (cn),by omega⟩
     have hsi:(x:Int)+1000000000 - ((cn:Int))=(s:Int):=by omega
     have hge2:0 <= (x:Int)+1000000000 - ((cn:Int)):=by omega
     have HP2:=Lib.hid (a4L (s:=s) HP.out (by rw [HX.out,HY.out]; omega) (by omega))
     have HAX:Hid (∀ u:Int,u=(s:Int)->ArrU (wr.setCell ⟨w.heap.size,k,none⟩ (.int .u32 u)) w.heap.size ((o ++ [s]) ++ List.replicate (a.length - (k+1)) 0)):=Lib.hid (fun u hu=>by subst hu; have:=HA.out.set k s; rwa [Lb.a2e HL.out hka] at this)
     have HSI:=Lib.hid hsi
     clear hsi hs hge HX HY HP HA HL
     go_wp2_with fail
     go_roundw
     case rel=>exact ⟨k+1,1,o ++ [s],by omega,by go_num,rfl,by omega,HP2,Lib.hid (HAX.out _ HSI.out),Lib.hid (HE.out.setCell (Nat.le_refl _) _)⟩
     case measure=>simp [intOf]; omega
    ·have hq:decide (x < cn)=false:=by simp; omega
     obtain ⟨s,hs⟩:∃ s,x=s+(cn):=⟨x - (cn),by omega⟩
     have hsi:(x:Int) - ((cn:Int))=(s:Int):=by omega
     have hge2:0 <= (x:Int) - ((cn:Int)):=by omega
     have HP2:=Lib.hid (a5s (s:=s) HP.out (by rw [HX.out,HY.out]; omega) (by omega))
     have HAX:Hid (∀ u:Int,u=(s:Int)->ArrU (wr.setCell ⟨w.heap.size,k,none⟩ (.int .u32 u)) w.heap.size ((o ++ [s]) ++ List.replicate (a.length - (k+1)) 0)):=Lib.hid (fun u hu=>by subst hu; have:=HA.out.set k s; rwa [Lb.a2e HL.out hka] at this)
     have HSI:=Lib.hid hsi
     clear hsi hs hge HX HY HP HA HL
     go_wp2_with fail
     go_roundw
     case rel=>exact ⟨k+1,0,o ++ [s],by omega,by go_num,rfl,by omega,HP2,Lib.hid (HAX.out _ HSI.out),Lib.hid (HE.out.setCell (Nat.le_refl _) _)⟩
     case measure=>simp [intOf]; omega
  ·obtain rfl:k=a.length:=by omega
   have hs:=HP.out
   have HM:=Lib.hid (Lb.aFa rfl HAB.out hs.len hs.lt hcn hs.sum HLE.out)
   have HL:Hid (o.length=a.length):=Lib.hid HP.out.len
   have HA2:Hid (ArrU wr w.heap.size o):=Lib.hid (by have:=HA.out; simpa using this)
   clear hka hs
   go_wp2_with fail
   go_ret
   exact ⟨o,HP.out.lt,HM.out,by have:=HL.out; omega,_,_,_,rfl,HA2.out.all HL.out.symm (Nat.le_refl _),HE.out⟩
end Go.Proofs.YtbohkigffejhoaaGreat
namespace Go.Proofs.YtbohkigffejhoaaGreat
open Go.RowKit
set_option maxRecDepth 8000
structure a8H (a b:List Nat) (i:Nat) (o:List Nat):Prop where
 len:o.length=a.length+b.length
 lt:Lb.Lt o
 val:Lb.val o=Lb.val (a.take i)*Lb.val b
 zero:∀ j,i+b.length <= j->o.getD j 0=0
structure a8G (a b:List Nat) (i k x c V:Nat) (o:List Nat):Prop where
 len:o.length=a.length+b.length
 lt:Lb.Lt o
 clt:c < 1000000000
 sum:Lb.val o+Lb.B ^ (i+k)*c=V+Lb.B ^ i*(x*Lb.val (b.take k))
 zero:∀ j,i+b.length <= j->o.getD j 0=0
theorem a7a (a b:List Nat):a8H a b 0 (List.replicate (a.length+b.length) 0) :=
 ⟨by simp,Lb.aC7 _,by rw [Lb.aEE]; simp [Lb.val],fun j _=>by
  rw [List.getD_eq_getElem?_getD,List.getElem?_replicate]; split <;> rfl⟩
theorem a6Z {a b o:List Nat} {i:Nat} (h:a8H a b i o) (x:Nat):a8G a b i 0 x 0 (Lb.val (a.take i)*Lb.val b) o :=
 ⟨h.len,h.lt,by omega,by rw [h.val]; simp [Lb.val],h.zero⟩
theorem a6B {o:List Nat} {i j v:Nat} (h:j ≠ i):(o.set i v).getD j 0=o.getD j 0:=by
 rw [List.getD_eq_getElem?_getD,List.getD_eq_getElem?_getD,List.getElem?_set_ne (by omega)]
theorem a8J {a b o:List Nat} {i k x c V y ov:Nat} (h:a8G a b i k x c V o) (hi:i < a.length) (hk:k < b.length) (hx:x < 1000000000) (hy:y < 1000000000) (hyb:b.getD k 0=y) (ho:o[i+k]?=some ov) :
    a8G a b i (k+1) x ((ov+x*y+c) / 1000000000) V (o.set (i+k) ((ov+x*y+c) % 1000000000))/\ov < 1000000000:=by
 have hik:i+k < o.length:=by rw [h.len]; omega
 have hov:o[i+k]=ov:=by simpa [hik] using ho
 have hlt:ov < Lb.B:=by rw [<- hov]; exact Lb.a1s h.lt _ hik
 have hc:=Lb.aHQ hlt (show x < Lb.B from hx) (show y < Lb.B from hy) (show c < Lb.B from h.clt)
 refine ⟨⟨by simpa using h.len,Lb.aKF h.lt _ _ (Nat.mod_lt _ Lb.a3r),hc.1,Lb.aMf hik h.sum hyb (by rw [hov]),fun j hj=>?_⟩,hlt⟩
 rw [a6B (by omega)]
 exact h.zero j hj
theorem a9F {a b o:List Nat} {i x c:Nat} (h:a8G a b i b.length x c (Lb.val (a.take i)*Lb.val b) o) (hi:i < a.length) (hx:a.getD i 0=x) :
    a8H a b (i+1) (o.set (i+b.length) c):=by
 have hj:i+b.length < o.length:=by rw [h.len]; omega
 have h0:o[i+b.length]=0:=by have:=h.zero _ (Nat.le_refl (i+b.length)); simpa [hj] using this
 refine ⟨by simpa using h.len,Lb.aKF h.lt _ _ h.clt,?_,fun j hj=>?_⟩
 ·rw [Lb.aOd hj h0 rfl h.sum,Lb.a2d,hx,Nat.add_mul,Nat.mul_assoc]
 ·rw [a6B (by omega)]
  exact h.zero j (by omega)
theorem a9G {a b o:List Nat} (h:a8H a b a.length o):Lb.val o=Lb.val a*Lb.val b:=by rw [h.val,List.take_length]
theorem RetX.toN {w:World} {m v:Nat} {e:Ending} {w':World} (h:RetX w m v e w'):aYu w m v e w':=by
 obtain ⟨l,s,rfl,h1,h2,h3,h4,h5⟩:=h
 have hs:=h4.sl a15
 obtain ⟨a,n,c,b,off,rfl,hh⟩:=hs
 exact ⟨l,h2,h3,by omega,a,n,c,rfl,⟨a,n,c,b,off,rfl,hh⟩,h5⟩
set_option maxHeartbeats 16000000 in
theorem a7Z (v1 v2:Value) (a b:List Nat) (w:World) (h1:SlU w v1 a) (h2:SlU w v2 b) (k1:Lb.Lt a) (k2:Lb.Lt b) (n1:a.length <= 100000000) (n2:b.length <= 100000000) :
    Calls Tryz.prog 178 #[v1,v2] w (RetX w (a.length+b.length) (Lb.val a*Lb.val b)):=by
 obtain ⟨p1,q1,rfl⟩:=h1.form
 obtain ⟨p2,q2,rfl⟩:=h2.form
 have hmk:=a3K (a.length+b.length) (by omega)
 rw [Int.natCast_add] at hmk
 obtain ⟨W,hW,hA,hE,hz⟩:=a1P w (a.length+b.length)
 have HA0:=Lib.hid hA
 have HE:=Lib.hid hE
 have H1:=Lib.hid h1; have H2:=Lib.hid h2; have HK1:=Lib.hid k1; have HK2:=Lib.hid k2
 clear hA hE hz h1 h2 k1 k2
 go_enter Tryz.func178,Tryz.ntmps178
 go_wp2_with fail
 clear hmk
 go_loopw [20] (fun i wr=>∃ (m:Nat) (o:List Nat),m <= a.length/\i=.int .i64 m/\Hid (a8H a b m o)/\Hid (ArrU wr w.heap.size o)/\Hid (Ext w wr)) (fun i _=>a.length - (intOf i).toNat)
 case atStart=>exact ⟨0,_,Nat.zero_le _,rfl,Lib.hid (a7a a b),HA0,HE⟩
 case round =>
  clear hW HA0 HE
  obtain ⟨m,o,hm,rfl,HP,HA,HE⟩:=hrel
  by_cases hma:m < a.length
  ·have hx:a[m] < 1000000000:=Lb.a1s HK1.out m hma
   have HX:Hid (a.getD m 0=a[m]):=Lib.hid (by simp [hma])
   obtain ⟨g1,o1,rfl,cell1⟩:=(H1.out.later HE.out).at m hma
   generalize a[m]=x at *
   have HI0:=Lib.hid (a6Z HP.out x)
   obtain ⟨wo,rfl⟩:∃ wo:World,wo=wr:=⟨_,rfl⟩
   clear HP
   go_wp2_with fail
   go_loopw [8,27] (fun c i wr=>∃ (k cn:Nat) (o:List Nat),k <= b.length/\i=.int .i64 k/\c=.int .u64 cn/\Hid (a8G a b m k x cn (Lb.val (a.take m)*Lb.val b) o)/\Hid (ArrU wr w.heap.size o)/\Hid (Ext w wr)) (fun _ i _=>b.length - (intOf i).toNat)
   case atStart=>exact ⟨0,0,o,Nat.zero_le _,rfl,rfl,HI0,HA,HE⟩
   case round =>
    clear HI0 HA HE cell1
    obtain ⟨k,cn,o2,hk,rfl,rfl,HP,HA,HE⟩:=hrel
    by_cases hkb:k < b.length
    ·have hy:b[k] < 1000000000:=Lb.a1s HK2.out k hkb
     have HY:Hid (b.getD k 0=b[k]):=Lib.hid (by simp [hkb])
     obtain ⟨g2,s2,rfl,cell2⟩:=(H2.out.later HE.out).at k hkb
     generalize b[k]=y at *
     have hlen:m+k < o2.length:=by have:=HP.out.len; omega
     obtain ⟨ov,hov⟩:∃ ov,o2[m+k]?=some ov:=⟨o2[m+k],by simp [hlen]⟩
     have cs:=HA.out.cell (m+k) hlen
     have hoo:o2[m+k]=ov:=by simpa [hlen] using hov
     rw [hoo] at cs
     have fs:=HA.out.free (m+k)
     obtain ⟨st,hov9⟩:=a8J HP.out hma hkb hx hy HY.out hov
     have hcl:cn < 1000000000:=HP.out.clt
     have hxy0:0 <= (x:Int)*y:=Int.mul_nonneg (by omega) (by omega)
     have hxy:(x:Int)*y <= 999999998000000001:=by
      have h1:x*y <= 999999999*999999999:=Nat.mul_le_mul (by omega) (by omega)
      have h2:((x*y:Nat):Int) <= ((999999999*999999999:Nat):Int):=Int.ofNat_le.2 h1
      rw [Int.natCast_mul] at h2
      exact h2
     have HST:=Lib.hid st
     have HAX:Hid (∀ u:Int,u=((ov:Int)+x*y+cn) % 1000000000->ArrU (wr.setCell ⟨w.heap.size,m+k,none⟩ (.int .u32 u)) w.heap.size (o2.set (m+k) ((ov+x*y+cn) % 1000000000))):=Lib.hid (fun u hu=>by
      have e:u=(((ov+x*y+cn) % 1000000000:Nat):Int):=by rw [hu]; simp
      subst e; exact HA.out.set (m+k) _)
     have HCN:Hid (((ov:Int)+x*y+cn) / 1000000000=(((ov+x*y+cn) / 1000000000:Nat):Int)):=Lib.hid (by simp)
     clear st hov hoo hlen HY HX
     go_wp2_with fail
     go_roundw
     case rel=>exact ⟨k+1,_,_,by omega,by go_num,by rw [HCN.out],HST,Lib.hid (HAX.out _ rfl),Lib.hid (HE.out.setCell (Nat.le_refl _) _)⟩
     case measure=>simp [intOf]; omega
    ·obtain rfl:k=b.length:=by omega
     have HN:=Lib.hid (a9F HP.out hma HX.out)
     have hcl:cn < 1000000000:=HP.out.clt
     have hlen:m+b.length < o2.length:=by have:=HP.out.len; omega
     have cs:=HA.out.cell (m+b.length) hlen
     have fs:=HA.out.free (m+b.length)
     generalize (o2[m+b.length]:Int)=old at cs
     have HAX:=Lib.hid (HA.out.set (m+b.length) cn)
     clear hlen hkb HX
     go_wp2_with fail
     go_roundw
     case rel=>exact ⟨m+1,_,by omega,by go_num,HN,HAX,Lib.hid (HE.out.setCell (Nat.le_refl _) _)⟩
     case measure=>simp [intOf]; omega
  ·obtain rfl:m=a.length:=by omega
   have HM:=Lib.hid (a9G HP.out)
   clear hma
   go_wp2_with fail
   go_ret
   have hol:=aRB HA.out (Nat.le_refl _) (by rw [HP.out.len]; unfold maxLen; omega)
   rw [HP.out.len] at hol
   exact ⟨o,_,rfl,HP.out.len,HP.out.lt,HM.out,hol,HE.out⟩
theorem aMe (v1 v2:Value) (a b:List Nat) (w:World) (h1:SlU w v1 a) (h2:SlU w v2 b) (k1:Lb.Lt a) (k2:Lb.Lt b) (n1:a.length <= 100000000) (n2:b.length <= 100000000) :
    Calls Tryz.prog 178 #[v1,v2] w (aYu w (a.length+b.length) (Lb.val a*Lb.val b)):=(a7Z v1 v2 a b w h1 h2 k1 k2 n1 n2).mono fun _ _ h=>h.toN
end Go.Proofs.YtbohkigffejhoaaGreat
