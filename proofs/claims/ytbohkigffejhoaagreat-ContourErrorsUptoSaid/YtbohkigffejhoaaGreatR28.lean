import Derived.Test.YtbohkigffejhoaaGreatR22
import Derived.Test.YtbohkigffejhoaaGreatR27
import Derived.Test.YtbohkigffejhoaaGreatRows
import Derived.Laws.IdiomArrays
namespace Go.Proofs.YtbohkigffejhoaaGreat
open Go.ChangeShapes Go.WideShapes Go.ChangeAt Go.RowKit Go.Joins Go.Deep
set_option maxRecDepth 8000
theorem aLV {H:Type} (d:DataW H):1 <= Rows.uptoBulk d:=by
 cases d with
 | lit l=>cases l <;> simp [Rows.uptoBulk]
 | nil=>simp [Rows.uptoBulk]
 | ptr d=>simp [Rows.uptoBulk]
 | slice elems spare=>simp [Rows.uptoBulk]
 | agg parts=>simp [Rows.uptoBulk]
 | iface t d=>simp [Rows.uptoBulk]
 | map entries=>simp [Rows.uptoBulk]
 | held h=>simp [Rows.uptoBulk]
theorem aUk {H:Type} (l:List (DataW H)):l.length <= Rows.uptoBulkAll l:=by
 induction l with
 | nil=>simp [Rows.uptoBulkAll]
 | cons x r ih=>have:=aLV x; simp only [Rows.uptoBulkAll,List.length_cons]; omega
theorem aLW {H:Type} {d:DataW H} {l:List (DataW H)} (h:d ∈ l):Rows.uptoBulk d <= Rows.uptoBulkAll l:=by
 induction l with
 | nil=>cases h
 | cons x r ih =>
   simp only [Rows.uptoBulkAll]
   cases List.mem_cons.1 h with
   | inl e=>subst e; omega
   | inr e=>have:=ih e; omega
def cC (p:Int × Int):List Value:=[.int .i8 p.1,.int .i8 p.2]
section
variable {H:Type} {enc:TypeId × Value->H} {W:World} {base:Nat} {v:Value} {d:DataW H} {p:List MemPlace} {t:TypeId}
theorem aPX {n:Nat} {c:Value} {y:DataW H × List MemPlace} (h:DataW.trod enc Tryz.prog W 0 (fun _=>true) true n 24 [c]=some y):∃ x:Int,c=.int .i8 x/\Vc.c8 x:=by
 obtain ⟨x,h1,_,h2⟩:=DataW.trod_int Tryz.underlying24 h
 simp only [Lit.wf,Bool.and_eq_true,decide_eq_true_eq] at h2
 simp only [List.cons.injEq,and_true] at h1
 exact ⟨x,h1,h2⟩
theorem aQh {n:Nat} {cs:List Value} {y:DataW H × List MemPlace} (h:DataW.trod enc Tryz.prog W 0 (fun _=>true) true n 86 cs=some y):∃ m:Int × Int,(Vc.c8 m.1/\Vc.c8 m.2)/\cs=cC m:=by
 obtain ⟨ys,m,_,_,hs,hl,hf⟩:=DataW.trod_array Tryz.underlying86 h
 have k1:Tryz.prog.cellsOf 24=1:=by kernel_rfl
 have k2:Tryz.prog.cellsOf 86=2:=by kernel_rfl
 rw [k2] at hs
 match cs,hs with
 | [c0,c1],_ =>
   have f0:=hf 0 (by decide)
   have f1:=hf 1 (by decide)
   rw [k1] at f0 f1
   simp only [Nat.zero_mul,Nat.one_mul,List.drop_zero,List.drop_succ_cons,List.take_succ_cons,List.take_zero] at f0 f1
   rw [List.getElem?_eq_getElem (by omega)] at f0 f1
   obtain ⟨x,rfl,hx⟩:=aPX f0
   obtain ⟨y,rfl,hy⟩:=aPX f1
   exact ⟨(x,y),⟨hx,hy⟩,rfl⟩
theorem aML {n:Nat} {c:Value} {x:DataW H × List MemPlace} (h:DataW.trod enc Tryz.prog W 0 (fun _=>true) true n 55 [c]=some x) :
    ∃ l:List (Int × Int),Vc.rel1 ⟨W.heap.size,[],[],[]⟩ W (.rd .C false l) c/\(∀ m ∈ l,Vc.c8 m.1/\Vc.c8 m.2)/\l.length+1 <= Rows.uptoBulk x.1:=by
 obtain ⟨a,k,cap,b,off,l,hcs,hn,g3,g5,g6,_,gq,g8,_⟩:=row_of cC (fun m=>Vc.c8 m.1/\Vc.c8 m.2) (0,0) Tryz.underlying55 (k:=2) (by kernel_rfl) (by decide) (fun m=>⟨_,rfl⟩) aQh h
 simp only [List.cons.injEq,and_true] at hcs
 subst hcs
 refine ⟨l,⟨a,cap,b,off,by rw [hn],(fun h=>by cases h),by rw [<- hn]; exact g3,g6,by rw [<- hn]; exact g5,fun i m hm=>?_⟩,gq,?_⟩
 ·have hi:i < l.length:=by
   rcases Nat.lt_or_ge i l.length with h' | h'
   ·exact h'
   ·rw [List.getElem?_eq_none h'] at hm; cases hm
  obtain ⟨q1,q2⟩:=g8 i (by omega)
  have e:l.getD i (0,0)=m:=by simp [List.getD_eq_getElem?_getD,hm]
  rw [e] at q2
  refine ⟨⟨q1,by simp,by simp,by simp,by simp⟩,cC m,fun j u hu=>?_,⟨⟨rfl,rfl,fun _ h=>(by cases h)⟩,⟨rfl,rfl,fun _ h=>(by cases h)⟩,trivial⟩⟩
  have hj:j < 2:=by
   rcases Nat.lt_or_ge j (cC m).length with h' | h'
   ·exact h'
   ·rw [List.getElem?_eq_none h'] at hu; cases hu
  have:=q2 j hj
  exact this.trans hu
 ·rcases open_slice Tryz.underlying55 h with ⟨hc,hx⟩ | ⟨a',len,cap',m,n',D,Pl,hc,_,_,_,_,hx,_⟩
  ·simp only [List.cons.injEq,and_true,Value.slice.injEq] at hc
   have:=aLV x.1
   omega
  ·simp only [List.cons.injEq,and_true,Value.slice.injEq] at hc
   have h1:=aUk ((List.range len).map D)
   rw [hx]
   simp only [Rows.uptoBulk,List.length_map,List.length_range] at h1 ⊢
   omega
theorem aOF (hv:Value.okWide Tryz.prog W .any base 58 v) (h0:DataW.Trod enc Tryz.prog W 0 (fun _=>true) true 58 v d p) :
    ∃ (l:List (Int × Int)) (x y z:Int),Vc.relK ⟨W.heap.size,[],[],[]⟩ W (.g [.rd .C false l,.v (.int .i8 x),.v (.int .i8 y),.v (.int .i8 z)]) v/\Vc.C8 l x y z/\l.length <= Rows.uptoBulk d:=by
 simp only [Value.okWide,Tryz.underlying58] at hv
 obtain ⟨cs,rfl,_,_⟩:=hv
 obtain ⟨fuel,h⟩:=h0
 obtain ⟨cs⟩:=cs
 simp only [Value.cells] at h
 obtain ⟨ys,m,_,hd,hs,hl,hf⟩:=DataW.trod_struct Tryz.underlying58 h
 have kk:Tryz.prog.cellsOf 58=4:=by kernel_rfl
 have k1:Tryz.prog.cellsOf 55=1:=by kernel_rfl
 have k3:Tryz.prog.cellsOf 56=3:=by kernel_rfl
 have ki:Tryz.prog.cellsOf 24=1:=by kernel_rfl
 rw [kk] at hs
 match cs,hs with
 | [c0,c1,c2,c3],_ =>
   have f0:DataW.trod enc Tryz.prog W 0 (fun _=>true) true m 55 (([c0,c1,c2,c3].drop 0).take (Tryz.prog.cellsOf 55))=ys[0]?:=hf 0 _ rfl
   have f1:DataW.trod enc Tryz.prog W 0 (fun _=>true) true m 56 (([c0,c1,c2,c3].drop 1).take (Tryz.prog.cellsOf 56))=ys[1]?:=hf 1 _ rfl
   rw [k1] at f0
   rw [k3] at f1
   simp only [List.drop_zero,List.drop_succ_cons,List.take_succ_cons,List.take_zero] at f0 f1
   have hl:ys.length=2:=hl
   rw [List.getElem?_eq_getElem (by omega)] at f0 f1
   obtain ⟨l,r1,r2,r3⟩:=aML f0
   obtain ⟨y0,y1,y2,n',_,t0,t1,t2⟩:=trod_array3 Tryz.underlying56 ki f1
   obtain ⟨x,rfl,hx⟩:=aPX t0
   obtain ⟨y,rfl,hy⟩:=aPX t1
   obtain ⟨z,rfl,hz⟩:=aPX t2
   refine ⟨l,x,y,z,⟨_,rfl,r1,⟨rfl,rfl⟩,⟨rfl,rfl⟩,⟨rfl,rfl⟩,trivial⟩,⟨r2,hx,hy,hz⟩,?_⟩
   have hd:d=.agg (ys.map (·.1)):=congrArg Prod.fst hd
   rw [hd]
   have hm:(ys[0]'(by omega)).1 ∈ ys.map (·.1):=List.mem_map.2 ⟨_,List.getElem_mem _,rfl⟩
   have:=aLW hm
   simp only [Rows.uptoBulk]
   omega
theorem aSk (hv:Value.okWide Tryz.prog W .any base 59 v) (h0:DataW.Trod enc Tryz.prog W 0 (fun _=>true) true 59 v d p) :
    ∃ x y z:Int,v=.agg #[.int .i64 x,.int .i64 y,.int .i64 z]/\rng x/\rng y/\rng z:=by
 simp only [Value.okWide,Tryz.underlying59] at hv
 obtain ⟨cs,rfl,_,_⟩:=hv
 obtain ⟨fuel,h⟩:=h0
 obtain ⟨cs⟩:=cs
 simp only [Value.cells] at h
 have kk:Tryz.prog.cellsOf 59=3:=by kernel_rfl
 have ki:Tryz.prog.cellsOf 2=1:=by kernel_rfl
 obtain ⟨_,_,_,_,hs,_⟩:=DataW.trod_array Tryz.underlying59 h
 rw [kk] at hs
 match cs,hs with
 | [c0,c1,c2],_ =>
   obtain ⟨y0,y1,y2,n',_,t0,t1,t2⟩:=trod_array3 Tryz.underlying59 ki h
   obtain ⟨x,rfl,hx⟩:=aID (by rfl) Tryz.underlying2 t0
   obtain ⟨y,rfl,hy⟩:=aID (by rfl) Tryz.underlying2 t1
   obtain ⟨z,rfl,hz⟩:=aID (by rfl) Tryz.underlying2 t2
   exact ⟨x,y,z,rfl,hx,hy,hz⟩
end
end Go.Proofs.YtbohkigffejhoaaGreat
