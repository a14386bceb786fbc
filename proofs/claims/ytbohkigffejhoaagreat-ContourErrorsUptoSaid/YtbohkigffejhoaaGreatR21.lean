import Derived.Test.YtbohkigffejhoaaGreatR20
import Derived.Test.YtbohkigffejhoaaGreatR19
namespace Go.Proofs.YtbohkigffejhoaaGreat
namespace Rt
def pt (l:List (Int × Int)) (k:Nat):V2:=⟨(((l.getD k (0,0)).1:Int):Rat),(((l.getD k (0,0)).2:Int):Rat)⟩
def nxt (l:List (Int × Int)) (k:Nat):Nat:=(k+1) % l.length
def onE (l:List (Int × Int)) (v:V2) (k:Nat):Prop:=seg (pt l k) (pt l (nxt l k)) v=0
instance (l:List (Int × Int)) (v:V2) (k:Nat):Decidable (onE l v k):=by unfold onE; infer_instance
def wgo (l:List (Int × Int)) (v:V2):Nat->Option Int
 | 0=>some 0
 | k+1=>(wgo l v k).bind fun w=>if onE l v k then none else some (w+wA v (pt l k) (pt l (nxt l k)))
def a8X (l:List (Int × Int)) (v:V2):Int:=if l=[] then 0 else (wgo l v l.length).getD 0
def a8Y (l:List (Int × Int)) (v:V2):Int:=if l=[] then 1 else if (wgo l v l.length).isNone then 1 else 0
theorem aKb {l:List (Int × Int)} {v:V2}:∀ {k n:Nat},k <= n->wgo l v k=none->wgo l v n=none
 | k,0,h,e=>by
   obtain rfl:k=0:=by omega
   exact e
 | k,n+1,h,e=>by
   rcases Nat.lt_or_ge k (n+1) with h' | h'
   ·unfold wgo
    rw [aKb (by omega:k <= n) e]
    rfl
   ·obtain rfl:k=n+1:=by omega
    exact e
theorem aEC {l:List (Int × Int)} {v:V2}:∀ {k:Nat} {w:Int},wgo l v k=some w->-(k:Int) <= w/\w <= (k:Int)
 | 0,w,h=>by simp [wgo] at h; omega
 | k+1,w,h=>by
   unfold wgo at h
   cases hk:wgo l v k with
   | none=>rw [hk] at h; cases h
   | some u =>
     rw [hk] at h
     simp only [Option.bind_some] at h
     have:=aEC hk
     split at h
     ·cases h
     ·simp only [Option.some.injEq] at h
      subst h
      have:wA v (pt l k) (pt l (nxt l k))=1 \/ wA v (pt l k) (pt l (nxt l k))=-1 \/ wA v (pt l k) (pt l (nxt l k))=0:=by
       unfold wA
       split
       ·simp
       ·split <;> simp
      omega
def edB (l:List (Int × Int)) (v:V2) (R:Rat):Nat->Bool
 | 0=>false
 | k+1=>edB l v R k || decide (seg (pt l k) (pt l (nxt l k)) v <= R)
theorem aLj {l:List (Int × Int)} {v:V2} {R:Rat}:∀ {k n:Nat},k <= n->edB l v R k=true->edB l v R n=true
 | k,0,h,e=>by
   obtain rfl:k=0:=by omega
   exact e
 | k,n+1,h,e=>by
   rcases Nat.lt_or_ge k (n+1) with h' | h'
   ·unfold edB
    rw [aLj (by omega:k <= n) e]
    rfl
   ·obtain rfl:k=n+1:=by omega
    exact e
def cvB (ps:List (List (Int × Int))) (v:V2) (R:Rat):Nat->Bool
 | 0=>false
 | j+1=>cvB ps v R j || edB (ps.getD j []) v R (ps.getD j []).length
theorem aLm {ps:List (List (Int × Int))} {v:V2} {R:Rat}:∀ {k n:Nat},k <= n->cvB ps v R k=true->cvB ps v R n=true
 | k,0,h,e=>by
   obtain rfl:k=0:=by omega
   exact e
 | k,n+1,h,e=>by
   rcases Nat.lt_or_ge k (n+1) with h' | h'
   ·unfold cvB
    rw [aLm (by omega:k <= n) e]
    rfl
   ·obtain rfl:k=n+1:=by omega
    exact e
def aQg (ps:List (List (Int × Int))) (r:Int) (v:V2):Bool:=bif decide (r < 0) then false else cvB ps v ((r:Rat)*(r:Rat)) ps.length
def okp (l:List (Int × Int)):Prop:=(∀ k,(-9223372036854775808 <= (l.getD k (0,0)).1/\(l.getD k (0,0)).1 <= 9223372036854775807)/\-9223372036854775808 <= (l.getD k (0,0)).2/\(l.getD k (0,0)).2 <= 9223372036854775807)/\l.length <= 1000000000
end Rt
end Go.Proofs.YtbohkigffejhoaaGreat
namespace Go.Proofs.YtbohkigffejhoaaGreat
namespace Rt
def aNX (l:List (Int × Int)):List (Int × Int):=(List.range l.length).map fun i=>l.getD ((l.length - i) % l.length) (0,0)
theorem aCR (l:List (Int × Int)):(aNX l).length=l.length:=by simp [aNX]
def onP (l:List (Int × Int)) (v:V2):Prop:=∃ i,i < l.length/\seg (pt l i) (pt l ((i+1) % l.length)) v=0
instance (l:List (Int × Int)) (v:V2):Decidable (onP l v):=by unfold onP; infer_instance
def b0T (l:List (Int × Int)) (k:Nat):Int:=b06 (fun i=>(l.getD i (0,0)).1*(l.getD (nxt l i) (0,0)).2 - (l.getD i (0,0)).2*(l.getD (nxt l i) (0,0)).1) k
def b1n (l:List (Int × Int)):Int:=b0T l l.length
end Rt
end Go.Proofs.YtbohkigffejhoaaGreat
namespace Go.Proofs.YtbohkigffejhoaaGreat
open Go.RowKit Rt
set_option maxRecDepth 8000
def gC (p:Int × Int):List Value:=[.int .i64 p.1,.int .i64 p.2]
theorem aK8 (p:Int × Int):(gC p).length=2:=rfl
theorem aZl (p:Int × Int):∀ u ∈ gC p,u.oneCell'=true:=by
 intro u hu
 simp only [gC,List.mem_cons,List.not_mem_nil,or_false] at hu
 rcases hu with rfl | rfl <;> rfl
abbrev SlT (w:World) (v:Value) (l:List (Int × Int)):Prop:=SlG 2 gC w v l
abbrev b1o (B:Nat) (w:World) (v:Value) (l:List (Int × Int)):Prop:=OwnG B 43 2 gC w v l
theorem Tryz.info_g2:(Tryz.prog.info? 43).map (fun i=>(i.zero,i.size,i.bytes))=some (some (.agg #[.int .i64 0,.int .i64 0]),2,16):=by kernel_rfl
def b1u (w:World) (l:List (Int × Int)) (e:Ending) (w':World):Prop:=∃ a n c,e=.returned (.slice a n c)/\b1o w.heap.size w' (.slice a n c) l/\Ext w w'
theorem OwnG.form {α:Type} {f:α->List Value} {k B:Nat} {T:TypeId} {w:World} {v:Value} {l:List α} (h:OwnG B T k f w v l):∃ a c,v=.slice a l.length c:=by
 obtain ⟨h1,h2⟩:=h
 rcases h2 with ⟨rfl,h3⟩ | ⟨g,cap,cur,rfl,_⟩
 ·exact ⟨none,0,by rw [h3]⟩
 ·exact ⟨_,_,rfl⟩
theorem SlG.at {α:Type} {f:α->List Value} {k:Nat} {w:World} {a:Option Addr} {n c:Nat} {l:List α} (h:SlG k f w (.slice a n c) l) {i:Nat} {x:α} (hx:l[i]?=some x):∃ b off,a=some ⟨b,off,none⟩/\b < w.heap.size/\∀ r u,(f x)[r]?=some u->w.cell? ⟨b,off+i*k+r,none⟩=some u:=by
 obtain ⟨a',n',cap',b,off,e,h2,h3,h4,h5,h6⟩:=h
 cases e
 obtain ⟨p,q⟩:=h6 i x hx
 have hn:n ≠ 0:=by
  intro e
  rw [e] at h2
  have:=List.length_eq_zero_iff.1 h2.symm
  subst this
  simp at hx
 exact ⟨b,off,h3.resolve_left hn,p,q⟩
theorem aHX {α:Type} {f:α->List Value} {k:Nat} (hf:∀ x,(f x).length=k) (w:World) (T:TypeId) (l:List α):SlG k f (w.alloc (.cells (cat f l).toArray T)) (.slice (some ⟨w.heap.size,0,none⟩) l.length l.length) l:=by
 refine ⟨_,_,_,w.heap.size,0,rfl,rfl,.inr rfl,fun h=>(by cases h),Nat.le_refl _,fun i x hx=>⟨by simp,fun r u hu=>?_⟩⟩
 have hr:r < k:=by
  rcases Nat.lt_or_ge r (f x).length with h' | h'
  ·rw [hf] at h'; exact h'
  ·rw [List.getElem?_eq_none h'] at hu; cases hu
 have:=a8w hf l i r x hx hr
 rw [hu] at this
 rw [Nat.zero_add]
 have hb:(w.alloc (.cells (cat f l).toArray T)).heap[w.heap.size]?=some (.cells (cat f l).toArray T (0,0)):=by unfold World.alloc; simp
 rw [Lib.cell_of_heap hb]
 simpa using this
set_option maxHeartbeats 4000000 in
theorem aET (v:Value) (l:List (Int × Int)) (w:World) (h:SlT w v l) (hn:l.length <= 1000000) :
    Calls Tryz.prog 37 #[v] w (b1u w (aNX l)):=by
 obtain ⟨ad,nn,cap,b,off,rfl,rfl,h3,h4,h5,h6⟩:=id h
 have H:=Lib.hid h; have HN:=Lib.hid hn
 clear h h3 h4 h5 h6
 go_enter Tryz.func37,Tryz.ntmps37
 go_wp2_with fail
 go_loopw [3,4] (fun out i wr=>∃ (k:Nat),k <= l.length/\i=.int .i64 k/\Hid (b1o w.heap.size wr out ((aNX l).take k))/\Hid (Ext w wr)) (fun _ i _=>l.length - (intOf i).toNat)
 case atStart=>exact ⟨0,Nat.zero_le _,rfl,Lib.hid (OwnG.nil _ _ _),Lib.hid (Ext.refl w)⟩
 case round =>
  obtain ⟨k,hk,rfl,HO,HE⟩:=hrel
  by_cases hlt:k < l.length
  ·obtain ⟨m,hmd⟩:∃ m,m=(l.length - k) % l.length:=⟨_,rfl⟩
   have hm:m < l.length:=by rw [hmd]; exact Nat.mod_lt _ (by omega)
   have e1:(((l.length:Int) - k) % (l.length:Int))=(m:Int):=by
    rw [hmd,Int.natCast_emod,Int.natCast_sub (Nat.le_of_lt hlt)]
   obtain ⟨⟨x,y⟩,hxy⟩:∃ p,l[m]?=some p:=⟨l[m],by simp [hm]⟩
   have HT:Hid ((aNX l).take k ++ [(x,y)]=(aNX l).take (k+1)):=Lib.hid (by
    rw [List.take_succ_eq_append_getElem (by rw [aCR]; exact hlt)]
    congr 2
    simp [aNX,<- hmd,hxy])
   have HK:Hid (((aNX l).take k).length=k):=Lib.hid (by rw [List.length_take,aCR]; exact Nat.min_eq_left hk)
   obtain ⟨b',off',he,hb',hc⟩:=H.out.at hxy
   cases he
   have c0:=(HE.out.cell (p:=⟨b',off'+m*2+0,none⟩) hb').trans (hc 0 (.int .i64 x) rfl)
   have c1:=(HE.out.cell (p:=⟨b',off'+m*2+1,none⟩) hb').trans (hc 1 (.int .i64 y) rfl)
   rw [Nat.add_zero] at c0
   have hl0:((l.length:Int) == 0)=false:=by rw [beq_eq_false_iff_ne]; omega
   have hl1:¬ (l.length:Int)=0:=by omega
   obtain ⟨X,hX,hbX,heX,-⟩:=a0y wr #[.int .i64 x,.int .i64 y] 43
   have HSX:Hid (SlT X (.slice (some ⟨wr.heap.size,0,none⟩) 1 1) [(x,y)]):=Lib.hid (by rw [<- hX]; exact aHX aK8 wr 43 [(x,y)])
   have HOX:=Lib.hid (HO.out.later heX); have HEX:=Lib.hid (HE.out.trans heX)
   have HBX:Hid (w.heap.size <= X.heap.size):=Lib.hid HEX.out.size
   have HM:Hid (((aNX l).take k).length+[(x,y)].length <= maxLen):=Lib.hid (by rw [HK.out]; have:=HN.out; unfold maxLen; simp; omega)
   have HB:Hid ((((aNX l).take k).length+[(x,y)].length)*16 <= 140737488355328):=Lib.hid (by rw [HK.out]; have:=HN.out; simp; omega)
   clear hmd hxy hc hbX heX HO HE
   go_wp2_with ((at_builtin; refine a2G rfl _ _ rfl Tryz.underlying44 Tryz.info_g2 rfl (by decide) aK8 aZl w.heap.size _ _ ((aNX l).take k) [(x,y)] rfl rfl HOX.out HSX.out HM.out HB.out HBX.out ?_; intro v6 w6 own6 hg6 hloc6))
   have E6:Ext w w6:=HEX.out.grown hg6 (fun i hi=>(HOX.out.base hi).1)
   rw [HT.out] at own6
   go_roundw
   case rel=>exact ⟨k+1,by omega,by go_num,Lib.hid own6,Lib.hid E6⟩
   case measure=>simp [intOf]; omega
  ·obtain rfl:k=l.length:=by omega
   have ho:=HO.out
   rw [List.take_of_length_le (by rw [aCR]; exact Nat.le_refl _)] at ho
   have HO':=Lib.hid ho
   clear ho HO
   obtain ⟨a,c,rfl⟩:=HO'.out.form
   go_wp2_with fail
   go_ret
   exact ⟨_,_,_,rfl,HO'.out,HE.out⟩
end Go.Proofs.YtbohkigffejhoaaGreat
namespace Go.Proofs.YtbohkigffejhoaaGreat
open Go.RowKit
set_option maxRecDepth 8000
set_option maxRecDepth 8000
def mC (z rate:Int) (p:Int × Int):List Value:=[.int .i64 2,.int .i64 p.1,.int .i64 p.2,.int .i64 z,.int .i64 0,.int .i64 0,.int .i64 rate]
theorem aO9 (z rate:Int) (p:Int × Int):(mC z rate p).length=7:=rfl
theorem aZg (z rate:Int) (p:Int × Int):∀ u ∈ mC z rate p,u.oneCell'=true:=by
 intro u hu
 simp only [mC,List.mem_cons,List.not_mem_nil,or_false] at hu
 rcases hu with rfl | rfl | rfl | rfl | rfl | rfl | rfl <;> rfl
theorem Tryz.info_mv:(Tryz.prog.info? 95).map (fun i=>(i.zero,i.size,i.bytes))=some (some (.agg #[.int .i64 0,.int .i64 0,.int .i64 0,.int .i64 0,.int .i64 0,.int .i64 0,.int .i64 0]),7,56):=by kernel_rfl
def b1v (z rate:Int) (w:World) (l:List (Int × Int)) (e:Ending) (w':World):Prop:=∃ a n c,e=.returned (.slice a n c)/\OwnG w.heap.size 95 7 (mC z rate) w' (.slice a n c) l/\Ext w w'
def aQc (l:List (Int × Int)):List (Int × Int):=(List.range l.length).map fun i=>l.getD ((i+1) % l.length) (0,0)
theorem aDA (l:List (Int × Int)):(aQc l).length=l.length:=by simp [aQc]
set_option maxHeartbeats 4000000 in
theorem aIW (v:Value) (l:List (Int × Int)) (z rate:Int) (w:World) (h:SlT w v l) (hn:l.length <= 1000000) :
    Calls Tryz.prog 38 #[v,.int .i64 z,.int .i64 rate] w (b1v z rate w (aQc l)):=by
 obtain ⟨ad,nn,cap,b,off,rfl,rfl,h3,h4,h5,h6⟩:=id h
 have H:=Lib.hid h; have HN:=Lib.hid hn
 clear h h3 h4 h5 h6
 go_enter Tryz.func38,Tryz.ntmps38
 go_wp2_with fail
 go_loopw [7,12] (fun out i wr=>∃ (k:Nat),k <= l.length/\i=.int .i64 k/\Hid (OwnG w.heap.size 95 7 (mC z rate) wr out ((aQc l).take k))/\Hid (Ext w wr)) (fun _ i _=>l.length - (intOf i).toNat)
 case atStart=>exact ⟨0,Nat.zero_le _,rfl,Lib.hid (OwnG.nil _ _ _),Lib.hid (Ext.refl w)⟩
 case round =>
  obtain ⟨k,hk,rfl,HO,HE⟩:=hrel
  by_cases hlt:k < l.length
  ·obtain ⟨m,hmd⟩:∃ m,m=(k+1) % l.length:=⟨_,rfl⟩
   have hm:m < l.length:=by rw [hmd]; exact Nat.mod_lt _ (by omega)
   have e1:(((k:Int)+1) % (l.length:Int))=(m:Int):=by
    rw [hmd,Int.natCast_emod]; rfl
   obtain ⟨⟨x,y⟩,hxy⟩:∃ p,l[m]?=some p:=⟨l[m],by simp [hm]⟩
   have HT:Hid ((aQc l).take k ++ [(x,y)]=(aQc l).take (k+1)):=Lib.hid (by
    rw [List.take_succ_eq_append_getElem (by rw [aDA]; exact hlt)]
    congr 2
    simp [aQc,<- hmd,hxy])
   have HK:Hid (((aQc l).take k).length=k):=Lib.hid (by rw [List.length_take,aDA]; exact Nat.min_eq_left hk)
   obtain ⟨b',off',he,hb',hc⟩:=H.out.at hxy
   cases he
   have c0:=(HE.out.cell (p:=⟨b',off'+m*2+0,none⟩) hb').trans (hc 0 (.int .i64 x) rfl)
   have c1:=(HE.out.cell (p:=⟨b',off'+m*2+1,none⟩) hb').trans (hc 1 (.int .i64 y) rfl)
   rw [Nat.add_zero] at c0
   have hl0:((l.length:Int) == 0)=false:=by rw [beq_eq_false_iff_ne]; omega
   have hl1:¬ (l.length:Int)=0:=by omega
   obtain ⟨W1,hW1,hb1,he1,-⟩:=a0y wr #[.int .i64 x,.int .i64 y] 43
   have hz1:W1.heap.size=wr.heap.size+1:=by rw [<- hW1]; simp
   obtain ⟨X,hX,hbX,heX,-⟩:=a0y W1 #[.int .i64 2,.int .i64 x,.int .i64 y,.int .i64 z,.int .i64 0,.int .i64 0,.int .i64 rate] 95
   have g0:=Lib.cell_of_heap hb1 0; have g1:=Lib.cell_of_heap hb1 1
   simp only [List.getElem?_toArray,List.getElem?_cons_succ,List.getElem?_cons_zero] at g0 g1
   clear hmd hxy hc hb1 hz1
   have HSX:Hid (SlG 7 (mC z rate) X (.slice (some ⟨W1.heap.size,0,none⟩) 1 1) [(x,y)]):=Lib.hid (by rw [<- hX]; exact aHX (aO9 z rate) W1 95 [(x,y)])
   have HOX:=Lib.hid (HO.out.later (he1.trans heX)); have HEX:=Lib.hid (HE.out.trans (he1.trans heX))
   have HBX:Hid (w.heap.size <= X.heap.size):=Lib.hid HEX.out.size
   have HM:Hid (((aQc l).take k).length+[(x,y)].length <= maxLen):=Lib.hid (by rw [HK.out]; have:=HN.out; unfold maxLen; simp; omega)
   have HB:Hid ((((aQc l).take k).length+[(x,y)].length)*56 <= 140737488355328):=Lib.hid (by rw [HK.out]; have:=HN.out; simp; omega)
   clear hbX heX he1 HO HE
   go_wp2_with ((at_builtin; refine a2G rfl _ _ rfl Tryz.underlying90 Tryz.info_mv rfl (by decide) (aO9 z rate) (aZg z rate) w.heap.size _ _ ((aQc l).take k) [(x,y)] rfl rfl HOX.out HSX.out HM.out HB.out HBX.out ?_; intro v6 w6 own6 hg6 hloc6))
   have E6:Ext w w6:=HEX.out.grown hg6 (fun i hi=>(HOX.out.base hi).1)
   rw [HT.out] at own6
   go_roundw
   case rel=>exact ⟨k+1,by omega,by go_num,Lib.hid own6,Lib.hid E6⟩
   case measure=>simp [intOf]; omega
  ·obtain rfl:k=l.length:=by omega
   have ho:=HO.out
   rw [List.take_of_length_le (by rw [aDA]; exact Nat.le_refl _)] at ho
   have HO':=Lib.hid ho
   clear ho HO
   obtain ⟨a,c,rfl⟩:=HO'.out.form
   go_wp2_with fail
   go_ret
   exact ⟨_,_,_,rfl,HO'.out,HE.out⟩
end Go.Proofs.YtbohkigffejhoaaGreat
namespace Go.Proofs.YtbohkigffejhoaaGreat
open Go.RowKit
set_option maxRecDepth 8000
set_option maxRecDepth 8000
end Go.Proofs.YtbohkigffejhoaaGreat
namespace Go.Proofs.YtbohkigffejhoaaGreat
open Go.RowKit
set_option maxRecDepth 8000
namespace Vc
theorem a3Z {n:Int} (h:-9223372036854775808 <= n/\n <= 9223372036854775807):szR (n:Rat) <= 3:=by
 unfold szR
 have h1:=aWx h.1 h.2
 have h2:=aCO
 simp only [Rat.num_intCast,Rat.den_intCast]
 have:szI ((1:Nat):Int)=szI 1:=rfl
 omega
theorem aOZ (l:List (Int × Int)) (k:Nat):((((k:Int)+1) % (l.length:Int))).toNat=Rt.nxt l k:=by
 unfold Rt.nxt
 have:((k:Int)+1) % (l.length:Int)=(((k+1) % l.length:Nat):Int):=by simp
 rw [this,Int.toNat_natCast]
theorem aUE (a1 a2 b1 b2 v1 v2:Rat):(bif bif decide (Rt.sg (a2 - v2) <= 0) then !decide (Rt.sg (b2 - v2) <= 0) else false then decide (Rt.sg ((b1 - a1)*(v2 - a2) - (b2 - a2)*(v1 - a1)) > 0) else false)=decide (a2 <= v2/\¬ b2 <= v2/\0 < Rt.side ⟨a1,a2⟩ ⟨b1,b2⟩ ⟨v1,v2⟩):=by
 have e:Rt.side ⟨a1,a2⟩ ⟨b1,b2⟩ ⟨v1,v2⟩=Rt.sg ((b1 - a1)*(v2 - a2) - (b2 - a2)*(v1 - a1)):=rfl
 rw [e]
 generalize Rt.sg ((b1 - a1)*(v2 - a2) - (b2 - a2)*(v1 - a1))=s
 have h1:=@Rt.a4Y a2 v2
 have h2:=@Rt.a4Y b2 v2
 by_cases k1:a2 <= v2 <;> by_cases k2:b2 <= v2 <;> simp [h1,h2,k1,k2]
theorem aUD (a1 a2 b1 b2 v1 v2:Rat):(bif bif !decide (Rt.sg (a2 - v2) <= 0) then decide (Rt.sg (b2 - v2) <= 0) else false then decide (Rt.sg ((b1 - a1)*(v2 - a2) - (b2 - a2)*(v1 - a1)) < 0) else false)=decide (¬ a2 <= v2/\b2 <= v2/\Rt.side ⟨a1,a2⟩ ⟨b1,b2⟩ ⟨v1,v2⟩ < 0):=by
 have e:Rt.side ⟨a1,a2⟩ ⟨b1,b2⟩ ⟨v1,v2⟩=Rt.sg ((b1 - a1)*(v2 - a2) - (b2 - a2)*(v1 - a1)):=rfl
 rw [e]
 generalize Rt.sg ((b1 - a1)*(v2 - a2) - (b2 - a2)*(v1 - a1))=s
 have h1:=@Rt.a4Y a2 v2
 have h2:=@Rt.a4Y b2 v2
 by_cases k1:a2 <= v2 <;> by_cases k2:b2 <= v2 <;> simp [h1,h2,k1,k2]
def aLE:Ctr:=⟨35,fun | [.c (.pt (l)),.g [.R (v1),.R (v2)]]=>.yes (Rt.okp l/\szR v1 <= 90/\szR v2 <= 90) (.t [.c (.v (.int .i64 ((Rt.a8X l ⟨v1,v2⟩)))),.c (.v (.int .i64 ((Rt.a8Y l ⟨v1,v2⟩))))]) | _=>.no⟩
def a9a (l:List (Int × Int)) (x1:Nat × Int):=(l.getD (((x1.1:Int)+(1:Int)) % (l.length:Int)).toNat (0,0))
def aIw (l:List (Int × Int)) (x1:Nat × Int):=(l.getD (x1.1:Int).toNat (0,0))
def aTa (l:List (Int × Int)) (x1:Nat × Int) (y1:Nat × Int):=((l=l)/\((Value.int .i64 (l.length:Int)=(.int .i64 (l.length:Int)))/\((Value.int .i64 ((x1.1:Int)+(1:Int))=(.int .i64 (y1.1:Int)))/\True)))
def a8p (l:List (Int × Int)) (x1:Nat × Int):=(((aIw l x1).2:Int):Rat)
def aBt (l:List (Int × Int)) (x1:Nat × Int):=(((a9a l x1).2:Int):Rat)
def aBs (l:List (Int × Int)) (x1:Nat × Int):=(((aIw l x1).1:Int):Rat)
def aXe (l:List (Int × Int)) (x1:Nat × Int) (v2:Rat) (v1:Rat):=(Rt.sg (((((a9a l x1).1:Int):Rat) - (aBs l x1))*(v2 - (a8p l x1)) - ((aBt l x1) - (a8p l x1))*(v1 - (aBs l x1))))
def aXd (l:List (Int × Int)) (x1:Nat × Int) (v2:Rat) (v1:Rat):=(bif (bif (decide ((Rt.sg ((a8p l x1) - v2)) <= (0:Int))) then (!(decide ((Rt.sg ((aBt l x1) - v2)) <= (0:Int)))) else false) then (decide ((aXe l x1 v2 v1) > (0:Int))) else false)
def aXc (l:List (Int × Int)) (x1:Nat × Int) (v2:Rat) (v1:Rat):=(bif (bif (!(decide ((Rt.sg ((a8p l x1) - v2)) <= (0:Int)))) then (decide ((Rt.sg ((aBt l x1) - v2)) <= (0:Int))) else false) then (decide ((aXe l x1 v2 v1) < (0:Int))) else false)
def aXb (l:List (Int × Int)) (v1:Rat) (v2:Rat):=((Value.int .i64 (0:Int)=(.int .i64 (Rt.a8X l ⟨v1,v2⟩)))/\((Value.int .i64 (1:Int)=(.int .i64 (Rt.a8Y l ⟨v1,v2⟩)))/\True))
def aFJ (v1:Rat) (v2:Rat):=(((v1=v1)/\((v2=v2)/\True))/\True)
def aFI (x1:Nat × Int):=(inR .i64 ((x1.1:Int)+(1:Int)))
set_option maxHeartbeats 4000000 in
theorem aJf (l:List (Int × Int)) (v1 v2:Rat) (hp:Rt.okp l/\szR v1 <= 90/\szR v2 <= 90):owes LT b0t [.inv 5 (Nat × Int) (fun ξ=>⟨[.k (.c (.pt (l))),.u,.u,.k (.c (.bx 0 0)),.u,.u,.k (.c (.v (.int .i64 (ξ.2)))),.u,.u,.u,.u,.u,.u,.u,.u,.u,.u,.k (.c (.pt (l))),.k (.c (.v (.int .i64 (((l).length:Int))))),.k (.c (.v (.int .i64 ((ξ.1:Int))))),.u,.u,.u,.u,.u,.u,.u,.u,.u,.u,.u,.u,.u,.u,.u,.u,.u,.u,.u,.u,.u,.u,.u,.u,.u,.u,.u,.u,.u,.u,.u,.u,.u,.u,.u,.u,.u,.u,.u,.u,.u,.u,.u,.u,.u,.u,.u,.u,.u,.u,.u,.u,.u,.u,.u,.u,.u,.u,.u,.u,.u,.u,.u,.u,.u,.u,.u,.u,.u,.u,.u,.u,.u,.u,.u,.u,.u,.u,.u,.u,.u,.u,.u,.u],[⟨73,[.R (v1),.R (v2)]⟩]⟩) (fun _ ξ=>(ξ.1 <= l.length/\Rt.wgo l ⟨v1,v2⟩ ξ.1=some ξ.2)) (fun ξ=>l.length - ξ.1)] Tryz.f35 (bd Tryz.f35) [.c (.pt (l)),.g [.R (v1),.R (v2)]] (.t [.c (.v (.int .i64 ((Rt.a8X l ⟨v1,v2⟩)))),.c (.v (.int .i64 ((Rt.a8Y l ⟨v1,v2⟩))))]):=by
 refine Eq.mp (show ((((l.length:Int) == (0:Int))=true->(aXb l v1 v2))/\(((l.length:Int) == (0:Int))=false->((∃ x1:Nat × Int,((x1.1 <= l.length/\Rt.wgo l ⟨v1,v2⟩ x1.1=some x1.2)/\(((l=l)/\(True/\((Value.int .i64 (0:Int)=(.int .i64 x1.2))/\((l=l)/\((Value.int .i64 (l.length:Int)=(.int .i64 (l.length:Int)))/\((Value.int .i64 (0:Int)=(.int .i64 (x1.1:Int)))/\True))))))/\(aFJ v1 v2))))/\(∀ x1:Nat × Int,((x1.1 <= l.length/\Rt.wgo l ⟨v1,v2⟩ x1.1=some x1.2)->(((decide ((x1.1:Int) < (l.length:Int)))=true->((0 <= (x1.1:Int)/\(x1.1:Int) < (l.length:Int))/\(((-9223372036854775808 <= ((aIw l x1).1)/\((aIw l x1).1) <= 9223372036854775807)/\-9223372036854775808 <= ((aIw l x1).2)/\((aIw l x1).2) <= 9223372036854775807)/\((aFI x1)/\((0 <= (x1.1:Int)+(1:Int)/\0 < (l.length:Int))/\((0 <= ((x1.1:Int)+(1:Int)) % (l.length:Int)/\((x1.1:Int)+(1:Int)) % (l.length:Int) < (l.length:Int))/\(((-9223372036854775808 <= ((a9a l x1).1)/\((a9a l x1).1) <= 9223372036854775807)/\-9223372036854775808 <= ((a9a l x1).2)/\((a9a l x1).2) <= 9223372036854775807)/\(((v1=v1/\v2=v2)/\szR (aBs l x1) <= 100/\szR (a8p l x1) <= 100/\szR (((a9a l x1).1:Int):Rat) <= 100/\szR (aBt l x1) <= 100/\szR v1 <= 100/\szR v2 <= 100/\szR v1 <= 100/\szR v2 <= 100)/\(True/\((((Rt.sg (Rt.seg ⟨(aBs l x1),(a8p l x1)⟩ ⟨(((a9a l x1).1:Int):Rat),(aBt l x1)⟩ ⟨v1,v2⟩)) == (0:Int))=true->(aXb l v1 v2))/\(((Rt.sg (Rt.seg ⟨(aBs l x1),(a8p l x1)⟩ ⟨(((a9a l x1).1:Int):Rat),(aBt l x1)⟩ ⟨v1,v2⟩)) == (0:Int))=false->((szR (((a9a l x1).1:Int):Rat) <= 1000000/\szR (aBs l x1) <= 1000000)/\((szR (aBt l x1) <= 1000000/\szR (a8p l x1) <= 1000000)/\((szR v1 <= 1000000/\szR (aBs l x1) <= 1000000)/\((szR v2 <= 1000000/\szR (a8p l x1) <= 1000000)/\((szR ((((a9a l x1).1:Int):Rat) - (aBs l x1)) <= 100000/\szR ((aBt l x1) - (a8p l x1)) <= 100000/\szR (v1 - (aBs l x1)) <= 100000/\szR (v2 - (a8p l x1)) <= 100000)/\(True/\((szR (a8p l x1) <= 1000000/\szR v2 <= 1000000)/\((szR (aBt l x1) <= 1000000/\szR v2 <= 1000000)/\(((aXd l x1 v2 v1)=true->((inR .i64 (x1.2+(1:Int)))/\((aFI x1)/\(∃ y1:Nat × Int,((y1.1 <= l.length/\Rt.wgo l ⟨v1,v2⟩ y1.1=some y1.2)/\((l.length - y1.1 < l.length - x1.1)/\(((l=l)/\(True/\((Value.int .i64 (x1.2+(1:Int))=(.int .i64 y1.2))/\(aTa l x1 y1))))/\(aFJ v1 v2))))))))/\((aXd l x1 v2 v1)=false->(((aXc l x1 v2 v1)=true->((inR .i64 (x1.2 - (1:Int)))/\((aFI x1)/\(∃ y1:Nat × Int,((y1.1 <= l.length/\Rt.wgo l ⟨v1,v2⟩ y1.1=some y1.2)/\((l.length - y1.1 < l.length - x1.1)/\(((l=l)/\(True/\((Value.int .i64 (x1.2 - (1:Int))=(.int .i64 y1.2))/\(aTa l x1 y1))))/\(aFJ v1 v2))))))))/\((aXc l x1 v2 v1)=false->((aFI x1)/\(∃ y1:Nat × Int,((y1.1 <= l.length/\Rt.wgo l ⟨v1,v2⟩ y1.1=some y1.2)/\((l.length - y1.1 < l.length - x1.1)/\(((l=l)/\(True/\((Value.int .i64 x1.2=(.int .i64 y1.2))/\(aTa l x1 y1))))/\(aFJ v1 v2)))))))))))))))))))))))))))))/\((decide ((x1.1:Int) < (l.length:Int)))=false->((Value.int .i64 x1.2=(.int .i64 (Rt.a8X l ⟨v1,v2⟩)))/\((Value.int .i64 (0:Int)=(.int .i64 (Rt.a8Y l ⟨v1,v2⟩)))/\True)))))))))=_ by kernel_rfl) ?_
 delta aFI aFJ aXb aXc aXd aXe aBs aBt a8p aTa aIw a9a
 obtain ⟨⟨hl,hn⟩,hv1,hv2⟩:=hp
 refine ⟨fun h=>?_,fun h=>⟨⟨(0,0),⟨Nat.zero_le _,rfl⟩,by simp,by simp,trivial⟩,?_⟩⟩
 ·have:l=[]:=by simpa using h
  subst this
  simp [Rt.a8X,Rt.a8Y]
 rintro ⟨k,w⟩ ⟨hk,hw⟩
 have hne:l ≠ []:=by
  intro e
  subst e
  simp at h
 simp only [Int.toNat_natCast,aOZ] at *
 have hb:=Rt.aEC hw
 refine ⟨fun hlt=>?_,fun hlt=>?_⟩
 ·have hkl:k < l.length:=by simpa using hlt
  have A:=hl k
  have B:=hl (Rt.nxt l k)
  have sa1:=a3Z A.1
  have sa2:=a3Z A.2
  have sb1:=a3Z B.1
  have sb2:=a3Z B.2
  have hs:Rt.wgo l ⟨v1,v2⟩ (k+1)=if Rt.onE l ⟨v1,v2⟩ k then none else some (w+Rt.wA ⟨v1,v2⟩ (Rt.pt l k) (Rt.pt l (Rt.nxt l k))):=by
   unfold Rt.wgo
   rw [hw]
   rfl
  refine ⟨⟨by omega,by omega⟩,A,by simp only [inR]; omega,⟨by omega,by omega⟩,⟨Int.emod_nonneg _ (by omega),Int.emod_lt_of_pos _ (by omega)⟩,B,by ((repeat' first | apply And.intro | (intro _)) <;> first | trivial | rfl | (first | omega | (apply Nat.le_trans; (focus (repeat' first | assumption | apply a0B | apply a0D | apply a0C)); omega)) | skip),trivial,fun he=>?_,fun he=>?_⟩
  ·have hon:Rt.onE l ⟨v1,v2⟩ k:=Rt.a2F.1 (beq_iff_eq.1 he)
   rw [if_pos hon] at hs
   have:=Rt.aKb (n:=l.length) hkl hs
   simp [Rt.a8X,Rt.a8Y,hne,this]
  ·have hon:¬ Rt.onE l ⟨v1,v2⟩ k:=fun e=>absurd ((beq_iff_eq.2 (Rt.a2F.2 e)).symm.trans he) (by decide)
   rw [if_neg hon] at hs
   refine ⟨by ((repeat' first | apply And.intro | (intro _)) <;> first | trivial | rfl | (first | omega | (apply Nat.le_trans; (focus (repeat' first | assumption | apply a0B | apply a0D | apply a0C)); omega)) | skip),by ((repeat' first | apply And.intro | (intro _)) <;> first | trivial | rfl | (first | omega | (apply Nat.le_trans; (focus (repeat' first | assumption | apply a0B | apply a0D | apply a0C)); omega)) | skip),by ((repeat' first | apply And.intro | (intro _)) <;> first | trivial | rfl | (first | omega | (apply Nat.le_trans; (focus (repeat' first | assumption | apply a0B | apply a0D | apply a0C)); omega)) | skip),by ((repeat' first | apply And.intro | (intro _)) <;> first | trivial | rfl | (first | omega | (apply Nat.le_trans; (focus (repeat' first | assumption | apply a0B | apply a0D | apply a0C)); omega)) | skip),by ((repeat' first | apply And.intro | (intro _)) <;> first | trivial | rfl | (first | omega | (apply Nat.le_trans; (focus (repeat' first | assumption | apply a0B | apply a0D | apply a0C)); omega)) | skip),trivial,by ((repeat' first | apply And.intro | (intro _)) <;> first | trivial | rfl | (first | omega | (apply Nat.le_trans; (focus (repeat' first | assumption | apply a0B | apply a0D | apply a0C)); omega)) | skip),by ((repeat' first | apply And.intro | (intro _)) <;> first | trivial | rfl | (first | omega | (apply Nat.le_trans; (focus (repeat' first | assumption | apply a0B | apply a0D | apply a0C)); omega)) | skip),fun c=>?_,fun c=>?_⟩
   ·have c':=of_decide_eq_true ((aUE _ _ _ _ _ _).symm.trans c)
    have hw1:Rt.wA ⟨v1,v2⟩ (Rt.pt l k) (Rt.pt l (Rt.nxt l k))=1:=if_pos c'
    rw [hw1] at hs
    exact ⟨by simp only [inR]; omega,by simp only [inR]; omega,(k+1,w+1),⟨hkl,hs⟩,by simp only; omega,by simp,by simp,trivial⟩
   ·have c':=of_decide_eq_false ((aUE _ _ _ _ _ _).symm.trans c)
    refine ⟨fun d=>?_,fun d=>?_⟩
    ·have d':=of_decide_eq_true ((aUD _ _ _ _ _ _).symm.trans d)
     have hw1:Rt.wA ⟨v1,v2⟩ (Rt.pt l k) (Rt.pt l (Rt.nxt l k))=-1:=(if_neg c').trans (if_pos d')
     rw [hw1] at hs
     exact ⟨by simp only [inR]; omega,by simp only [inR]; omega,(k+1,w - 1),⟨hkl,hs⟩,by simp only; omega,by simp,by simp,trivial⟩
    ·have d':=of_decide_eq_false ((aUD _ _ _ _ _ _).symm.trans d)
     have hw1:Rt.wA ⟨v1,v2⟩ (Rt.pt l k) (Rt.pt l (Rt.nxt l k))=0:=(if_neg c').trans (if_neg d')
     rw [hw1,Int.add_zero] at hs
     exact ⟨by simp only [inR]; omega,(k+1,w),⟨hkl,hs⟩,by simp only; omega,by simp,by simp,trivial⟩
 ·have hkl:¬ k < l.length:=by simpa using hlt
  obtain rfl:k=l.length:=by omega
  simp [Rt.a8X,Rt.a8Y,hne,hw]
theorem aGj:CtrOK Tryz.prog aLE:=.of (by kernel_rfl) (fun bs w xs vs pre r hr hA hG h hp=>by
 simp only [aLE] at h
 split at h
 ·cases h
  exact a13 mixed a1w aRZ Tryz.func35 (by kernel_rfl) hr hA hG rfl rfl (aJf _ _ _ hp)
 ·cases h) (fun xs α pre φ r=>by simp only [aLE]; split <;> (intro h; cases h))
def b03:List Ctr:=b0t ++ [aLE]
theorem aYi:∀ c ∈ b03,CtrOK Tryz.prog c:=a0O aRZ (a03 aGj (a2L))
def aXY:Ctr:=⟨39,fun | [.c (.pp (ps)),.c (.v (.int .i64 (r))),.g [.R (v1),.R (v2)]]=>.yes ((∀ j,Rt.okp (ps.getD j []))/\ps.length <= 1000000000/\(-9223372036854775808 <= r/\r <= 9223372036854775807)/\szR v1 <= 90/\szR v2 <= 90) (.k (.c (.v (.bool ((Rt.aQg ps r ⟨v1,v2⟩)))))) | _=>.no⟩
def aDj (ps:List (List (Int × Int))) (x2:Nat × Nat):=((ps.getD x2.1 []).getD (x2.2:Int).toNat (0,0))
def aS8 (v1:Rat) (v2:Rat) (r:Int):=(((v1=v1)/\((v2=v2)/\True))/\(((((r:Rat)*(r:Rat))=((r:Rat)*(r:Rat)))/\True)/\True))
def aPD (ps:List (List (Int × Int))):=(Value.int .i64 (ps.length:Int)=(.int .i64 (ps.length:Int)))
def aAz (ps:List (List (Int × Int))) (x2:Nat × Nat):=((ps.getD x2.1 []).length:Int)
def aDk (ps:List (List (Int × Int))) (x2:Nat × Nat):=((ps.getD x2.1 []).getD (((x2.2:Int)+(1:Int)) % (aAz ps x2)).toNat (0,0))
def aS9 (ps:List (List (Int × Int))) (x2:Nat × Nat) (v1:Rat) (v2:Rat):=(Rt.seg ⟨(((aDj ps x2).1:Int):Rat),(((aDj ps x2).2:Int):Rat)⟩ ⟨(((aDk ps x2).1:Int):Rat),(((aDk ps x2).2:Int):Rat)⟩ ⟨v1,v2⟩)
def aXa (x1:Nat) (x2:Nat × Nat) (ps:List (List (Int × Int))) (v1:Rat) (v2:Rat) (r:Int):=((x1:Int)=(x2.1:Int)/\(x2.1 < ps.length/\Rt.cvB ps ⟨v1,v2⟩ ((r:Rat)*(r:Rat)) x2.1=false)/\x2.2 <= (ps.getD x2.1 []).length/\Rt.edB (ps.getD x2.1 []) ⟨v1,v2⟩ ((r:Rat)*(r:Rat)) x2.2=false)
theorem aNq (ps:List (List (Int × Int))) (r:Int) (v1 v2:Rat) (hp:(∀ j,Rt.okp (ps.getD j []))/\ps.length <= 1000000000/\(-9223372036854775808 <= r/\r <= 9223372036854775807)/\szR v1 <= 90/\szR v2 <= 90):owes LT b03 [.inv 5 (Nat) (fun ξ=>⟨[.u,.u,.u,.u,.u,.k (.c (.bx 0 0)),.u,.k (.c (.bx 1 0)),.u,.u,.u,.u,.u,.u,.u,.u,.u,.u,.u,.k (.c (.pp (ps))),.k (.c (.v (.int .i64 (((ps).length:Int))))),.k (.c (.v (.int .i64 ((ξ:Int))))),.u,.u,.u,.u,.u,.u,.u,.u,.u,.u,.u,.u,.u,.u,.u,.u,.u,.u,.u,.u,.u,.u,.u,.u,.u,.u,.u,.u,.u],[⟨73,[.R (v1),.R (v2)]⟩,⟨35,[.R (((r:Rat)*(r:Rat)))]⟩]⟩) (fun _ ξ=>(ξ <= ps.length/\Rt.cvB ps ⟨v1,v2⟩ ((r:Rat)*(r:Rat)) ξ=false)) (fun ξ=>ps.length - ξ),.inv 8 (Nat × Nat) (fun ξ=>⟨[.u,.u,.u,.u,.u,.k (.c (.bx 0 0)),.u,.k (.c (.bx 1 0)),.u,.k (.c (.pt ((ps.getD ξ.1 [])))),.u,.u,.u,.u,.u,.u,.u,.u,.u,.k (.c (.pp (ps))),.k (.c (.v (.int .i64 (((ps).length:Int))))),.k (.c (.v (.int .i64 ((ξ.1:Int))))),.u,.u,.u,.k (.c (.pt ((ps.getD ξ.1 [])))),.k (.c (.v (.int .i64 ((((ps.getD ξ.1 [])).length:Int))))),.k (.c (.v (.int .i64 ((ξ.2:Int))))),.u,.u,.u,.u,.u,.u,.u,.u,.u,.u,.u,.u,.u,.u,.u,.u,.u,.u,.u,.u,.u,.u,.u],[⟨73,[.R (v1),.R (v2)]⟩,⟨35,[.R (((r:Rat)*(r:Rat)))]⟩]⟩) (fun σ ξ=>((tmI σ 21)=(ξ.1:Int)/\(ξ.1 < ps.length/\Rt.cvB ps ⟨v1,v2⟩ ((r:Rat)*(r:Rat)) ξ.1=false)/\ξ.2 <= ((ps.getD ξ.1 [])).length/\Rt.edB ((ps.getD ξ.1 [])) ⟨v1,v2⟩ ((r:Rat)*(r:Rat)) ξ.2=false)) (fun ξ=>((ps.getD ξ.1 [])).length - ξ.2)] Tryz.f39 (bd Tryz.f39) [.c (.pp (ps)),.c (.v (.int .i64 (r))),.g [.R (v1),.R (v2)]] (.k (.c (.v (.bool ((Rt.aQg ps r ⟨v1,v2⟩)))))):=by
 refine Eq.mp (show (((decide (r < (0:Int)))=true->(Value.bool false=(.bool (Rt.aQg ps r ⟨v1,v2⟩))))/\((decide (r < (0:Int)))=false->((-9223372036854775808 <= r/\r <= 9223372036854775807)/\((-9223372036854775808 <= r/\r <= 9223372036854775807)/\((szR (r:Rat) <= 1000000/\szR (r:Rat) <= 1000000)/\((∃ x1:Nat,((x1 <= ps.length/\Rt.cvB ps ⟨v1,v2⟩ ((r:Rat)*(r:Rat)) x1=false)/\((True/\(True/\((ps=ps)/\((aPD ps)/\((Value.int .i64 (0:Int)=(.int .i64 (x1:Int)))/\True)))))/\(((v1=v1)/\((v2=v2)/\True))/\(((((r:Rat)*(r:Rat))=((r:Rat)*(r:Rat)))/\True)/\True)))))/\(∀ x1:Nat,((x1 <= ps.length/\Rt.cvB ps ⟨v1,v2⟩ ((r:Rat)*(r:Rat)) x1=false)->(((decide ((x1:Int) < (ps.length:Int)))=true->((0 <= (x1:Int)/\(x1:Int) < (ps.length:Int))/\((∃ x2:Nat × Nat,((aXa x1 x2 ps v1 v2 r)/\((True/\(True/\(((ps.getD (x1:Int).toNat [])=(ps.getD x2.1 []))/\((ps=ps)/\((aPD ps)/\((Value.int .i64 (x1:Int)=(.int .i64 (x2.1:Int)))/\(((ps.getD (x1:Int).toNat [])=(ps.getD x2.1 []))/\((Value.int .i64 ((ps.getD (x1:Int).toNat []).length:Int)=(.int .i64 (aAz ps x2)))/\((Value.int .i64 (0:Int)=(.int .i64 (x2.2:Int)))/\True)))))))))/\(aS8 v1 v2 r))))/\(∀ x2:Nat × Nat,((aXa x1 x2 ps v1 v2 r)->(((decide ((x2.2:Int) < (aAz ps x2)))=true->((0 <= (x2.2:Int)/\(x2.2:Int) < (aAz ps x2))/\(((-9223372036854775808 <= ((aDj ps x2).1)/\((aDj ps x2).1) <= 9223372036854775807)/\-9223372036854775808 <= ((aDj ps x2).2)/\((aDj ps x2).2) <= 9223372036854775807)/\((inR .i64 ((x2.2:Int)+(1:Int)))/\((0 <= (x2.2:Int)+(1:Int)/\0 < (aAz ps x2))/\((0 <= ((x2.2:Int)+(1:Int)) % (aAz ps x2)/\((x2.2:Int)+(1:Int)) % (aAz ps x2) < (aAz ps x2))/\(((-9223372036854775808 <= ((aDk ps x2).1)/\((aDk ps x2).1) <= 9223372036854775807)/\-9223372036854775808 <= ((aDk ps x2).2)/\((aDk ps x2).2) <= 9223372036854775807)/\(((v1=v1/\v2=v2)/\szR (((aDj ps x2).1:Int):Rat) <= 100/\szR (((aDj ps x2).2:Int):Rat) <= 100/\szR (((aDk ps x2).1:Int):Rat) <= 100/\szR (((aDk ps x2).2:Int):Rat) <= 100/\szR v1 <= 100/\szR v2 <= 100/\szR v1 <= 100/\szR v2 <= 100)/\((szR (aS9 ps x2 v1 v2) <= 1000000/\szR ((r:Rat)*(r:Rat)) <= 1000000)/\(((decide ((Rt.sg ((aS9 ps x2 v1 v2) - ((r:Rat)*(r:Rat)))) <= (0:Int)))=true->(Value.bool true=(.bool (Rt.aQg ps r ⟨v1,v2⟩))))/\((decide ((Rt.sg ((aS9 ps x2 v1 v2) - ((r:Rat)*(r:Rat)))) <= (0:Int)))=false->((inR .i64 ((x2.2:Int)+(1:Int)))/\(∃ y2:Nat × Nat,(((x1:Int)=(y2.1:Int)/\(y2.1 < ps.length/\Rt.cvB ps ⟨v1,v2⟩ ((r:Rat)*(r:Rat)) y2.1=false)/\y2.2 <= (ps.getD y2.1 []).length/\Rt.edB (ps.getD y2.1 []) ⟨v1,v2⟩ ((r:Rat)*(r:Rat)) y2.2=false)/\(((ps.getD y2.1 []).length - y2.2 < (ps.getD x2.1 []).length - x2.2)/\((True/\(True/\(((ps.getD x2.1 [])=(ps.getD y2.1 []))/\((ps=ps)/\((aPD ps)/\((Value.int .i64 (x2.1:Int)=(.int .i64 (y2.1:Int)))/\(((ps.getD x2.1 [])=(ps.getD y2.1 []))/\((Value.int .i64 (aAz ps x2)=(.int .i64 ((ps.getD y2.1 []).length:Int)))/\((Value.int .i64 ((x2.2:Int)+(1:Int))=(.int .i64 (y2.2:Int)))/\True)))))))))/\(aS8 v1 v2 r)))))))))))))))))/\((decide ((x2.2:Int) < (aAz ps x2)))=false->((inR .i64 ((x2.1:Int)+(1:Int)))/\(∃ y1:Nat,((y1 <= ps.length/\Rt.cvB ps ⟨v1,v2⟩ ((r:Rat)*(r:Rat)) y1=false)/\((ps.length - y1 < ps.length - x1)/\((True/\(True/\((ps=ps)/\((aPD ps)/\((Value.int .i64 ((x2.1:Int)+(1:Int))=(.int .i64 (y1:Int)))/\True)))))/\(aS8 v1 v2 r)))))))))))))/\((decide ((x1:Int) < (ps.length:Int)))=false->(Value.bool false=(.bool (Rt.aQg ps r ⟨v1,v2⟩)))))))))))))=_ by kernel_rfl) ?_
 delta aXa aS9 aDk aAz aPD aS8 aDj
 obtain ⟨hps,hn,hr,hv1,hv2⟩:=hp
 have hr3:szR (r:Rat) <= 3:=a3Z hr
 have hrr:szR ((r:Rat)*(r:Rat)) <= 100:=by (first | omega | (apply Nat.le_trans; (focus (repeat' first | assumption | apply a0B | apply a0D | apply a0C)); omega))
 refine ⟨fun h=>?_,fun h=>⟨hr,hr,⟨by omega,by omega⟩,⟨0,⟨Nat.zero_le _,rfl⟩,by simp,by simp,by simp,trivial⟩,?_⟩⟩
 ·unfold Rt.aQg
  rw [h]
  rfl
 have hcov:Rt.aQg ps r ⟨v1,v2⟩=Rt.cvB ps ⟨v1,v2⟩ ((r:Rat)*(r:Rat)) ps.length:=by
  unfold Rt.aQg
  rw [h]
  rfl
 rw [hcov]
 generalize (r:Rat)*(r:Rat)=R at *
 rintro j ⟨hj,hcj⟩
 refine ⟨fun hlt=>⟨⟨by omega,by simpa using hlt⟩,⟨(j,0),⟨rfl,⟨by simpa using hlt,hcj⟩,Nat.zero_le _,rfl⟩,by simp,by simp,by simp,trivial⟩,?_⟩,fun hlt=>?_⟩
 ·rintro ⟨j2,k⟩ ⟨ej,⟨hj2,hc2⟩,hk,he⟩
  obtain rfl:j=j2:=by
   have:(j:Int)=(j2:Int):=ej
   omega
  simp only [Int.toNat_natCast,aOZ] at *
  have hok:=hps j
  have hcs:Rt.cvB ps ⟨v1,v2⟩ R (j+1)=Rt.edB (ps.getD j []) ⟨v1,v2⟩ R (ps.getD j []).length:=by
   show (Rt.cvB ps ⟨v1,v2⟩ R j || Rt.edB (ps.getD j []) ⟨v1,v2⟩ R (ps.getD j []).length)=_
   rw [hc2,Bool.false_or]
  generalize hgl:ps.getD j []=l at *
  obtain ⟨hl,hn2⟩:=hok
  refine ⟨fun hlt2=>?_,fun hlt2=>?_⟩
  ·have hkl:k < l.length:=by simpa using hlt2
   have A:=hl k
   have B:=hl (Rt.nxt l k)
   have sa1:=a3Z A.1
   have sa2:=a3Z A.2
   have sb1:=a3Z B.1
   have sb2:=a3Z B.2
   have hs:Rt.edB l ⟨v1,v2⟩ R (k+1)=decide (Rt.seg (Rt.pt l k) (Rt.pt l (Rt.nxt l k)) ⟨v1,v2⟩ <= R):=by
    show (Rt.edB l ⟨v1,v2⟩ R k || _)=_
    rw [he,Bool.false_or]
   have z:=aCN (a1:=(((l.getD k (0,0)).1:Int):Rat)) (a2:=(((l.getD k (0,0)).2:Int):Rat)) (b1:=(((l.getD (Rt.nxt l k) (0,0)).1:Int):Rat)) (b2:=(((l.getD (Rt.nxt l k) (0,0)).2:Int):Rat)) (p1:=v1) (p2:=v2) (by omega) (by omega) (by omega) (by omega) (by omega) (by omega)
   refine ⟨⟨by omega,by omega⟩,A,by simp only [inR]; omega,⟨by omega,by omega⟩,⟨Int.emod_nonneg _ (by omega),Int.emod_lt_of_pos _ (by omega)⟩,B,by ((repeat' first | apply And.intro | (intro _)) <;> first | trivial | rfl | (first | omega | (apply Nat.le_trans; (focus (repeat' first | assumption | apply a0B | apply a0D | apply a0C)); omega)) | skip),⟨by omega,by omega⟩,fun c=>?_,fun c=>?_⟩
   ·have e1:=hs.trans (decide_eq_true (Rt.a4Y.1 (of_decide_eq_true c)))
    rw [Rt.aLm (n:=ps.length) hj2 (hcs.trans (Rt.aLj hkl e1))]
   ·have e1:=hs.trans (decide_eq_false fun e=>of_decide_eq_false c (Rt.a4Y.2 e))
    exact ⟨by simp only [inR]; omega,(j,k+1),⟨rfl,⟨hj2,hc2⟩,by simp only [hgl]; exact hkl,by simp only [hgl]; exact e1⟩,by simp only [hgl]; omega,by simp only [hgl] <;> simp,by simp,by simp,trivial⟩
  ·have hkl:¬ k < l.length:=by simpa using hlt2
   obtain rfl:k=l.length:=by omega
   exact ⟨by simp only [inR]; omega,j+1,⟨hj2,hcs.trans he⟩,by omega,by simp,by simp,by simp,trivial⟩
 ·have hjl:¬ j < ps.length:=by simpa using hlt
  obtain rfl:j=ps.length:=by omega
  rw [hcj]
theorem aUg:CtrOK Tryz.prog aXY:=.of (by kernel_rfl) (fun bs w xs vs pre r hr hA hG h hp=>by
 simp only [aXY] at h
 split at h
 ·cases h
  exact a13 mixed a1w aYi Tryz.func39 (by kernel_rfl) hr hA hG rfl rfl (aNq _ _ _ _ hp)
 ·cases h) (fun xs α pre φ r=>by simp only [aXY]; split <;> (intro h; cases h))
end Vc
end Go.Proofs.YtbohkigffejhoaaGreat
namespace Go.Proofs.YtbohkigffejhoaaGreat
open Go.RowKit
set_option maxRecDepth 8000
abbrev B0:Vc.Bs:=⟨0,[],[],[]⟩
def IsV (w:World) (x y:Rat) (v:Value):Prop:=Vc.relK B0 w (.g [.R x,.R y]) v
theorem IsV.later {w w':World} {x y:Rat} {v:Value} (h:IsV w x y v) (he:Ext w w'):IsV w' x y v:=(Vc.Keep.ext he rfl).relK h
theorem aUH {w:World} {v:Value} {l:List (Int × Int)} (h:SlT w v l):Vc.SlP w.heap.size w v l:=by
 obtain ⟨a,n,cap,b,off,rfl,rfl,h3,h4,h5,h6⟩:=h
 refine ⟨a,cap,b,off,rfl,h3,h4,h5,fun i x hx=>?_⟩
 obtain ⟨p,q⟩:=h6 i x hx
 exact ⟨p,p,by have:=q 0 (.int .i64 x.1) rfl; simpa using this,q 1 (.int .i64 x.2) rfl⟩
theorem aJ8 (m n:Int) (w:World) (h:(-9223372036854775808 <= m/\m <= 9223372036854775807)/\-9223372036854775808 <= n/\n <= 9223372036854775807) :
    Calls Tryz.prog 36 #[.int .i64 m,.int .i64 n] w fun e w'=>∃ v,e=.returned v/\Ext w w'/\IsV w' m n v :=
 Vc.aCs.yes B0 w [.c (.v (.int .i64 m)),.c (.v (.int .i64 n))] [.int .i64 m,.int .i64 n] _ _ ⟨⟨rfl,rfl⟩,⟨rfl,rfl⟩,trivial⟩ rfl rfl rfl h
theorem aWi (p v:Value) (l:List (Int × Int)) (x y:Rat) (w:World) (hp:SlT w p l) (hv:IsV w x y v) (h:Rt.okp l/\Vc.szR x <= 90/\Vc.szR y <= 90) :
    Calls Tryz.prog 35 #[p,v] w fun e w'=>e=.returned (.tuple #[.int .i64 (Rt.a8X l ⟨x,y⟩),.int .i64 (Rt.a8Y l ⟨x,y⟩)])/\Ext w w':=by
 refine (Vc.aGj.yes ⟨w.heap.size,[],[],[]⟩ w [.c (.pt l),.g [.R x,.R y]] [p,v] _ _ ⟨aUH hp,Vc.aE3 trivial trivial rfl hv,trivial⟩ rfl rfl rfl h).mono ?_
 rintro e w' ⟨v',rfl,hx,us,rfl,hr⟩
 match us,hr with
 | [u1,u2],hr =>
   obtain ⟨⟨rfl,_⟩,⟨rfl,_⟩,_⟩:=hr
   exact ⟨rfl,hx⟩
theorem b1q (q v:Value) (ps:List (List (Int × Int))) (r:Int) (x y:Rat) (w:World) (hq:Vc.SlQ w.heap.size w q ps) (hv:IsV w x y v) (h:(∀ j,Rt.okp (ps.getD j []))/\ps.length <= 1000000000/\(-9223372036854775808 <= r/\r <= 9223372036854775807)/\Vc.szR x <= 90/\Vc.szR y <= 90) :
    Calls Tryz.prog 39 #[q,.int .i64 r,v] w fun e w'=>e=.returned (.bool (Rt.aQg ps r ⟨x,y⟩))/\Ext w w':=by
 refine (Vc.aUg.yes ⟨w.heap.size,[],[],[]⟩ w [.c (.pp ps),.c (.v (.int .i64 r)),.g [.R x,.R y]] [q,.int .i64 r,v] _ _ ⟨hq,⟨rfl,rfl⟩,Vc.aE3 trivial trivial rfl hv,trivial⟩ rfl rfl rfl h).mono ?_
 rintro e w' ⟨v',rfl,hx,rfl,_⟩
 exact ⟨rfl,hx⟩
theorem ex1:Rt.a8X [(0,0),(10,0),(10,10)] ⟨((8:Int):Rat),((2:Int):Rat)⟩=1:=by kernel_rfl
theorem ex2:Rt.a8Y [(0,0),(10,0),(10,10)] ⟨((8:Int):Rat),((2:Int):Rat)⟩=0:=by kernel_rfl
theorem ex3:Rt.a8X [(0,0),(10,10),(10,0)] ⟨((8:Int):Rat),((2:Int):Rat)⟩=-1:=by kernel_rfl
theorem ex4:Rt.a8Y [(0,0),(10,10),(10,0)] ⟨((8:Int):Rat),((2:Int):Rat)⟩=0:=by kernel_rfl
theorem ex5:Rt.a8X [(0,0),(10,0),(10,10)] ⟨((2:Int):Rat),((8:Int):Rat)⟩=0:=by kernel_rfl
theorem ex6:Rt.a8Y [(0,0),(10,0),(10,10)] ⟨((2:Int):Rat),((8:Int):Rat)⟩=0:=by kernel_rfl
theorem ex7:Rt.aQg [[(0,0),(10,0),(10,10)]] 1 ⟨((5:Int):Rat),((-1:Int):Rat)⟩=true:=by kernel_rfl
theorem aZq:Rt.aNX [(0,0),(10,0),(10,10)]=[(0,0),(10,10),(10,0)]:=by decide
end Go.Proofs.YtbohkigffejhoaaGreat
namespace Go.Proofs.YtbohkigffejhoaaGreat
open Go.RowKit
set_option maxRecDepth 8000
set_option maxRecDepth 8000
theorem a9R (l:List (Int × Int)) (h:∀ p ∈ l,(-1000000000 <= p.1/\p.1 <= 1000000000)/\-1000000000 <= p.2/\p.2 <= 1000000000) (hn:l.length <= 1000000000):Rt.okp l:=by
 refine ⟨fun k=>?_,hn⟩
 rcases Nat.lt_or_ge k l.length with hk | hk
 ·have e:l.getD k (0,0)=l[k]:=by simp [List.getD_eq_getElem?_getD,hk]
  have:=h l[k] (List.getElem_mem hk)
  rw [e]
  omega
 ·have e:l.getD k (0,0)=(0,0):=by simp [List.getD_eq_getElem?_getD,hk]
  rw [e]
  exact ⟨⟨by decide,by decide⟩,by decide,by decide⟩
theorem aOV:Rt.okp [(0,0),(10,0),(10,10)]:=a9R _ (by decide) (by decide)
theorem aWR:Rt.okp [(0,0),(10,10),(10,0)]:=a9R _ (by decide) (by decide)
theorem aSl (n:Int) (h:n.natAbs < 1000000000):Vc.szR (n:Rat) <= 90:=by
 have h1:szI ((n:Rat).num) <= 1:=a4D (by simpa [Lb.B] using h)
 have h2:szI (((n:Rat).den:Nat):Int) <= 1:=a4D (by simp [Lb.B])
 unfold Vc.szR
 omega
set_option maxHeartbeats 16000000 in
theorem aJS (w:World):Calls Tryz.prog 15 #[] w fun e w'=>e=.returned (.bool true)/\Ext w w':=by
 obtain ⟨W0,hW0,hb0,hE0,-⟩:=a0y w #[.int .i64 0,.int .i64 0,.int .i64 10,.int .i64 0,.int .i64 10,.int .i64 10] 43
 have HP:Hid (SlT W0 (.slice (some ⟨w.heap.size,0,none⟩) 3 3) [(0,0),(10,0),(10,10)]):=Lib.hid (by rw [<- hW0]; exact aHX aK8 w 43 [(0,0),(10,0),(10,10)])
 have HE0:=Lib.hid hE0
 have k8:=aSl 8 (by decide); have k2:=aSl 2 (by decide); have k5:=aSl 5 (by decide); have k1:=aSl (-1) (by decide)
 have K8:=Lib.hid k8; have K2:=Lib.hid k2; have K5:=Lib.hid k5; have K1:=Lib.hid k1
 clear hb0 hE0 k8 k2 k5 k1
 go_enter Tryz.func15,Tryz.ntmps15
 go_wp2_with fail
 refine (aJ8 8 2 _ (by decide)).mono ?_
 rintro e w1 ⟨v1,rfl,x1,i1⟩
 have HP1:=Lib.hid (HP.out.later x1); have HX1:=Lib.hid x1; have HI1:=Lib.hid i1
 clear x1 i1
 go_wp2_with fail
 refine (aWi _ _ _ _ _ _ HP1.out HI1.out ⟨aOV,K8.out,K2.out⟩).mono ?_
 rintro e w2 ⟨rfl,x2⟩
 rw [ex1,ex2]
 have HP2:=Lib.hid (HP1.out.later x2); have HX2:=Lib.hid (HX1.out.trans x2)
 clear x2
 go_wp2_with fail
 refine (aET _ _ _ HP2.out (by decide)).mono ?_
 rintro e w3 ⟨a3,n3,c3,rfl,o3,x3⟩
 have s3:=o3.sl aK8
 rw [aZq] at s3
 have HS3:=Lib.hid s3; have HP3:=Lib.hid (HP2.out.later x3); have HX3:=Lib.hid (HX2.out.trans x3)
 clear o3 s3 x3
 go_wp2_with fail
 refine (aJ8 8 2 _ (by decide)).mono ?_
 rintro e w4 ⟨v4,rfl,x4,i4⟩
 have HS4:=Lib.hid (HS3.out.later x4); have HP4:=Lib.hid (HP3.out.later x4); have HX4:=Lib.hid (HX3.out.trans x4); have HI4:=Lib.hid i4
 clear x4 i4
 go_wp2_with fail
 refine (aWi _ _ _ _ _ _ HS4.out HI4.out ⟨aWR,K8.out,K2.out⟩).mono ?_
 rintro e w5 ⟨rfl,x5⟩
 rw [ex3,ex4]
 have HP5:=Lib.hid (HP4.out.later x5); have HX5:=Lib.hid (HX4.out.trans x5)
 clear x5
 go_wp2_with fail
 refine (aJ8 2 8 _ (by decide)).mono ?_
 rintro e w6 ⟨v6,rfl,x6,i6⟩
 have HP6:=Lib.hid (HP5.out.later x6); have HX6:=Lib.hid (HX5.out.trans x6); have HI6:=Lib.hid i6
 clear x6 i6
 go_wp2_with fail
 refine (aWi _ _ _ _ _ _ HP6.out HI6.out ⟨aOV,K2.out,K8.out⟩).mono ?_
 rintro e w7 ⟨rfl,x7⟩
 rw [ex5,ex6]
 have HP7:=Lib.hid (HP6.out.later x7); have HX7:=Lib.hid (HX6.out.trans x7)
 clear x7
 go_wp2_with fail
 refine (aIW _ _ (-5) 100 _ HP7.out (by decide)).mono ?_
 rintro e w8 ⟨a8,n8,c8,rfl,o8,x8⟩
 have HP8:=Lib.hid (HP7.out.later x8); have HX8:=Lib.hid (HX7.out.trans x8)
 have s8:=o8.sl (aO9 (-5) 100)
 have hn8:n8=3:=s8.len
 subst hn8
 obtain ⟨g8,f8,rfl,hg8,hc8⟩:=s8.at (i:=2) (x:=(0,0)) (by decide)
 have c80:=hc8 1 (.int .i64 0) rfl; have c81:=hc8 2 (.int .i64 0) rfl; have c82:=hc8 3 (.int .i64 (-5)) rfl
 obtain ⟨X9,hX9,hb9,hE9,-⟩:=a0y w8 #[.slice (some ⟨w.heap.size,0,none⟩) 3 3] 44
 have g9:=Lib.cell_of_heap hb9 0
 simp only [List.getElem?_toArray,List.getElem?_cons_zero] at g9
 have HG9:=Lib.hid g9; have HX9:=Lib.hid (HX8.out.trans hE9); have HP9:=Lib.hid (HP8.out.later hE9)
 have HZ9:Hid (w8.heap.size < X9.heap.size):=Lib.hid (by rw [<- hX9]; simp)
 clear o8 s8 hc8 x8 g9 hE9
 go_wp2_with fail
 refine (aJ8 5 (-1) _ (by decide)).mono ?_
 rintro e w10 ⟨v10,rfl,x10,i10⟩
 have HQ:Hid (Vc.SlQ w10.heap.size w10 (.slice (some ⟨w8.heap.size,0,none⟩) 1 1) [[(0,0),(10,0),(10,10)]]):=Lib.hid (by
  refine ⟨_,1,w8.heap.size,0,rfl,.inr rfl,fun h=>(by cases h),Nat.le_refl _,fun i x hx=>?_⟩
  have hlt:w8.heap.size < w10.heap.size:=Nat.lt_of_lt_of_le HZ9.out x10.size
  match i,hx with
  | 0,hx =>
    simp only [List.getElem?_cons_zero,Option.some.injEq] at hx
    subst hx
    exact ⟨hlt,hlt,_,(x10.cell (p:=⟨w8.heap.size,0,none⟩) HZ9.out).trans HG9.out,aUH (HP9.out.later x10)⟩)
 have HI10:=Lib.hid i10; have HX10:=Lib.hid (HX9.out.trans x10)
 clear x10 i10
 go_wp2_with fail
 refine (b1q _ _ _ _ _ _ _ HQ.out HI10.out ⟨fun j=>?_,by decide,by decide,K5.out,K1.out⟩).mono ?_
 ·match j with
  | 0=>exact aOV
  | j+1=>exact a9R [] (by simp) (by simp)
 rintro e w11 ⟨rfl,x11⟩
 rw [ex7]
 go_wp2_with fail
 go_ret
 exact ⟨rfl,HE0.out.trans (HX10.out.trans x11)⟩
end Go.Proofs.YtbohkigffejhoaaGreat
