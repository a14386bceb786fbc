import Derived.Test.YtbohkigffejhoaaGreatR11
import Derived.Laws.OwnMore
open Nat (add_mul blt_eq eq_zero_or_pos le_refl lt_of_lt_of_le lt_or_ge mul_le_mul zero_add)
namespace Go.Proofs.YtbohkigffejhoaaGreat
open Go.RowKit
namespace Vc
def OwC (lo:Nat) (w:World) (u:Value) (T k n:Nat) (cells:List Value) (ob:Option Nat):Prop :=
 (ob=none/\u=.slice none 0 0/\n=0/\cells=[]) \/ ∃ (b cap:Nat) (cur:Array Value),ob=some b/\u=.slice (some ⟨b,0,none⟩) n cap/\lo <= b/\n <= cap/\cap <= maxLen/\w.heap[b]?=some (.cells cur T (0,0))/\cur.size=cap*k/\cur.toList.take (n*k)=cells/\∀ v ∈ cur,a9n v
section
variable {R:AC->Value->Prop} {lo:Nat} {w:World} {u:Value} {T:Nat} {ob:Option Nat}
theorem OwC.len {k n:Nat} {cells:List Value} (h:OwC lo w u T k n cells ob):cells.length=n*k:=by
 rcases h with ⟨_,_,rfl,rfl⟩ | ⟨b,cap,cur,_,_,_,hn,_,_,hs,rfl,_⟩
 ·simp
 ·rw [List.length_take,Array.length_toList,hs];exact Nat.min_eq_left (Nat.mul_le_mul_right _ hn)
theorem OwC.nu {k n:Nat} {cells:List Value} (h:OwC lo w u T k n cells ob):∀ v ∈ cells,a9n v:=by
 rcases h with ⟨_,_,_,rfl⟩ | ⟨b,cap,cur,_,_,_,hn,_,_,hs,rfl,h⟩
 ·intro v hv; cases hv
 ·exact fun v hv=>h v (by simpa using List.mem_of_mem_take hv)
theorem OwR.c {s:Sc} {l:List s.T} (h:OwR R lo w u T s l ob):∃ cells,OwC lo w u T s.k l.length cells ob/\relR R (a0d (l.flatMap s.enc)) cells:=by
 rcases h with ⟨rfl,rfl,rfl⟩ | ⟨b,cap,rfl,rfl,h1,h2,h3,cur,h4,h5,h6,h7⟩
 ·exact ⟨[],.inl ⟨rfl,rfl,rfl,rfl⟩,trivial⟩
 ·exact ⟨_,.inr ⟨b,cap,cur,rfl,rfl,h1,h2,h3,h4,h5,rfl,h7⟩,h6⟩
theorem OwC.r {s:Sc} {l:List s.T} {cells:List Value} (h:OwC lo w u T s.k l.length cells ob) (hr:relR R (a0d (l.flatMap s.enc)) cells):OwR R lo w u T s l ob:=by
 rcases h with ⟨rfl,rfl,hn,rfl⟩ | ⟨b,cap,cur,rfl,rfl,h1,h2,h3,h4,h5,rfl,h7⟩
 ·exact .inl ⟨rfl,rfl,List.length_eq_zero_iff.1 hn⟩
 ·exact .inr ⟨b,cap,rfl,rfl,h1,h2,h3,cur,h4,h5,hr,h7⟩
theorem OwC.row {k n:Nat} {cells:List Value} (h:OwC lo w u T k n cells ob):w.ownsRow lo T k u n cells:=by
 refine ⟨h.len,?_⟩
 rcases h with ⟨_,rfl,rfl,rfl⟩ | ⟨b,cap,cur,_,rfl,h1,h2,h3,h4,h5,h6,_⟩
 ·exact .inl ⟨rfl,rfl⟩
 ·exact .inr ⟨b,cap,cur,rfl,h1,h4,h2,h3,h5,h6⟩
theorem aN0 {z:Value} (h:∀ v ∈ z.cells,a9n v) (n:Nat):∀ v ∈ Builtin.zeroCells z.cells n,a9n v:=by
 intro v hv;unfold Builtin.zeroCells at hv;simp only [Array.mem_map,Array.mem_range] at hv;obtain ⟨i,hi,rfl⟩:=hv
 have hp:0 < z.cells.size:=by
  rcases eq_zero_or_pos z.cells.size with e | e
  ·rw [e] at hi; simp at hi
  ·exact e
 have:i % z.cells.size < z.cells.size:=Nat.mod_lt _ hp;rw [getElem!_pos z.cells (i % z.cells.size) this];exact h _ (Array.getElem_mem this)
theorem aTm {P:Program} {t ty e:TypeId} {i:TypeInfo} {z:Value} (ht:P.underlying t=some (.slice e)) (hi:P.info? e=some i) (hz:i.zero=some z) (hzs:z.cells.size=i.size) (hzu:∀ v ∈ z.cells,a9n v) (hby:i.bytes <= 2000)
    {n:Nat} {xs:List Value} (h:OwC lo w u e i.size n xs ob) {x:Value} {m:Nat} {news:List Value} (hx:(∃ a c,x=.slice (some a) m c/\∀ j v,news[j]?=some v->w.cell? (a.add j)=some v) \/ (x=.slice none 0 0/\m=0)) (hl:news.length=m*i.size)
    (h1:∀ v ∈ news,v.oneCell'=true) (hnu:∀ v ∈ news,a9n v) (hs:n+m <= 10000000) (hlo:lo <= w.heap.size) :
    ∃ v' w' ob',(Builtin.append_ #[t,t] ty #[u,x]).run P w=.ok v' w'/\OwC lo w' v' e i.size (n+m) (xs ++ news) ob'/\(ob'=ob \/ ob'=some w.heap.size)/\w.grownBy w' ob:=by
 have same:w.grownBy w ob:=⟨rfl,rfl,rfl,le_refl _,fun _ _ _=>rfl⟩
 rcases hx with ⟨a,c,rfl,hnews⟩ | ⟨rfl,rfl⟩
 rotate_left
 ·have hn:news=[]:=List.eq_nil_of_length_eq_zero (by simpa using hl);subst hn;exact ⟨u,w,ob,run_append_owned_none (P:=P) w lo t ty e i i.size ht hi u n xs h.row,by rw [List.append_nil]; exact h,.inl rfl,same⟩
 have hlen:(xs ++ news).length=(n+m)*i.size:=by rw [List.length_append,h.len,hl,add_mul]
 have h63:n+m <= maxLen:=by unfold maxLen; omega
 have hb2:(n+m)*i.bytes <= 140737488355328:=Nat.le_trans (mul_le_mul hs hby) (by decide);have hxu:=h.nu
 have grown:∀ (old:Nat),OwC lo (w.drew.alloc (.cells (xs.toArray ++ news.toArray ++ Builtin.zeroCells z.cells (grownCap w (n+m) old e - (n+m))) e))
     (.slice (some ⟨w.heap.size,0,none⟩) (n+m) (grownCap w (n+m) old e)) e i.size (n+m) (xs ++ news) (some w.heap.size):=fun old=>by
  have hge:=grownCap_ge w (n+m) old e;refine .inr ⟨w.heap.size,_,_,rfl,rfl,hlo,hge,grownCap_le_maxLen w (n+m) old e h63,heap_alloc_new w.drew _,?_,?_,fun v hv=>?_⟩
  ·simp only [Array.size_append,List.size_toArray,size_zeroCells,hzs,h.len,hl,<- add_mul];congr 1;omega
  ·simp only [Array.toList_append,List.append_assoc];rw [<- List.append_assoc,<- hlen];exact List.take_left
  ·simp only [Array.mem_append,List.mem_toArray] at hv;rcases hv with (hv | hv) | hv
   ·exact hxu v hv
   ·exact hnu v hv
   ·exact aN0 hzu _ v hv
 have big:∀ (cs:Array Value),w.grownBy (w.drew.alloc (.cells cs e)) ob:=fun cs=>⟨rfl,rfl,rfl,by simp,fun k hk _=>heap_alloc_old w.drew _ hk⟩
 rcases h with ⟨rfl,rfl,rfl,rfl⟩ | ⟨g,cap,cur,rfl,rfl,hbg,hnc,hcm,hg,hcs,htake,hcu⟩
 ·by_cases hm:m=0
  ·subst hm;have hn:news=[]:=List.eq_nil_of_length_eq_zero (by simpa using hl);subst hn;refine ⟨.slice none 0 0,w,none,?_,.inl ⟨rfl,rfl,rfl,rfl⟩,.inl rfl,same⟩;simp [Builtin.append_,run_underlying ht,sizeOf,typeInfo,hi,Builtin.lenOf,Builtin.firstCells,loadCells,loadCellsFrom]
  ·have hr:=run_append_nil (P:=P) w t ty e i z ht hi hz a m c news hl hnews (by omega) (by omega) (by simp only [zero_add] at hb2; omega);have hgr:=grown 0;simp only [zero_add,List.nil_append,Array.empty_append] at hgr ⊢;exact ⟨_,_,_,hr,hgr,.inr rfl,big _⟩
 ·by_cases hroom:n+m <= cap
  ·have hfit:n*i.size+news.length <= cur.size:=by rw [hl,hcs,<- add_mul]; exact Nat.mul_le_mul_right _ hroom
   have hr:=run_append_room (P:=P) w t ty e i ht hi g n cap cur hg a m c news hl hnews h1 hroom hfit;refine ⟨_,_,_,hr,.inr ⟨g,cap,_,rfl,rfl,hbg,hroom,hcm,setRow_heap w g cur _ e _ hg,?_,?_,fun v hv=>?_⟩,.inl rfl,⟨rfl,rfl,rfl,by simp,fun k _ hk=>setRow_other w g k _ (fun e=>hk (by rw [e]))⟩⟩
   ·simp only [List.size_toArray,List.length_append,List.length_take,List.length_drop,Array.length_toList];omega
   ·rw [htake,<- hlen];exact List.take_left
   ·simp only [List.mem_toArray,List.mem_append] at hv;rcases hv with (hv | hv) | hv
    ·exact hcu v (by simpa using List.mem_of_mem_take hv)
    ·exact hnu v hv
    ·exact hcu v (by simpa using List.mem_of_mem_drop hv)
  ·have holds:∀ j u,xs[j]?=some u->w.cell? ((⟨g,0,none⟩:Addr).add j)=some u:=fun j v hj=>by
    rw [a1b,zero_add,Lib.cell_of_heap hg];rw [<- htake,List.getElem?_take] at hj;split at hj
    ·simpa using hj
    ·cases hj
   have hxl:xs.length=n*i.size:=by
    rw [List.length_append,hl,add_mul] at hlen;omega
   have hr:=run_append_grow (P:=P) w t ty e i z ht hi hz ⟨g,0,none⟩ n cap xs hxl holds a m c news hl hnews (by omega) (by omega) (growslice_fits (by omega) hb2);exact ⟨_,_,_,hr,grown cap,.inr rfl,big _⟩
theorem aTk {P:Program} {t e:TypeId} {i:TypeInfo} {z:Value} (ht:P.underlying t=some (.slice e)) (hi:P.info? e=some i) (hz:i.zero=some z) (h0:0 < i.size) (h1:i.size <= 100) {n:Nat} (hn:n <= 1000) {parts:Array (Nat × Value)} {vs:List Value}
    (hp:parts.toList=(vs.zipIdx 0).map fun x=>(x.2,x.1)) (hvs:∀ v ∈ vs,v.cells.size=i.size) (hvl:vs.length=n) :
    (Instr.buildSlice t n parts).run P w=.ok (.slice (some ⟨w.heap.size,0,none⟩) n n) (w.alloc (.cells (vs.flatMap fun v=>v.cells.toList).toArray e)):=by
 rcases eq_zero_or_pos n with rfl | hpos
 ·obtain rfl:=List.eq_nil_of_length_eq_zero hvl
  have hp':parts.toList=[]:=by simpa using hp
  simp [Instr.buildSlice,run_underlying ht,sizeOf,typeInfo,hi,newRow,hp',Instr.fill];congr 2;exact Array.eq_empty_of_size_eq_zero (by simp)
 ·have hle:n*i.size <= 1000*100:=mul_le_mul hn h1;have hp1:1*1 <= n*i.size:=mul_le_mul hpos h0
  exact run_buildSlice (P:=P) w t e n parts (vs.flatMap fun v=>v.cells.toList).toArray i z ht hi hz (by omega) (by omega) (by
   rw [hp];refine Great.fill_whole h0 _ _ hvs ?_
   simp [hvl])
theorem b6s (hlo:lo <= w.heap.size) {cells:List Value} {k n:Nat} (hl:cells.length=n*k) (hn:n <= maxLen) (hu:∀ v ∈ cells,a9n v):OwC lo (w.alloc (.cells cells.toArray T)) (.slice (some ⟨w.heap.size,0,none⟩) n n) T k n cells (some w.heap.size) :=
 .inr ⟨w.heap.size,n,cells.toArray,rfl,rfl,hlo,le_refl _,hn,heap_alloc_new w _,by simpa using hl,List.take_of_length_le (by simp [hl]),fun v hv=>hu v (by simpa using hv)⟩
theorem RdR.arg {B:Nat->Prop} {x:Value} {s:Sc} {f:Bool} {l:List s.T} (h:RdR R B w x s f l):∃ news,((∃ a c,x=.slice (some a) l.length c/\∀ j v,news[j]?=some v->w.cell? (a.add j)=some v) \/ (x=.slice none 0 0/\l.length=0))/\relR R (a0d (l.flatMap s.enc)) news:=by
 obtain ⟨a,cap,b,off,rfl,_,h2,h3,h4,h5⟩:=h
 cases a with
 | none =>
   have hc:=h3 rfl
   have h0:l.length=0:=by omega
   obtain rfl:=List.length_eq_zero_iff.1 h0;subst hc
   exact ⟨[],.inr ⟨rfl,rfl⟩,trivial⟩
 | some a =>
   rcases eq_zero_or_pos l.length with h0 | h0
   ·obtain rfl:=List.length_eq_zero_iff.1 h0;exact ⟨[],.inl ⟨a,cap,rfl,fun j v hj=>by simp at hj⟩,trivial⟩
   ·obtain rfl:a=⟨b,off,none⟩:=by
     rcases h2 with h2 | h2
     ·omega
     ·simpa using h2
    have key:∀ (l:List s.T) (off:Nat),(∀ i x,l[i]?=some x->ElR R w b (off+i*s.k) (s.enc x))->∃ news,(∀ j v,news[j]?=some v->w.cell? ⟨b,off+j,none⟩=some v)/\relR R (a0d (l.flatMap s.enc)) news:=fun l=>by
     induction l with
     | nil=>exact fun off _=>⟨[],fun j v hj=>by simp at hj,trivial⟩
     | cons y l ih =>
       intro off hh;obtain ⟨us,h1,h2⟩:=hh 0 y rfl
       obtain ⟨news,h3,h4⟩:=ih (off+s.k) (fun i x hx=>by
        have:=hh (i+1) x (by simpa using hx)
        rwa [show off+s.k+i*s.k=off+(i+1)*s.k by rw [Nat.succ_mul]; omega])
       have hul:us.length=s.k:=by rw [<- h2.len,a2Z]
       refine ⟨us ++ news,fun j v hj=>?_,by rw [List.flatMap_cons,a0I]; exact h2.append h4⟩;rcases lt_or_ge j us.length with hlt | hge
       ·rw [List.getElem?_append_left hlt] at hj;have:=h1 j v hj;rwa [Nat.zero_mul,Nat.add_zero] at this
       ·rw [List.getElem?_append_right hge] at hj;have:=h3 _ v hj;rwa [show off+s.k+(j - us.length)=off+j by omega] at this
    obtain ⟨news,k1,k2⟩:=key l off fun i x hx=>(h5 i x hx).2;exact ⟨news,.inl ⟨_,cap,rfl,fun j v hj=>by rw [a1b]; exact k1 j v hj⟩,k2⟩
theorem a4h {bs:Bs}:∀ {l:List AC} {us:List Value},relR (relE bs w) l us->∀ v ∈ us,v.oneCell'=true/\a9n v
 | [],[],_,_,hv=>by cases hv
 | x :: l,u :: us,h,v,hv=>by
   rcases List.mem_cons.1 hv with rfl | hv
   ·refine ⟨rel1.one (aEX _ _ h.1),?_⟩;have h:=h.1
    cases x with
    | v x=>exact h.2.2
    | sl l=>obtain ⟨a,c,rfl⟩:=SlU.form h; intro n e; cases e
    | rd s f l=>obtain ⟨a,c,b,o,rfl,_⟩:=h; intro n e; cases e
    | _=>exact h.elim
   ·exact a4h h.2 v hv
 | [],_ :: _,h,_,_=>h.elim
 | _ :: _,[],h,_,_=>h.elim
end
def idC:AC->Nat
 | .ow n _ _ _=>n+1
 | .os n _ _=>n+1
 | .oe n _ _ _ _=>n+1
 | .oc n _=>n+1
 | _=>0
def idL:List AC->Nat
 | []=>0
 | x :: l=>max (idC x) (idL l)
def idK:AK->Nat
 | .c x=>idC x
 | .g xs=>idL xs
def b3U:List AK->Nat
 | []=>0
 | x :: l=>max (idK x) (b3U l)
def idV:AV->Nat
 | .u=>0
 | .k x=>idK x
 | .t xs=>b3U xs
def idT:List AV->Nat
 | []=>0
 | x :: l=>max (idV x) (idT l)
def ltD (m:Nat):Nat->Bool:=fun j=>Nat.blt j m
theorem aVw {m:Nat} {x:AC} (h:idC x <= m):aBg (ltD m) x=true:=by
 cases x <;> first | rfl | (simp only [idC] at h; simp only [aBg,ltD,blt_eq]; omega)
theorem aVu {m:Nat}:∀ {l:List AC},idL l <= m->a2r (ltD m) l=true
 | [],_=>rfl
 | x :: l,h=>by
   simp only [idL] at h;rw [a2r,aVw (by omega),aVu (by omega)]; rfl
theorem aVv {m:Nat} {x:AK} (h:idK x <= m):aE7 (ltD m) x=true:=by
 cases x with
 | c x=>exact aVw h
 | g l=>exact aVu h
theorem aQt {m:Nat}:∀ {l:List AK},b3U l <= m->a4E (ltD m) l=true
 | [],_=>rfl
 | x :: l,h=>by
   simp only [b3U] at h;rw [a4E,aVv (by omega),aQt (by omega)]; rfl
theorem b1Y {m:Nat} {x:AV} (h:idV x <= m):a8V (ltD m) x=true:=by
 cases x with
 | u=>rfl
 | k x=>exact aVv h
 | t l=>exact aQt h
theorem aIp:∀ {l:List AV} {x:AV},x ∈ l->idV x <= idT l
 | y :: l,x,h=>by
   rcases List.mem_cons.1 h with rfl | h
   ·exact Nat.le_max_left ..
   ·exact Nat.le_trans (aIp h) (Nat.le_max_right ..)
section
variable {d e:Nat->Bool}
theorem aKz {x:AC} (h:aBg d x=true) (g:aBg e x=true):aBg (fun j=>d j && e j) x=true:=by
 cases x <;> first | rfl | (simp only [aBg] at *; rw [h,g]; rfl)
theorem aE5:∀ {l:List AC},a2r d l=true->a2r e l=true->a2r (fun j=>d j && e j) l=true
 | [],_,_=>rfl
 | x :: l,h,g=>by
   simp only [a2r,Bool.and_eq_true] at h g;rw [a2r,aKz h.1 g.1,aE5 h.2 g.2]; rfl
theorem aE6 {x:AK} (h:aE7 d x=true) (g:aE7 e x=true):aE7 (fun j=>d j && e j) x=true:=by
 cases x with
 | c x=>exact aKz h g
 | g l=>exact aE5 h g
theorem aB1:∀ {l:List AK},a4E d l=true->a4E e l=true->a4E (fun j=>d j && e j) l=true
 | [],_,_=>rfl
 | x :: l,h,g=>by
   simp only [a4E,Bool.and_eq_true] at h g;rw [a4E,aE6 h.1 g.1,aB1 h.2 g.2]; rfl
theorem aPk {x:AV} (h:a8V d x=true) (g:a8V e x=true):a8V (fun j=>d j && e j) x=true:=by
 cases x with
 | u=>rfl
 | k x=>exact aE6 h g
 | t l=>exact aB1 h g
end
def aHq (n:Option Nat):Nat->Bool:=fun j=>match n with | some k=>!Nat.beq j k | none=>true
def aNN (m:Nat) (n:Option Nat):Nat->Bool:=fun j=>ltD m j && aHq n j
def a6C (n:Option Nat) (x:AV):AV:=bif a8V (aHq n) x then x else .u
def a5a (n:Option Nat):List AV->List AV
 | []=>[]
 | x :: l=>a6C n x :: a5a n l
theorem aFi (n:Option Nat):∀ l,(a5a n l).length=l.length
 | []=>rfl
 | x :: l=>by rw [a5a,List.length_cons,aFi n l]; rfl
theorem a7h (n:Option Nat):∀ (l:List AV) (i:Nat),(a5a n l)[i]?=(l[i]?).map (a6C n)
 | [],i=>by simp [a5a]
 | x :: l,0=>rfl
 | x :: l,i+1=>by rw [a5a,List.getElem?_cons_succ,a7h n l i]; rfl
theorem a96 (n:Option Nat) (x:AV):a8V (aHq n) (a6C n x)=true:=by
 unfold a6C
 cases h:a8V (aHq n) x with
 | true=>exact h
 | false=>rfl
theorem aFh {n:Option Nat} {m:Nat} {x:AV} (h:idV (a6C n x) <= m):a8V (aNN m n) (a6C n x)=true:=aPk (b1Y h) (a96 n x)
theorem a7g {bs:Bs} {w:World} {n:Option Nat} {x:AV} {u:Value} (h:relV bs w x u):relV bs w (a6C n x) u:=by
 unfold a6C
 cases a8V (aHq n) x with
 | true=>exact h
 | false=>trivial
def Bs.sel (bs:Bs) (m:Nat) (n:Option Nat):Bs:=⟨bs.lo,bs.l,(List.range m).map (fun j=>bif aNN m n j then (bs.ow[j]?).join else none),bs.fb⟩
def Bs.own (bs:Bs) (ob:Option Nat):Bs:=⟨bs.lo,bs.l,bs.ow ++ [ob],bs.fb⟩
def OwOK (bs:Bs) (w:World):Prop:=∀ (n b:Nat),bs.ow[n]?=some (some b)->bs.lo <= b/\b < w.heap.size/\b ∉ bs.l/\∀ m:Nat,bs.ow[m]?=some (some b)->m=n
section
variable {bs:Bs} {w w':World} {m:Nat} {n:Option Nat}
theorem aHN:(bs.sel m n).ow.length=m:=by simp [Bs.sel]
theorem aOC {j:Nat} {ob:Option Nat} (h:aNN m n j=true) (e:bs.ow[j]?=some ob):(bs.sel m n).ow[j]?=some ob:=by
 have hj:j < m:=by
  simp only [aNN,ltD,Bool.and_eq_true,blt_eq] at h;exact h.1
 simp [Bs.sel,hj,h,e]
theorem a4U {j b:Nat} (h:(bs.sel m n).ow[j]?=some (some b)):bs.ow[j]?=some (some b)/\aNN m n j=true:=by
 have hj:j < m:=by
  rcases lt_or_ge j m with h' | h'
  ·exact h'
  ·rw [List.getElem?_eq_none (by rw [aHN]; exact h')] at h; cases h
 simp only [Bs.sel,List.getElem?_map,List.getElem?_range hj,Option.map_some,Option.some.injEq] at h
 cases hs:aNN m n j with
 | false=>rw [hs] at h; cases h
 | true =>
   rw [hs] at h;simp only [cond_true] at h;refine ⟨?_,rfl⟩
   cases hb:bs.ow[j]? with
   | none=>rw [hb] at h; cases h
   | some o=>rw [hb] at h; simp only [Option.join_some] at h; rw [h]
theorem aO4 {ob:Option Nat} {j:Nat} {o:Option Nat} (h:bs.ow[j]?=some o):(bs.own ob).ow[j]?=some o:=by
 have hj:j < bs.ow.length:=(List.getElem?_eq_some_iff.1 h).1;show (bs.ow ++ [ob])[j]?=some o;rw [List.getElem?_append_left hj]; exact h
theorem aKt {ob:Option Nat}:((bs.sel m n).own ob).ow[m]?=some ob:=by
 show ((bs.sel m n).ow ++ [ob])[m]?=some ob;rw [List.getElem?_append_right (by rw [aHN]; exact le_refl _),aHN]; simp
theorem a5v {ob:Option Nat} {j b:Nat} (h:(bs.own ob).ow[j]?=some (some b)):bs.ow[j]?=some (some b) \/ (j=bs.ow.length/\ob=some b):=by
 have h:(bs.ow ++ [ob])[j]?=some (some b):=h;rcases lt_or_ge j bs.ow.length with hj | hj
 ·rw [List.getElem?_append_left hj] at h; exact .inl h
 ·rw [List.getElem?_append_right hj] at h
  have:j - bs.ow.length=0:=by
   rcases eq_zero_or_pos (j - bs.ow.length) with e | e
   ·exact e
   ·rw [List.getElem?_eq_none (by simp; omega)] at h; cases h
  rw [this] at h;exact .inr ⟨by omega,by simpa using h⟩
theorem aMu {ob ob':Option Nat} (ho:OwOK bs w) (hg:w.grownBy w' ob) (hn:∀ b,ob=some b->∃ k,n=some k/\bs.ow[k]?=some (some b))
    (hb:∀ b,ob=some b->∃ cur T,w.heap[b]?=some (.cells cur T (0,0))/\∀ v ∈ cur,a9n v) (hob:ob'=ob \/ ob'=some w.heap.size):KeepD (aNN m n) bs ((bs.sel m n).own ob') w w':=by
 have hblk:∀ k,k < w.heap.size->ob ≠ some k->w'.heap[k]?=w.heap[k]?:=fun k hk h=>hg.block k hk (fun e=>h e.symm)
 have hmem:∀ b,some b ∈ ((bs.sel m n).own ob').ow->some b ∈ bs.ow \/ b=w.heap.size:=fun b h=>by
  obtain ⟨j,hj⟩:=List.getElem?_of_mem h
  rcases a5v hj with h | ⟨_,h⟩
  ·exact .inl (List.mem_of_getElem? (a4U h).1)
  ·rcases hob with e | e
   ·rw [h] at e;obtain ⟨k,_,hk⟩:=hn b e.symm;exact .inl (List.mem_of_getElem? hk)
   ·rw [h] at e; exact .inr (by simpa using e)
 have hfz:∀ b,Fz bs w b->ob ≠ some b:=fun b h e=>by
  obtain ⟨k,_,hk⟩:=hn b e;exact h.2.2.1 (List.mem_of_getElem? hk)
 refine ⟨fun u l h=>?_,fun b o x h=>?_,fun i b h=>h,fun b h1 h2=>?_,fun b h=>⟨⟨lt_of_lt_of_le h.1 hg.size,h.2.1,fun hm=>?_,h.2.2.2⟩,a3a (hblk b h.1 (hfz b h))⟩,fun j o hj hjo=>⟨aO4 (aOC hj hjo),fun b e=>?_⟩,rfl⟩
 ·cases hob':ob with
  | none=>exact h.later (Ext.grown (Ext.refl w) (by rw [hob'] at hg; exact hg) (fun k hk=>by cases hk))
  | some b =>
    obtain ⟨cur,T,h1,h2⟩:=hb b hob';exact a6U h h1 h2 hg.size fun k hk hne=>hblk k hk (by rw [hob']; intro e; cases e; exact hne rfl)
 ·cases hob':ob with
  | none=>exact Later.cell h (Later.mk w' (Ext.grown (Ext.refl w) (by rw [hob'] at hg; exact hg) (fun k hk=>by cases hk)))
  | some b =>
    obtain ⟨cur,T,h1,h2⟩:=hb b hob';exact a6a h h1 h2 fun k hk hne=>hblk k hk (by rw [hob']; intro e; cases e; exact hne rfl)
 ·refine ⟨h1,lt_of_lt_of_le h2 hg.size,a3a (hblk b h2 fun e=>?_)⟩;obtain ⟨k,_,hk⟩:=hn b e;have:=(ho k b hk).1;omega
 ·rcases hmem b hm with h' | h'
  ·exact h.2.2.1 h'
  ·have:=h.1; omega
 ·subst e;refine hblk b (ho j b hjo).2.1 fun e=>?_;obtain ⟨k,hk1,hk2⟩:=hn b e;have:=(ho k b hk2).2.2.2 j hjo;subst this;subst hk1;simp [aNN,aHq] at hj
theorem b1n {ob ob':Option Nat} (ho:OwOK bs w) (hk:okB bs w=true) (hlo:bs.lo <= w.heap.size) (hg:w.heap.size <= w'.heap.size) (hn:∀ b,ob=some b->∃ k,n=some k/\bs.ow[k]?=some (some b)) (hob:ob'=ob \/ (ob'=some w.heap.size/\w.heap.size < w'.heap.size)):OwOK ((bs.sel m n).own ob') w':=by
 have hnew:∀ b,ob'=some b->bs.lo <= b/\b < w'.heap.size/\b ∉ bs.l/\∀ j:Nat,(bs.sel m n).ow[j]? ≠ some (some b):=fun b e=>by
  rcases hob with h | ⟨h,hlt⟩
  ·rw [e] at h;obtain ⟨k,hk1,hk2⟩:=hn b h.symm;obtain ⟨g1,g2,g3,g4⟩:=ho k b hk2;refine ⟨g1,lt_of_lt_of_le g2 hg,g3,fun j hj=>?_⟩;obtain ⟨h1,h2⟩:=a4U hj;have:=g4 j h1;subst this;subst hk1;simp [aNN,aHq] at h2
  ·rw [h] at e;cases e;refine ⟨hlo,hlt,fun hm=>?_,fun j hj=>?_⟩
   ·simp only [okB,Bool.and_eq_true,List.all_eq_true] at hk;have:=hk.1 _ hm;simp at this
   ·have:=(ho j _ (a4U hj).1).2.1;omega
 intro j b hj
 rcases a5v hj with h | ⟨h1,h2⟩
 ·obtain ⟨g1,g2,g3,g4⟩:=ho j b (a4U h).1;refine ⟨g1,lt_of_lt_of_le g2 hg,g3,fun i hi=>?_⟩
  rcases a5v hi with hi | ⟨hi1,hi2⟩
  ·exact g4 i (a4U hi).1
  ·exact absurd h ((hnew b hi2).2.2.2 j)
 ·obtain ⟨g1,g2,g3,g4⟩:=hnew b h2;refine ⟨g1,g2,g3,fun i hi=>?_⟩
  rcases a5v hi with hi | ⟨hi1,hi2⟩
  ·exact absurd hi (g4 i)
  ·rw [hi1,h1]
end
def aQB (n:Nat):AC->AC
 | .ow m t s l=>bif Nat.beq m n then .rd s false l else .ow m t s l
 | .os m s l=>bif Nat.beq m n then .rd s false l else .os m s l
 | .oe m t s l i=>bif Nat.beq m n then .rc (s.enc (l.getD i s.d)) else .oe m t s l i
 | .oc m cs=>bif Nat.beq m n then .rc cs else .oc m cs
 | x=>x
def aVA (n:Nat) (x:AV):AV :=
 match x with
 | .k (.c y)=>.k (.c (aQB n y))
 | x=>a6C (some n) x
def aSJ (n:Nat):List AV->List AV
 | []=>[]
 | x :: l=>aVA n x :: aSJ n l
theorem aK8 (n:Nat):∀ l,(aSJ n l).length=l.length
 | []=>rfl
 | x :: l=>by rw [aSJ,List.length_cons,aK8 n l]; rfl
theorem aK9 (n:Nat):∀ (l:List AV) (i:Nat),(aSJ n l)[i]?=(l[i]?).map (aVA n)
 | [],i=>by simp [aSJ]
 | x :: l,0=>rfl
 | x :: l,i+1=>by rw [aSJ,List.getElem?_cons_succ,aK9 n l i]; rfl
def Bs.frz (bs:Bs) (n:Nat):Bs:=⟨bs.lo,bs.l,bs.ow.set n none,bs.fb⟩
section
variable {bs:Bs} {w:World} {n:Nat}
theorem aAq {j b:Nat} (h:(bs.frz n).ow[j]?=some (some b)):bs.ow[j]?=some (some b)/\j ≠ n:=by
 have h:(bs.ow.set n none)[j]?=some (some b):=h;rw [List.getElem?_set] at h;split at h
 ·split at h <;> cases h
 ·rename_i hne;exact ⟨h,fun e=>hne e.symm⟩
theorem aYX {j:Nat} {o:Option Nat} (h:bs.ow[j]?=some o) (hj:j ≠ n):(bs.frz n).ow[j]?=some o:=by
 show (bs.ow.set n none)[j]?=some o;rw [List.getElem?_set,if_neg (fun e=>hj e.symm)]; exact h
theorem b2d (ho:OwOK bs w):OwOK (bs.frz n) w:=fun j b hj=>by
 obtain ⟨h1,h2,h3,h4⟩:=ho j b (aAq hj).1;exact ⟨h1,h2,h3,fun m hm=>h4 m (aAq hm).1⟩
theorem aDf:KeepD (aHq (some n)) bs (bs.frz n) w w:=by
 refine ⟨fun _ _ h=>h,fun _ _ _ h=>h,fun _ _ h=>h,fun _ h1 h2=>⟨h1,h2,fun _=>rfl⟩,fun b h=>⟨⟨h.1,h.2.1,fun hm=>?_,h.2.2.2⟩,fun _=>rfl⟩,fun j o hj e=>⟨aYX e (by rintro rfl; simp [aHq] at hj),fun _ _=>rfl⟩,rfl⟩;obtain ⟨j,hj⟩:=List.getElem?_of_mem hm;exact h.2.2.1 (List.mem_of_getElem? (aAq hj).1)
theorem aK7 (ho:OwOK bs w) (hf:∀ b,some b ∈ bs.fb->b < bs.lo) (hz:none ∉ bs.fb) {b:Nat} (h:bs.ow[n]?=some (some b)):Fz (bs.frz n) w b:=by
 obtain ⟨h1,h2,h3,h4⟩:=ho n b h;refine ⟨h2,h3,fun hm=>?_,fun hm=>by have:=hf b hm; omega,hz⟩;obtain ⟨j,hj⟩:=List.getElem?_of_mem hm;exact (aAq hj).2 (h4 j (aAq hj).1)
theorem aDh (ho:OwOK bs w) (hf:∀ b,some b ∈ bs.fb->b < bs.lo) (hz:none ∉ bs.fb) {x:AC} {u:Value} (h:rel1 bs w x u):rel1 (bs.frz n) w (aQB n x) u:=by
 have hk:KeepD (aHq (some n)) bs (bs.frz n) w w:=aDf;have other:∀ {y:AC},aBg (aHq (some n)) y=true->rel1 bs w y u->rel1 (bs.frz n) w y u:=fun hn g=>hk.rel1 hn g
 have ne:∀ {m:Nat},Nat.beq m n=false->(!Nat.beq m n)=true:=fun e=>by rw [e]; rfl
 cases x with
 | ow m t s l =>
   simp only [aQB]
   cases hm:Nat.beq m n with
   | false=>exact other (ne hm) h
   | true =>
     obtain rfl:m=n:=by simpa using hm
     obtain ⟨ob,e,g⟩:=h
     exact RdR.keep (w:=w) hk.relE (fun b hb=>⟨hb,fun _=>rfl⟩) (g.rd (B:=Fz (bs.frz m) w) fun b hb=>aK7 ho hf hz (by rw [e,hb]))
 | os m s l =>
   simp only [aQB]
   cases hm:Nat.beq m n with
   | false=>exact other (ne hm) h
   | true =>
     obtain rfl:m=n:=by simpa using hm
     exact RdR.keep (w:=w) hk.relE (fun b hb=>⟨aK7 ho hf hz hb,fun _=>rfl⟩) h
 | oe m t s l i =>
   simp only [aQB]
   cases hm:Nat.beq m n with
   | false=>exact other (ne hm) h
   | true =>
     obtain rfl:m=n:=by simpa using hm
     obtain ⟨b,cap,e,e2,hi,g⟩:=h
     exact ⟨b,_,e2,aK7 ho hf hz e,(g.el hi).keep hk.relE fun _=>rfl⟩
 | oc m cs =>
   simp only [aQB]
   cases hm:Nat.beq m n with
   | false=>exact other (ne hm) h
   | true =>
     obtain rfl:m=n:=by simpa using hm
     obtain ⟨b,o,e,e2,g⟩:=h
     exact ⟨b,_,e2,aK7 ho hf hz e,g.keep hk.relE fun _=>rfl⟩
 | _=>exact other rfl h
theorem aDg (ho:OwOK bs w) (hf:∀ b,some b ∈ bs.fb->b < bs.lo) (hz:none ∉ bs.fb) {x:AV} {u:Value} (h:relV bs w x u):relV (bs.frz n) w (aVA n x) u:=by
 unfold aVA;split
 ·exact aDh ho hf hz h
 ·exact aDf.relV (a96 _ _) (a7g h)
end
structure App where
 n:Option Nat
 T:Nat
 s:Sc
 l:List s.T
 r:List s.T
def aUz:(s s':Sc)->List s'.T->Option (List s.T)
 | .P,.P,l=>some l
 | .U,.U,l=>some l
 | .V,.V,l=>some l
 | .C,.C,l=>some l
 | .F,.F,l=>some l
 | _,_,_=>none
theorem a6I {s s':Sc} {l:List s'.T} {r:List s.T} (h:aUz s s' l=some r):∃ e:s'=s,e ▸ l=r:=by
 cases s <;> cases s' <;> first | (cases h; done) | (simp only [aUz,Option.some.injEq] at h; exact ⟨rfl,h⟩)
def aJy (s:Sc) (T:Nat):AV->Option (Option Nat × List s.T)
 | .k (.c (.v (.slice none 0 0)))=>some (none,[])
 | .k (.c (.ow n T' s' l))=>bif Nat.beq T T' then (aUz s s' l).map fun r=>(some n,r) else none
 | _=>none
def aLV (s:Sc):AV->Option (List s.T)
 | .k (.c (.v (.slice none 0 0)))=>some []
 | .k (.c (.rd s' _ l))=>aUz s s' l
 | .k (.c (.ow _ _ s' l))=>aUz s s' l
 | .k (.c (.os _ s' l))=>aUz s s' l
 | _=>none
def b40 (L:List Lay) (ev:Operand->AV) (c:Call):Option App :=
 match c.callee,c.args.toList,c.argTypes.toList with
 | .builtin .append,[x,y],[S,S'] =>
   match a09 L S with
   | some d =>
     match aTj d.kd with
     | some s =>
       match aJy s d.el (ev x),aLV s (ev y) with
       | some (n,l),some r=>bif Nat.beq S S' then some ⟨n,d.el,s,l,r⟩ else none
       | _,_=>none
     | none=>none
   | none=>none
 | _,_,_=>none
theorem aJx {bs:Bs} {w:World} {s:Sc} {T:Nat} {x:AV} {u:Value} {n:Option Nat} {l:List s.T} (h:aJy s T x=some (n,l)) (k:relV bs w x u):∃ ob,OwR (relE bs w) bs.lo w u T s l ob/\(∀ b,ob=some b->∃ k,n=some k/\bs.ow[k]?=some (some b)):=by
 unfold aJy at h;split at h
 ·cases h;exact ⟨none,.inl ⟨rfl,k.1,rfl⟩,fun b e=>by cases e⟩
 ·rename_i n' T' s' l'
  cases hT:Nat.beq T T' with
  | false=>rw [hT] at h; cases h
  | true =>
    rw [hT] at h;simp only [cond_true,Option.map_eq_some_iff,Prod.mk.injEq] at h;obtain ⟨r,hr,rfl,rfl⟩:=h
    obtain rfl:T=T':=by simpa using hT
    obtain ⟨rfl,rfl⟩:=a6I hr;obtain ⟨ob,e,g⟩:=k;exact ⟨ob,g,fun b hb=>⟨n',rfl,by rw [e,hb]⟩⟩
 ·cases h
theorem aCr {bs:Bs} {w:World} {s:Sc} {x:AV} {u:Value} {r:List s.T} (h:aLV s x=some r) (k:relV bs w x u):∃ B f,RdR (relE bs w) B w u s f r:=by
 unfold aLV at h;split at h
 ·cases h;obtain ⟨rfl,_⟩:=k;exact ⟨fun _=>True,false,none,0,0,0,rfl,(by intro h; cases h),.inl rfl,fun _=>rfl,le_refl _,fun i x hx=>by simp at hx⟩
 ·obtain ⟨rfl,rfl⟩:=a6I h;exact ⟨_,_,k⟩
 ·obtain ⟨rfl,rfl⟩:=a6I h;obtain ⟨ob,_,g⟩:=k;exact ⟨fun _=>True,_,g.rd fun _ _=>trivial⟩
 ·obtain ⟨rfl,rfl⟩:=a6I h;exact ⟨_,_,k⟩
 ·cases h
