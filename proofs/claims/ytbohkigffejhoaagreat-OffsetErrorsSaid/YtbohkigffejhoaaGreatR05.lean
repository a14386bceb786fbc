import Derived.WalkKit
open List (getLast_cons mem_cons_self take_of_length_le)
open Nat (eq_zero_or_pos mod_lt mul_add mul_comm mul_le_mul_left mul_le_mul_right mul_pos pos_of_ne_zero pow_succ)
namespace Go.Proofs.YtbohkigffejhoaaGreat
open Go.RowKit
namespace Vc
structure Vx where
 vx:Rat
 vy:Rat
structure Rx where
 ra:Rat
 rb:Rat
 rc:Rat
structure Px where
 a:Rat
 b:Rat
 c:Rat
 d:Rat
 e:Rat
structure Dx where
 da:Rat
 db:Rat
 dc:Rat
 dd:Rat
 dm:Rat
 dn:Rat
structure Lx where
 la:Rat
 lb:Rat
 lc:Rat
structure Kx where
 kx:Rat
 ky:Rat
 kq:Rat
structure Ux where
 arc:Bool
 l:Lx
 k:Kx
 cw:Bool
 f:Px
 t:Px
structure Wx where
 wr:Int
 wok:Bool
 wv:Rx
structure Fx where
 fk:Int
 fu:Int
 fa:Int
 fb:Int
 fc:Int
 fd:Int
 fl:List (Int × Int)
inductive Sc
 | P
 | U
 | V
 | C
 | F
abbrev Sc.T:Sc->Type
 | .P=>Px
 | .U=>Ux
 | .V=>Vx
 | .C=>Int × Int
 | .F=>Fx
def Sc.k:Sc->Nat
 | .P=>20
 | .U=>66
 | .V=>8
 | .C=>2
 | .F=>7
def dfP:Px:=⟨0,0,0,0,0⟩
def dfU:Ux:=⟨false,⟨0,0,0⟩,⟨0,0,0⟩,false,dfP,dfP⟩
def Sc.d:(s:Sc)->s.T
 | .P=>dfP
 | .U=>dfU
 | .V=>⟨0,0⟩
 | .C=>(0,0)
 | .F=>⟨0,0,0,0,0,0,[]⟩
end Vc
end Go.Proofs.YtbohkigffejhoaaGreat
namespace Go.Proofs.YtbohkigffejhoaaGreat
namespace Lb
def B:Nat:=1000000000
theorem a9f:B=1000000000:=rfl
theorem a3w:0 < B:=by decide
def val:List Nat->Nat
 | []=>0
 | x :: l=>x+B*val l
def Lt (l:List Nat):Prop:=∀ x ∈ l,x < B
theorem aW1:val []=0:=rfl
theorem a2a (x:Nat) (l:List Nat):val (x :: l)=x+B*val l:=rfl
theorem val_append:∀ (l m:List Nat),val (l ++ m)=val l+B ^ l.length*val m
 | [],m=>by simp [val]
 | x :: l,m=>by
   rw [List.cons_append,a2a,a2a,val_append l m,List.length_cons,pow_succ];grind
theorem a6P (l:List Nat) (x:Nat):val (l ++ [x])=val l+B ^ l.length*x:=by rw [val_append]; simp [val]
theorem aEH:∀ n,val (List.replicate n 0)=0
 | 0=>rfl
 | n+1=>by rw [List.replicate_succ,a2a,aEH n]; rfl
theorem a4k:Lt []:=fun _ h=>by cases h
theorem aTK (n:Nat):Lt (List.replicate n 0):=fun x h=>by rw [List.eq_of_mem_replicate h]; exact a3w
theorem a4v {x:Nat} {l:List Nat} (h:x < B) (k:Lt l):Lt (x :: l):=fun y hy=>by
 rcases List.mem_cons.1 hy with rfl | hy
 ·exact h
 ·exact k y hy
theorem aCY {x:Nat} {l:List Nat} (h:Lt (x :: l)):Lt l:=fun y hy=>h y (List.mem_cons_of_mem _ hy)
theorem a3T {l m:List Nat} (h:Lt l) (k:Lt m):Lt (l ++ m):=fun y hy=>by
 rcases List.mem_append.1 hy with hy | hy
 ·exact h y hy
 ·exact k y hy
theorem aH9 {l:List Nat} (h:Lt l) (n:Nat):Lt (l.take n):=fun y hy=>h y (List.mem_of_mem_take hy)
theorem aPu {l:List Nat} (h:Lt l) (n:Nat):Lt (l.drop n):=fun y hy=>h y (List.mem_of_mem_drop hy)
theorem aPt {l:List Nat} (h:Lt l) (i x:Nat) (hx:x < B):Lt (l.set i x):=fun y hy=>by
 rcases List.mem_or_eq_of_mem_set hy with hy | rfl
 ·exact h y hy
 ·exact hx
theorem a2I {l:List Nat} (h:Lt l) (i:Nat) (hi:i < l.length):l[i] < B:=h _ (List.getElem_mem hi)
theorem a6g:∀ {l:List Nat},Lt l->val l < B ^ l.length
 | [],_=>by simp [val]
 | x :: l,h=>by
   have h1:=a6g (aCY h);have h2:x < B:=h x (mem_cons_self ..);rw [a2a,List.length_cons,pow_succ]
   have:B*val l+B <= B*B ^ l.length:=by rw [<- Nat.mul_succ]; exact mul_le_mul_left _ h1
   rw [mul_comm (B ^ l.length)];omega
theorem a19 (l:List Nat) (i:Nat) (hi:i <= l.length):val l=val (l.take i)+B ^ i*val (l.drop i):=by
 conv=>lhs; rw [<- List.take_append_drop i l,val_append]
 simp [Nat.min_eq_left hi]
theorem aCB (l:List Nat) (i:Nat) (hi:i < l.length):val (l.take (i+1))=val (l.take i)+B ^ i*l[i]:=by
 rw [List.take_succ_eq_append_getElem hi,a6P];simp [Nat.min_eq_left (Nat.le_of_lt hi)]
theorem a2T (l:List Nat) (i:Nat) (hi:i < l.length):val (l.drop i)=l[i]+B*val (l.drop (i+1)):=by
 rw [List.drop_eq_getElem_cons hi,a2a]
theorem aOh (l:List Nat) (i y:Nat) (hi:i < l.length):val (l.set i y)+B ^ i*l[i]=val l+B ^ i*y:=by
 induction l generalizing i with
 | nil=>simp at hi
 | cons x l ih =>
   cases i with
   | zero=>simp [a2a]; omega
   | succ i =>
     have:=ih i (by simpa using hi);simp only [List.set_cons_succ,a2a,List.getElem_cons_succ,pow_succ];grind
theorem aU0 (l:List Nat) (h:l ≠ []):B ^ (l.length - 1)*l.getLast h <= val l:=by
 have e:=List.dropLast_concat_getLast h
 have h2:val l=val (l.dropLast ++ [l.getLast h]):=by rw [e]
 rw [h2,a6P];simp
def a6v (l:List Nat):Prop:=Lt l/\∀ h:l ≠ [],l.getLast h ≠ 0
theorem aKx:a6v []:=⟨a4k,fun h=>absurd rfl h⟩
theorem aE3 {x:Nat} {l:List Nat} (h:a6v (x :: l)):a6v l:=⟨aCY h.1,fun hl=>by have:=h.2 (by simp); rwa [getLast_cons hl] at this⟩
theorem aE1 {l:List Nat} (h:a6v l) (hv:val l=0):l=[]:=by
 by_cases hl:l=[]
 ·exact hl
 ·have h1:=aU0 l hl;have h2:=h.2 hl;have h3:0 < B ^ (l.length - 1)*l.getLast hl:=mul_pos (Nat.pow_pos a3w) (pos_of_ne_zero h2);omega
theorem a9P:∀ {l m:List Nat},a6v l->a6v m->val l=val m->l=m
 | [],m,_,hm,h=>(aE1 hm h.symm).symm
 | l,[],hl,_,h=>aE1 hl h
 | x :: l,y :: m,hl,hm,h=>by
   have h1:x < B:=hl.1 x (mem_cons_self ..);have h2:y < B:=hm.1 y (mem_cons_self ..);rw [a2a,a2a,a9f] at h;rw [a9f] at h1 h2
   obtain rfl:x=y:=by omega
   rw [a9P (aE3 hl) (aE3 hm) (by omega)]
theorem aKw {l:List Nat} (h:a6v l) (hl:l ≠ []):B ^ (l.length - 1) <= val l:=by
 have h1:=aU0 l hl;have h2:=h.2 hl;have:B ^ (l.length - 1)*1 <= B ^ (l.length - 1)*l.getLast hl:=mul_le_mul_left _ (pos_of_ne_zero h2);omega
def trim:List Nat->List Nat
 | []=>[]
 | x :: l=>if trim l=[]/\x=0 then [] else x :: trim l
theorem aCA:∀ l,val (trim l)=val l
 | []=>rfl
 | x :: l=>by
   have ih:=aCA l;unfold trim;split
   ·rename_i h;rw [a2a,<- ih,h.1,h.2]; rfl
   ·rw [a2a,a2a,ih]
theorem aH8:∀ {l:List Nat},Lt l->Lt (trim l)
 | [],_=>a4k
 | x :: l,h=>by
   unfold trim;split
   ·exact a4k
   ·exact a4v (h x (mem_cons_self ..)) (aH8 (aCY h))
theorem aE2:∀ {l:List Nat},Lt l->a6v (trim l)
 | [],_=>aKx
 | x :: l,h=>by
   have ih:=aE2 (aCY h);refine ⟨aH8 h,fun hne=>?_⟩;unfold trim at hne ⊢;split at hne
   ·exact absurd rfl hne
   ·rename_i hc
    by_cases ht:trim l=[]
    ·simp only [ht,true_and] at hc;simp [ht,hc]
    ·have h3:=ih.2 ht;have h4:¬ (trim l=[]/\x=0):=hc;simp only [if_neg h4];rw [getLast_cons ht];exact h3
theorem a4s:∀ l:List Nat,trim (l ++ [0])=trim l
 | []=>by simp [trim]
 | x :: l=>by
   rw [List.cons_append,trim,trim,a4s l]
theorem a6T:∀ {l:List Nat},(∀ h:l ≠ [],l.getLast h ≠ 0)->trim l=l
 | [],_=>rfl
 | x :: l,h=>by
   unfold trim
   by_cases hl:l=[]
   ·subst hl;have h1:x ≠ 0:=h (by simp);simp [trim,h1]
   ·have ih:=a6T (l:=l) (fun hl=>by have:=h (by simp); rwa [getLast_cons hl] at this);rw [ih,if_neg (fun k=>hl k.1)]
theorem aHF (l:List Nat):(trim l).length <= l.length:=by
 induction l with
 | nil=>simp [trim]
 | cons x l ih =>
   unfold trim;split
   ·simp
   ·simp; exact ih
def limbs (n:Nat):List Nat:=if n=0 then [] else (n % B) :: limbs (n / B)
termination_by n
decreasing_by exact Nat.div_lt_self (pos_of_ne_zero ‹_›) (by decide)
theorem a1h:limbs 0=[]:=by unfold limbs; simp
theorem a2i {n:Nat} (h:n ≠ 0):limbs n=(n % B) :: limbs (n / B):=by rw [limbs]; simp [h]
theorem a0F (n:Nat):val (limbs n)=n:=by
 induction n using Nat.strongRecOn with
 | _ n ih =>
   by_cases h:n=0
   ·subst h; rw [a1h]; rfl
   ·rw [a2i h,a2a,ih _ (Nat.div_lt_self (pos_of_ne_zero h) (by decide))];exact Nat.mod_add_div n B
theorem a0q (n:Nat):a6v (limbs n):=by
 induction n using Nat.strongRecOn with
 | _ n ih =>
   by_cases h:n=0
   ·subst h; rw [a1h]; exact aKx
   ·have h1:=ih _ (Nat.div_lt_self (pos_of_ne_zero h) (by decide:1 < B));rw [a2i h];refine ⟨a4v (mod_lt _ a3w) h1.1,fun hne=>?_⟩;by_cases h2:n / B=0
    ·have h3:limbs (n / B)=[]:=by rw [h2,a1h]
     simp only [h3,List.getLast_singleton]
     rw [a9f] at *
     omega
    ·have h3:limbs (n / B) ≠ []:=by rw [a2i h2]; simp
     rw [getLast_cons h3];exact h1.2 h3
theorem a4t {l:List Nat} (h:Lt l):trim l=limbs (val l):=a9P (aE2 h) (a0q _) (by rw [aCA,a0F])
theorem a08 {n k:Nat} (h:n < B ^ k):(limbs n).length <= k:=by
 by_cases hl:limbs n=[]
 ·rw [hl]; simp
 ·have h1:=aKw (a0q n) hl;rw [a0F] at h1;have h2:B ^ ((limbs n).length - 1) < B ^ k:=Nat.lt_of_le_of_lt h1 h;have h3:=(Nat.pow_lt_pow_iff_right (a:=B) (n:=(limbs n).length - 1) (m:=k) (by decide)).1 h2;omega
theorem a07 (n:Nat):n < B ^ (limbs n).length:=by have:=a6g (a0q n).1; rwa [a0F] at this
theorem aFb {a b:List Nat} (ha:Lt a) (i:Nat) (h1:i < a.length) (h2:i < b.length) (he:a.drop (i+1)=b.drop (i+1)) (h:a[i] < b[i]):val a < val b:=by
 rw [a19 a i (by omega),a19 b i (by omega),a2T a i h1,a2T b i h2,he];have h3:=a6g (aH9 ha i);rw [List.length_take,Nat.min_eq_left (by omega)] at h3;have h4:B ^ i*(a[i]+1) <= B ^ i*b[i]:=mul_le_mul_left _ h;rw [mul_add,mul_add];rw [mul_add] at h4;omega
theorem a9V {a b:List Nat} (ha:a6v a) (hb:a6v b) (h:a.length < b.length):val a < val b:=by
 have h1:=a6g ha.1
 have hne:b ≠ []:=by intro e; rw [e] at h; simp at h
 have h2:=aKw hb hne;have h3:B ^ a.length <= B ^ (b.length - 1):=Nat.pow_le_pow_right a3w (by omega);omega
theorem a2x (l:List Nat) (i:Nat):val (l.take (i+1))=val (l.take i)+B ^ i*l.getD i 0:=by
 by_cases h:i < l.length
 ·rw [aCB l i h]; simp [h]
 ·rw [take_of_length_le (by omega),take_of_length_le (by omega)];simp [h]
theorem aOX {a b o:List Nat} {i c c' x:Nat} (ho:o.length=i) (h:val o+B ^ i*c=val (a.take i)+val (b.take i)) (hx:x+B*c'=a.getD i 0+b.getD i 0+c) :
    val (o ++ [x])+B ^ (i+1)*c'=val (a.take (i+1))+val (b.take (i+1)):=by
 rw [a6P,ho,a2x,a2x,pow_succ]
 have h2:B ^ i*(x+B*c')=B ^ i*(a.getD i 0+b.getD i 0+c):=by rw [hx]
 clear hx
 generalize B ^ i=P at *
 generalize B=b0 at *
 grind
theorem aB3 {a b o:List Nat} {i c c' x:Nat} (ho:o.length=i) (h:val o+val (b.take i)=val (a.take i)+B ^ i*c) (hx:x+b.getD i 0+c=a.getD i 0+B*c') :
    val (o ++ [x])+val (b.take (i+1))=val (a.take (i+1))+B ^ (i+1)*c':=by
 rw [a6P,ho,a2x,a2x,pow_succ]
 have h2:B ^ i*(x+b.getD i 0+c)=B ^ i*(a.getD i 0+B*c'):=by rw [hx]
 clear hx
 generalize B ^ i=P at *
 generalize B=b0 at *
 grind
theorem a2F {o:List Nat} {i n x:Nat} (ho:o.length=i) (hi:i < n):(o ++ List.replicate (n - i) 0).set i x=(o ++ [x]) ++ List.replicate (n - (i+1)) 0:=by
 subst ho;rw [show n - o.length=(n - (o.length+1))+1 by omega,List.replicate_succ,List.set_append_right _ _ (Nat.le_refl _),Nat.sub_self,List.set_cons_zero];simp
theorem aPq {a b o:List Nat} {n c:Nat} (ha:a.length=n) (hb:b.length <= n) (ho:o.length=n) (hl:Lt o) (hc:c <= 1) (h:val o+val (b.take n)=val (a.take n)+B ^ n*c) (hle:val b <= val a):val o=val a - val b:=by
 rw [take_of_length_le (by omega),take_of_length_le (by omega)] at h;have h1:=a6g hl;rw [ho] at h1
 have:c=0:=by
  rcases eq_zero_or_pos c with h2 | h2
  ·exact h2
  ·have:c=1:=by omega
   subst this;omega
 subst this;omega
theorem aMm {S o P Q b0 r q t u x y c T V R:Nat} (h1:S+R*u=o+R*r) (h2:r+b0*q=t) (hR:R=P*Q) (ht:t=u+x*y+c) (h:o+R*c=V+P*(x*T)) :
    S+R*b0*q=V+P*(x*(T+Q*y)):=by
 subst hR ht
 have h3:P*Q*(r+b0*q)=P*Q*(u+x*y+c):=by rw [h2]
 grind
theorem aMd {o:List Nat} {i k y t c V x:Nat} {b:List Nat} (hi:i+k < o.length) (h:val o+B ^ (i+k)*c=V+B ^ i*(x*val (b.take k))) (hy:b.getD k 0=y) (ht:t=o[i+k]+x*y+c) :
    val (o.set (i+k) (t % B))+B ^ (i+(k+1))*(t / B)=V+B ^ i*(x*val (b.take (k+1))):=by
 have h1:=aOh o (i+k) (t % B) hi;have h2:=Nat.mod_add_div t B;rw [a2x,hy,show i+(k+1)=(i+k)+1 by omega,pow_succ];exact aMm h1 h2 (Nat.pow_add ..) ht h
theorem aHG {o x y c:Nat} (ho:o < B) (hx:x < B) (hy:y < B) (hc:c < B):(o+x*y+c) / B < B/\o+x*y+c < B*B:=by
 have h1:x*y <= (B - 1)*(B - 1):=Nat.mul_le_mul (by omega) (by omega)
 have h2:o+x*y+c < B*B:=by
  rw [a9f] at *
  omega
 exact ⟨Nat.div_lt_of_lt_mul h2,h2⟩
theorem aOo {o:List Nat} {j c V x:Nat} {i:Nat} {b:List Nat} (hj:j < o.length) (h0:o[j]=0) (hjj:j=i+b.length) (h:val o+B ^ (i+b.length)*c=V+B ^ i*(x*val (b.take b.length))):val (o.set j c)=V+B ^ i*(x*val b):=by
 subst hjj;have h1:=aOh o (i+b.length) c hj;rw [h0] at h1;rw [take_of_length_le (Nat.le_refl _)] at h;omega
theorem aFK {l:List Nat} {m:Nat} (hm:m <= l.length) (h:val l < B ^ m):val (l.drop m)=0/\val l=val (l.take m):=by
 have h1:=a19 l m hm
 have h2:val (l.drop m)=0:=by
  rcases eq_zero_or_pos (val (l.drop m)) with h2 | h2
  ·exact h2
  ·have:B ^ m*1 <= B ^ m*val (l.drop m):=mul_le_mul_left _ h2;omega
 rw [h2] at h1;exact ⟨h2,by omega⟩
section guess
variable {P T u2 W0 v1 v2 V0 W V b g rest:Nat}
theorem aIr (hW:W=(T*b+u2)*P+W0) (hW0:W0 < P) (hu:u2 < b) (hV:V=(v1*b+v2)*P+V0) (hv1:0 < v1):W / V <= T / v1:=by
 rw [Nat.le_div_iff_mul_le hv1];have h1:W / V*V <= W:=Nat.div_mul_le_self ..
 generalize W / V=q at *
 have h2:q*v1*(b*P) <= q*V:=by
  rw [hV]
  have:q*((v1*b+v2)*P+V0)=q*v1*(b*P)+q*v2*P+q*V0:=by grind
  omega
 have h3:W < (T+1)*(b*P):=by
  have h4:(u2+1)*P <= b*P:=mul_le_mul_right _ hu
  have h5:(T+1)*(b*P)=T*b*P+b*P:=by grind
  have h6:(T*b+u2)*P=T*b*P+u2*P:=by grind
  rw [Nat.succ_mul] at h4;omega
 have h7:q*v1*(b*P) < (T+1)*(b*P):=by omega
 have:=Nat.lt_of_mul_lt_mul_right h7;omega
theorem aMG (hW:W=(T*b+u2)*P+W0) (hW0:W0 < P) (hV:V=(v1*b+v2)*P+V0) (hg:g*v1+rest=T) (ht:rest*b+u2 < g*v2):W / V < g:=by
 have h1:(T*b+u2+1)*P <= g*(v1*b+v2)*P:=by
  refine mul_le_mul_right _ ?_;subst hg
  have e1:(g*v1+rest)*b=g*(v1*b)+rest*b:=by grind
  have e2:g*(v1*b+v2)=g*(v1*b)+g*v2:=by grind
  omega
 have h2:W < V*g:=by
  have e3:V*g=g*(v1*b+v2)*P+V0*g:=by rw [hV]; grind
  have e4:(T*b+u2+1)*P=(T*b+u2)*P+P:=by grind
  omega
 exact Nat.div_lt_of_lt_mul h2
theorem aMH (hP:0 < P) (hW:W=(T*b+u2)*P+W0) (hV:V=(v1*b+v2)*P+V0) (hV0:V0 < P) (hv1:0 < v1) (hg:g*v1+rest=T) (ht:g*v2 <= rest*b+u2) (hb:g < b):g <= W / V+1:=by
 have hVpos:0 < V:=by
  rw [hV]
  have:0 < b:=by omega
  have:0 < (v1*b+v2)*P:=mul_pos (by have:=mul_pos hv1 this; omega) hP;omega
 have h1:g*(v1*b+v2)*P <= W:=by
  rw [hW]
  have:g*(v1*b+v2) <= T*b+u2:=by
   subst hg
   have e1:(g*v1+rest)*b=g*(v1*b)+rest*b:=by grind
   have e2:g*(v1*b+v2)=g*(v1*b)+g*v2:=by grind
   omega
  have:=mul_le_mul_right P this;omega
 rcases Nat.lt_or_ge (W / V+1) g with hc | hc
 ·exfalso
  have h3:W < (W / V+1)*V:=by
   have:=Nat.div_add_mod W V;have h4:=mod_lt W hVpos;rw [Nat.succ_mul,mul_comm];omega
  generalize W / V=q at *
  have h5:(q+2)*((v1*b+v2)*P) <= g*((v1*b+v2)*P):=mul_le_mul_right _ hc
  have h6:g*((v1*b+v2)*P)=g*(v1*b+v2)*P:=by grind
  have h7:(q+1)*V=(q+1)*((v1*b+v2)*P)+(q+1)*V0:=by rw [hV]; grind
  have h8:(q+1)*V0 < (q+1)*P:=Nat.mul_lt_mul_of_pos_left hV0 (by omega);have h9:(q+1)*P <= b*P:=mul_le_mul_right _ (by omega);have h10:b*P <= (v1*b+v2)*P:=mul_le_mul_right _ (by have:1*b <= v1*b:=mul_le_mul_right _ hv1; omega)
  have h11:(q+2)*((v1*b+v2)*P)=(q+1)*((v1*b+v2)*P)+(v1*b+v2)*P:=by grind
  omega
 ·exact hc
end guess
theorem aOf {x r V:Nat} (hx:x < B) (hr:r < V):x+B*r < B*V:=by
 have:B*(r+1) <= B*V:=mul_le_mul_left _ hr;rw [Nat.mul_succ] at this;omega
theorem aMi {b n t:Nat} (h:b < (t+1)*B ^ n):b*(B / (t+1)) < B ^ (n+1):=by
 have h1:B / (t+1)*(t+1) <= B:=Nat.div_mul_le_self ..;by_cases h0:B / (t+1)=0
 ·rw [h0,Nat.mul_zero]; exact Nat.pow_pos a3w
 ·have h2:b*(B / (t+1)) < (t+1)*B ^ n*(B / (t+1)):=Nat.mul_lt_mul_of_pos_right h (pos_of_ne_zero h0)
  have h3:(t+1)*B ^ n*(B / (t+1))=B ^ n*(B / (t+1)*(t+1)):=by
   generalize B / (t+1)=s;generalize B ^ n=p;grind
  have h4:B ^ n*(B / (t+1)*(t+1)) <= B ^ n*B:=mul_le_mul_left _ h1;rw [pow_succ];omega
theorem aBO {a b s Q R:Nat} (h:a*s=Q*(b*s)+R) (hR:R < b*s):Q=a / b/\R=a % b*s:=by
 rcases eq_zero_or_pos s with h0 | h0
 ·subst h0; simp at hR
 ·have hb:0 < b:=by
   rcases eq_zero_or_pos b with h1 | h1
   ·subst h1; simp at hR
   ·exact h1
  have h1:=Nat.div_add_mod a b;have h2:=mod_lt a hb;have hR':a % b*s < b*s:=Nat.mul_lt_mul_of_pos_right h2 h0
  have h3:a*s=a / b*(b*s)+a % b*s:=by
   have:(b*(a / b)+a % b)*s=a / b*(b*s)+a % b*s:=by
    generalize a / b=q; generalize a % b=r; grind
   rw [<- this,h1]
  have hp:0 < b*s:=mul_pos hb h0
  have e1:a*s / (b*s)=Q:=by rw [h,mul_comm Q]; rw [Nat.mul_add_div hp,Nat.div_eq_of_lt hR]; rfl
  have e2:a*s / (b*s)=a / b:=by rw [h3,mul_comm (a / b)]; rw [Nat.mul_add_div hp,Nat.div_eq_of_lt hR']; rfl
  have e:Q=a / b:=by omega
  subst e;exact ⟨rfl,by omega⟩
