import Derived.Test.YtbohkigffejhoaaGreatR07
import Derived.Test.YtbohkigffejhoaaGreatR08
import Derived.Outline
import Derived.Test.YtbohkigffejhoaaGreatR05
import Derived.Test.YtbohkigffejhoaaGreatR02
namespace Go.Proofs.YtbohkigffejhoaaGreat
open Go.RowKit
set_option maxRecDepth 8000
def szI (z:Int):Nat:=(Lb.limbs z.natAbs).length
theorem a5i {z:Int} {k:Nat} (h:z.natAbs < Lb.B ^ k):szI z <= k:=Lb.a08 h
theorem aVh (z:Int):z.natAbs < Lb.B ^ szI z:=Lb.a07 _
theorem a5y {z:Int} {k:Nat} (h:szI z <= k):z.natAbs < Lb.B ^ k:=Nat.lt_of_lt_of_le (aVh z) (Nat.pow_le_pow_right Lb.a3w h)
theorem aXf {x y:Int} {m n:Nat} (hx:szI x <= m) (hy:szI y <= n):szI (x*y) <= m+n:=by
 refine a5i ?_;rw [Int.natAbs_mul,Nat.pow_add];exact Nat.mul_lt_mul'' (a5y hx) (a5y hy)
theorem a2W {x y:Int} {m:Nat} (hy:szI y <= m) (h:x.natAbs <= y.natAbs):szI x <= m:=a5i (Nat.lt_of_le_of_lt h (a5y hy))
theorem IsI.lt (z:Int):Lb.Lt (Lb.limbs z.natAbs):=(Lb.a0q _).1
theorem aKL {W:World} {b:Nat} {cs:Array Value} {t:TypeId} {fz:Nat × Nat} {x y:Value} (h:W.heap[b]?=some (.cells cs t fz)) (h0:cs[0]?=some x) (h1:cs[1]?=some y) :
    (∀ z:Later W,z.w.cell? ⟨b,0,none⟩=some x)/\(∀ z:Later W,z.w.cell? ⟨b,1,none⟩=some y):=⟨Later.block h 0 h0,Later.block h 1 h1⟩
theorem aCM {W:World} {b:Nat} {cs:Array Value} {t:TypeId} {fz:Nat × Nat} {x y:Value} (h:W.heap[b]?=some (.cells cs t fz)) (h0:cs[0]?=some x) (h1:cs[1]?=some y) :
    W.cell? ⟨b,0,none⟩=some x/\W.cell? ⟨b,1,none⟩=some y:=⟨by simp [World.cell?,h,h0],by simp [World.cell?,h,h1]⟩
set_option maxHeartbeats 4000000 in
theorem aQr (b1:Bool) (s1:Value) (x:Int) (w:World) (h1:IsI w b1 s1 x) :
    Calls Tryz.prog 134 #[.agg #[.bool b1,s1]] w fun e w'=>e=.returned (.int .i64 x.sign)/\Ext w w':=by
 have hm:0 < (Lb.limbs x.natAbs).length ↔ x ≠ 0:=by
  constructor
  ·intro h e; subst e; simp [Lb.a1h] at h
  ·intro h;rcases Nat.eq_zero_or_pos (Lb.limbs x.natAbs).length with h0 | h0
   ·have:=aVh x;unfold szI at this;rw [h0,Nat.pow_zero] at this;omega
   ·exact h0
 rcases Int.lt_trichotomy x 0 with hx | hx | hx
 ·have hb:b1=true:=by rw [h1.1]; simp [hx]
  subst hb;rw [Int.sign_eq_neg_one_of_neg hx];clear hm;obtain ⟨p1,q1,rfl⟩:=h1.form
  generalize hz1:(Lb.limbs x.natAbs).length=m1 at *
  obtain ⟨W1,hW1,hb1,hE1,-⟩:=a4C w #[.bool true,.slice p1 m1 q1] 33;have hE:=hE1;have hbx1:=hb1;obtain ⟨f0,f1⟩:=aKL hbx1 rfl rfl;obtain ⟨d0,d1⟩:=aCM hbx1 rfl rfl;have HS1:=Lib.hid (h1.2.later hE); have HG1:=Lib.hid h1.1; have HZ1:=Lib.hid hz1; have HBX1:=Lib.hid hbx1;have HWE:=Lib.hid hE;clear hE hbx1 h1 hz1 hb1 hE1
  go_enter Tryz.func134,Tryz.ntmps134
  go_wp2_with fail
  go_ret
  exact ⟨rfl,HWE.out⟩
 ·subst hx
  have hb:b1=false:=by rw [h1.1]; simp
  subst hb
  have h0:(Lb.limbs (0:Int).natAbs).length=0:=by simp [Lb.a1h]
  obtain ⟨p1,q1,rfl⟩:=h1.form;rw [h0];obtain ⟨W1,hW1,hb1,hE1,-⟩:=a4C w #[.bool false,.slice p1 0 q1] 33;obtain ⟨f0,f1⟩:=aCM hb1 rfl rfl;clear h0 hm hb1 h1
  go_enter Tryz.func134,Tryz.ntmps134
  go_wp2_with fail
  go_ret
  exact ⟨rfl,hE1⟩
 ·have hb:b1=false:=by rw [h1.1]; simp; omega
  subst hb;rw [Int.sign_eq_one_of_pos hx];have hmp:=hm.2 (by omega);clear hm;obtain ⟨p1,q1,rfl⟩:=h1.form
  generalize hz1:(Lb.limbs x.natAbs).length=m1 at *
  obtain ⟨W1,hW1,hb1,hE1,-⟩:=a4C w #[.bool false,.slice p1 m1 q1] 33;have hE:=hE1;have hbx1:=hb1;obtain ⟨f0,f1⟩:=aKL hbx1 rfl rfl;obtain ⟨d0,d1⟩:=aCM hbx1 rfl rfl;have HS1:=Lib.hid (h1.2.later hE); have HG1:=Lib.hid h1.1; have HZ1:=Lib.hid hz1; have HBX1:=Lib.hid hbx1;have HWE:=Lib.hid hE;clear hE hbx1 h1 hz1 hb1 hE1
  have hq:decide (0 < m1)=true:=by simp [hmp]
  have hq2:decide ((m1:Int) > 0)=true:=by simp [hmp]
  go_enter Tryz.func134,Tryz.ntmps134
  go_wp2_with fail
  go_ret
  exact ⟨rfl,HWE.out⟩
end Go.Proofs.YtbohkigffejhoaaGreat
namespace Go.Proofs.YtbohkigffejhoaaGreat
namespace Lb
theorem aOp {l:List Nat} (hl:Lt l) (m:Nat) (h:m <= l.length):val (l.take m) < B ^ m:=by
 have:=a6g (aH9 hl m);rwa [List.length_take,Nat.min_eq_left h] at this
structure DivAt (A V n L j:Nat) (U Q:List Nat):Prop where
 len:U.length=L+n
 qlen:Q.length=L
 lt:Lt U
 qlt:Lt Q
 sum:val U+V*(B ^ j*val (Q.drop j))=A
 low:val (U.drop j) < V
section
variable {A V n L k:Nat} {U Q:List Nat}
theorem DivAt.window (h:DivAt A V n L (k+1) U Q) (hk:k < L) (hV:V < B ^ n) :
    val (U.drop k) < B*V/\val (U.drop (k+n+1))=0/\val (U.drop k)=val ((U.drop k).take (n+1)):=by
 have hl:=h.len;have h1:val (U.drop k)=U[k]'(by omega)+B*val (U.drop (k+1)):=a2T U k (by omega);have h2:=aOf (a2I h.lt k (by omega)) h.low;rw [<- h1] at h2
 have h3:val (U.drop k) < B ^ (n+1):=by
  have:B*V < B*B ^ n:=Nat.mul_lt_mul_of_pos_left hV a3w;rw [Nat.pow_succ,Nat.mul_comm];omega
 have h4:=aFK (l:=U.drop k) (m:=n+1) (by simp; omega) h3;rw [List.drop_drop] at h4;exact ⟨h2,by rw [show k+n+1=k+(n+1) by omega]; exact h4.1,h4.2⟩
theorem DivAt.step {O:List Nat} {q:Nat} (h:DivAt A V n L (k+1) U Q) (hk:k < L) (hV:V < B ^ n) (hV0:0 < V) (hO:O.length=n+1) (hOl:Lt O) (hq:q=val (U.drop k) / V) (hv:val O=val (U.drop k) - V*q) :
    DivAt A V n L k (U.take k ++ O ++ U.drop (k+(n+1))) (Q.set k q)/\q < B:=by
 obtain ⟨w1,w2,w3⟩:=h.window hk hV;have hl:=h.len;have hql:=h.qlen
 have hqB:q < B:=by rw [hq]; exact Nat.div_lt_of_lt_mul (by rw [Nat.mul_comm]; exact w1)
 have htl:(U.take k).length=k:=by simp; omega
 have e1:val (U.take k ++ O ++ U.drop (k+(n+1)))=val (U.take k)+B ^ k*val O:=by
  rw [val_append,val_append,htl,show k+(n+1)=k+n+1 by omega,w2,Nat.mul_zero,Nat.add_zero]
 have hle:V*q <= val (U.drop k):=by rw [hq]; exact Nat.mul_div_le _ _
 refine ⟨⟨?_,by simpa using hql,a3T (a3T (aH9 h.lt _) hOl) (aPu h.lt _),aPt h.qlt _ _ hqB,?_,?_⟩,hqB⟩
 ·simp; omega
 ·rw [e1,a2T _ k (by simp; omega),List.getElem_set_self,List.drop_set_of_lt (by omega)];have h1:=h.sum;have h2:=a19 U k (by omega)
  have h3:val O+V*q=val (U.drop k):=by omega
  rw [h2,<- h3,Nat.pow_succ] at h1;rw [<- h1];generalize val (Q.drop (k+1))=D;generalize val O=o;generalize val (U.take k)=u;generalize B ^ k=P;generalize B=β;grind
 ·have e2:(U.take k ++ O ++ U.drop (k+(n+1))).drop k=O ++ U.drop (k+(n+1)):=by
   rw [List.append_assoc,List.drop_append_of_le_length (by omega),List.drop_of_length_le (by omega),List.nil_append]
  rw [e2,val_append,show k+(n+1)=k+n+1 by omega,w2,Nat.mul_zero,Nat.add_zero,hv,hq];have:=Nat.div_add_mod (val (U.drop k)) V;have:=Nat.mod_lt (val (U.drop k)) hV0;omega
theorem DivAt.done {a b s:Nat} (h:DivAt (a*s) (b*s) n L 0 U Q) (hV:b*s < B ^ n):val Q=a / b/\val (U.take n)=a % b*s:=by
 have h1:=h.sum;have h2:=h.low;rw [List.drop_zero] at h1 h2;rw [Nat.pow_zero,Nat.one_mul] at h1;have h3:=aBO (a:=a) (b:=b) (s:=s) (Q:=val Q) (R:=val U) (by rw [<- h1,Nat.mul_comm (val Q)]; omega) h2;have h4:=aFK (l:=U) (m:=n) (by rw [h.len]; omega) (by omega);exact ⟨h3.1,by rw [<- h4.2]; exact h3.2⟩
end
structure Est (W V v1 v2 T u2 P g r:Nat):Prop where
 ge:W / V <= g
 sum:g*v1+r=T
structure EstData (W V v1 v2 T u2 P:Nat):Prop where
 hP:0 < P
 hW:∃ W0,W=(T*B+u2)*P+W0/\W0 < P
 hV:∃ V0,V=(v1*B+v2)*P+V0/\V0 < P
 hv1:0 < v1
 hv2:v2 < B
 hu2:u2 < B
 hWV:W < B*V
variable {W V v1 v2 T u2 P g r:Nat}
theorem EstData.first (h:EstData W V v1 v2 T u2 P):Est W V v1 v2 T u2 P (T / v1) (T % v1):=by
 obtain ⟨W0,hW,hW0⟩:=h.hW;obtain ⟨V0,hV,hV0⟩:=h.hV;exact ⟨aIr hW hW0 h.hu2 hV h.hv1,by rw [Nat.mul_comm]; exact Nat.div_add_mod _ _⟩
theorem EstData.down (h:EstData W V v1 v2 T u2 P) (e:Est W V v1 v2 T u2 P g r) (ht:B <= g \/ r*B+u2 < g*v2):0 < g/\Est W V v1 v2 T u2 P (g - 1) (r+v1):=by
 obtain ⟨W0,hW,hW0⟩:=h.hW;obtain ⟨V0,hV,hV0⟩:=h.hV
 have hlt:W / V < g:=by
  rcases ht with ht | ht
  ·have:W / V < B:=Nat.div_lt_of_lt_mul (by rw [Nat.mul_comm]; exact h.hWV);omega
  ·exact aMG hW hW0 hV e.sum ht
 have hg:0 < g:=Nat.lt_of_le_of_lt (Nat.zero_le _) hlt;refine ⟨hg,Nat.le_sub_one_of_lt hlt,?_⟩;have h1:=e.sum
 obtain ⟨g',rfl⟩:∃ g',g=g'+1:=⟨g - 1,by omega⟩
 rw [Nat.add_sub_cancel];rw [Nat.succ_mul] at h1;omega
theorem EstData.last (h:EstData W V v1 v2 T u2 P) (e:Est W V v1 v2 T u2 P g r) (hb:g < B) (ht:g*v2 <= r*B+u2):W / V <= g/\g <= W / V+1/\g < B:=by
 obtain ⟨W0,hW,hW0⟩:=h.hW;obtain ⟨V0,hV,hV0⟩:=h.hV;exact ⟨e.ge,aMH h.hP hW hV hV0 h.hv1 e.sum ht hb,hb⟩
end Lb
end Go.Proofs.YtbohkigffejhoaaGreat
namespace Go.Proofs.YtbohkigffejhoaaGreat
namespace Rt
def sg (q:Rat):Int:=q.num.sign
theorem aKd {q:Rat}:0 < sg q ↔ 0 < q:=by
 unfold sg;rw [Int.sign_pos_iff,Rat.lt_iff]; simp
theorem aOA {q:Rat}:sg q < 0 ↔ q < 0:=by
 unfold sg;rw [Int.sign_neg_iff,Rat.lt_iff]; simp
theorem a3y {q:Rat}:sg q=0 ↔ q=0:=by
 unfold sg;rw [Int.sign_eq_zero_iff_zero,Rat.num_eq_zero]
theorem aBc {q:Rat}:0 <= sg q ↔ 0 <= q:=by rw [<- Rat.not_lt,<- aOA]; omega
theorem a6V (q:Rat):sg q=-1 \/ sg q=0 \/ sg q=1:=by
 unfold sg;rcases Int.lt_trichotomy q.num 0 with h | h | h
 ·exact .inl (Int.sign_eq_neg_one_of_neg h)
 ·rw [h]; exact .inr (.inl rfl)
 ·exact .inr (.inr (Int.sign_eq_one_of_pos h))
theorem aOu {p q:Rat}:sg (p - q) < 0 ↔ p < q:=by rw [aOA]; grind
theorem aOv {p q:Rat}:0 < sg (p - q) ↔ q < p:=by rw [aKd]; grind
theorem aTg (p q:Rat):(p.num*q.den - q.num*p.den).sign=sg (p - q):=by
 rcases Int.lt_trichotomy (p.num*q.den) (q.num*p.den) with h | h | h
 ·have h1:p < q:=(Rat.lt_iff p q).2 h;have h2:=aOu.2 h1;rw [Int.sign_eq_neg_one_of_neg (by omega)];rcases a6V (p - q) with e | e | e <;> omega
 ·have h1:p=q:=Rat.eq_iff_mul_eq_mul.2 h;rw [h1];simp [sg,Rat.sub_self]
 ·have h1:q < p:=(Rat.lt_iff q p).2 h;have h2:=aOv.2 h1;rw [Int.sign_eq_one_of_pos (by omega)];rcases a6V (p - q) with e | e | e <;> omega
theorem aHU {n d:Int} (hd:0 < d):(Rat.divInt n d).num=n / (Int.gcd n d:Int):=by
 rw [Rat.num_divInt,Int.sign_eq_one_of_pos hd,Int.one_mul,Int.gcd_comm]
theorem aHV {n d:Int} (hd:0 < d):((Rat.divInt n d).den:Int)=d / (Int.gcd n d:Int):=by
 rw [Rat.den_divInt,if_neg (by omega),Int.gcd_comm];rw [Int.natCast_ediv];congr 1;omega
theorem aOO (n d:Int):Rat.divInt (-n) (-d)=Rat.divInt n d:=Rat.neg_divInt_neg n d
theorem aXu {n d:Int} (hd:0 < d) (h:(Int.gcd n d:Int)=1):(Rat.divInt n d).num=n/\((Rat.divInt n d).den:Int)=d:=by
 rw [aHU hd,aHV hd,h,Int.ediv_one,Int.ediv_one];exact ⟨rfl,rfl⟩
theorem aIA (q:Rat):Rat.divInt q.num (q.den:Int)=q:=by rw [Rat.num_divInt_den]
theorem aWd (p q:Rat):Rat.divInt (p.num*q.den+q.num*p.den) (p.den*q.den)=p+q:=by
 rw [Rat.add_def',<- Rat.divInt_ofNat,Int.natCast_mul]
theorem aPm (p q:Rat):Rat.divInt (p.num*q.num) (p.den*q.den)=p*q:=by
 rw [Rat.mul_def',<- Rat.divInt_ofNat,Int.natCast_mul]
theorem aVH (p q:Rat):Rat.divInt (p.num*q.den) (p.den*q.num)=p / q:=by
 have h1:p / q=Rat.divInt p.num p.den*(Rat.divInt q.den q.num):=by
  rw [Rat.num_divInt_den,Rat.div_def,Rat.inv_def]
 rw [h1,Rat.divInt_mul_divInt]
theorem a6j (n g:Int) (hg:0 < g) (hdvd:g ∣ n):(n / g).natAbs <= n.natAbs:=by
 obtain ⟨k,rfl⟩:=hdvd;rw [Int.mul_ediv_cancel_left _ (by omega),Int.natAbs_mul];exact Nat.le_mul_of_pos_left _ (by omega)
theorem aBS {n d:Int} (hd:0 < d):(Rat.divInt n d).num.natAbs <= n.natAbs:=by
 rw [aHU hd]
 exact a6j _ _ (by have:0 < Int.gcd n d:=Int.gcd_pos_of_ne_zero_right _ (by omega)
                   omega) (Int.gcd_dvd_left ..)
theorem aBT {n d:Int} (hd:0 < d):(Rat.divInt n d).den <= d.natAbs:=by
 have h:=aHV (n:=n) hd
 have h2:=a6j d _ (by have:0 < Int.gcd n d:=Int.gcd_pos_of_ne_zero_right n (by omega)
                      omega:0 < (Int.gcd n d:Int)) (Int.gcd_dvd_right ..)
 omega
end Rt
end Go.Proofs.YtbohkigffejhoaaGreat
namespace Go.Proofs.YtbohkigffejhoaaGreat
open Go.RowKit
section
variable {P:Program} {Q:Exit->Act->World->Prop} {l:List Oper} {w0:World} {a0:Act} {R:Nat->Value->World->Prop}
def a1L (l:List Oper) (n:Nat):Bool:=l.all fun o=>match o.dst with | some d=>decide (d < n) | none=>true
theorem a14:∀ (l:List Oper) (vals:Nat->Value) (i:Nat) (a:Act) (x:Operand),(∀ o ∈ l,∀ d,o.dst=some d->x ≠ .tmp d)->(a0E l vals i a).eval x=a.eval x
 | [],_,_,_,_,_=>rfl
 | o :: r,vals,i,a,x,h=>by
   unfold a0E;rw [a14 r vals (i+1) _ x (fun o' ho'=>h o' (List.mem_cons_of_mem _ ho')),Act.eval_put (h o (List.mem_cons_self ..))]
theorem aCL (a:Act) (x:Option Tmp) (v:Value):(a.put x v).tmps.size=a.tmps.size:=by
 cases x <;> simp [Act.put]
theorem a1T:∀ (l:List Oper) (vals:Nat->Value) (i k:Nat) (a:Act) (o:Oper) (d:Tmp),a2l l=true->a1L l a.tmps.size=true->l[k]?=some o->o.dst=some d->(a0E l vals i a).eval (.tmp d)=vals (i+k)
 | [],_,_,_,_,_,_,_,_,h,_=>by simp at h
 | o' :: r,vals,i,0,a,o,d,hA,hI,h,hd=>by
   obtain rfl:o'=o:=by simpa using h
   obtain ⟨h1,_⟩:=a3p hA;unfold a0E
   rw [a14 r vals (i+1) _ _ (fun x hx e he=>by
    intro hc;cases hc
    exact h1 x hx d hd he)]
   have hlt:d < a.tmps.size:=by
    simp only [a1L,List.all_cons,Bool.and_eq_true] at hI;have:=hI.1;rw [hd] at this;simpa using this
   simp [Act.eval,Act.put,hd,hlt]
 | o' :: r,vals,i,k+1,a,o,d,hA,hI,h,hd=>by
   obtain ⟨_,h2⟩:=a3p hA;unfold a0E
   rw [a1T r vals (i+1) k _ o d h2 (by
    rw [aCL];simp only [a1L,List.all_cons,Bool.and_eq_true] at hI ⊢
    exact hI.2) (by simpa using h) hd,show i+1+k=i+(k+1) by omega]
