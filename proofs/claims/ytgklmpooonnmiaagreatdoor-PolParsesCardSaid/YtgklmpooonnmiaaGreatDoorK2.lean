/-
  Lemmas and contracts that the proofs over this seat use (UtfNext, Err, UtfCheck, LexQuote); no statement of the seat is claimed in this text, and nothing is assumed in it.
-/
import Derived.Test.YtgklmpooonnmiaaGreatDoorK1
set_option linter.unusedVariables false
set_option linter.unusedSimpArgs false
namespace Go.Proofs.YtgklmpooonnmiaaGreatDoor
open Go.RowKit
structure RB (w:World) (p:Option Addr) (n:Nat) (f:Nat → Nat):Prop where
 at_:0 < n → ∃ g o,p=some ⟨g,o,none⟩ ∧ ∀ i,i < n → w.cell? ⟨g,o+i,none⟩=some (.int .u8 (f i:Nat))
 lt:∀ i,f i < 256
 len:n ≤ maxLen
theorem RB.fr {w w':World} {p:Option Addr} {n:Nat} {f:Nat → Nat} (h:RB w p n f) (hF:Fr [] w w'):RB w' p n f :=
 ⟨fun hn=>by obtain ⟨g,o,e,hc⟩:=h.at_ hn;exact ⟨g,o,e,fun i hi=>hF.cells (hc i hi)⟩,h.lt,h.len⟩
theorem wraps_i64 (n:Int) (h₀:0 ≤ n) (h₁:n < 2 ^ 31):IntKind.i64.wrap n=n:=by rw [IntKind.wrap_i64];omega
theorem wraps_i64b (n:Int) (h₀:0 ≤ n) (h₁:n < 2 ^ 8):IntKind.i64.wrap n=n:=by rw [IntKind.wrap_i64];omega
theorem i64_and31 {x:Int} (h₀:0 ≤ x) (h₁:x < 256):bits .and .i64 x 31=x % 32:=bits_mask .i64 8 (by decide) wraps_i64b 5 (by decide) x h₀ h₁
theorem i64_and15 {x:Int} (h₀:0 ≤ x) (h₁:x < 256):bits .and .i64 x 15=x % 16:=bits_mask .i64 8 (by decide) wraps_i64b 4 (by decide) x h₀ h₁
theorem i64_and7 {x:Int} (h₀:0 ≤ x) (h₁:x < 256):bits .and .i64 x 7=x % 8:=bits_mask .i64 8 (by decide) wraps_i64b 3 (by decide) x h₀ h₁
theorem i64_or6 {x y:Int} (hx₀:0 ≤ x) (hx:x % 64=0) (hx₁:x < 2147483648) (h₀:0 ≤ y) (h₁:y < 64):bits .or .i64 x y=x+y :=
 bits_join .i64 31 (by decide) wraps_i64 6 x y hx₀ hx hx₁ h₀ h₁ (by omega)
theorem u8_and192 (x:Nat) (h:x < 256):bits .and .u8 (x:Int) 192=((x / 64 * 64:Nat):Int):=by
 have h2:=bits_nat .u8 8 (by decide) wraps_u8 x 192 h (by decide)
 have h3:∀ y:Fin 256,y.1 &&& 192=y.1 / 64 * 64:=by decide +kernel
 have h4:=h3 ⟨x,h⟩
 simp only at h4
 rw [← h4]
 exact h2.1
theorem wide_none {c:Nat} (h1:¬ c < 128) (h:c < 192 ∨ 248 ≤ c):Utf.wide c=0:=by
 unfold Utf.wide
 rw [if_neg h1]
 rcases h with h | h
 ·rw [if_pos h]
 ·rw [if_neg (by omega),if_neg (by omega),if_neg (by omega),if_neg (by omega)]
theorem wide_two {c:Nat} (h1:192 ≤ c) (h:c < 224):Utf.wide c=2:=by
 unfold Utf.wide;rw [if_neg (by omega),if_neg (by omega),if_pos h]
theorem wide_three {c:Nat} (h1:224 ≤ c) (h:c < 240):Utf.wide c=3:=by
 unfold Utf.wide;rw [if_neg (by omega),if_neg (by omega),if_neg (by omega),if_pos h]
theorem wide_four {c:Nat} (h1:240 ≤ c) (h:c < 248):Utf.wide c=4:=by
 unfold Utf.wide;rw [if_neg (by omega),if_neg (by omega),if_neg (by omega),if_neg (by omega),if_pos h]
theorem first_lt (c:Nat):Utf.first c < 32:=by
 unfold Utf.first
 split
 ·omega
 ·split <;> omega
theorem pre_lt (f:Nat → Nat) (k:Nat):Utf.pre f k < 32 * 64 ^ k:=by
 induction k with
 | zero=>simpa [Utf.pre] using first_lt (f 0)
 | succ k ih=>simp only [Utf.pre,Nat.pow_succ];omega
theorem next_ok {f:Nat → Nat} {n c S:Nat} (hn:¬ n=0) (hc:f 0=c) (h1:¬ c < 128) (hS:Utf.wide c=S) (h2:2 ≤ S) (hl:¬ n < S) :
  Utf.next f n=if Utf.cont f (S - 1)=true ∧ Utf.least S ≤ Utf.pre f (S - 1) ∧ Utf.right (Utf.pre f (S - 1))=true then (some (Utf.pre f (S - 1)),S) else (none,1):=by
 unfold Utf.next
 rw [if_neg hn,hc,if_neg h1,hS,if_neg (by omega)]
theorem cont_false {f:Nat → Nat} {k m:Nat} (hk:k < m) (h:¬ f (k+1) / 64=2):¬ Utf.cont f m=true:=by
 induction m with
 | zero=>omega
 | succ m ih =>
  simp only [Utf.cont,Bool.and_eq_true,decide_eq_true_eq]
  rintro ⟨h1,h2⟩
  by_cases e:k=m
  ·subst e;exact h h2
  ·exact ih (by omega) h1
theorem Least.at_ {w:World} (h:Least w) (S:Nat) (h2:2 ≤ S) (h4:S ≤ 4):w.cell? ⟨1,S,none⟩=some (.int .i64 (Utf.least S:Nat)):=by
 rw [h.cell]
 match S,h2,h4 with
 | 2,_,_=>rfl
 | 3,_,_=>rfl
 | 4,_,_=>rfl
set_option maxHeartbeats 4000000 in
set_option maxRecDepth 100000 in
theorem utf_next (w:World) (p:Option Addr) (n cap:Nat) (f:Nat → Nat) (hR:RB w p n f) (hcap:n ≤ cap) (hcm:cap ≤ maxLen) (hL:Least w) :
  Calls Tryz.prog 88 #[.slice p n cap] w fun e w'=>e=.returned (.tuple #[.int .i64 (letZ (Utf.next f n).1),.int .i64 ((Utf.next f n).2:Nat)]) ∧ w=w':=by
 have hl:=hR.len
 unfold maxLen at hl hcm
 by_cases hn:n=0
 ·have e:Utf.next f n=(none,0):=by simp [Utf.next,hn]
  rw [e]
  subst hn
  clear e
  go_enter Tryz.func88,Tryz.ntmps88
  go_wp2
  go_ret2
  exact ⟨rfl,rfl⟩
 obtain ⟨g,o,rfl,hc⟩:=hR.at_ (by omega)
 have hc0:=hc 0 (by omega)
 obtain ⟨c,hcc⟩:∃ c,f 0=c:=⟨_,rfl⟩
 have hclt:=hR.lt 0
 rw [hcc] at hc0 hclt
 rw [Nat.add_zero] at hc0
 have hn':0 < n:=by omega
 have hn2:¬ (n:Int)=0:=by omega
 by_cases h1:c < 128
 ·have e:Utf.next f n=(some c,1):=by simp [Utf.next,hn,hcc,h1]
  rw [e]
  have h1':(c:Int) < 128:=by omega
  clear e hcc hc hL hR
  go_enter Tryz.func88,Tryz.ntmps88
  go_wp2
  go_ret2
  exact ⟨rfl,rfl⟩
 have h1':¬ (c:Int) < 128:=by omega
 by_cases h2:c < 192 ∨ 248 ≤ c
 ·have e:Utf.next f n=(none,1):=by
   simp [Utf.next,hn,hcc,h1,wide_none h1 h2]
  rw [e]
  clear e hcc hc hL hR hn
  rcases h2 with h2 | h2
  ·have a1:¬ (c:Int) ≥ 192:=by omega
   have a2:¬ (c:Int) ≥ 224:=by omega
   have a3:¬ (c:Int) ≥ 240:=by omega
   go_enter Tryz.func88,Tryz.ntmps88
   go_wp2
   go_ret2
   exact ⟨rfl,rfl⟩
  ·have a1:(c:Int) ≥ 192:=by omega
   have a2:(c:Int) ≥ 224:=by omega
   have a3:(c:Int) ≥ 240:=by omega
   have b1:¬ (c:Int) < 224:=by omega
   have b2:¬ (c:Int) < 240:=by omega
   have b3:¬ (c:Int) < 248:=by omega
   go_enter Tryz.func88,Tryz.ntmps88
   go_wp2
   go_ret2
   exact ⟨rfl,rfl⟩
 have HR:=Lib.hid hR
 have HC:=Lib.hid hc
 have HCC:=Lib.hid hcc
 clear hc hcc hR
 have g1:(c:Int) ≥ 192:=by omega
 by_cases h3:c < 224
 case' pos =>
  have a1:(c:Int) < 224:=by omega
  have hw:Utf.wide c=2:=wide_two (by omega) h3
  have hfi:bits .and .i64 (c:Int) 31=((Utf.first c:Nat):Int):=by rw [i64_and31 (by omega) (by omega)];unfold Utf.first;simp [h3]
  have hn3:¬ n < Utf.wide c → ¬ (n:Int) < 2:=by rw [hw];omega
  have hn4:n < Utf.wide c → (n:Int) < 2:=by rw [hw];omega
  have hk3:Hid (∀ k:Nat,k < Utf.wide c - 1 → (k:Int) < 1):=fun k=>by rw [hw];omega
  have hk4:Hid (∀ k:Nat,¬ k < Utf.wide c - 1 → ¬ (k:Int) < 1):=fun k=>by rw [hw];omega
 case' neg =>
  have a1:¬ (c:Int) < 224:=by omega
  have a2:(c:Int) ≥ 224:=by omega
  by_cases h4:c < 240
  case' pos =>
   have a3:(c:Int) < 240:=by omega
   have hw:Utf.wide c=3:=wide_three (by omega) h4
   have hfi:bits .and .i64 (c:Int) 15=((Utf.first c:Nat):Int):=by rw [i64_and15 (by omega) (by omega)];unfold Utf.first;simp [h3,h4]
   have hn3:¬ n < Utf.wide c → ¬ (n:Int) < 3:=by rw [hw];omega
   have hn4:n < Utf.wide c → (n:Int) < 3:=by rw [hw];omega
   have hk3:Hid (∀ k:Nat,k < Utf.wide c - 1 → (k:Int) < 2):=fun k=>by rw [hw];omega
   have hk4:Hid (∀ k:Nat,¬ k < Utf.wide c - 1 → ¬ (k:Int) < 2):=fun k=>by rw [hw];omega
  case' neg =>
   have a3:¬ (c:Int) < 240:=by omega
   have a4:(c:Int) ≥ 240:=by omega
   have a5:(c:Int) < 248:=by omega
   have hw:Utf.wide c=4:=wide_four (by omega) (by omega)
   have hfi:bits .and .i64 (c:Int) 7=((Utf.first c:Nat):Int):=by rw [i64_and7 (by omega) (by omega)];unfold Utf.first;simp [h3,h4]
   have hn3:¬ n < Utf.wide c → ¬ (n:Int) < 4:=by rw [hw];omega
   have hn4:n < Utf.wide c → (n:Int) < 4:=by rw [hw];omega
   have hk3:Hid (∀ k:Nat,k < Utf.wide c - 1 → (k:Int) < 3):=fun k=>by rw [hw];omega
   have hk4:Hid (∀ k:Nat,¬ k < Utf.wide c - 1 → ¬ (k:Int) < 3):=fun k=>by rw [hw];omega
 all_goals
  have HFI:=Lib.hid hfi
  have hfl:=first_lt c
  have hw2:2 ≤ Utf.wide c:=by omega
  by_cases h5:n < Utf.wide c
  ·have h5':=hn4 h5
   have e:Utf.next f n=(none,1):=by simp [Utf.next,hn,HCC.out,h1,h5]
   rw [e]
   clear e hn hL h5 hw2 hw hn3 hn4 h1 h2
   go_enter Tryz.func88,Tryz.ntmps88
   go_wp2
   go_ret2
   exact ⟨rfl,rfl⟩
  have h5':=hn3 h5
  have HW:=Lib.hid hw
  have HN:=Lib.hid hn
  have h1n:=Lib.hid h1
  generalize hp:Utf.first c=P0 at *
  have HP:=Lib.hid hp
  clear hn3 hn4 hw hn h1 h2 HFI hw2 hp
  go_enter Tryz.func88,Tryz.ntmps88
  go_wp2
  obtain ⟨S,hS⟩:∃ S,Hid (S=Utf.wide c):=⟨_,rfl⟩
  have HN5:=Lib.hid h5
  have HEQ:=Lib.hid (next_ok HN.out HCC.out h1n.out hS.out.symm (by rw [hS.out,HW.out];decide) (by rw [hS.out];exact h5))
  go_loop [2,3,57] (fun l z t=>∃ k:Nat,k ≤ S - 1 ∧ t=.int .i64 k ∧ z=.int .i64 (S:Nat) ∧ l=.int .i64 (Utf.pre f k:Nat) ∧ Utf.cont f k=true) (fun _ _ t=>3 - (intOf t).toNat)
  case atStart=>exact ⟨0,by omega,rfl,by rw [hS.out,HW.out];rfl,by rw [← HP.out,← HCC.out];rfl,rfl⟩
  case round =>
   obtain ⟨k,hk,rfl,rfl,rfl,hcont⟩:=hrel
   have hS4:S ≤ 4:=by rw [hS.out,HW.out];decide
   have hpl:=pre_lt f k
   have hpl2:32 * 64 ^ k ≤ 32 * 64 ^ 3:=Nat.mul_le_mul_left _ (Nat.pow_le_pow_right (by decide) (by omega))
   have hpl3:Utf.pre f k < 8388608:=by omega
   clear hpl hpl2
   have HCO:=Lib.hid hcont
   clear hcont
   by_cases hlt:k < S - 1
   ·have hlt':=hk3.out k (by rw [← hS.out];exact hlt)
    have hx:=HC.out (k+1) (by have:=hS.out;omega)
    rw [show o+(k+1)=o+1+k by omega] at hx
    obtain ⟨x,hxx⟩:∃ x,Hid (f (k+1)=x):=⟨_,rfl⟩
    have hxl:=HR.out.lt (k+1)
    rw [hxx.out] at hx hxl
    have hx1:=u8_and192 x hxl
    by_cases h64:x / 64=2
    ·have hx2:((x / 64 * 64:Nat):Int)=128:=by rw [h64];rfl
     rw [hx2] at hx1
     have y1:bits .and .u8 (x:Int) 63=(x:Int) % 64:=u8_and63 (x:=(x:Int)) (by omega) (by omega)
     have y2:bits .or .i64 ((Utf.pre f k:Int) * 64) ((x:Int) % 64)=((Utf.pre f (k+1):Nat):Int):=by
      rw [i64_or6 (by omega) (by omega) (by omega) (by omega) (by omega)]
      simp only [Utf.pre,hxx.out];omega
     have hcs:Hid (Utf.cont f (k+1)=true):=by show _=_;simp only [Utf.cont,HCO.out,hxx.out,h64];rfl
     clear hx2
     go_wp2
     go_round
     case rel=>exact ⟨k+1,by omega,by go_num,rfl,rfl,hcs.out⟩
     case measure=>simp [intOf];omega
    ·have hx2:¬ ((x / 64 * 64:Nat):Int)=128:=by omega
     have e:Utf.next f n=(none,1):=by
      rw [HEQ.out,if_neg]
      exact fun h=>cont_false hlt (by rw [hxx.out];exact h64) h.1
     have HE:=Lib.hid e
     clear e HEQ hlt
     go_wp2
     go_ret2
     rw [HE.out]
     exact ⟨rfl,rfl⟩
   ·obtain rfl:k=S - 1:=by omega
    have hlt':=hk4.out (S - 1) (by rw [← hS.out];exact hlt)
    have hLc:=hL.at_ (Utf.wide c) (by rw [HW.out];decide) (by rw [HW.out];decide)
    have hml:Utf.least (Utf.wide c)=Utf.least S:=by rw [hS.out]
    obtain ⟨L,hL'⟩:∃ L,Hid (Utf.least S=L):=⟨_,rfl⟩
    rw [hml,HW.out,hL'.out] at hLc
    clear hml
    obtain ⟨P,hP⟩:∃ P,Hid (Utf.pre f (S - 1)=P):=⟨_,rfl⟩
    have hE:=HEQ.out
    rw [HCO.out,hP.out,hL'.out] at hE
    rw [hP.out] at hpl3 ⊢
    have e2:S=Utf.wide c:=hS.out
    rw [HW.out] at e2
    clear hS HEQ hlt hlt' hL' hP HCO hk3 hk4 h5 HN5
    subst e2
    by_cases hm:P < L
    ·have hm':(P:Int) < (L:Int):=by omega
     have e:Utf.next f n=(none,1):=by rw [hE,if_neg (fun h=>by omega)]
     have HE:=Lib.hid e
     clear e hE
     go_wp2_with fail
     go_ret2
     rw [HE.out]
     exact ⟨rfl,rfl⟩
    ·have hm':¬ (P:Int) < (L:Int):=by omega
     by_cases hr:Utf.right P=true
     ·have e:=hE
      rw [if_pos ⟨rfl,by omega,hr⟩] at e
      have HE:=Lib.hid e
      clear e hE
      have hc2:Calls Tryz.prog 97 #[.int .i64 P] w fun e w'=>e=.returned (.bool true) ∧ w=w':=by have:=utf_right P w;rw [hr] at this;exact this
      clear hr
      go_wp2_with (go_at_call 97;refine hc2.mono ?_;rintro e w' ⟨rfl,rfl⟩)
      go_ret2
      rw [HE.out]
      exact ⟨rfl,rfl⟩
     ·have e:Utf.next f n=(none,1):=by rw [hE,if_neg (fun h=>hr h.2.2)]
      have HE:=Lib.hid e
      have hr':Utf.right P=false:=by simpa using hr
      clear e hE
      have hc2:Calls Tryz.prog 97 #[.int .i64 P] w fun e w'=>e=.returned (.bool false) ∧ w=w':=by have:=utf_right P w;rw [hr'] at this;exact this
      clear hr hr'
      go_wp2_with (go_at_call 97;refine hc2.mono ?_;rintro e w' ⟨rfl,rfl⟩)
      go_ret2
      rw [HE.out]
      exact ⟨rfl,rfl⟩
end Go.Proofs.YtgklmpooonnmiaaGreatDoor

namespace Go.Proofs.YtgklmpooonnmiaaGreatDoor
open Go.RowKit
inductive Er where
 | ok
 | no (n:Nat)
 | pl (pos n:Nat)
deriving DecidableEq
def ErV (w:World) (base:Nat):Er → Value → Prop
 | .ok,v=>v=.nilIface
 | .no n,v=>v=.iface 57 (.int .i64 (n:Nat))
 | .pl p n,v=>∃ b,base ≤ b ∧ v=.iface 46 (.pointer (some ⟨b,0,none⟩)) ∧ w.heap[b]?=some (.cells #[.int .i64 (p:Nat),.iface 57 (.int .i64 (n:Nat))] 68 (0,0))
theorem ErV.fr {w w':World} {base:Nat} {e:Er} {v:Value} (h:ErV w base e v) (hF:Fr [] w w'):ErV w' base e v:=by
 cases e with
 | ok=>exact h
 | no n=>exact h
 | pl p n=>obtain ⟨b,hb,hv,hr⟩:=h;exact ⟨b,hb,hv,hF.row hr (by simp)⟩
theorem ErV.base {w:World} {base base':Nat} {e:Er} {v:Value} (h:ErV w base e v) (hb:base' ≤ base):ErV w base' e v:=by
 cases e with
 | ok=>exact h
 | no n=>exact h
 | pl p n=>obtain ⟨b,h1,hv,hr⟩:=h;exact ⟨b,Nat.le_trans hb h1,hv,hr⟩
theorem ErV.new (w:World) (base p n:Nat) (h:base ≤ w.heap.size):ErV (w.alloc (.cells #[.int .i64 (p:Nat),.iface 57 (.int .i64 (n:Nat))] 68)) base (.pl p n) (.iface 46 (.pointer (some ⟨w.heap.size,0,none⟩))) :=
 ⟨_,h,rfl,heap_alloc_last _ _⟩
theorem lex_fault (w:World) (p n:Nat) :
  Calls Tryz.prog 42 #[.int .i64 p,.int .i64 n] w fun e w'=>∃ v,e=.returned v ∧ ErV w' w.heap.size (.pl p n) v ∧ Fr [] w w':=by
 go_enter Tryz.func42,Tryz.ntmps42
 go_wp2
 refine bodyPost_ret (results_tmp rfl _ _ _) rfl ?_
 exact ⟨_,rfl,ErV.new w _ p n (Nat.le_refl _),(Fr.refl _ _).alloc _⟩
end Go.Proofs.YtgklmpooonnmiaaGreatDoor

namespace Go.Proofs.YtgklmpooonnmiaaGreatDoor
open Go.RowKit
namespace Utf
theorem next_size (f:Nat → Nat) (len n k:Nat) (h:next f len=(some n,k)):1 ≤ k ∧ k ≤ len ∧ k ≤ 4:=by
 unfold next at h
 split at h
 ·cases h
 ·split at h
  ·cases h;omega
  ·split at h
   ·cases h
   ·split at h
    ·cases h
     have:wide (f 0) ≤ 4:=by unfold wide;split;omega;split;omega;split;omega;split;omega;split <;> omega
     omega
    ·cases h
theorem next_lt (f:Nat → Nat) (len n k:Nat) (h:next f len=(some n,k)):n ≤ 1114111:=by
 unfold next at h
 split at h
 ·cases h
 ·split at h
  ·cases h;omega
  ·split at h
   ·cases h
   ·split at h
    ·rename_i hr
     cases h
     have:=hr.2.2
     simp only [right,Bool.and_eq_true,decide_eq_true_eq] at this
     exact this.1
    ·cases h
def bad (f:Nat → Nat) (n at_:Nat):Option Nat :=
 if at_ < n then
  match next (fun i=>f (at_+i)) (n - at_) with
  | (none,_)=>some at_
  | (some _,k)=>bad f n (at_+max k 1)
 else none
termination_by n - at_
decreasing_by omega
end Utf
theorem RB.cut {w:World} {g o n:Nat} {f:Nat → Nat} (h:RB w (some ⟨g,o,none⟩) n f) (k:Nat):RB w (some ⟨g,o+k,none⟩) (n - k) (fun i=>f (k+i)) :=
 ⟨fun hn=>by
  obtain ⟨g',o',e,hc⟩:=h.at_ (by omega)
  cases e
  exact ⟨g,o+k,rfl,fun i hi=>by have:=hc (k+i) (by omega);rwa [← Nat.add_assoc] at this⟩,fun i=>h.lt _,by have:=h.len;omega⟩
def utfEr:Option Nat → Er
 | none=>.ok
 | some p=>.pl p 30
set_option maxHeartbeats 4000000 in
set_option maxRecDepth 100000 in
theorem utf_check (w:World) (p:Option Addr) (n cap:Nat) (f:Nat → Nat) (hR:RB w p n f) (hcap:n ≤ cap) (hcm:cap ≤ maxLen) (hL:Least w) :
  Calls Tryz.prog 60 #[.slice p n cap] w fun e w'=>∃ v,e=.returned v ∧ ErV w' w.heap.size (utfEr (Utf.bad f n 0)) v ∧ Fr [] w w':=by
 have hl:=hR.len
 unfold maxLen at hl hcm
 go_enter Tryz.func60,Tryz.ntmps60
 go_wp2
 go_loop [3] (fun t=>∃ k:Nat,k ≤ n ∧ t=.int .i64 k ∧ Utf.bad f n k=Utf.bad f n 0) (fun t=>n - (intOf t).toNat)
 case atStart=>exact ⟨0,by omega,rfl,rfl⟩
 case round =>
  obtain ⟨k,hk,rfl,hb⟩:=hrel
  by_cases hlt:k < n
  ·obtain ⟨g,o,rfl,_⟩:=hR.at_ (by omega)
   have hR2:=hR.cut k
   rw [Utf.bad,if_pos hlt] at hb
   obtain ⟨x,m,hx⟩:∃ x m,Utf.next (fun i=>f (k+i)) (n - k)=(x,m):=⟨_,_,rfl⟩
   have hc:=utf_next w (some ⟨g,o+k,none⟩) (n - k) (cap - k) _ hR2 (by omega) (by unfold maxLen;omega) hL
   rw [hx] at hb hc
   have HB:=Lib.hid hb
   have HX:=Lib.hid hx
   have hlt':(k:Int) < (n:Int):=by omega
   have hkc:¬ cap=k:=by omega
   have hkn:k ≤ n:=hk
   clear hx hb
   cases x with
   | none =>
    have HB2:Hid (Utf.bad f n 0=some k):=HB.out.symm
    clear HB
    go_wp2_with (go_at_call 88;refine hc.mono ?_;rintro e w' ⟨rfl,rfl⟩)
    refine bodyPost_ret (results_tmp rfl _ _ _) rfl ?_
    refine ⟨_,rfl,?_,(Fr.refl _ _).alloc _⟩
    rw [HB2.out]
    exact ErV.new w _ k 30 (Nat.le_refl _)
   | some x =>
    obtain ⟨hm1,hm2,hm3⟩:=Utf.next_size _ _ _ _ HX.out
    have e:k+max m 1=k+m:=by omega
    simp only [e] at HB
    have hx0:¬ (x:Int) < 0:=by omega
    go_wp2_with (go_at_call 88;refine hc.mono ?_;rintro e w' ⟨rfl,rfl⟩)
    go_round
    case rel=>exact ⟨k+m,by omega,by go_num,HB.out⟩
    case measure=>simp [intOf];omega
  ·obtain rfl:k=n:=by omega
   rw [Utf.bad,if_neg (by omega)] at hb
   have HB2:=Lib.hid hb
   clear hb
   go_wp2
   refine bodyPost_ret (results_tmp rfl _ _ _) rfl ?_
   refine ⟨_,rfl,?_,Fr.refl _ _⟩
   rw [← HB2.out]
   rfl
end Go.Proofs.YtgklmpooonnmiaaGreatDoor

namespace Go.Proofs.YtgklmpooonnmiaaGreatDoor
open Go.RowKit
def bn (s:ByteArray) (i:Nat):Nat:=(nats s).getD i 0
theorem bn_lt (s:ByteArray) (i:Nat):bn s i < 256:=by
 unfold bn
 by_cases h:i < (nats s).length
 ·rw [List.getD_eq_getElem?_getD,List.getElem?_eq_getElem h];exact nats_lt s _ (List.getElem_mem _)
 ·rw [List.getD_eq_getElem?_getD,List.getElem?_eq_none (by omega)];exact (by decide:0 < 256)
theorem bn_at (s:ByteArray) (i:Nat):∀ h:i < s.size,(s[i]'h).toNat=bn s i:=fun h=>by
 have h1:=bn_lt s i
 unfold bn at h1 ⊢
 rw [show s[i]'h=UInt8.ofNat ((nats s).getD i 0) from nats_at s i h,UInt8.toNat_ofNat',Nat.mod_eq_of_lt h1]
theorem bn_cons (s:ByteArray) (k:Nat) (h:k < s.size):(nats s).take (k+1)=(nats s).take k ++ [bn s k]:=by
 have h2:k < (nats s).length:=by rw [nats_length];exact h
 rw [List.take_succ_eq_append_getElem h2]
 unfold bn
 rw [List.getD_eq_getElem?_getD,List.getElem?_eq_getElem h2];rfl
theorem bn_data (s:ByteArray) (i:Nat):(s.data.toList.getD i 0).toNat=bn s i:=by
 simp only [bn,nats,List.getD_eq_getElem?_getD,List.getElem?_map]
 cases s.data.toList[i]? <;> rfl
theorem rb_bytes (w:World) (s:ByteArray) (h:s.size ≤ maxLen):RB (Lib.bytesWorld w 5 s) (some ⟨w.heap.size,0,none⟩) s.size (bn s) :=
 ⟨fun _=>⟨w.heap.size,0,rfl,fun i hi=>by rw [Nat.zero_add,Lib.bytesWorld_cell w 5 s i hi,← bn_data s i]⟩,bn_lt s,h⟩
namespace Lex
def esc (l:List Nat):List Nat:=l.flatMap fun c=>if c=34 ∨ c=92 then [92,c] else [c]
theorem esc_snoc (l:List Nat) (c:Nat):esc (l ++ [c])=esc l ++ if c=34 ∨ c=92 then [92,c] else [c]:=by simp [esc]
theorem esc_length (l:List Nat):(esc l).length ≤ 2 * l.length:=by
 induction l with
 | nil=>simp [esc]
 | cons c l ih =>
  have e:esc (c :: l)=(if c=34 ∨ c=92 then [92,c] else [c]) ++ esc l:=by simp [esc]
  rw [e,List.length_append]
  simp only [List.length_cons]
  split <;> simp <;> omega
def quote (s:ByteArray):Option (List Nat) :=
 if Utf.bad (bn s) s.size 0=none ∧ (nats s).all (fun c=>32 ≤ c)=true then some (34 :: (esc (nats s) ++ [34])) else none
end Lex
set_option maxHeartbeats 4000000 in
set_option maxRecDepth 100000 in
theorem lex_quote (w:World) (s:ByteArray) (hs:s.size ≤ 100000000) (hL:Least w) :
  Calls Tryz.prog 29 #[.string s] w fun e w'=>e=.returned (.tuple #[.string (ba ((Lex.quote s).getD [])),.bool (Lex.quote s).isSome]) ∧ Fr [] w w':=by
 have hs2:s.size ≤ maxLen:=by unfold maxLen;omega
 have cv:=conv w s
 have HCH:=Lib.hid (utf_check (Lib.bytesWorld w 5 s) _ s.size (grownCap w s.size 0 5) _ (rb_bytes w s hs2) (grownCap_ge _ _ _) (grownCap_le _ _ _ hs2) (hL.fr (fr_bytes w _ s) (by simp)))
 have HFB:=Lib.hid (fr_bytes w 5 s)
 obtain ⟨b,hb⟩:∃ b,Hid (Utf.bad (bn s) s.size 0=b):=⟨_,rfl⟩
 clear hs2
 go_enter Tryz.func29,Tryz.ntmps29
 go_wp2_with fail
 refine HCH.out.mono ?_
 rintro e w1 ⟨v,rfl,hv,hF⟩
 rw [hb.out] at hv
 have HF1:=Lib.hid (HFB.out.trans0 hF)
 clear hF HCH HFB cv
 cases b with
 | some p =>
  obtain ⟨_,_,rfl,_⟩:=hv
  have HQ:Hid (Lex.quote s=none):=by show _=_;unfold Lex.quote;rw [hb.out];simp
  clear hb
  go_wp2_with fail
  go_ret2
  rw [HQ.out]
  exact ⟨rfl,HF1.out⟩
 | none =>
  obtain rfl:v=.nilIface:=hv
  go_wp2_with fail
  have hle:=HF1.out.size
  have hown0:(w1.alloc (.cells #[.int .u8 34] 5)).ownsRow w.heap.size 5 1 (.slice (some ⟨w1.heap.size,0,none⟩) 1 1) (1+(Lex.esc ((nats s).take 0)).length) (u8s (34 :: Lex.esc ((nats s).take 0))) :=
   ⟨rfl,Or.inr ⟨_,1,_,rfl,hle,heap_alloc_last _ _,by simp [Lex.esc],by decide,rfl,rfl⟩⟩
  refine wp_fresh (fun W=>W.ownsRow w.heap.size 5 1 (.slice (some ⟨w1.heap.size,0,none⟩) 1 1) (1+(Lex.esc ((nats s).take 0)).length) (u8s (34 :: Lex.esc ((nats s).take 0))) ∧ Fr [] w W) ⟨hown0,HF1.out.alloc _⟩ ?_
  rintro W0 ⟨ho0,hF0⟩
  have HO0:=Lib.hid ho0
  have HF0:=Lib.hid hF0
  clear hown0 ho0 hF0 HF1 hle hL
  go_loopw [4,14] (fun v t W=>∃ k:Nat,k ≤ s.size ∧ t=.int .i64 k ∧ W.ownsRow w.heap.size 5 1 v (1+(Lex.esc ((nats s).take k)).length) (u8s (34 :: Lex.esc ((nats s).take k))) ∧ Fr [] w W ∧ ((nats s).take k).all (fun c=>32 ≤ c)=true) (fun _ t _=>s.size - (intOf t).toNat)
  case atStart=>exact ⟨0,by omega,rfl,HO0.out,HF0.out,rfl⟩
  case round =>
   clear HO0 HF0
   obtain ⟨k,hk,rfl,ho,hF,hall⟩:=hrel
   have HO:=Lib.hid ho
   have HF:=Lib.hid hF
   have HA:=Lib.hid hall
   clear ho hF hall
   have HEL:=Lib.hid (Lex.esc_length ((nats s).take k))
   have HTL:Hid (((nats s).take k).length ≤ 100000000):=by show _ ≤ _;rw [List.length_take,nats_length];omega
   by_cases hlt:k < s.size
   ·have hlt':(k:Int) < (s.size:Int):=by omega
    have hbv:=Lib.hid (bn_at s k)
    have hbl:=bn_lt s k
    have HC:=Lib.hid (bn_cons s k hlt)
    obtain ⟨c,hc⟩:∃ c,Hid (bn s k=c):=⟨_,rfl⟩
    rw [hc.out] at hbv hbl HC
    have hz:(s[k]'hlt).toNat=c:=hbv.out hlt
    clear hbv
    by_cases h32:c < 32
    ·have h32':(c:Int) < 32:=by omega
     have HQ:Hid (Lex.quote s=none):=by
      show _=_
      unfold Lex.quote
      rw [if_neg]
      rintro ⟨_,h⟩
      have h2:=List.all_eq_true.1 h c (by
       have hm:c ∈ (nats s).take (k+1):=by rw [HC.out];simp
       exact List.mem_of_mem_take hm)
      simp at h2;omega
     clear hc hb
     go_wp2_with fail
     go_ret2
     rw [HQ.out]
     exact ⟨rfl,HF.out⟩
    ·have h32':¬ (c:Int) < 32:=by omega
     have HA2:Hid (((nats s).take (k+1)).all (fun c=>32 ≤ c)=true):=by show _=_;rw [HC.out,List.all_append,HA.out];simp;omega
     by_cases hq:c=34 ∨ c=92
     ·have HE:Hid (Lex.esc ((nats s).take (k+1))=Lex.esc ((nats s).take k) ++ [92,c]):=by show _=_;rw [HC.out,Lex.esc_snoc,if_pos hq]
      have hlen:1+(Lex.esc ((nats s).take k)).length < 300000000:=by have:=HEL.out;have:=HTL.out;omega
      have ce1:((c:Int) == 34)=true ∨ ((c:Int) == 34)=false ∧ ((c:Int) == 92)=true:=by
       by_cases e:c=34
       ·exact Or.inl (by rw [e];rfl)
       ·refine Or.inr ⟨by simp;omega,by simp;omega⟩
      have HLEN:=Lib.hid hlen
      clear hlen
      rcases ce1 with ce1 | ⟨ce1,ce2⟩
      all_goals
       go_wp2_with (at_builtin;refine app8 rfl (.tmp 28) (.tmp 29) rfl w _ _ _ 92 rfl rfl HO.out HF.out (by have:=HLEN.out;omega) ?_)
       intro v1 w2 ho1 hf1
       have HO1:=Lib.hid ho1
       have HF1:=Lib.hid hf1
       clear ho1 hf1
       go_wp2_with (at_builtin;refine app8 rfl (.tmp 31) (.tmp 33) rfl w _ _ _ c rfl rfl HO1.out HF1.out (by have:=HLEN.out;omega) ?_)
       intro v2 w3 ho2 hf2
       rw [← HE.out,show 1+(Lex.esc ((nats s).take k)).length+1+1=1+(Lex.esc ((nats s).take (k+1))).length by rw [HE.out];simp;omega] at ho2
       have HO2:=Lib.hid ho2
       have HF2:=Lib.hid hf2
       clear ho2 hf2
       go_wp2_with fail
       go_roundw
       case rel=>first | exact ⟨k+1,by omega,by go_num,HO2.out,HF2.out,HA2.out⟩ | ((repeat apply Exists.intro);exact ⟨⟨k+1,by omega,by go_num,HO2.out,HF2.out,HA2.out⟩,rfl⟩)
       case measure=>simp [intOf];omega
     ·have HE:Hid (Lex.esc ((nats s).take (k+1))=Lex.esc ((nats s).take k) ++ [c]):=by show _=_;rw [HC.out,Lex.esc_snoc,if_neg hq]
      have hlen:1+(Lex.esc ((nats s).take k)).length < 300000000:=by have:=HEL.out;have:=HTL.out;omega
      have ce1:((c:Int) == 34)=false:=by simp;omega
      have ce2:((c:Int) == 92)=false:=by simp;omega
      have HLEN:=Lib.hid hlen
      clear hlen hq
      go_wp2_with (at_builtin;refine app8 rfl (.tmp 31) (.tmp 33) rfl w _ _ _ c rfl rfl HO.out HF.out (by have:=HLEN.out;omega) ?_)
      intro v2 w3 ho2 hf2
      rw [← HE.out,show 1+(Lex.esc ((nats s).take k)).length+1=1+(Lex.esc ((nats s).take (k+1))).length by rw [HE.out];simp;omega] at ho2
      have HO2:=Lib.hid ho2
      have HF2:=Lib.hid hf2
      clear ho2 hf2
      go_wp2_with fail
      go_roundw
      case rel=>first | exact ⟨k+1,by omega,by go_num,HO2.out,HF2.out,HA2.out⟩ | ((repeat apply Exists.intro);exact ⟨⟨k+1,by omega,by go_num,HO2.out,HF2.out,HA2.out⟩,rfl⟩)
      case measure=>simp [intOf];omega
   ·obtain rfl:k=s.size:=by omega
    have ht:(nats s).take s.size=nats s:=List.take_of_length_le (by rw [nats_length];exact Nat.le_refl _)
    rw [ht] at HO HA HEL HTL
    have HQ:Hid (Lex.quote s=some (34 :: (Lex.esc (nats s) ++ [34]))):=by
     show _=_
     unfold Lex.quote
     rw [if_pos ⟨hb.out,HA.out⟩]
    clear ht hb
    go_wp2_with (at_builtin;refine app8 rfl (.tmp 36) (.tmp 37) rfl w _ _ _ 34 rfl rfl HO.out HF.out (by have:=HEL.out;have:=HTL.out;omega) ?_)
    intro v2 w3 ho2 hf2
    have cv2:=owns_str ho2
    have HF2:=Lib.hid hf2
    clear ho2 hf2
    go_wp2_with fail
    go_ret2
    rw [HQ.out]
    exact ⟨rfl,HF2.out⟩
end Go.Proofs.YtgklmpooonnmiaaGreatDoor
