/-
  Contracts of the words of a text, and of its reading; texts of less than the bounds that stand in each.
-/
import Derived.Test.YtdeljonfleopdaaDoorReaderOne
set_option linter.unusedSectionVars false
set_option linter.unusedSimpArgs false
set_option linter.unusedVariables false
namespace Go.Proofs.L08
open Go Aw Go.Proofs
variable {W0 : World}
/-- Where the first character is that is not like these. -/
def runAt (q : Int → Bool) (s : List UInt8) : Nat → Nat → Nat
  | 0, _ => s.length
  | f + 1, p => if p < s.length then (if q (udec s p).1 = true then runAt q s f (p + (udec s p).2) else p) else s.length
def runOf (q : Int → Bool) (s : List UInt8) : Nat := runAt q s s.length 0
theorem udec_end (s : List UInt8) (p : Nat) (hp : p < s.length) : p + (udec s p).2 ≤ s.length := by
  have hu := udec_spec s p
  by_cases h2 : (udec s p).2 ≤ 1
  · omega
  · have := hu.2.2 ((udec s p).2 - 1) (by omega) (by omega); omega
theorem runAt_le (q : Int → Bool) (s : List UInt8) : ∀ f p, runAt q s f p ≤ s.length
  | 0, _ => Nat.le_refl _
  | f + 1, p => by
    rw [runAt]
    split
    · split
      · exact runAt_le q s f _
      · omega
    · exact Nat.le_refl _
theorem runOf_le (q : Int → Bool) (s : List UInt8) : runOf q s ≤ s.length := runAt_le q s _ _
set_option linter.unusedSimpArgs false in
set_option maxRecDepth 100000 in
set_option maxHeartbeats 4000000 in
theorem run_ok (f : FuncId) (q : Int → Bool) (hq : ∀ r : Int, CallsA Tryd.prog W0 f [] [.d (.int .i32 r)] fun rs os => rs = [.d (.bool (q r))] ∧ os = []) (s : List UInt8) (hs : s.length < 1000000000000) :
    CallsA Tryd.prog W0 33 [] [.d (.str s), .d (.fn f)] fun rs os => rs = [.d (.int .i64 (runOf q s : Nat))] ∧ os = [] := by
  refine calls_of_awpC tok [.tmp 4] Tryd.func33 rfl rfl rfl rfl rfl ?_
  ((conv => whnf); (repeat' (first | (refine Br.tt (by first | assumption | with_reducible rfl | with_reducible exact Bool.not_false) ?_; conv => whnf) | (refine Br.ff (by first | assumption | with_reducible rfl | with_reducible exact Bool.not_true) ?_; conv => whnf) | fail)))
  refine loop_by2 (fun (k p : Nat) => p ≤ s.length ∧ s.length ≤ p + k ∧ runAt q s k p = runOf q s) (fun _ _ => mkT [(0, .d (.str s)), (1, .d (.fn f)), (4, .d (.int .i64 0)), (8, .ptr 8 0)]) (fun _ p => mkT [(8, .iter s p)]) (fun _ p => s.length - p) s.length 0
    ⟨by omega, by omega, rfl⟩ (Weak.of [] rfl rfl ⟨⟨_, rfl, rfl⟩, ⟨_, rfl, rfl⟩, ⟨_, rfl, rfl⟩, ⟨_, rfl, rfl⟩, trivial⟩ ⟨rfl, trivial⟩) ?_
  intro k p ⟨hp, hk, e⟩
  ((conv => whnf); (repeat' (first | (refine Br.tt (by first | assumption | with_reducible rfl | with_reducible exact Bool.not_false) ?_; conv => whnf) | (refine Br.ff (by first | assumption | with_reducible rfl | with_reducible exact Bool.not_true) ?_; conv => whnf) | fail)))
  ((repeat' (first | (refine Br.tt (by first | assumption | with_reducible rfl | with_reducible exact Bool.not_false) ?_; conv => whnf) | (refine Br.ff (by first | assumption | with_reducible rfl | with_reducible exact Bool.not_true) ?_; conv => whnf) | fail)); (refine Br.mk (fun h => ?_) (fun h => ?_) <;> ((conv => whnf); (repeat' (first | (refine Br.tt (by first | assumption | with_reducible rfl | with_reducible exact Bool.not_false) ?_; conv => whnf) | (refine Br.ff (by first | assumption | with_reducible rfl | with_reducible exact Bool.not_true) ?_; conv => whnf) | fail)))))
  · have hlt : p < s.length := by simpa using h
    have hwd := udec_wide s p
    have hue := udec_end s p hlt
    obtain ⟨k', rfl⟩ : ∃ k', k = k' + 1 := ⟨k - 1, by omega⟩
    rw [runAt, if_pos hlt] at e
    refine CallsA.then (hq _) ?_
    by_cases hb : q (udec s p).1 = true
    · rw [hb] at e ⊢
      rw [if_pos rfl] at e
      ((conv => whnf); (repeat' (first | (refine Br.tt (by first | assumption | with_reducible rfl | with_reducible exact Bool.not_false) ?_; conv => whnf) | (refine Br.ff (by first | assumption | with_reducible rfl | with_reducible exact Bool.not_true) ?_; conv => whnf) | (refine Br.tt rfl ?_; conv => whnf) | (refine Br.ff rfl ?_; conv => whnf) | fail)))
      exact ⟨k', p + (udec s p).2, ⟨⟨by omega, by omega, e⟩, by omega⟩, Weak.of [] rfl rfl ⟨⟨_, rfl, rfl⟩, ⟨_, rfl, rfl⟩, ⟨_, rfl, rfl⟩, ⟨_, rfl, rfl⟩, trivial⟩ ⟨rfl, trivial⟩⟩
    · have hb : q (udec s p).1 = false := by simpa using hb
      rw [hb] at e ⊢
      rw [if_neg (by simp)] at e
      rw [← e]
      ((conv => whnf); (repeat' (first | (refine Br.tt (by first | assumption | with_reducible rfl | with_reducible exact Bool.not_false) ?_; conv => whnf) | (refine Br.ff (by first | assumption | with_reducible rfl | with_reducible exact Bool.not_true) ?_; conv => whnf) | (refine Br.tt rfl ?_; conv => whnf) | (refine Br.ff rfl ?_; conv => whnf) | fail)))
      exact ⟨rfl, rfl⟩
  · have hge : p = s.length := by simp at h; omega
    have : runAt q s k p = s.length := by
      cases k with
      | zero => rfl
      | succ k => rw [runAt, if_neg (by omega)]
    rw [← e, this]
    exact ⟨rfl, rfl⟩
def isBlankR (r : Int) : Bool := decide (r = 32 ∨ r = 9 ∨ r = 10 ∨ r = 13)
set_option linter.unusedSimpArgs false in
set_option maxRecDepth 100000 in
set_option maxHeartbeats 4000000 in
theorem blank_ok (r : Int) : CallsA Tryd.prog W0 34 [] [.d (.int .i32 r)] fun rs os => rs = [.d (.bool (isBlankR r))] ∧ os = [] := by
  refine calls_of_awpC tok [.tmp 2] Tryd.func34 rfl rfl rfl rfl rfl ?_
  conv => whnf
  repeat' (first | (refine Br.tt (by first | assumption | with_reducible rfl | with_reducible exact Bool.not_false) ?_; conv => whnf) | (refine Br.ff (by first | assumption | with_reducible rfl | with_reducible exact Bool.not_true) ?_; conv => whnf) | (refine Br.mk (fun _ => ?_) (fun _ => ?_) <;> (conv => whnf)))
  all_goals (by_cases h13 : r = 13 <;> simp_all [isBlankR])
def isDigitR (r : Int) : Bool := decide (48 ≤ r ∧ r ≤ 57)
set_option linter.unusedSimpArgs false in
set_option maxRecDepth 100000 in
set_option maxHeartbeats 4000000 in
theorem digit_ok (r : Int) : CallsA Tryd.prog W0 53 [] [.d (.int .i32 r)] fun rs os => rs = [.d (.bool (isDigitR r))] ∧ os = [] := by
  refine calls_of_awpC tok [.tmp 2] Tryd.func53 rfl rfl rfl rfl rfl ?_
  conv => whnf
  repeat' (first | (refine Br.tt (by first | assumption | with_reducible rfl | with_reducible exact Bool.not_false) ?_; conv => whnf) | (refine Br.ff (by first | assumption | with_reducible rfl | with_reducible exact Bool.not_true) ?_; conv => whnf) | (refine Br.mk (fun _ => ?_) (fun _ => ?_) <;> (conv => whnf)))
  all_goals (simp [isDigitR] at *; try omega)
def plainR (r : Int) : List UInt8 :=
  if r = 8804 then [60, 61] else if r = 8805 then [62, 61] else if r = 8800 then [33, 61] else if r = 8801 then [126] else if r = 8722 then [45] else if r = 183 then [42] else if r = 8594 then [45, 62]
  else if r = 8596 then [60, 45, 62] else if r = 8743 then [97, 110, 100] else if r = 8744 then [111, 114] else if r = 172 then [110, 111, 116] else if r = 8707 then [101, 120] else if r = 8704 then [97, 108, 108] else []
set_option linter.unusedSimpArgs false in
set_option maxRecDepth 100000 in
set_option maxHeartbeats 4000000 in
theorem plain_ok (r : Int) : CallsA Tryd.prog W0 55 [] [.d (.int .i32 r)] fun rs os => rs = [.d (.str (plainR r))] ∧ os = [] := by
  refine calls_of_awpC tok [.tmp 2] Tryd.func55 rfl rfl rfl rfl rfl ?_
  ((conv => whnf); (repeat' (first | (refine Br.tt (by first | assumption | with_reducible rfl | with_reducible exact Bool.not_false) ?_; conv => whnf) | (refine Br.ff (by first | assumption | with_reducible rfl | with_reducible exact Bool.not_true) ?_; conv => whnf) | fail)))
  repeat' (first | (refine Br.tt (by first | assumption | with_reducible rfl | with_reducible exact Bool.not_false) ?_; conv => whnf) | (refine Br.ff (by first | assumption | with_reducible rfl | with_reducible exact Bool.not_true) ?_; conv => whnf) | (refine Need.of (by first | omega | (simp; done) | (simp; omega) | (simp at *; omega)) ?_; conv => whnf) | (refine Br.mk (fun _ => ?_) (fun _ => ?_) <;> (conv => whnf)) | fail)
  all_goals (
    refine ⟨?_, by trivial⟩
    simp only [beq_iff_eq, beq_eq_false_iff_ne] at *
    simp [plainR, *])
/-- A number, by its digits; none: it is too great. -/
def numOf : List UInt8 → Nat → Option Nat
  | [], n => some n
  | b :: l, n => if (9223372036854775807 - (b.toNat - 48)) / 10 < n then none else numOf l (10 * n + (b.toNat - 48))
theorem numOf_le : ∀ (l : List UInt8) (n v : Nat), n ≤ 9223372036854775807 → (∀ b ∈ l, 48 ≤ b.toNat ∧ b.toNat ≤ 57) → numOf l n = some v → v ≤ 9223372036854775807
  | [], n, v, hn, _, h => by rw [numOf] at h; cases h; exact hn
  | b :: l, n, v, hn, hd, h => by
    rw [numOf] at h
    split at h
    · cases h
    · have := hd b (List.mem_cons_self ..)
      exact numOf_le l _ v (by omega) (fun c hc => hd c (List.mem_cons_of_mem _ hc)) h
def numRes (o : Option Nat) : List PV := match o with
  | some v => [.d (.int .i64 v), .d (.bool true)]
  | none => [.d (.int .i64 0), .d (.bool false)]
set_option linter.unusedSimpArgs false in
set_option maxRecDepth 100000 in
set_option maxHeartbeats 4000000 in
theorem number_ok (s : List UInt8) (hs : s.length < 1000000000000) (hd : ∀ b ∈ s, 48 ≤ b.toNat ∧ b.toNat ≤ 57) : CallsA Tryd.prog W0 54 [] [.d (.str s)] fun rs os => rs = numRes (numOf s 0) ∧ os = [] := by
  refine calls_of_awpC tok [.tmp 2, .tmp 3] Tryd.func54 rfl rfl rfl rfl rfl ?_
  ((conv => whnf); (repeat' (first | (refine Br.tt (by first | assumption | with_reducible rfl | with_reducible exact Bool.not_false) ?_; conv => whnf) | (refine Br.ff (by first | assumption | with_reducible rfl | with_reducible exact Bool.not_true) ?_; conv => whnf) | fail)))
  refine loop_by2 (fun (p n : Nat) => p ≤ s.length ∧ n ≤ 9223372036854775807 ∧ numOf (s.drop p) n = numOf s 0) (fun _ n => mkT [(0, .d (.str s)), (4, .d (.int .u64 n)), (9, .ptr 9 0)]) (fun p _ => mkT [(9, .iter s p)]) (fun p _ => s.length - p) 0 0
    ⟨by omega, by omega, rfl⟩ (Weak.of [] rfl rfl ⟨⟨_, rfl, rfl⟩, ⟨_, rfl, rfl⟩, ⟨_, rfl, rfl⟩, trivial⟩ ⟨rfl, trivial⟩) ?_
  intro p n ⟨hp, hn, e⟩
  ((conv => whnf); (repeat' (first | (refine Br.tt (by first | assumption | with_reducible rfl | with_reducible exact Bool.not_false) ?_; conv => whnf) | (refine Br.ff (by first | assumption | with_reducible rfl | with_reducible exact Bool.not_true) ?_; conv => whnf) | fail)))
  ((repeat' (first | (refine Br.tt (by first | assumption | with_reducible rfl | with_reducible exact Bool.not_false) ?_; conv => whnf) | (refine Br.ff (by first | assumption | with_reducible rfl | with_reducible exact Bool.not_true) ?_; conv => whnf) | fail)); (refine Br.mk (fun h => ?_) (fun h => ?_) <;> ((conv => whnf); (repeat' (first | (refine Br.tt (by first | assumption | with_reducible rfl | with_reducible exact Bool.not_false) ?_; conv => whnf) | (refine Br.ff (by first | assumption | with_reducible rfl | with_reducible exact Bool.not_true) ?_; conv => whnf) | fail)))))
  · have hlt : p < s.length := by simpa using h
    have hu := (udec_spec s p).1
    have hdd := hd s[p] (List.getElem_mem hlt)
    have hgd : s.getD p 0 = s[p] := by simp [List.getD_eq_getElem?_getD, hlt]
    rw [hgd] at hu
    have hu := hu (by omega)
    rw [hu.1, hu.2]
    have hdr : s.drop p = s[p] :: s.drop (p + 1) := List.drop_eq_getElem_cons hlt
    rw [hdr, numOf] at e
    generalize hx : (s[p]).toNat = x at *
    have w1 : IntKind.i32.wrap ((x : Int) - 48) = (x : Int) - 48 := wrap_i32 (by omega) (by omega)
    have w2 : IntKind.u64.wrap ((x : Int) - 48) = ((x - 48 : Nat) : Int) := by rw [wrap_u64 (by omega) (by omega)]; omega
    refine Need.of (by decide) ?_
    have w3 : IntKind.u64.wrap ((9223372036854775807 : Int) - IntKind.u64.wrap (IntKind.i32.wrap ((x : Int) - 48))) = ((9223372036854775807 - (x - 48) : Nat) : Int) := by
      rw [w1, w2, wrap_u64 (by omega) (by omega)]; omega
    have w4 : IntKind.u64.wrap ((IntKind.u64.wrap ((9223372036854775807 : Int) - IntKind.u64.wrap (IntKind.i32.wrap ((x : Int) - 48)))).tdiv 10) = (((9223372036854775807 - (x - 48)) / 10 : Nat) : Int) := by
      rw [w3, show ((9223372036854775807 - (x - 48) : Nat) : Int).tdiv 10 = (((9223372036854775807 - (x - 48)) / 10 : Nat) : Int) from rfl, wrap_u64 (by omega) (by omega)]
    ((conv => whnf); (repeat' (first | (refine Br.tt (by first | assumption | with_reducible rfl | with_reducible exact Bool.not_false) ?_; conv => whnf) | (refine Br.ff (by first | assumption | with_reducible rfl | with_reducible exact Bool.not_true) ?_; conv => whnf) | fail)))
    ((repeat' (first | (refine Br.tt (by first | assumption | with_reducible rfl | with_reducible exact Bool.not_false) ?_; conv => whnf) | (refine Br.ff (by first | assumption | with_reducible rfl | with_reducible exact Bool.not_true) ?_; conv => whnf) | fail)); (refine Br.mk (fun g => ?_) (fun g => ?_) <;> ((conv => whnf); (repeat' (first | (refine Br.tt (by first | assumption | with_reducible rfl | with_reducible exact Bool.not_false) ?_; conv => whnf) | (refine Br.ff (by first | assumption | with_reducible rfl | with_reducible exact Bool.not_true) ?_; conv => whnf) | fail)))))
    · rw [w4] at g
      have : (9223372036854775807 - (x - 48)) / 10 < n := by simp at g; omega
      rw [if_pos this] at e
      rw [← e]
      exact ⟨rfl, rfl⟩
    · rw [w4] at g
      have hlt2 : ¬ (9223372036854775807 - (x - 48)) / 10 < n := by simp at g; omega
      rw [if_neg hlt2] at e
      refine ⟨p + 1, 10 * n + (x - 48), ⟨⟨by omega, by omega, e⟩, by omega⟩, Weak.of [] rfl rfl ⟨⟨_, rfl, rfl⟩, ⟨_, rfl, ?_⟩, ⟨_, rfl, rfl⟩, trivial⟩ ⟨rfl, trivial⟩⟩
      simp only [Pre]
      rw [w1, w2, wrap_u64 (n := 10 * (n : Int)) (by omega) (by omega), wrap_u64 (by omega) (by omega)]
      congr 3
  · have hge : p = s.length := by simp at h; omega
    rw [hge, List.drop_length, numOf] at e
    rw [← e, wrap_i64 (by omega) (by omega)]
    exact ⟨rfl, rfl⟩
end Go.Proofs.L08

namespace Go.Proofs.L08
open Go Aw Go.Proofs
variable {W0 : World}
def rcount (s : List UInt8) : Nat := Lib.runeCount ⟨s.toArray⟩
theorem rcount_le (s : List UInt8) : rcount s ≤ s.length := by
  have := Lib.runeCount_le ⟨s.toArray⟩
  simpa [rcount, ByteArray.size] using this
/-- A run of a name's characters, as a word. -/
def nameM (s : List UInt8) : Wd × Int := if reserved s = true then (⟨2, s, 0, 0, 0⟩, 0) else if 16 < rcount s then (zeroWd, 6) else (⟨0, s, 0, 0, 0⟩, 0)
set_option linter.unusedSimpArgs false in
set_option maxRecDepth 100000 in
set_option maxHeartbeats 4000000 in
theorem lexName_ok (s : List UInt8) (hs : s.length < 1000000000000) : CallsA Tryd.prog W0 52 [] [.d (.str s)] fun rs os => rs = [.d (nameM s).1.dv, .d (.int .i64 (nameM s).2)] ∧ os = [] := by
  have h1 := reserved_ok (W0 := W0) s
  have h2 : CallsA Tryd.prog W0 23 [] [.d (.str s)] fun rs os => rs = [.d (.int .i64 (rcount s))] ∧ os = [] := count_ok s hs
  unfold nameM
  refine calls_of_awpC tok [.cell 2 79, .tmp 3] Tryd.func52 rfl rfl rfl rfl rfl ?_
  ((conv => whnf); (repeat' (first | (refine Br.tt (by first | assumption | with_reducible rfl | with_reducible exact Bool.not_false) ?_; conv => whnf) | (refine Br.ff (by first | assumption | with_reducible rfl | with_reducible exact Bool.not_true) ?_; conv => whnf) | fail)))
  refine CallsA.then h1 ?_
  by_cases hr : reserved s = true
  · rw [hr, if_pos rfl]
    ((conv => whnf); (repeat' (first | (refine Br.tt (by first | assumption | with_reducible rfl | with_reducible exact Bool.not_false) ?_; conv => whnf) | (refine Br.ff (by first | assumption | with_reducible rfl | with_reducible exact Bool.not_true) ?_; conv => whnf) | (refine Br.tt rfl ?_; conv => whnf) | (refine Br.ff rfl ?_; conv => whnf) | fail)))
    exact ⟨rfl, rfl⟩
  · have hr : reserved s = false := by simpa using hr
    rw [hr, if_neg (by simp)]
    ((conv => whnf); (repeat' (first | (refine Br.tt (by first | assumption | with_reducible rfl | with_reducible exact Bool.not_false) ?_; conv => whnf) | (refine Br.ff (by first | assumption | with_reducible rfl | with_reducible exact Bool.not_true) ?_; conv => whnf) | (refine Br.tt rfl ?_; conv => whnf) | (refine Br.ff rfl ?_; conv => whnf) | fail)))
    refine CallsA.then h2 ?_
    ((conv => whnf); (repeat' (first | (refine Br.tt (by first | assumption | with_reducible rfl | with_reducible exact Bool.not_false) ?_; conv => whnf) | (refine Br.ff (by first | assumption | with_reducible rfl | with_reducible exact Bool.not_true) ?_; conv => whnf) | fail)))
    by_cases hc : 16 < rcount s
    · have e : decide (((rcount s : Nat) : Int) > 16) = true := by simp; omega
      rw [if_pos hc]
      ((conv => whnf); (repeat' (first | (refine Br.tt (by first | assumption | with_reducible rfl | with_reducible exact Bool.not_false) ?_; conv => whnf) | (refine Br.ff (by first | assumption | with_reducible rfl | with_reducible exact Bool.not_true) ?_; conv => whnf) | fail)))
      exact ⟨rfl, rfl⟩
    · have e : decide (((rcount s : Nat) : Int) > 16) = false := by simp; omega
      rw [if_neg hc]
      ((conv => whnf); (repeat' (first | (refine Br.tt (by first | assumption | with_reducible rfl | with_reducible exact Bool.not_false) ?_; conv => whnf) | (refine Br.ff (by first | assumption | with_reducible rfl | with_reducible exact Bool.not_true) ?_; conv => whnf) | fail)))
      exact ⟨rfl, rfl⟩
def signsL : List (List UInt8) := [[60, 45, 62], [60, 61], [62, 61], [33, 61], [45, 62], [40], [41], [91], [93], [44], [46], [43], [45], [42], [61], [60], [62], [126]]
theorem signs_eq : Lib.fields signsText = signsL := by decide
theorem signsText_eq : signsText = [60, 45, 62, 32, 60, 61, 32, 62, 61, 32, 33, 61, 32, 45, 62, 32, 40, 32, 41, 32, 91, 32, 93, 32, 44, 32, 46, 32, 43, 32, 45, 32, 42, 32, 61, 32, 60, 32, 62, 32, 126] := by decide
/-- The first word of a text that isn't empty, how many bytes it has, the error. -/
def wordM (s : List UInt8) : Wd × Nat × Int :=
  let u := udec s 0
  if u.1 = 65533 ∧ u.2 ≤ 1 then (zeroWd, 0, 50)
  else if isStart u.1 = true then ((nameM (s.take (runOf isRest s))).1, runOf isRest s, (nameM (s.take (runOf isRest s))).2)
  else if isDigitR u.1 = true then match numOf (s.take (runOf isDigitR s)) 0 with
    | none => (zeroWd, 0, 52)
    | some v => (⟨1, [], v, 0, 0⟩, runOf isDigitR s, 0)
  else if plainR u.1 ≠ [] then (⟨2, plainR u.1, 0, 0, 0⟩, u.2, 0)
  else match signsL.find? (fun g => Lib.hasPrefix s g) with
    | some g => (⟨2, g, 0, 0, 0⟩, g.length, 0)
    | none => (zeroWd, 0, 51)
theorem runAt_digits (s : List UInt8) : ∀ f p, p ≤ s.length → (∀ j, j < p → 48 ≤ (s.getD j 0).toNat ∧ (s.getD j 0).toNat ≤ 57) → s.length ≤ p + f → ∀ j, j < runAt isDigitR s f p → 48 ≤ (s.getD j 0).toNat ∧ (s.getD j 0).toNat ≤ 57 := by
  intro f
  induction f with
  | zero => intro p hp h hf j hj; rw [runAt] at hj; exact h j (by omega)
  | succ f ih =>
    intro p hp h hf j hj
    rw [runAt] at hj
    split at hj
    · rename_i hlt
      split at hj
      · rename_i hq
        have hu := udec_spec s p
        have hd : 48 ≤ ((udec s p).1 : Int) ∧ ((udec s p).1 : Int) ≤ 57 := by simpa [isDigitR] using hq
        have hb : (s.getD p 0).toNat < 128 := by
          by_cases hb : (s.getD p 0).toNat < 128
          · exact hb
          · have := hu.2.1 hb; omega
        have h1 := hu.1 hb
        rw [h1.2] at hj
        refine ih (p + 1) (by omega) (fun j hj => ?_) (by omega) j hj
        by_cases e : j = p
        · subst e; omega
        · exact h j (by omega)
      · exact h j (by omega)
    · exact h j (by omega)
theorem digits_run (s : List UInt8) : ∀ b ∈ s.take (runOf isDigitR s), 48 ≤ b.toNat ∧ b.toNat ≤ 57 := by
  intro b hb
  obtain ⟨j, hj⟩ := List.getElem?_of_mem hb
  have hl := runOf_le isDigitR s
  rw [List.getElem?_take] at hj
  split at hj
  · rename_i hlt
    have := runAt_digits s s.length 0 (by omega) (by omega) (by omega) j hlt
    rw [List.getD_eq_getElem?_getD, hj] at this
    simpa using this
  · cases hj
theorem decodeGo_udec (s : List UInt8) (h : s ≠ []) : Lib.decodeGo ⟨s.toArray⟩ = udec s 0 := by
  unfold Lib.decodeGo udec
  rw [if_neg]
  simpa [ByteArray.size] using h
set_option linter.unusedSimpArgs false in
set_option maxRecDepth 100000 in
set_option maxHeartbeats 4000000 in
theorem lexWord_ok (hW : LibW W0) (s : List UInt8) (hs : s.length < 1000000000000) (hne : s ≠ []) : CallsA Tryd.prog W0 35 [] [.d (.str s)] fun rs os => rs = [.d (wordM s).1.dv, .d (.int .i64 ((wordM s).2.1 : Nat)), .d (.int .i64 (wordM s).2.2)] ∧ os = [] := by
  have h1 := decode_ok hW s
  rw [decodeGo_udec s hne] at h1
  unfold wordM
  simp only
  generalize udec s 0 = u at *
  obtain ⟨r, wd⟩ := u
  simp only at *
  have hst := start_ok (W0 := W0) r
  have hdg := digit_ok (W0 := W0) r
  have hpl := plain_ok (W0 := W0) r
  have hr1 := run_ok (W0 := W0) 51 isRest rest_ok s hs
  have hr2 := run_ok (W0 := W0) 53 isDigitR digit_ok s hs
  have hn1 := lexName_ok (W0 := W0) (s.take (runOf isRest s)) (by simp; omega)
  have hn2 := number_ok (W0 := W0) (s.take (runOf isDigitR s)) (by simp; omega) (digits_run s)
  have hl1 := runOf_le isRest s
  have hl2 := runOf_le isDigitR s
  refine calls_of_awpC tok [.cell 2 79, .tmp 3, .tmp 4] Tryd.func35 rfl rfl rfl rfl rfl ?_
  ((conv => whnf); (repeat' (first | (refine Br.tt (by first | assumption | with_reducible rfl | with_reducible exact Bool.not_false) ?_; conv => whnf) | (refine Br.ff (by first | assumption | with_reducible rfl | with_reducible exact Bool.not_true) ?_; conv => whnf) | fail)))
  refine CallsA.then h1 ?_
  ((conv => whnf); (repeat' (first | (refine Br.tt (by first | assumption | with_reducible rfl | with_reducible exact Bool.not_false) ?_; conv => whnf) | (refine Br.ff (by first | assumption | with_reducible rfl | with_reducible exact Bool.not_true) ?_; conv => whnf) | fail)))
  by_cases hbad : r = 65533 ∧ wd ≤ 1
  · have e1 : ((r : Int) == 65533) = true := by simp; omega
    have e2 : decide ((wd : Int) ≤ 1) = true := by simp; omega
    rw [if_pos hbad]
    ((conv => whnf); (repeat' (first | (refine Br.tt (by first | assumption | with_reducible rfl | with_reducible exact Bool.not_false) ?_; conv => whnf) | (refine Br.ff (by first | assumption | with_reducible rfl | with_reducible exact Bool.not_true) ?_; conv => whnf) | fail)))
    exact ⟨rfl, rfl⟩
  rw [if_neg hbad]
  have two : ∀ {Z : Prop}, (((r : Int) == 65533) = false → Z) → (((r : Int) == 65533) = true → decide ((wd : Int) ≤ 1) = false → Z) → Z := by
    intro Z z1 z2
    by_cases e : r = 65533
    · exact z2 (by simp; omega) (by simp; omega)
    · exact z1 (by simp; omega)
  refine two (fun e1 => ?_) (fun e1 e2 => ?_)
  all_goals (
    ((conv => whnf); (repeat' (first | (refine Br.tt (by first | assumption | with_reducible rfl | with_reducible exact Bool.not_false) ?_; conv => whnf) | (refine Br.ff (by first | assumption | with_reducible rfl | with_reducible exact Bool.not_true) ?_; conv => whnf) | fail)))
    refine CallsA.then hst ?_
    cases g1 : isStart (r : Int) with
    | true =>
      rw [if_pos rfl]
      ((conv => whnf); (repeat' (first | (refine Br.tt (by first | assumption | with_reducible rfl | with_reducible exact Bool.not_false) ?_; conv => whnf) | (refine Br.ff (by first | assumption | with_reducible rfl | with_reducible exact Bool.not_true) ?_; conv => whnf) | (refine Br.tt rfl ?_; conv => whnf) | (refine Br.ff rfl ?_; conv => whnf) | fail)))
      refine CallsA.then hr1 ?_
      ((conv => whnf); (repeat' (first | (refine Br.tt (by first | assumption | with_reducible rfl | with_reducible exact Bool.not_false) ?_; conv => whnf) | (refine Br.ff (by first | assumption | with_reducible rfl | with_reducible exact Bool.not_true) ?_; conv => whnf) | fail)))
      refine Need.of ⟨by omega, by omega⟩ ?_
      ((conv => whnf); (repeat' (first | (refine Br.tt (by first | assumption | with_reducible rfl | with_reducible exact Bool.not_false) ?_; conv => whnf) | (refine Br.ff (by first | assumption | with_reducible rfl | with_reducible exact Bool.not_true) ?_; conv => whnf) | fail)))
      rw [Int.toNat_natCast]
      refine CallsA.then hn1 ?_
      ((conv => whnf); (repeat' (first | (refine Br.tt (by first | assumption | with_reducible rfl | with_reducible exact Bool.not_false) ?_; conv => whnf) | (refine Br.ff (by first | assumption | with_reducible rfl | with_reducible exact Bool.not_true) ?_; conv => whnf) | fail)))
      generalize (nameM (List.take (runOf isRest s) s)).1 = w
      rcases w with ⟨k, t, n, b, c⟩
      exact ⟨rfl, rfl⟩
    | false =>
      rw [if_neg (by simp)]
      ((conv => whnf); (repeat' (first | (refine Br.tt (by first | assumption | with_reducible rfl | with_reducible exact Bool.not_false) ?_; conv => whnf) | (refine Br.ff (by first | assumption | with_reducible rfl | with_reducible exact Bool.not_true) ?_; conv => whnf) | (refine Br.tt rfl ?_; conv => whnf) | (refine Br.ff rfl ?_; conv => whnf) | fail)))
      refine CallsA.then hdg ?_
      cases g2 : isDigitR (r : Int) with
      | true =>
        rw [if_pos rfl]
        ((conv => whnf); (repeat' (first | (refine Br.tt (by first | assumption | with_reducible rfl | with_reducible exact Bool.not_false) ?_; conv => whnf) | (refine Br.ff (by first | assumption | with_reducible rfl | with_reducible exact Bool.not_true) ?_; conv => whnf) | (refine Br.tt rfl ?_; conv => whnf) | (refine Br.ff rfl ?_; conv => whnf) | fail)))
        refine CallsA.then hr2 ?_
        ((conv => whnf); (repeat' (first | (refine Br.tt (by first | assumption | with_reducible rfl | with_reducible exact Bool.not_false) ?_; conv => whnf) | (refine Br.ff (by first | assumption | with_reducible rfl | with_reducible exact Bool.not_true) ?_; conv => whnf) | fail)))
        refine Need.of ⟨by omega, by omega⟩ ?_
        ((conv => whnf); (repeat' (first | (refine Br.tt (by first | assumption | with_reducible rfl | with_reducible exact Bool.not_false) ?_; conv => whnf) | (refine Br.ff (by first | assumption | with_reducible rfl | with_reducible exact Bool.not_true) ?_; conv => whnf) | fail)))
        rw [Int.toNat_natCast]
        refine CallsA.then hn2 ?_
        cases numOf (List.take (runOf isDigitR s) s) 0 with
        | none =>
          unfold numRes
          ((conv => whnf); (repeat' (first | (refine Br.tt (by first | assumption | with_reducible rfl | with_reducible exact Bool.not_false) ?_; conv => whnf) | (refine Br.ff (by first | assumption | with_reducible rfl | with_reducible exact Bool.not_true) ?_; conv => whnf) | (refine Br.tt rfl ?_; conv => whnf) | (refine Br.ff rfl ?_; conv => whnf) | fail)))
          exact ⟨rfl, rfl⟩
        | some v =>
          unfold numRes
          ((conv => whnf); (repeat' (first | (refine Br.tt (by first | assumption | with_reducible rfl | with_reducible exact Bool.not_false) ?_; conv => whnf) | (refine Br.ff (by first | assumption | with_reducible rfl | with_reducible exact Bool.not_true) ?_; conv => whnf) | (refine Br.tt rfl ?_; conv => whnf) | (refine Br.ff rfl ?_; conv => whnf) | fail)))
          exact ⟨rfl, rfl⟩
      | false =>
        rw [if_neg (by simp)]
        ((conv => whnf); (repeat' (first | (refine Br.tt (by first | assumption | with_reducible rfl | with_reducible exact Bool.not_false) ?_; conv => whnf) | (refine Br.ff (by first | assumption | with_reducible rfl | with_reducible exact Bool.not_true) ?_; conv => whnf) | (refine Br.tt rfl ?_; conv => whnf) | (refine Br.ff rfl ?_; conv => whnf) | fail)))
        refine CallsA.then hpl ?_
        by_cases g3 : plainR (r : Int) = []
        · have e3 : (plainR (r : Int) != []) = false := by simpa using g3
          rw [if_neg (by simpa using g3)]
          have hf := fields_ok hW signsText (by decide) (by decide)
          rw [signs_eq, signsText_eq] at hf
          ((conv => whnf); (repeat' (first | (refine Br.tt (by first | assumption | with_reducible rfl | with_reducible exact Bool.not_false) ?_; conv => whnf) | (refine Br.ff (by first | assumption | with_reducible rfl | with_reducible exact Bool.not_true) ?_; conv => whnf) | fail)))
          refine CallsA.then hf ?_
          ((conv => whnf); (repeat' (first | (refine Br.tt (by first | assumption | with_reducible rfl | with_reducible exact Bool.not_false) ?_; conv => whnf) | (refine Br.ff (by first | assumption | with_reducible rfl | with_reducible exact Bool.not_true) ?_; conv => whnf) | fail)))
          refine loop_by1 (fun (i : Nat) => i ≤ 18 ∧ signsL.find? (fun g => Lib.hasPrefix s g) = (signsL.drop i).find? (fun g => Lib.hasPrefix s g))
            (fun i => mkT [(0, .d (.str s)), (2, .ptr 2 0), (3, .d (.int .i64 0)), (4, .d (.int .i64 0)), (69, .d (.sl (signsL.map .str))), (70, .d (.int .i64 18)), (71, .d (.int .i64 i))])
            (fun _ => mkT [(2, .box [.d (.int .i64 0), .d (.str []), .d (.int .i64 0), .d (.int .i64 0), .d (.int .i64 0)])]) (fun i => 18 - i) 0 ⟨by omega, rfl⟩
            (Weak.of [] rfl rfl ⟨⟨_, rfl, rfl⟩, ⟨_, rfl, rfl⟩, ⟨_, rfl, rfl⟩, ⟨_, rfl, rfl⟩, ⟨_, rfl, rfl⟩, ⟨_, rfl, rfl⟩, ⟨_, rfl, rfl⟩, trivial⟩ ⟨⟨_, rfl, ⟨rfl, rfl, rfl, rfl, rfl, trivial⟩⟩, trivial⟩) ?_
          intro i ⟨hi, e⟩
          ((conv => whnf); (repeat' (first | (refine Br.tt (by first | assumption | with_reducible rfl | with_reducible exact Bool.not_false) ?_; conv => whnf) | (refine Br.ff (by first | assumption | with_reducible rfl | with_reducible exact Bool.not_true) ?_; conv => whnf) | fail)))
          ((repeat' (first | (refine Br.tt (by first | assumption | with_reducible rfl | with_reducible exact Bool.not_false) ?_; conv => whnf) | (refine Br.ff (by first | assumption | with_reducible rfl | with_reducible exact Bool.not_true) ?_; conv => whnf) | fail)); (refine Br.mk (fun h => ?_) (fun h => ?_) <;> ((conv => whnf); (repeat' (first | (refine Br.tt (by first | assumption | with_reducible rfl | with_reducible exact Bool.not_false) ?_; conv => whnf) | (refine Br.ff (by first | assumption | with_reducible rfl | with_reducible exact Bool.not_true) ?_; conv => whnf) | fail)))))
          · have hlt : i < signsL.length := by have : signsL.length = 18 := rfl; simp at h; omega
            have hg : (signsL.map DV.str)[((i : Nat) : Int).toNat]? = some (.str signsL[i]) := by simp [hlt]
            have hpf := prefix_ok (W0 := W0) s signsL[i]
            rw [List.drop_eq_getElem_cons hlt, List.find?_cons] at e
            refine Idx.of _ (by omega) hg rfl ?_
            ((conv => whnf); (repeat' (first | (refine Br.tt (by first | assumption | with_reducible rfl | with_reducible exact Bool.not_false) ?_; conv => whnf) | (refine Br.ff (by first | assumption | with_reducible rfl | with_reducible exact Bool.not_true) ?_; conv => whnf) | fail)))
            refine CallsA.then hpf ?_
            cases g4 : Lib.hasPrefix s signsL[i] with
            | true =>
              rw [g4] at e
              simp only at e
              rw [e]
              ((conv => whnf); (repeat' (first | (refine Br.tt (by first | assumption | with_reducible rfl | with_reducible exact Bool.not_false) ?_; conv => whnf) | (refine Br.ff (by first | assumption | with_reducible rfl | with_reducible exact Bool.not_true) ?_; conv => whnf) | (refine Br.tt rfl ?_; conv => whnf) | (refine Br.ff rfl ?_; conv => whnf) | fail)))
              exact ⟨rfl, rfl⟩
            | false =>
              rw [g4] at e
              simp only at e
              ((conv => whnf); (repeat' (first | (refine Br.tt (by first | assumption | with_reducible rfl | with_reducible exact Bool.not_false) ?_; conv => whnf) | (refine Br.ff (by first | assumption | with_reducible rfl | with_reducible exact Bool.not_true) ?_; conv => whnf) | (refine Br.tt rfl ?_; conv => whnf) | (refine Br.ff rfl ?_; conv => whnf) | fail)))
              refine ⟨i + 1, ⟨⟨by simp at h; omega, e⟩, by simp at h; omega⟩, Weak.of [] rfl rfl ⟨⟨_, rfl, rfl⟩, ⟨_, rfl, rfl⟩, ⟨_, rfl, rfl⟩, ⟨_, rfl, rfl⟩, ⟨_, rfl, rfl⟩, ⟨_, rfl, rfl⟩, ⟨_, rfl, ?_⟩, trivial⟩ ⟨⟨_, rfl, ⟨rfl, rfl, rfl, rfl, rfl, trivial⟩⟩, trivial⟩⟩
              simp only [Pre]
              rw [wrap_i64 (by omega) (by omega)]; rfl
          · have hge : i = 18 := by simp at h; omega
            subst hge
            rw [show signsL.drop 18 = [] from rfl, List.find?_nil] at e
            rw [e]
            exact ⟨rfl, rfl⟩
        · have e3 : (plainR (r : Int) != []) = true := by simpa using g3
          rw [if_pos (by simpa using g3)]
          ((conv => whnf); (repeat' (first | (refine Br.tt (by first | assumption | with_reducible rfl | with_reducible exact Bool.not_false) ?_; conv => whnf) | (refine Br.ff (by first | assumption | with_reducible rfl | with_reducible exact Bool.not_true) ?_; conv => whnf) | fail)))
          refine CallsA.then hpl ?_
          ((conv => whnf); (repeat' (first | (refine Br.tt (by first | assumption | with_reducible rfl | with_reducible exact Bool.not_false) ?_; conv => whnf) | (refine Br.ff (by first | assumption | with_reducible rfl | with_reducible exact Bool.not_true) ?_; conv => whnf) | fail)))
          exact ⟨rfl, rfl⟩)
end Go.Proofs.L08

namespace Go.Proofs.L08
open Go Aw Go.Proofs
variable {W0 : World}
theorem runAt_ge (q : Int → Bool) (s : List UInt8) : ∀ f p, p ≤ s.length → p ≤ runAt q s f p
  | 0, p, h => h
  | f + 1, p, h => by
    rw [runAt]
    split
    · split
      · have := runAt_ge q s f (p + (udec s p).2) (udec_end s p (by omega))
        have := udec_wide s p
        omega
      · exact Nat.le_refl _
    · exact h
theorem runOf_pos (q : Int → Bool) (s : List UInt8) (hne : s ≠ []) (h : q (udec s 0).1 = true) : 1 ≤ runOf q s := by
  have hl : 0 < s.length := by cases s with | nil => exact absurd rfl hne | cons => simp
  obtain ⟨k, hk⟩ : ∃ k, s.length = k + 1 := ⟨s.length - 1, by omega⟩
  unfold runOf
  rw [hk, runAt, if_pos hl, if_pos h]
  have := runAt_ge q s k (0 + (udec s 0).2) (udec_end s 0 hl)
  have := udec_wide s 0
  omega
theorem start_rest (r : Int) (h : isStart r = true) : isRest r = true := by rw [isRest, h]; rfl
theorem signsL_pos : ∀ g ∈ signsL, 1 ≤ g.length := by decide
/-- A word has a byte at least, and lies in the text. -/
theorem wordM_len (s : List UInt8) (hne : s ≠ []) (h : (wordM s).2.2 = 0) : 1 ≤ (wordM s).2.1 ∧ (wordM s).2.1 ≤ s.length := by
  have hl : 0 < s.length := by cases s with | nil => exact absurd rfl hne | cons => simp
  have hw := udec_wide s 0
  have he := udec_end s 0 hl
  revert h
  unfold wordM
  simp only
  split
  · intro h; cases h
  · split
    · rename_i hs
      intro _
      exact ⟨runOf_pos _ s hne (start_rest _ hs), runOf_le _ _⟩
    · split
      · rename_i hd
        split
        · intro h; cases h
        · intro _; exact ⟨runOf_pos _ s hne hd, runOf_le _ _⟩
      · split
        · intro _; simp only; omega
        · split
          · rename_i g hg
            intro _
            have hm := List.mem_of_find?_eq_some hg
            have hp := List.find?_some hg
            simp only at hp ⊢
            exact ⟨signsL_pos g hm, (List.isPrefixOf_iff_prefix.1 hp).length_le⟩
          · intro h; cases h
/-- The words of a text, from a place on; or the fault. -/
def lexM (s : List UInt8) : Nat → Nat → Nat → Nat → List Wd → Except (Int × Nat × Nat) (List Wd)
  | 0, _, _, _, acc => .ok acc
  | f + 1, at', chars, counted, acc =>
    if at' < s.length then
      let c := chars + rcount ((s.take at').drop counted)
      let w := wordM (s.drop at')
      if w.2.2 ≠ 0 then .error (w.2.2, at', c)
      else lexM s f (at' + w.2.1 + runOf isBlankR (s.drop (at' + w.2.1))) c at' (acc ++ [⟨w.1.kind, w.1.text, w.1.num, at', c⟩])
    else .ok acc
def lexW (s : List UInt8) : Except (Int × Nat × Nat) (List Wd) := if 4096 < s.length then .error (70, 0, 0) else lexM s (s.length + 1) (runOf isBlankR s) 0 0 []
def lexRes (o : Except (Int × Nat × Nat) (List Wd)) : List PV := match o with
  | .ok ws => [.own 5 (ws.map Wd.dv) true, .d (.agg [.int .i64 0, .int .i64 0, .int .i64 0])]
  | .error (e, b, c) => [.own 0 [] true, .d (.agg [.int .i64 e, .int .i64 b, .int .i64 c])]
set_option linter.unusedSimpArgs false in
set_option maxRecDepth 100000 in
set_option maxHeartbeats 4000000 in
theorem words_ok (hW : LibW W0) (s : List UInt8) (hs : s.length < 1000000000000) : CallsA Tryd.prog W0 22 [] [.d (.str s)] fun rs os => rs = lexRes (lexW s) ∧ os = [] := by
  unfold lexW
  refine calls_of_awpC tok [.tmp 2, .cell 3 34] Tryd.func22 rfl rfl rfl rfl rfl ?_
  ((conv => whnf); (repeat' (first | (refine Br.tt (by first | assumption | with_reducible rfl | with_reducible exact Bool.not_false) ?_; conv => whnf) | (refine Br.ff (by first | assumption | with_reducible rfl | with_reducible exact Bool.not_true) ?_; conv => whnf) | fail)))
  by_cases hlong : 4096 < s.length
  · have e : decide ((s.length : Int) > 4096) = true := by simp; omega
    rw [if_pos hlong]
    ((conv => whnf); (repeat' (first | (refine Br.tt (by first | assumption | with_reducible rfl | with_reducible exact Bool.not_false) ?_; conv => whnf) | (refine Br.ff (by first | assumption | with_reducible rfl | with_reducible exact Bool.not_true) ?_; conv => whnf) | fail)))
    exact ⟨rfl, rfl⟩
  have e : decide ((s.length : Int) > 4096) = false := by simp; omega
  rw [if_neg hlong]
  ((conv => whnf); (repeat' (first | (refine Br.tt (by first | assumption | with_reducible rfl | with_reducible exact Bool.not_false) ?_; conv => whnf) | (refine Br.ff (by first | assumption | with_reducible rfl | with_reducible exact Bool.not_true) ?_; conv => whnf) | fail)))
  have hb0 := run_ok (W0 := W0) 34 isBlankR blank_ok s hs
  have hbl := runOf_le isBlankR s
  refine CallsA.then hb0 ?_
  ((conv => whnf); (repeat' (first | (refine Br.tt (by first | assumption | with_reducible rfl | with_reducible exact Bool.not_false) ?_; conv => whnf) | (refine Br.ff (by first | assumption | with_reducible rfl | with_reducible exact Bool.not_true) ?_; conv => whnf) | fail)))
  generalize runOf isBlankR s = at0 at *
  refine loop_by5 (fun (k at' chars counted : Nat) (acc : List Wd) => at' ≤ s.length ∧ s.length < at' + k ∧ chars ≤ counted ∧ counted ≤ at' ∧ acc.length + k ≤ s.length + 1 ∧ lexM s k at' chars counted acc = lexM s (s.length + 1) at0 0 0 [])
    (fun _ at' chars counted acc => mkT [(0, .d (.str s)), (3, .ptr 3 0), (4, .lst 4), (5, .d (.int .i64 chars)), (6, .d (.int .i64 counted)), (7, .d (.int .i64 at'))])
    (fun _ _ _ _ acc => mkT [(3, .box [.d (.int .i64 0), .d (.int .i64 0), .d (.int .i64 0)]), (4, .list 5 (acc.map Wd.dv) true)]) (fun k _ _ _ _ => k) (s.length + 1) at0 0 0 [] ⟨by omega, by omega, by omega, by omega, by simp, rfl⟩
    (Weak.of [(4, none)] rfl rfl ⟨⟨_, rfl, rfl⟩, ⟨_, rfl, rfl⟩, ⟨_, rfl, ⟨_, rfl⟩⟩, ⟨_, rfl, rfl⟩, ⟨_, rfl, rfl⟩, ⟨_, rfl, rfl⟩, trivial⟩ ⟨⟨_, rfl, ⟨rfl, rfl, rfl, trivial⟩⟩, trivial, trivial⟩) ?_
  intro k at' chars counted acc ⟨hat, hk, hch, hco, hacc, e⟩
  obtain ⟨k', rfl⟩ : ∃ k', k = k' + 1 := ⟨k - 1, by omega⟩
  rw [lexM] at e
  ((conv => whnf); (repeat' (first | (refine Br.tt (by first | assumption | with_reducible rfl | with_reducible exact Bool.not_false) ?_; conv => whnf) | (refine Br.ff (by first | assumption | with_reducible rfl | with_reducible exact Bool.not_true) ?_; conv => whnf) | fail)))
  ((repeat' (first | (refine Br.tt (by first | assumption | with_reducible rfl | with_reducible exact Bool.not_false) ?_; conv => whnf) | (refine Br.ff (by first | assumption | with_reducible rfl | with_reducible exact Bool.not_true) ?_; conv => whnf) | fail)); (refine Br.mk (fun h => ?_) (fun h => ?_) <;> ((conv => whnf); (repeat' (first | (refine Br.tt (by first | assumption | with_reducible rfl | with_reducible exact Bool.not_false) ?_; conv => whnf) | (refine Br.ff (by first | assumption | with_reducible rfl | with_reducible exact Bool.not_true) ?_; conv => whnf) | fail)))))
  · have hlt : at' < s.length := by simpa using h
    rw [if_pos hlt] at e
    refine Need.of ⟨by omega, by omega, by omega⟩ ?_
    ((conv => whnf); (repeat' (first | (refine Br.tt (by first | assumption | with_reducible rfl | with_reducible exact Bool.not_false) ?_; conv => whnf) | (refine Br.ff (by first | assumption | with_reducible rfl | with_reducible exact Bool.not_true) ?_; conv => whnf) | fail)))
    rw [Int.toNat_natCast, Int.toNat_natCast]
    have hc : CallsA Tryd.prog W0 23 [] [.d (.str ((s.take at').drop counted))] fun rs os => rs = [.d (.int .i64 (rcount ((s.take at').drop counted)))] ∧ os = [] := count_ok _ (by simp; omega)
    have hcl := rcount_le ((s.take at').drop counted)
    rw [List.length_drop, List.length_take] at hcl
    refine CallsA.then hc ?_
    ((conv => whnf); (repeat' (first | (refine Br.tt (by first | assumption | with_reducible rfl | with_reducible exact Bool.not_false) ?_; conv => whnf) | (refine Br.ff (by first | assumption | with_reducible rfl | with_reducible exact Bool.not_true) ?_; conv => whnf) | fail)))
    refine Need.of ⟨by omega, by omega⟩ ?_
    ((conv => whnf); (repeat' (first | (refine Br.tt (by first | assumption | with_reducible rfl | with_reducible exact Bool.not_false) ?_; conv => whnf) | (refine Br.ff (by first | assumption | with_reducible rfl | with_reducible exact Bool.not_true) ?_; conv => whnf) | fail)))
    rw [Int.toNat_natCast]
    have hdne : s.drop at' ≠ [] := by intro h0; have := congrArg List.length h0; simp at this; omega
    have hwd := lexWord_ok hW (s.drop at') (by simp; omega) hdne
    have hwl := wordM_len (s.drop at') hdne
    rw [List.length_drop] at hwl
    simp only at e
    generalize hcc : rcount ((s.take at').drop counted) = cc at *
    generalize wordM (s.drop at') = w at *
    obtain ⟨⟨wk, wt, wn, wb, wc⟩, n, er⟩ := w
    unfold Wd.dv at hwd
    simp only at hwd hwl e
    have hw1 : IntKind.i64.wrap ((chars : Int) + (cc : Int)) = ((chars + cc : Nat) : Int) := by rw [wrap_i64 (by omega) (by omega)]; omega
    refine CallsA.then hwd ?_
    ((conv => whnf); (repeat' (first | (refine Br.tt (by first | assumption | with_reducible rfl | with_reducible exact Bool.not_false) ?_; conv => whnf) | (refine Br.ff (by first | assumption | with_reducible rfl | with_reducible exact Bool.not_true) ?_; conv => whnf) | fail)))
    by_cases her : er = 0
    · have e1 : (er != 0) = false := by simpa using her
      subst her
      have hn := hwl rfl
      rw [if_neg (by simp)] at e
      have hb1 := run_ok (W0 := W0) 34 isBlankR blank_ok (s.drop (at' + n)) (by simp; omega)
      have hbl1 := runOf_le isBlankR (s.drop (at' + n))
      rw [List.length_drop] at hbl1
      generalize runOf isBlankR (s.drop (at' + n)) = bl at *
      have hw2 : IntKind.i64.wrap ((at' : Int) + (n : Int)) = ((at' + n : Nat) : Int) := by rw [wrap_i64 (by omega) (by omega)]; omega
      ((conv => whnf); (repeat' (first | (refine Br.tt (by first | assumption | with_reducible rfl | with_reducible exact Bool.not_false) ?_; conv => whnf) | (refine Br.ff (by first | assumption | with_reducible rfl | with_reducible exact Bool.not_true) ?_; conv => whnf) | (refine Br.tt rfl ?_; conv => whnf) | (refine Br.ff rfl ?_; conv => whnf) | fail)))
      rw [hw1]
      refine Need.of (by intro x hx; simp at hx; subst hx; rfl) ?_
      ((conv => whnf); (repeat' (first | (refine Br.tt (by first | assumption | with_reducible rfl | with_reducible exact Bool.not_false) ?_; conv => whnf) | (refine Br.ff (by first | assumption | with_reducible rfl | with_reducible exact Bool.not_true) ?_; conv => whnf) | fail)))
      refine Need.of ⟨by trivial, by simp; omega⟩ ?_
      ((conv => whnf); (repeat' (first | (refine Br.tt (by first | assumption | with_reducible rfl | with_reducible exact Bool.not_false) ?_; conv => whnf) | (refine Br.ff (by first | assumption | with_reducible rfl | with_reducible exact Bool.not_true) ?_; conv => whnf) | fail)))
      rw [hw2]
      refine Need.of ⟨by omega, by omega⟩ ?_
      ((conv => whnf); (repeat' (first | (refine Br.tt (by first | assumption | with_reducible rfl | with_reducible exact Bool.not_false) ?_; conv => whnf) | (refine Br.ff (by first | assumption | with_reducible rfl | with_reducible exact Bool.not_true) ?_; conv => whnf) | fail)))
      rw [Int.toNat_natCast]
      refine CallsA.then hb1 ?_
      ((conv => whnf); (repeat' (first | (refine Br.tt (by first | assumption | with_reducible rfl | with_reducible exact Bool.not_false) ?_; conv => whnf) | (refine Br.ff (by first | assumption | with_reducible rfl | with_reducible exact Bool.not_true) ?_; conv => whnf) | fail)))
      refine ⟨k', at' + n + bl, chars + cc, at', acc ++ [⟨wk, wt, wn, at', (chars + cc : Nat)⟩], ⟨⟨by omega, by omega, by omega, by omega, by simp; omega, e⟩, by omega⟩,
        Weak.of [(4, some 57)] rfl rfl ⟨⟨_, rfl, rfl⟩, ⟨_, rfl, rfl⟩, ⟨_, rfl, rfl⟩, ⟨_, rfl, rfl⟩, ⟨_, rfl, rfl⟩, ⟨_, rfl, ?_⟩, trivial⟩ ⟨⟨_, rfl, ⟨rfl, rfl, rfl, trivial⟩⟩, by show some _ = some _; simp [Wd.dv], trivial⟩⟩
      simp only [Pre]
      rw [wrap_i64 (by omega) (by omega)]; rfl
    · have e1 : (er != 0) = true := by simpa using her
      rw [if_pos her] at e
      rw [← e]
      ((conv => whnf); (repeat' (first | (refine Br.tt (by first | assumption | with_reducible rfl | with_reducible exact Bool.not_false) ?_; conv => whnf) | (refine Br.ff (by first | assumption | with_reducible rfl | with_reducible exact Bool.not_true) ?_; conv => whnf) | fail)))
      refine ⟨by kernel_rfl, ?_⟩
      ((conv => whnf); (repeat' (first | (refine Br.tt (by first | assumption | with_reducible rfl | with_reducible exact Bool.not_false) ?_; conv => whnf) | (refine Br.ff (by first | assumption | with_reducible rfl | with_reducible exact Bool.not_true) ?_; conv => whnf) | fail)))
      rw [hw1]
      exact ⟨rfl, rfl⟩
  · have hge : ¬ at' < s.length := by simpa using h
    rw [if_neg hge] at e
    rw [← e]
    exact ⟨rfl, rfl⟩
end Go.Proofs.L08

namespace Go.Proofs.L08
open Go Aw Go.Proofs
variable {W0 : World}
/-- A text's reader. -/
def openM (s : List UInt8) : R := match lexW s with
  | .ok ws => ⟨ws, s.length, rcount s, 0, 0, 0⟩
  | .error (e, b, c) => ⟨[], s.length, rcount s, e, b, c⟩
set_option linter.unusedSimpArgs false in
set_option maxRecDepth 100000 in
set_option maxHeartbeats 4000000 in
theorem open_ok (hW : LibW W0) (s : List UInt8) (hs : s.length < 1000000000000) : CallsA Tryd.prog W0 12 [] [.d (.str s)] fun rs os => rs = [.new (openM s).cells] ∧ os = [] := by
  have h1 := words_ok hW s hs
  have h2 : CallsA Tryd.prog W0 23 [] [.d (.str s)] fun rs os => rs = [.d (.int .i64 (rcount s))] ∧ os = [] := count_ok s hs
  unfold openM
  refine calls_of_awpN tok 2 Tryd.func12 rfl rfl rfl rfl rfl ?_
  ((conv => whnf); (repeat' (first | (refine Br.tt (by first | assumption | with_reducible rfl | with_reducible exact Bool.not_false) ?_; conv => whnf) | (refine Br.ff (by first | assumption | with_reducible rfl | with_reducible exact Bool.not_true) ?_; conv => whnf) | fail)))
  refine CallsA.then h1 ?_
  cases lexW s with
  | ok ws =>
    unfold lexRes
    ((conv => whnf); (repeat' (first | (refine Br.tt (by first | assumption | with_reducible rfl | with_reducible exact Bool.not_false) ?_; conv => whnf) | (refine Br.ff (by first | assumption | with_reducible rfl | with_reducible exact Bool.not_true) ?_; conv => whnf) | (refine Br.tt rfl ?_; conv => whnf) | (refine Br.ff rfl ?_; conv => whnf) | fail)))
    refine ⟨by kernel_rfl, ?_⟩
    ((conv => whnf); (repeat' (first | (refine Br.tt (by first | assumption | with_reducible rfl | with_reducible exact Bool.not_false) ?_; conv => whnf) | (refine Br.ff (by first | assumption | with_reducible rfl | with_reducible exact Bool.not_true) ?_; conv => whnf) | fail)))
    refine CallD.of h2 ?_
    ((conv => whnf); (repeat' (first | (refine Br.tt (by first | assumption | with_reducible rfl | with_reducible exact Bool.not_false) ?_; conv => whnf) | (refine Br.ff (by first | assumption | with_reducible rfl | with_reducible exact Bool.not_true) ?_; conv => whnf) | fail)))
    exact ⟨rfl, rfl⟩
  | error e =>
    obtain ⟨e, b, c⟩ := e
    unfold lexRes
    ((conv => whnf); (repeat' (first | (refine Br.tt (by first | assumption | with_reducible rfl | with_reducible exact Bool.not_false) ?_; conv => whnf) | (refine Br.ff (by first | assumption | with_reducible rfl | with_reducible exact Bool.not_true) ?_; conv => whnf) | (refine Br.tt rfl ?_; conv => whnf) | (refine Br.ff rfl ?_; conv => whnf) | fail)))
    refine ⟨by kernel_rfl, ?_⟩
    ((conv => whnf); (repeat' (first | (refine Br.tt (by first | assumption | with_reducible rfl | with_reducible exact Bool.not_false) ?_; conv => whnf) | (refine Br.ff (by first | assumption | with_reducible rfl | with_reducible exact Bool.not_true) ?_; conv => whnf) | fail)))
    refine CallD.of h2 ?_
    ((conv => whnf); (repeat' (first | (refine Br.tt (by first | assumption | with_reducible rfl | with_reducible exact Bool.not_false) ?_; conv => whnf) | (refine Br.ff (by first | assumption | with_reducible rfl | with_reducible exact Bool.not_true) ?_; conv => whnf) | fail)))
    exact ⟨rfl, rfl⟩
/-! What is read is of a size that a machine holds; the fault is zero where nothing is wrong. -/
def Wd.Fine (w : Wd) : Prop := w.text.length < 1000000000 ∧ 0 ≤ w.num ∧ w.num ≤ 9223372036854775807
structure R.Fine (r : R) : Prop where
  ws : ∀ w ∈ r.ws, w.Fine
  flt : r.why = 0 → r.fb = 0 ∧ r.fc = 0
theorem zeroWd_fine : zeroWd.Fine := ⟨by decide, by decide, by decide⟩
theorem R.Fine.next {r : R} (h : r.Fine) : r.next.Fine := ⟨fun w hw => h.ws w (List.mem_of_mem_drop hw), h.flt⟩
theorem R.Fine.wrong {r : R} (h : r.Fine) {e : Int} (he : e ≠ 0) : (r.wrong e).Fine := by
  refine ⟨fun w hw => h.ws w (by rw [R.wrong_ws] at hw; exact hw), ?_⟩
  rcases r with ⟨ws, eb, ec, why, fb, fc⟩
  unfold R.wrong
  split
  · exact h.flt
  · cases ws <;> exact fun h0 => absurd h0 he
theorem R.wrong_why {r : R} {e : Int} (he : e ≠ 0) : (r.wrong e).why ≠ 0 := by
  rcases r with ⟨ws, eb, ec, why, fb, fc⟩
  unfold R.wrong
  split
  · assumption
  · cases ws <;> exact he
theorem R.Fine.take {r : R} (h : r.Fine) (l : List (List UInt8)) : (r.take l).2.Fine := by
  unfold R.take
  split
  · exact h
  · simp only
    induction l with
    | nil => exact h
    | cons s l ih => rw [takeR]; split; exact h.next; exact ih
theorem R.Fine.need {r : R} (h : r.Fine) (s : List UInt8) : (r.need s).Fine := by
  unfold R.need
  split
  · exact (h.take _).wrong (by decide)
  · exact h.take _
theorem R.Fine.word {r : R} (h : r.Fine) (k : Int) : (r.word k).1.Fine ∧ (r.word k).2.Fine := by
  unfold R.word
  split
  · exact ⟨zeroWd_fine, h.wrong (by decide)⟩
  · split
    · rename_i w l hw
      split
      · exact ⟨h.ws w (by rw [hw]; exact List.mem_cons_self ..), h.next⟩
      · exact ⟨zeroWd_fine, h.wrong (by decide)⟩
    · exact ⟨zeroWd_fine, h.wrong (by decide)⟩
theorem R.Fine.fin {r : R} (h : r.Fine) : r.fin.Fine := by
  unfold R.fin
  split
  · exact h
  · exact h.wrong (by decide)
def T.Good' (t : T) : Prop := t.Ok ∧ t.Rng
def F.Good' (t : F) : Prop := t.Ok ∧ t.Rng
structure Pz.Fine (p : Pz) : Prop where
  fac : ∀ r : R, r.Fine → (p.fac r).1.Good' ∧ (p.fac r).2.Fine
  prd : ∀ r : R, r.Fine → (p.prd r).1.Good' ∧ (p.prd r).2.Fine
  trm : ∀ r : R, r.Fine → (p.trm r).1.Good' ∧ (p.trm r).2.Fine
  una : ∀ r : R, r.Fine → (p.una r).1.Good' ∧ (p.una r).2.Fine
  qua : ∀ k (r : R), r.Fine → (p.qua k r).1.Good' ∧ (p.qua k r).2.Fine
  nd : ∀ r : R, r.Fine → (p.nd r).1.Good' ∧ (p.nd r).2.Fine
  orr : ∀ r : R, r.Fine → (p.orr r).1.Good' ∧ (p.orr r).2.Fine
  imp : ∀ r : R, r.Fine → (p.imp r).1.Good' ∧ (p.imp r).2.Fine
  frm : ∀ r : R, r.Fine → (p.frm r).1.Good' ∧ (p.frm r).2.Fine
theorem T.Good'.leaf {k n : Int} {s : List UInt8} (hs : s.length < 1000000000) (hn : n ≤ 9223372036854775807) : (T.mk k n s []).Good' := by
  refine ⟨?_, ?_⟩
  · rw [T.Ok, T.Oks]; exact ⟨by omega, by simp, trivial⟩
  · rw [T.Rng, T.Rngs]; exact ⟨hn, trivial⟩
theorem T.Good'.one {k : Int} {a : T} (h : a.Good') : (T.mk k 0 [] [a]).Good' := by
  refine ⟨?_, ?_⟩
  · rw [T.Ok, T.Oks, T.Oks]; exact ⟨by simp, by simp, h.1, trivial⟩
  · rw [T.Rng, T.Rngs, T.Rngs]; exact ⟨by decide, h.2, trivial⟩
theorem T.Good'.bin {k : Int} {a b : T} (h : a.Good') (h2 : b.Good') : (T.bin k a b).Good' := by
  unfold T.bin
  refine ⟨?_, ?_⟩
  · rw [T.Ok, T.Oks, T.Oks, T.Oks]; exact ⟨by simp, by simp, h.1, h2.1, trivial⟩
  · rw [T.Rng, T.Rngs, T.Rngs, T.Rngs]; exact ⟨by decide, h.2, h2.2, trivial⟩
theorem F.Good'.leaf {k : Int} : (F.mk k [] 0 [] []).Good' := by
  refine ⟨?_, ?_⟩
  · rw [F.Ok, F.Oks, T.Oks]; exact ⟨by simp, by simp, by simp, trivial, trivial⟩
  · rw [F.Rng, F.Rngs, T.Rngs]; exact ⟨by decide, trivial, trivial⟩
theorem F.Good'.rel {k m : Int} {a b : T} (h : a.Good') (h2 : b.Good') (hm : m ≤ 9223372036854775807) : (F.mk k [] m [a, b] []).Good' := by
  refine ⟨?_, ?_⟩
  · rw [F.Ok, F.Oks, T.Oks, T.Oks, T.Oks]; exact ⟨by simp, by simp, by simp, ⟨h.1, h2.1, trivial⟩, trivial⟩
  · rw [F.Rng, F.Rngs, T.Rngs, T.Rngs, T.Rngs]; exact ⟨hm, ⟨h.2, h2.2, trivial⟩, trivial⟩
theorem F.Good'.un {k : Int} {s : List UInt8} {a : F} (hs : s.length < 1000000000) (h : a.Good') : (F.un k s a).Good' := by
  unfold F.un
  refine ⟨?_, ?_⟩
  · rw [F.Ok, F.Oks, F.Oks, T.Oks]; exact ⟨by omega, by simp, by simp, trivial, h.1, trivial⟩
  · rw [F.Rng, F.Rngs, F.Rngs, T.Rngs]; exact ⟨by decide, trivial, h.2, trivial⟩
theorem F.Good'.bin {k : Int} {a b : F} (h : a.Good') (h2 : b.Good') : (F.bin k a b).Good' := by
  unfold F.bin
  refine ⟨?_, ?_⟩
  · rw [F.Ok, F.Oks, F.Oks, F.Oks, T.Oks]; exact ⟨by simp, by simp, by simp, trivial, h.1, h2.1, trivial⟩
  · rw [F.Rng, F.Rngs, F.Rngs, F.Rngs, T.Rngs]; exact ⟨by decide, trivial, h.2, h2.2, trivial⟩
theorem loopT_fine {k : List UInt8 → Int} {l : List (List UInt8)} {nx : R → T × R} (h : ∀ r : R, r.Fine → (nx r).1.Good' ∧ (nx r).2.Fine) :
    ∀ (n : Nat) (t : T) (r : R), t.Good' → r.Fine → (loopT k l nx n t r).1.Good' ∧ (loopT k l nx n t r).2.Fine := by
  intro n
  induction n with
  | zero => intro t r ht hr; exact ⟨ht, hr⟩
  | succ n ih =>
    intro t r ht hr
    rw [loopT]
    split
    · exact ⟨ht, hr.take _⟩
    · obtain ⟨h1, h2⟩ := h _ (hr.take l)
      exact ih _ _ (ht.bin h1) h2
theorem loopF_fine {s : List UInt8} {k : Int} {nx : R → F × R} (h : ∀ r : R, r.Fine → (nx r).1.Good' ∧ (nx r).2.Fine) :
    ∀ (n : Nat) (t : F) (r : R), t.Good' → r.Fine → (loopF s k nx n t r).1.Good' ∧ (loopF s k nx n t r).2.Fine := by
  intro n
  induction n with
  | zero => intro t r ht hr; exact ⟨ht, hr⟩
  | succ n ih =>
    intro t r ht hr
    rw [loopF]
    split
    · exact ⟨ht, hr.take _⟩
    · obtain ⟨h1, h2⟩ := h _ (hr.take [s])
      exact ih _ _ (ht.bin h1) h2
theorem pMod_fine (r : R) (h : r.Fine) : (pMod r).1 ≤ 9223372036854775807 ∧ (pMod r).2.Fine := by
  unfold pMod
  simp only
  have h1 := h.need [109, 111, 100]
  have h2 : (if (r.need [109, 111, 100]).nought = true then (r.need [109, 111, 100]).wrong 92 else r.need [109, 111, 100]).Fine := by
    split
    · exact h1.wrong (by decide)
    · exact h1
  obtain ⟨h3, h4⟩ := h2.word 1
  exact ⟨h3.2.2, h4⟩
theorem pFac_fine {p : Pz} (h : p.Fine) (r : R) (hr : r.Fine) : (pFac p r).1.Good' ∧ (pFac p r).2.Fine := by
  unfold pFac
  simp only
  have ht := hr.take [[91], [45]]
  split
  · obtain ⟨h1, h2⟩ := h.trm _ ht; exact ⟨h1, h2.need _⟩
  · split
    · obtain ⟨h1, h2⟩ := h.fac _ ht; exact ⟨h1.one, h2⟩
    · split
      · obtain ⟨h1, h2⟩ := ht.word 0; exact ⟨.leaf h1.1 (by decide), h2⟩
      · obtain ⟨h1, h2⟩ := ht.word 1; exact ⟨.leaf (by simp) h1.2.2, h2⟩
theorem pPrd_fine {p : Pz} (h : p.Fine) (r : R) (hr : r.Fine) : (pPrd p r).1.Good' ∧ (pPrd p r).2.Fine := by
  obtain ⟨h1, h2⟩ := pFac_fine h r hr
  exact loopT_fine h.fac _ _ _ h1 h2
theorem pTrm_fine {p : Pz} (h : p.Fine) (r : R) (hr : r.Fine) : (pTrm p r).1.Good' ∧ (pTrm p r).2.Fine := by
  obtain ⟨h1, h2⟩ := pPrd_fine h r hr
  exact loopT_fine h.prd _ _ _ h1 h2
theorem pAtm_fine {p : Pz} (h : p.Fine) (r : R) (hr : r.Fine) : (pAtm p r).1.Good' ∧ (pAtm p r).2.Fine := by
  unfold pAtm
  simp only
  obtain ⟨h1, h2⟩ := pTrm_fine h r hr
  have h3 := h2.take relSigns
  have h4 : (if ((pTrm p r).2.take relSigns).1 = [] then ((pTrm p r).2.take relSigns).2.wrong 71 else ((pTrm p r).2.take relSigns).2).Fine := by
    split
    · exact h3.wrong (by decide)
    · exact h3
  generalize (if ((pTrm p r).2.take relSigns).1 = [] then ((pTrm p r).2.take relSigns).2.wrong 71 else ((pTrm p r).2.take relSigns).2) = q at *
  obtain ⟨h5, h6⟩ := pTrm_fine h q h4
  split
  · obtain ⟨h7, h8⟩ := pMod_fine _ h6
    exact ⟨.rel h1 h5 h7, h8⟩
  · exact ⟨.rel h1 h5 (by decide), h6⟩
theorem pUna_fine {p : Pz} (h : p.Fine) (r : R) (hr : r.Fine) : (pUna p r).1.Good' ∧ (pUna p r).2.Fine := by
  unfold pUna
  simp only
  have ht := hr.take unSigns
  split
  · obtain ⟨h1, h2⟩ := h.una _ ht; exact ⟨.un (by simp) h1, h2⟩
  · split
    · exact h.qua _ _ ht
    · split
      · exact h.qua _ _ ht
      · split
        · obtain ⟨h1, h2⟩ := h.frm _ ht; exact ⟨h1, h2.need _⟩
        · split
          · exact ⟨.leaf, ht⟩
          · split
            · exact ⟨.leaf, ht⟩
            · exact pAtm_fine h _ ht
theorem pQua_fine {p : Pz} (h : p.Fine) (k : Int) (r : R) (hr : r.Fine) : (pQua p k r).1.Good' ∧ (pQua p k r).2.Fine := by
  unfold pQua
  simp only
  obtain ⟨h1, h2⟩ := hr.word 0
  have h3 := h2.take [[44]]
  split
  · obtain ⟨h4, h5⟩ := pUna_fine h _ (h3.need [46]); exact ⟨.un h1.1 h4, h5⟩
  · obtain ⟨h4, h5⟩ := h.qua k _ h3; exact ⟨.un h1.1 h4, h5⟩
theorem pNd_fine {p : Pz} (h : p.Fine) (r : R) (hr : r.Fine) : (pNd p r).1.Good' ∧ (pNd p r).2.Fine := by
  obtain ⟨h1, h2⟩ := pUna_fine h r hr
  exact loopF_fine h.una _ _ _ h1 h2
theorem pOrr_fine {p : Pz} (h : p.Fine) (r : R) (hr : r.Fine) : (pOrr p r).1.Good' ∧ (pOrr p r).2.Fine := by
  obtain ⟨h1, h2⟩ := pNd_fine h r hr
  exact loopF_fine h.nd _ _ _ h1 h2
theorem pImp_fine {p : Pz} (h : p.Fine) (r : R) (hr : r.Fine) : (pImp p r).1.Good' ∧ (pImp p r).2.Fine := by
  unfold pImp
  simp only
  obtain ⟨h1, h2⟩ := pOrr_fine h r hr
  have h3 := h2.take [[45, 62]]
  split
  · exact ⟨h1, h3⟩
  · obtain ⟨h4, h5⟩ := h.imp _ h3; exact ⟨h1.bin h4, h5⟩
theorem pFrm_fine {p : Pz} (h : p.Fine) (r : R) (hr : r.Fine) : (pFrm p r).1.Good' ∧ (pFrm p r).2.Fine := by
  obtain ⟨h1, h2⟩ := pImp_fine h r hr
  exact loopF_fine h.imp _ _ _ h1 h2
theorem pz_fine : ∀ n, (pz n).Fine
  | 0 => ⟨fun _ h => ⟨.leaf (by simp) (by decide), h⟩, fun _ h => ⟨.leaf (by simp) (by decide), h⟩, fun _ h => ⟨.leaf (by simp) (by decide), h⟩, fun _ h => ⟨.leaf, h⟩, fun _ _ h => ⟨.leaf, h⟩, fun _ h => ⟨.leaf, h⟩, fun _ h => ⟨.leaf, h⟩, fun _ h => ⟨.leaf, h⟩, fun _ h => ⟨.leaf, h⟩⟩
  | n + 1 => have h := pz_fine n
    ⟨pFac_fine h, pPrd_fine h, pTrm_fine h, pUna_fine h, pQua_fine h, pNd_fine h, pOrr_fine h, pImp_fine h, pFrm_fine h⟩
end Go.Proofs.L08

namespace Go.Proofs.L08
open Go Aw Go.Proofs
variable {W0 : World}
theorem runAt_le' (q : Int → Bool) (s : List UInt8) : (s.take (runOf q s)).length ≤ s.length := by simp; omega
theorem wordM_fine (s : List UInt8) (hl : s.length ≤ 4096) : (wordM s).1.Fine := by
  have hsig : ∀ g ∈ signsL, g.length < 1000000000 := by decide
  have hpl : ∀ r : Int, (plainR r).length < 1000000000 := by
    have this : ∀ (c : Prop) [Decidable c] (a b : List UInt8), a.length < 1000000000 → b.length < 1000000000 → (if c then a else b).length < 1000000000 := by
      intro c _ a b h1 h2; by_cases hc : c
      · rw [if_pos hc]; exact h1
      · rw [if_neg hc]; exact h2
    intro r; unfold plainR
    repeat (first | decide | refine this _ _ _ (by decide) ?_)
  unfold wordM
  simp only
  split
  · exact zeroWd_fine
  · split
    · unfold nameM
      have := runAt_le' isRest s
      split
      · exact ⟨by simp only; omega, by simp, by simp⟩
      · split
        · exact zeroWd_fine
        · exact ⟨by simp only; omega, by simp, by simp⟩
    · split
      · split
        · exact zeroWd_fine
        · rename_i v hv
          have := numOf_le _ _ _ (by decide) (digits_run s) hv
          exact ⟨by simp, by simp only; omega, by simp only; omega⟩
      · split
        · exact ⟨hpl _, by simp, by simp⟩
        · split
          · rename_i g hg
            exact ⟨hsig g (List.mem_of_find?_eq_some hg), by simp, by simp⟩
          · exact zeroWd_fine
theorem lexM_fine (s : List UInt8) (hl : s.length ≤ 4096) : ∀ (f a c d : Nat) (acc : List Wd), (∀ w ∈ acc, w.Fine) → acc.length + f ≤ 4097 →
    match lexM s f a c d acc with | .ok ws => (∀ w ∈ ws, w.Fine) ∧ ws.length ≤ 4097 | .error (e, _, _) => e ≠ 0 := by
  intro f
  induction f with
  | zero => intro a c d acc h hn; rw [lexM]; exact ⟨h, hn⟩
  | succ f ih =>
    intro a c d acc h hn
    rw [lexM]
    by_cases hlt : a < s.length
    · rw [if_pos hlt]
      simp only
      by_cases he : (wordM (s.drop a)).2.2 ≠ 0
      · rw [if_pos he]; exact he
      · rw [if_neg he]
        refine ih _ _ _ _ (fun w hw => ?_) (by simp; omega)
        rcases List.mem_append.1 hw with hw | hw
        · exact h w hw
        · simp at hw
          subst hw
          have := wordM_fine (s.drop a) (by simp; omega)
          exact ⟨this.1, this.2.1, this.2.2⟩
    · rw [if_neg hlt]
      exact ⟨h, by omega⟩
theorem lexW_fine (s : List UInt8) : match lexW s with | .ok ws => (∀ w ∈ ws, w.Fine) ∧ ws.length ≤ 4097 | .error (e, _, _) => e ≠ 0 := by
  unfold lexW
  by_cases h : 4096 < s.length
  · rw [if_pos h]; simp
  · rw [if_neg h]
    exact lexM_fine s (by omega) _ _ _ _ _ (by simp) (by simp; omega)
theorem openM_fine (s : List UInt8) : (openM s).Fine ∧ (openM s).ws.length ≤ 4097 := by
  have h := lexW_fine s
  unfold openM
  cases hw : lexW s with
  | ok ws => rw [hw] at h; exact ⟨⟨h.1, fun _ => ⟨rfl, rfl⟩⟩, h.2⟩
  | error e =>
    obtain ⟨e, b, c⟩ := e
    rw [hw] at h
    exact ⟨⟨by simp, fun h0 => absurd h0 h⟩, by simp⟩
theorem rdForm_fine (r : R) (h : r.Fine) : (rdForm r).1.Good' ∧ (rdForm r).2.Fine := (pz_fine _).frm r h
def zeroF : F := .mk 0 [] 0 [] []
/-- What a text is read as: the tree, the fault. -/
def parseM (s : List UInt8) : F × Int × Int × Int :=
  let p := rdForm (openM s)
  let q := p.2.fin
  let e := if q.why = 0 then chk p.1 else q.why
  if e = 0 then (p.1, 0, q.fb, q.fc) else (zeroF, e, q.fb, q.fc)
set_option linter.unusedSimpArgs false in
set_option maxRecDepth 100000 in
set_option maxHeartbeats 4000000 in
theorem parse_ok (hW : LibW W0) (s : List UInt8) (hs : s.length < 1000000000000) : CallsA Tryd.prog W0 7 [] [.d (.str s)]
    fun rs os => rs = [.d (parseM s).1.dv, .d (.agg [.int .i64 (parseM s).2.1, .int .i64 (parseM s).2.2.1, .int .i64 (parseM s).2.2.2])] ∧ os = [] := by
  have h1 := open_ok hW s hs
  obtain ⟨f1, l1⟩ := openM_fine s
  have h2 := readForm_ok (W0 := W0) (openM s) (by omega)
  obtain ⟨f2, f3⟩ := rdForm_fine (openM s) f1
  unfold CF at h2
  unfold parseM
  simp only
  generalize openM s = r at *
  generalize (rdForm r).1 = t at *
  generalize (rdForm r).2 = q at *
  have h3 := done_ok (W0 := W0) q
  have f4 := f3.fin
  generalize q.fin = z at *
  have h4 := bad_ok (W0 := W0) z
  have h5 := check_ok (W0 := W0) t f2.1
  generalize chk t = c at *
  have h6 := bad_ok (W0 := W0) { z with why := c }
  have hb : z.bad = (z.why != 0) := rfl
  have hb2 : ({ z with why := c } : R).bad = (c != 0) := rfl
  rw [hb2] at h6
  rw [F.dv_eq] at h2 h5
  unfold R.ps at *
  unfold R.cells at h1
  refine calls_of_awpC tok [.cell 2 26, .cell 3 34] Tryd.func7 rfl rfl rfl rfl rfl ?_
  ((conv => whnf); (repeat' (first | (refine Br.tt (by first | assumption | with_reducible rfl | with_reducible exact Bool.not_false) ?_; conv => whnf) | (refine Br.ff (by first | assumption | with_reducible rfl | with_reducible exact Bool.not_true) ?_; conv => whnf) | fail)))
  refine CallsA.then h1 ?_
  ((conv => whnf); (repeat' (first | (refine Br.tt (by first | assumption | with_reducible rfl | with_reducible exact Bool.not_false) ?_; conv => whnf) | (refine Br.ff (by first | assumption | with_reducible rfl | with_reducible exact Bool.not_true) ?_; conv => whnf) | fail)))
  refine CallsA.then1 h2 ?_
  ((conv => whnf); (repeat' (first | (refine Br.tt (by first | assumption | with_reducible rfl | with_reducible exact Bool.not_false) ?_; conv => whnf) | (refine Br.ff (by first | assumption | with_reducible rfl | with_reducible exact Bool.not_true) ?_; conv => whnf) | fail)))
  refine CallsA.then1 h3 ?_
  ((conv => whnf); (repeat' (first | (refine Br.tt (by first | assumption | with_reducible rfl | with_reducible exact Bool.not_false) ?_; conv => whnf) | (refine Br.ff (by first | assumption | with_reducible rfl | with_reducible exact Bool.not_true) ?_; conv => whnf) | fail)))
  refine CallsA.then1 h4 ?_
  by_cases hz : z.why = 0
  · have e1 : z.bad = false := by rw [hb]; simpa using hz
    rw [e1, if_pos hz]
    ((conv => whnf); (repeat' (first | (refine Br.tt (by first | assumption | with_reducible rfl | with_reducible exact Bool.not_false) ?_; conv => whnf) | (refine Br.ff (by first | assumption | with_reducible rfl | with_reducible exact Bool.not_true) ?_; conv => whnf) | (refine Br.tt rfl ?_; conv => whnf) | (refine Br.ff rfl ?_; conv => whnf) | fail)))
    refine CallsA.then h5 ?_
    ((conv => whnf); (repeat' (first | (refine Br.tt (by first | assumption | with_reducible rfl | with_reducible exact Bool.not_false) ?_; conv => whnf) | (refine Br.ff (by first | assumption | with_reducible rfl | with_reducible exact Bool.not_true) ?_; conv => whnf) | fail)))
    refine CallsA.then1 h6 ?_
    by_cases hc : c = 0
    · have e2 : (c != 0) = false := by simpa using hc
      rw [e2, if_pos hc, F.dv_eq]
      ((conv => whnf); (repeat' (first | (refine Br.tt (by first | assumption | with_reducible rfl | with_reducible exact Bool.not_false) ?_; conv => whnf) | (refine Br.ff (by first | assumption | with_reducible rfl | with_reducible exact Bool.not_true) ?_; conv => whnf) | (refine Br.tt rfl ?_; conv => whnf) | (refine Br.ff rfl ?_; conv => whnf) | fail)))
      refine ⟨by kernel_rfl, ?_⟩
      ((conv => whnf); (repeat' (first | (refine Br.tt (by first | assumption | with_reducible rfl | with_reducible exact Bool.not_false) ?_; conv => whnf) | (refine Br.ff (by first | assumption | with_reducible rfl | with_reducible exact Bool.not_true) ?_; conv => whnf) | fail)))
      subst hc
      exact ⟨rfl, rfl⟩
    · have e2 : (c != 0) = true := by simpa using hc
      rw [e2, if_neg hc]
      ((conv => whnf); (repeat' (first | (refine Br.tt (by first | assumption | with_reducible rfl | with_reducible exact Bool.not_false) ?_; conv => whnf) | (refine Br.ff (by first | assumption | with_reducible rfl | with_reducible exact Bool.not_true) ?_; conv => whnf) | (refine Br.tt rfl ?_; conv => whnf) | (refine Br.ff rfl ?_; conv => whnf) | fail)))
      refine ⟨by kernel_rfl, ?_⟩
      ((conv => whnf); (repeat' (first | (refine Br.tt (by first | assumption | with_reducible rfl | with_reducible exact Bool.not_false) ?_; conv => whnf) | (refine Br.ff (by first | assumption | with_reducible rfl | with_reducible exact Bool.not_true) ?_; conv => whnf) | fail)))
      exact ⟨rfl, rfl⟩
  · have e1 : z.bad = true := by rw [hb]; simpa using hz
    rw [e1, if_neg hz, if_neg hz]
    rw [e1] at h4
    ((conv => whnf); (repeat' (first | (refine Br.tt (by first | assumption | with_reducible rfl | with_reducible exact Bool.not_false) ?_; conv => whnf) | (refine Br.ff (by first | assumption | with_reducible rfl | with_reducible exact Bool.not_true) ?_; conv => whnf) | (refine Br.tt rfl ?_; conv => whnf) | (refine Br.ff rfl ?_; conv => whnf) | fail)))
    refine CallsA.then1 h4 ?_
    ((conv => whnf); (repeat' (first | (refine Br.tt (by first | assumption | with_reducible rfl | with_reducible exact Bool.not_false) ?_; conv => whnf) | (refine Br.ff (by first | assumption | with_reducible rfl | with_reducible exact Bool.not_true) ?_; conv => whnf) | (refine Br.tt rfl ?_; conv => whnf) | (refine Br.ff rfl ?_; conv => whnf) | fail)))
    refine ⟨by kernel_rfl, ?_⟩
    ((conv => whnf); (repeat' (first | (refine Br.tt (by first | assumption | with_reducible rfl | with_reducible exact Bool.not_false) ?_; conv => whnf) | (refine Br.ff (by first | assumption | with_reducible rfl | with_reducible exact Bool.not_true) ?_; conv => whnf) | fail)))
    exact ⟨rfl, rfl⟩
end Go.Proofs.L08
