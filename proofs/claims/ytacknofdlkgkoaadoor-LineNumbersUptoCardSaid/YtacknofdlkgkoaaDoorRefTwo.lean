/-
  Contracts of the document side: characters of a text, names, words, Parse; texts of less than the bounds that stand in each.
-/
import Derived.Test.YtacknofdlkgkoaaDoorRefOne
set_option linter.unusedSectionVars false
set_option linter.unusedSimpArgs false
set_option linter.unusedVariables false
namespace Go.Proofs.L24
open Go Aw Go.Proofs
variable {W0 : World}
/-- The bytes behind a character's first. -/
def readLoop (s : List UInt8) (at' : Nat) : Nat → Nat → Int → Option Int
  | 0, _, x => some x
  | k + 1, i, x => if (s.getD (at' + i) 0).toNat < 128 ∨ 191 < (s.getD (at' + i) 0).toNat then none else readLoop s at' k (i + 1) (x * 64 + (s.getD (at' + i) 0).toNat - 128)
/-- Width, least number, and the bits of the first byte. -/
def cls (x : Int) : Option (Nat × Int × Int) :=
  if 194 ≤ x ∧ x < 224 then some (2, 128, x - 192) else if 224 ≤ x ∧ x < 240 then some (3, 2048, x - 224) else if 240 ≤ x ∧ x < 245 then some (4, 65536, x - 240) else none
def readBad : Int × Int × Bool := (65533, 1, false)
def readEnd (o : Option Int) (wd : Nat) (least : Int) : Int × Int × Bool := match o with
  | none => readBad
  | some v => if v < least ∨ 1114111 < v ∨ (55296 ≤ v ∧ v ≤ 57343) then readBad else (v, wd, true)
def refRead (s : List UInt8) (at' : Nat) : Int × Int × Bool :=
  if (s.getD at' 0).toNat < 128 then ((s.getD at' 0).toNat, 1, true)
  else match cls (s.getD at' 0).toNat with
    | none => readBad
    | some (wd, least, x) => if s.length < at' + wd then readBad else readEnd (readLoop s at' (wd - 1) 1 x) wd least
theorem readLoop_bad {s : List UInt8} {p k i : Nat} {x : Int} (h : (s.getD (p + i) 0).toNat < 128 ∨ 191 < (s.getD (p + i) 0).toNat) : readLoop s p (k + 1) i x = none := if_pos h
theorem readLoop_go {s : List UInt8} {p k i : Nat} {x : Int} (h : ¬ ((s.getD (p + i) 0).toNat < 128 ∨ 191 < (s.getD (p + i) 0).toNat)) : readLoop s p (k + 1) i x = readLoop s p k (i + 1) (x * 64 + (s.getD (p + i) 0).toNat - 128) := if_neg h
set_option linter.unusedSimpArgs false in
set_option maxRecDepth 100000 in
set_option maxHeartbeats 4000000 in
theorem refRead_ok (s : List UInt8) (p : Nat) (hs : s.length < 4611686018427387904) (hp : p < s.length) : CallsA Tryd.prog W0 38 [] [.d (.str s), .d (.int .i64 p)]
    fun rs os => rs = [.d (.int .i64 (refRead s p).1), .d (.int .i64 (refRead s p).2.1), .d (.bool (refRead s p).2.2)] ∧ os = [] := by
  refine calls_of_awpC tok [.tmp 4, .tmp 5, .tmp 6] Tryd.func38 rfl rfl rfl rfl rfl ?_
  conv => whnf
  refine Need.of ⟨by omega, by simpa using hp⟩ ?_
  conv => whnf
  have hX0 : s.getD (Int.toNat (p : Int)) 0 = s.getD p 0 := rfl
  have hX1 := (s.getD p 0).toNat_lt
  have hW0 : IntKind.i64.wrap ((s.getD (Int.toNat (p : Int)) 0).toNat : Int) = ((s.getD p 0).toNat : Int) := by rw [hX0]; exact wrap_i64 (by omega) (by omega)
  have hL : IntKind.i64.wrap ((s.length : Int) - (p : Int)) = (s.length : Int) - p := wrap_i64 (by omega) (by omega)
  refine Br.mk (fun h1 => ?_) (fun h1 => ?_) <;> (conv => whnf)
  · have : refRead s p = (((s.getD p 0).toNat : Int), 1, true) := if_pos (by rw [hW0] at h1; simp only [decide_eq_true_eq] at h1; omega)
    rw [this, hW0]; exact ⟨rfl, rfl⟩
  have h1' : ¬ (s.getD p 0).toNat < 128 := by rw [hW0] at h1; simp only [decide_eq_false_iff_not] at h1; omega
  have hR : refRead s p = match cls (s.getD p 0).toNat with
    | none => readBad
    | some (wd, least, x) => if s.length < p + wd then readBad else readEnd (readLoop s p (wd - 1) 1 x) wd least := if_neg h1'
  by_cases hc : 194 ≤ (s.getD p 0).toNat ∧ (s.getD p 0).toNat < 224
  ·
    have : decide (IntKind.i64.wrap ((s.getD (Int.toNat (p : Int)) 0).toNat : Int) ≥ 194) = true := by rw [hW0]; exact decide_eq_true (by omega)
    have : decide (IntKind.i64.wrap ((s.getD (Int.toNat (p : Int)) 0).toNat : Int) < 224) = true := by rw [hW0]; exact decide_eq_true (by omega)
    have : decide (IntKind.i64.wrap ((s.getD (Int.toNat (p : Int)) 0).toNat : Int) ≥ 224) = false := by rw [hW0]; exact decide_eq_false (by omega)
    have : decide (IntKind.i64.wrap ((s.getD (Int.toNat (p : Int)) 0).toNat : Int) < 240) = true := by rw [hW0]; exact decide_eq_true (by omega)
    have : decide (IntKind.i64.wrap ((s.getD (Int.toNat (p : Int)) 0).toNat : Int) ≥ 240) = false := by rw [hW0]; exact decide_eq_false (by omega)
    have : decide (IntKind.i64.wrap ((s.getD (Int.toNat (p : Int)) 0).toNat : Int) < 245) = true := by rw [hW0]; exact decide_eq_true (by omega)
    repeat' (first | (refine Br.tt (by first | assumption | with_reducible rfl | with_reducible exact Bool.not_false) ?_; conv => whnf) | (refine Br.ff (by first | assumption | with_reducible rfl | with_reducible exact Bool.not_true) ?_; conv => whnf) | fail)
    refine Br.mk (fun hln => ?_) (fun hln => ?_) <;> (conv => whnf)
    · rw [hL, decide_eq_true_eq] at hln
      rw [hR, show cls (s.getD p 0).toNat = some (2, 128, ((s.getD p 0).toNat : Int) - 192) from by rw [cls, if_pos (by omega)]]
      simp only
      rw [if_pos (by omega)]
      exact ⟨rfl, by trivial⟩
    rw [hL, decide_eq_false_iff_not] at hln
    rw [show cls (s.getD p 0).toNat = some (2, 128, ((s.getD p 0).toNat : Int) - 192) from by rw [cls, if_pos (by omega)]] at hR
    simp only at hR
    rw [if_neg (by omega)] at hR
    refine loop_by2 (fun (i : Nat) (x : Int) => 1 ≤ i ∧ i ≤ 2 ∧ readLoop s p (2 - 1) 1 ((s.getD p 0).toNat - 192) = readLoop s p (2 - i) i x ∧ 0 ≤ x ∧ (i = 1 → x < 64) ∧ (i = 2 → x < 4096) ∧ (i = 3 → x < 262144) ∧ (i = 4 → x < 16777216))
      (fun i x => mkT [(0, .d (.str s)), (1, .d (.int .i64 p)), (7, .d (.int .i64 x)), (8, .d (.int .i64 2)), (9, .d (.int .i64 128)), (10, .d (.int .i64 i))]) (fun _ _ => mkT []) (fun i _ => 2 - i) 1 ((s.getD p 0).toNat - 192) ⟨by omega, by omega, rfl, by omega, by omega, by omega, by omega, by omega⟩
      (Weak.of [] rfl rfl ⟨⟨_, rfl, rfl⟩, ⟨_, rfl, rfl⟩, ⟨_, rfl, ?_⟩, ⟨_, rfl, rfl⟩, ⟨_, rfl, rfl⟩, ⟨_, rfl, rfl⟩, trivial⟩ trivial) ?_
    · simp only [Pre]; rw [hW0, wrap_i64 (by omega) (by omega)]
    intro i x ⟨hi1, hi2, he, hx0, hb1, hb2, hb3, hb4⟩
    conv => whnf
    refine Br.mk (fun hlt => ?_) (fun hlt => ?_) <;> (conv => whnf)
    · have hlt' : i < 2 := by simp only [decide_eq_true_eq] at hlt; omega
      have hw : IntKind.i64.wrap ((p : Int) + i) = ((p + i : Nat) : Int) := by rw [wrap_i64 (by omega) (by omega)]; omega
      have hY1 := (s.getD (p + i) 0).toNat_lt
      have hY : s.getD (Int.toNat (IntKind.i64.wrap ((p : Int) + i))) 0 = s.getD (p + i) 0 := by rw [hw]; rfl
      have hWY : IntKind.i64.wrap ((s.getD (Int.toNat (IntKind.i64.wrap ((p : Int) + i))) 0).toNat : Int) = ((s.getD (p + i) 0).toNat : Int) := by rw [hY]; exact wrap_i64 (by omega) (by omega)
      refine Need.of ⟨by rw [hw]; omega, by rw [hw]; simp; omega⟩ ?_
      conv => whnf
      obtain ⟨k, hk⟩ : ∃ k, 2 - i = k + 1 := ⟨2 - i - 1, by omega⟩
      have hk2 : 2 - (i + 1) = k := by omega
      rw [hk] at he
      repeat' (first | (refine Br.tt (by first | assumption | with_reducible rfl | with_reducible exact Bool.not_false) ?_; conv => whnf) | (refine Br.ff (by first | assumption | with_reducible rfl | with_reducible exact Bool.not_true) ?_; conv => whnf) | (refine Need.of (by first | omega | (simp; done) | (simp; omega) | (simp at *; omega)) ?_; conv => whnf) | (refine Br.mk (fun _ => ?_) (fun _ => ?_) <;> (conv => whnf)) | fail)
      all_goals simp only [hWY, decide_eq_true_eq, decide_eq_false_iff_not] at *
      all_goals first
        | (have hb := readLoop_bad (s := s) (p := p) (k := k) (i := i) (x := x) (by omega)
           rw [hb] at he
           rw [hR, he]; exact ⟨rfl, by trivial⟩)
        | (have hg := readLoop_go (s := s) (p := p) (k := k) (i := i) (x := x) (by omega)
           rw [hg] at he
           refine ⟨i + 1, x * 64 + (s.getD (p + i) 0).toNat - 128, ⟨⟨by omega, by omega, by rw [he, hk2], by omega, by omega, by omega, by omega, by omega⟩, by omega⟩, Weak.of [] rfl rfl ⟨⟨_, rfl, rfl⟩, ⟨_, rfl, rfl⟩, ⟨_, rfl, ?_⟩, ⟨_, rfl, rfl⟩, ⟨_, rfl, rfl⟩, ⟨_, rfl, ?_⟩, trivial⟩ trivial⟩
           · simp only [Pre, hWY]
             rw [wrap_i64 (n := x * 64) (by omega) (by omega), wrap_i64 (n := x * 64 + _) (by omega) (by omega), wrap_i64 (by omega) (by omega)]
           · simp only [Pre]; rw [wrap_i64 (by omega) (by omega)]; rfl)
    · have hge : i = 2 := by simp only [decide_eq_false_iff_not] at hlt; omega
      subst hge
      rw [he] at hR
      rw [hR]
      repeat' (first | (refine Br.tt (by first | assumption | with_reducible rfl | with_reducible exact Bool.not_false) ?_; conv => whnf) | (refine Br.ff (by first | assumption | with_reducible rfl | with_reducible exact Bool.not_true) ?_; conv => whnf) | (refine Need.of (by first | omega | (simp; done) | (simp; omega) | (simp at *; omega)) ?_; conv => whnf) | (refine Br.mk (fun _ => ?_) (fun _ => ?_) <;> (conv => whnf)) | fail)
      all_goals simp only [decide_eq_true_eq, decide_eq_false_iff_not] at *
      all_goals first
        | (rw [show readEnd (readLoop s p (2 - 2) 2 x) 2 128 = readBad from if_pos (by omega)]; exact ⟨rfl, by trivial⟩)
        | (rw [show readEnd (readLoop s p (2 - 2) 2 x) 2 128 = (x, 2, true) from if_neg (by omega)]; exact ⟨rfl, by trivial⟩)
  by_cases hc : 224 ≤ (s.getD p 0).toNat ∧ (s.getD p 0).toNat < 240
  ·
    have : decide (IntKind.i64.wrap ((s.getD (Int.toNat (p : Int)) 0).toNat : Int) ≥ 194) = true := by rw [hW0]; exact decide_eq_true (by omega)
    have : decide (IntKind.i64.wrap ((s.getD (Int.toNat (p : Int)) 0).toNat : Int) < 224) = false := by rw [hW0]; exact decide_eq_false (by omega)
    have : decide (IntKind.i64.wrap ((s.getD (Int.toNat (p : Int)) 0).toNat : Int) ≥ 224) = true := by rw [hW0]; exact decide_eq_true (by omega)
    have : decide (IntKind.i64.wrap ((s.getD (Int.toNat (p : Int)) 0).toNat : Int) < 240) = true := by rw [hW0]; exact decide_eq_true (by omega)
    have : decide (IntKind.i64.wrap ((s.getD (Int.toNat (p : Int)) 0).toNat : Int) ≥ 240) = false := by rw [hW0]; exact decide_eq_false (by omega)
    have : decide (IntKind.i64.wrap ((s.getD (Int.toNat (p : Int)) 0).toNat : Int) < 245) = true := by rw [hW0]; exact decide_eq_true (by omega)
    repeat' (first | (refine Br.tt (by first | assumption | with_reducible rfl | with_reducible exact Bool.not_false) ?_; conv => whnf) | (refine Br.ff (by first | assumption | with_reducible rfl | with_reducible exact Bool.not_true) ?_; conv => whnf) | fail)
    refine Br.mk (fun hln => ?_) (fun hln => ?_) <;> (conv => whnf)
    · rw [hL, decide_eq_true_eq] at hln
      rw [hR, show cls (s.getD p 0).toNat = some (3, 2048, ((s.getD p 0).toNat : Int) - 224) from by rw [cls, if_neg (by omega), if_pos (by omega)]]
      simp only
      rw [if_pos (by omega)]
      exact ⟨rfl, by trivial⟩
    rw [hL, decide_eq_false_iff_not] at hln
    rw [show cls (s.getD p 0).toNat = some (3, 2048, ((s.getD p 0).toNat : Int) - 224) from by rw [cls, if_neg (by omega), if_pos (by omega)]] at hR
    simp only at hR
    rw [if_neg (by omega)] at hR
    refine loop_by2 (fun (i : Nat) (x : Int) => 1 ≤ i ∧ i ≤ 3 ∧ readLoop s p (3 - 1) 1 ((s.getD p 0).toNat - 224) = readLoop s p (3 - i) i x ∧ 0 ≤ x ∧ (i = 1 → x < 64) ∧ (i = 2 → x < 4096) ∧ (i = 3 → x < 262144) ∧ (i = 4 → x < 16777216))
      (fun i x => mkT [(0, .d (.str s)), (1, .d (.int .i64 p)), (7, .d (.int .i64 x)), (8, .d (.int .i64 3)), (9, .d (.int .i64 2048)), (10, .d (.int .i64 i))]) (fun _ _ => mkT []) (fun i _ => 3 - i) 1 ((s.getD p 0).toNat - 224) ⟨by omega, by omega, rfl, by omega, by omega, by omega, by omega, by omega⟩
      (Weak.of [] rfl rfl ⟨⟨_, rfl, rfl⟩, ⟨_, rfl, rfl⟩, ⟨_, rfl, ?_⟩, ⟨_, rfl, rfl⟩, ⟨_, rfl, rfl⟩, ⟨_, rfl, rfl⟩, trivial⟩ trivial) ?_
    · simp only [Pre]; rw [hW0, wrap_i64 (by omega) (by omega)]
    intro i x ⟨hi1, hi2, he, hx0, hb1, hb2, hb3, hb4⟩
    conv => whnf
    refine Br.mk (fun hlt => ?_) (fun hlt => ?_) <;> (conv => whnf)
    · have hlt' : i < 3 := by simp only [decide_eq_true_eq] at hlt; omega
      have hw : IntKind.i64.wrap ((p : Int) + i) = ((p + i : Nat) : Int) := by rw [wrap_i64 (by omega) (by omega)]; omega
      have hY1 := (s.getD (p + i) 0).toNat_lt
      have hY : s.getD (Int.toNat (IntKind.i64.wrap ((p : Int) + i))) 0 = s.getD (p + i) 0 := by rw [hw]; rfl
      have hWY : IntKind.i64.wrap ((s.getD (Int.toNat (IntKind.i64.wrap ((p : Int) + i))) 0).toNat : Int) = ((s.getD (p + i) 0).toNat : Int) := by rw [hY]; exact wrap_i64 (by omega) (by omega)
      refine Need.of ⟨by rw [hw]; omega, by rw [hw]; simp; omega⟩ ?_
      conv => whnf
      obtain ⟨k, hk⟩ : ∃ k, 3 - i = k + 1 := ⟨3 - i - 1, by omega⟩
      have hk2 : 3 - (i + 1) = k := by omega
      rw [hk] at he
      repeat' (first | (refine Br.tt (by first | assumption | with_reducible rfl | with_reducible exact Bool.not_false) ?_; conv => whnf) | (refine Br.ff (by first | assumption | with_reducible rfl | with_reducible exact Bool.not_true) ?_; conv => whnf) | (refine Need.of (by first | omega | (simp; done) | (simp; omega) | (simp at *; omega)) ?_; conv => whnf) | (refine Br.mk (fun _ => ?_) (fun _ => ?_) <;> (conv => whnf)) | fail)
      all_goals simp only [hWY, decide_eq_true_eq, decide_eq_false_iff_not] at *
      all_goals first
        | (have hb := readLoop_bad (s := s) (p := p) (k := k) (i := i) (x := x) (by omega)
           rw [hb] at he
           rw [hR, he]; exact ⟨rfl, by trivial⟩)
        | (have hg := readLoop_go (s := s) (p := p) (k := k) (i := i) (x := x) (by omega)
           rw [hg] at he
           refine ⟨i + 1, x * 64 + (s.getD (p + i) 0).toNat - 128, ⟨⟨by omega, by omega, by rw [he, hk2], by omega, by omega, by omega, by omega, by omega⟩, by omega⟩, Weak.of [] rfl rfl ⟨⟨_, rfl, rfl⟩, ⟨_, rfl, rfl⟩, ⟨_, rfl, ?_⟩, ⟨_, rfl, rfl⟩, ⟨_, rfl, rfl⟩, ⟨_, rfl, ?_⟩, trivial⟩ trivial⟩
           · simp only [Pre, hWY]
             rw [wrap_i64 (n := x * 64) (by omega) (by omega), wrap_i64 (n := x * 64 + _) (by omega) (by omega), wrap_i64 (by omega) (by omega)]
           · simp only [Pre]; rw [wrap_i64 (by omega) (by omega)]; rfl)
    · have hge : i = 3 := by simp only [decide_eq_false_iff_not] at hlt; omega
      subst hge
      rw [he] at hR
      rw [hR]
      repeat' (first | (refine Br.tt (by first | assumption | with_reducible rfl | with_reducible exact Bool.not_false) ?_; conv => whnf) | (refine Br.ff (by first | assumption | with_reducible rfl | with_reducible exact Bool.not_true) ?_; conv => whnf) | (refine Need.of (by first | omega | (simp; done) | (simp; omega) | (simp at *; omega)) ?_; conv => whnf) | (refine Br.mk (fun _ => ?_) (fun _ => ?_) <;> (conv => whnf)) | fail)
      all_goals simp only [decide_eq_true_eq, decide_eq_false_iff_not] at *
      all_goals first
        | (rw [show readEnd (readLoop s p (3 - 3) 3 x) 3 2048 = readBad from if_pos (by omega)]; exact ⟨rfl, by trivial⟩)
        | (rw [show readEnd (readLoop s p (3 - 3) 3 x) 3 2048 = (x, 3, true) from if_neg (by omega)]; exact ⟨rfl, by trivial⟩)
  by_cases hc : 240 ≤ (s.getD p 0).toNat ∧ (s.getD p 0).toNat < 245
  ·
    have : decide (IntKind.i64.wrap ((s.getD (Int.toNat (p : Int)) 0).toNat : Int) ≥ 194) = true := by rw [hW0]; exact decide_eq_true (by omega)
    have : decide (IntKind.i64.wrap ((s.getD (Int.toNat (p : Int)) 0).toNat : Int) < 224) = false := by rw [hW0]; exact decide_eq_false (by omega)
    have : decide (IntKind.i64.wrap ((s.getD (Int.toNat (p : Int)) 0).toNat : Int) ≥ 224) = true := by rw [hW0]; exact decide_eq_true (by omega)
    have : decide (IntKind.i64.wrap ((s.getD (Int.toNat (p : Int)) 0).toNat : Int) < 240) = false := by rw [hW0]; exact decide_eq_false (by omega)
    have : decide (IntKind.i64.wrap ((s.getD (Int.toNat (p : Int)) 0).toNat : Int) ≥ 240) = true := by rw [hW0]; exact decide_eq_true (by omega)
    have : decide (IntKind.i64.wrap ((s.getD (Int.toNat (p : Int)) 0).toNat : Int) < 245) = true := by rw [hW0]; exact decide_eq_true (by omega)
    repeat' (first | (refine Br.tt (by first | assumption | with_reducible rfl | with_reducible exact Bool.not_false) ?_; conv => whnf) | (refine Br.ff (by first | assumption | with_reducible rfl | with_reducible exact Bool.not_true) ?_; conv => whnf) | fail)
    refine Br.mk (fun hln => ?_) (fun hln => ?_) <;> (conv => whnf)
    · rw [hL, decide_eq_true_eq] at hln
      rw [hR, show cls (s.getD p 0).toNat = some (4, 65536, ((s.getD p 0).toNat : Int) - 240) from by rw [cls, if_neg (by omega), if_neg (by omega), if_pos (by omega)]]
      simp only
      rw [if_pos (by omega)]
      exact ⟨rfl, by trivial⟩
    rw [hL, decide_eq_false_iff_not] at hln
    rw [show cls (s.getD p 0).toNat = some (4, 65536, ((s.getD p 0).toNat : Int) - 240) from by rw [cls, if_neg (by omega), if_neg (by omega), if_pos (by omega)]] at hR
    simp only at hR
    rw [if_neg (by omega)] at hR
    refine loop_by2 (fun (i : Nat) (x : Int) => 1 ≤ i ∧ i ≤ 4 ∧ readLoop s p (4 - 1) 1 ((s.getD p 0).toNat - 240) = readLoop s p (4 - i) i x ∧ 0 ≤ x ∧ (i = 1 → x < 64) ∧ (i = 2 → x < 4096) ∧ (i = 3 → x < 262144) ∧ (i = 4 → x < 16777216))
      (fun i x => mkT [(0, .d (.str s)), (1, .d (.int .i64 p)), (7, .d (.int .i64 x)), (8, .d (.int .i64 4)), (9, .d (.int .i64 65536)), (10, .d (.int .i64 i))]) (fun _ _ => mkT []) (fun i _ => 4 - i) 1 ((s.getD p 0).toNat - 240) ⟨by omega, by omega, rfl, by omega, by omega, by omega, by omega, by omega⟩
      (Weak.of [] rfl rfl ⟨⟨_, rfl, rfl⟩, ⟨_, rfl, rfl⟩, ⟨_, rfl, ?_⟩, ⟨_, rfl, rfl⟩, ⟨_, rfl, rfl⟩, ⟨_, rfl, rfl⟩, trivial⟩ trivial) ?_
    · simp only [Pre]; rw [hW0, wrap_i64 (by omega) (by omega)]
    intro i x ⟨hi1, hi2, he, hx0, hb1, hb2, hb3, hb4⟩
    conv => whnf
    refine Br.mk (fun hlt => ?_) (fun hlt => ?_) <;> (conv => whnf)
    · have hlt' : i < 4 := by simp only [decide_eq_true_eq] at hlt; omega
      have hw : IntKind.i64.wrap ((p : Int) + i) = ((p + i : Nat) : Int) := by rw [wrap_i64 (by omega) (by omega)]; omega
      have hY1 := (s.getD (p + i) 0).toNat_lt
      have hY : s.getD (Int.toNat (IntKind.i64.wrap ((p : Int) + i))) 0 = s.getD (p + i) 0 := by rw [hw]; rfl
      have hWY : IntKind.i64.wrap ((s.getD (Int.toNat (IntKind.i64.wrap ((p : Int) + i))) 0).toNat : Int) = ((s.getD (p + i) 0).toNat : Int) := by rw [hY]; exact wrap_i64 (by omega) (by omega)
      refine Need.of ⟨by rw [hw]; omega, by rw [hw]; simp; omega⟩ ?_
      conv => whnf
      obtain ⟨k, hk⟩ : ∃ k, 4 - i = k + 1 := ⟨4 - i - 1, by omega⟩
      have hk2 : 4 - (i + 1) = k := by omega
      rw [hk] at he
      repeat' (first | (refine Br.tt (by first | assumption | with_reducible rfl | with_reducible exact Bool.not_false) ?_; conv => whnf) | (refine Br.ff (by first | assumption | with_reducible rfl | with_reducible exact Bool.not_true) ?_; conv => whnf) | (refine Need.of (by first | omega | (simp; done) | (simp; omega) | (simp at *; omega)) ?_; conv => whnf) | (refine Br.mk (fun _ => ?_) (fun _ => ?_) <;> (conv => whnf)) | fail)
      all_goals simp only [hWY, decide_eq_true_eq, decide_eq_false_iff_not] at *
      all_goals first
        | (have hb := readLoop_bad (s := s) (p := p) (k := k) (i := i) (x := x) (by omega)
           rw [hb] at he
           rw [hR, he]; exact ⟨rfl, by trivial⟩)
        | (have hg := readLoop_go (s := s) (p := p) (k := k) (i := i) (x := x) (by omega)
           rw [hg] at he
           refine ⟨i + 1, x * 64 + (s.getD (p + i) 0).toNat - 128, ⟨⟨by omega, by omega, by rw [he, hk2], by omega, by omega, by omega, by omega, by omega⟩, by omega⟩, Weak.of [] rfl rfl ⟨⟨_, rfl, rfl⟩, ⟨_, rfl, rfl⟩, ⟨_, rfl, ?_⟩, ⟨_, rfl, rfl⟩, ⟨_, rfl, rfl⟩, ⟨_, rfl, ?_⟩, trivial⟩ trivial⟩
           · simp only [Pre, hWY]
             rw [wrap_i64 (n := x * 64) (by omega) (by omega), wrap_i64 (n := x * 64 + _) (by omega) (by omega), wrap_i64 (by omega) (by omega)]
           · simp only [Pre]; rw [wrap_i64 (by omega) (by omega)]; rfl)
    · have hge : i = 4 := by simp only [decide_eq_false_iff_not] at hlt; omega
      subst hge
      rw [he] at hR
      rw [hR]
      repeat' (first | (refine Br.tt (by first | assumption | with_reducible rfl | with_reducible exact Bool.not_false) ?_; conv => whnf) | (refine Br.ff (by first | assumption | with_reducible rfl | with_reducible exact Bool.not_true) ?_; conv => whnf) | (refine Need.of (by first | omega | (simp; done) | (simp; omega) | (simp at *; omega)) ?_; conv => whnf) | (refine Br.mk (fun _ => ?_) (fun _ => ?_) <;> (conv => whnf)) | fail)
      all_goals simp only [decide_eq_true_eq, decide_eq_false_iff_not] at *
      all_goals first
        | (rw [show readEnd (readLoop s p (4 - 4) 4 x) 4 65536 = readBad from if_pos (by omega)]; exact ⟨rfl, by trivial⟩)
        | (rw [show readEnd (readLoop s p (4 - 4) 4 x) 4 65536 = (x, 4, true) from if_neg (by omega)]; exact ⟨rfl, by trivial⟩)
  by_cases hc : (s.getD p 0).toNat < 194
  ·
    have : decide (IntKind.i64.wrap ((s.getD (Int.toNat (p : Int)) 0).toNat : Int) ≥ 194) = false := by rw [hW0]; exact decide_eq_false (by omega)
    have : decide (IntKind.i64.wrap ((s.getD (Int.toNat (p : Int)) 0).toNat : Int) < 224) = true := by rw [hW0]; exact decide_eq_true (by omega)
    have : decide (IntKind.i64.wrap ((s.getD (Int.toNat (p : Int)) 0).toNat : Int) ≥ 224) = false := by rw [hW0]; exact decide_eq_false (by omega)
    have : decide (IntKind.i64.wrap ((s.getD (Int.toNat (p : Int)) 0).toNat : Int) < 240) = true := by rw [hW0]; exact decide_eq_true (by omega)
    have : decide (IntKind.i64.wrap ((s.getD (Int.toNat (p : Int)) 0).toNat : Int) ≥ 240) = false := by rw [hW0]; exact decide_eq_false (by omega)
    have : decide (IntKind.i64.wrap ((s.getD (Int.toNat (p : Int)) 0).toNat : Int) < 245) = true := by rw [hW0]; exact decide_eq_true (by omega)
    repeat' (first | (refine Br.tt (by first | assumption | with_reducible rfl | with_reducible exact Bool.not_false) ?_; conv => whnf) | (refine Br.ff (by first | assumption | with_reducible rfl | with_reducible exact Bool.not_true) ?_; conv => whnf) | (refine Need.of (by first | omega | (simp; done) | (simp; omega) | (simp at *; omega)) ?_; conv => whnf) | (refine Br.mk (fun _ => ?_) (fun _ => ?_) <;> (conv => whnf)) | fail)
    rw [hR, show cls (s.getD p 0).toNat = none from by rw [cls, if_neg (by omega), if_neg (by omega), if_neg (by omega)]]
    exact ⟨rfl, by trivial⟩
  have : decide (IntKind.i64.wrap ((s.getD (Int.toNat (p : Int)) 0).toNat : Int) ≥ 194) = true := by rw [hW0]; exact decide_eq_true (by omega)
  have : decide (IntKind.i64.wrap ((s.getD (Int.toNat (p : Int)) 0).toNat : Int) < 224) = false := by rw [hW0]; exact decide_eq_false (by omega)
  have : decide (IntKind.i64.wrap ((s.getD (Int.toNat (p : Int)) 0).toNat : Int) ≥ 224) = true := by rw [hW0]; exact decide_eq_true (by omega)
  have : decide (IntKind.i64.wrap ((s.getD (Int.toNat (p : Int)) 0).toNat : Int) < 240) = false := by rw [hW0]; exact decide_eq_false (by omega)
  have : decide (IntKind.i64.wrap ((s.getD (Int.toNat (p : Int)) 0).toNat : Int) ≥ 240) = true := by rw [hW0]; exact decide_eq_true (by omega)
  have : decide (IntKind.i64.wrap ((s.getD (Int.toNat (p : Int)) 0).toNat : Int) < 245) = false := by rw [hW0]; exact decide_eq_false (by omega)
  repeat' (first | (refine Br.tt (by first | assumption | with_reducible rfl | with_reducible exact Bool.not_false) ?_; conv => whnf) | (refine Br.ff (by first | assumption | with_reducible rfl | with_reducible exact Bool.not_true) ?_; conv => whnf) | (refine Need.of (by first | omega | (simp; done) | (simp; omega) | (simp at *; omega)) ?_; conv => whnf) | (refine Br.mk (fun _ => ?_) (fun _ => ?_) <;> (conv => whnf)) | fail)
  rw [hR, show cls (s.getD p 0).toNat = none from by rw [cls, if_neg (by omega), if_neg (by omega), if_neg (by omega)]]
  exact ⟨rfl, by trivial⟩
end Go.Proofs.L24

namespace Go.Proofs.L24
open Go Aw Go.Proofs
variable {W0 : World}
theorem bget (s : List UInt8) (i : Nat) : (ByteArray.mk s.toArray).get! i = s.getD i 0 := by
  show s.toArray[i]! = _
  simp [List.getD_eq_getElem?_getD, getElem!_def]
  cases s[i]? <;> rfl
/-- The same, over the four bytes' numbers. -/
def decN (len p x0 x1 x2 x3 : Nat) : Nat × Nat :=
  if x0 < 128 then (x0, 1)
  else if x0 / 32 = 6 ∧ p + 1 < len ∧ x1 / 64 = 2 then
    if 128 ≤ (x0 % 32) * 64 + x1 % 64 then ((x0 % 32) * 64 + x1 % 64, 2) else (65533, 1)
  else if x0 / 16 = 14 ∧ (p + 1 < len ∧ x1 / 64 = 2) ∧ (p + 2 < len ∧ x2 / 64 = 2) then
    if 2048 ≤ (x0 % 16) * 4096 + (x1 % 64) * 64 + x2 % 64 ∧ ((x0 % 16) * 4096 + (x1 % 64) * 64 + x2 % 64 < 55296 ∨ (57344 ≤ (x0 % 16) * 4096 + (x1 % 64) * 64 + x2 % 64 ∧ (x0 % 16) * 4096 + (x1 % 64) * 64 + x2 % 64 ≤ 1114111)) then ((x0 % 16) * 4096 + (x1 % 64) * 64 + x2 % 64, 3) else (65533, 1)
  else if x0 / 8 = 30 ∧ (p + 1 < len ∧ x1 / 64 = 2) ∧ (p + 2 < len ∧ x2 / 64 = 2) ∧ (p + 3 < len ∧ x3 / 64 = 2) then
    if 65536 ≤ (x0 % 8) * 262144 + (x1 % 64) * 4096 + (x2 % 64) * 64 + x3 % 64 ∧ (x0 % 8) * 262144 + (x1 % 64) * 4096 + (x2 % 64) * 64 + x3 % 64 ≤ 1114111 then ((x0 % 8) * 262144 + (x1 % 64) * 4096 + (x2 % 64) * 64 + x3 % 64, 4) else (65533, 1)
  else (65533, 1)
theorem udec_decN (s : List UInt8) (p : Nat) : udec s p = decN s.length p (s.getD p 0).toNat (s.getD (p + 1) 0).toNat (s.getD (p + 2) 0).toNat (s.getD (p + 3) 0).toNat := by
  unfold udec Utf8.decode decN
  simp only [bget, show (ByteArray.mk s.toArray).size = s.length from by simp [ByteArray.size], Nat.add_zero, Utf8.runeError, Utf8.valid, Bool.and_eq_true, beq_iff_eq, decide_eq_true_eq, Bool.or_eq_true, ge_iff_le]
  generalize (s.getD p 0).toNat = x0
  generalize (s.getD (p + 1) 0).toNat = x1
  generalize (s.getD (p + 2) 0).toNat = x2
  generalize (s.getD (p + 3) 0).toNat = x3
  by_cases c0 : x0 < 128
  · rw [if_pos c0, if_pos c0]
  rw [if_neg c0, if_neg c0]
  by_cases c1 : x0 / 32 = 6 ∧ p + 1 < s.length ∧ x1 / 64 = 2
  · rw [if_pos c1, if_pos c1]
  rw [if_neg c1, if_neg c1]
  by_cases c2 : x0 / 16 = 14 ∧ (p + 1 < s.length ∧ x1 / 64 = 2) ∧ (p + 2 < s.length ∧ x2 / 64 = 2)
  · rw [if_pos c2, if_pos (by omega)]
    by_cases d : 2048 ≤ (x0 % 16) * 4096 + (x1 % 64) * 64 + x2 % 64 ∧ ((x0 % 16) * 4096 + (x1 % 64) * 64 + x2 % 64 < 55296 ∨ (57344 ≤ (x0 % 16) * 4096 + (x1 % 64) * 64 + x2 % 64 ∧ (x0 % 16) * 4096 + (x1 % 64) * 64 + x2 % 64 ≤ 1114111))
    · rw [if_pos d, if_pos (by omega)]
    · rw [if_neg d, if_neg (by omega)]
  rw [if_neg c2, if_neg (by omega)]
  by_cases c3 : x0 / 8 = 30 ∧ (p + 1 < s.length ∧ x1 / 64 = 2) ∧ (p + 2 < s.length ∧ x2 / 64 = 2) ∧ (p + 3 < s.length ∧ x3 / 64 = 2)
  · rw [if_pos c3, if_pos (by omega)]
    by_cases d : 65536 ≤ (x0 % 8) * 262144 + (x1 % 64) * 4096 + (x2 % 64) * 64 + x3 % 64 ∧ (x0 % 8) * 262144 + (x1 % 64) * 4096 + (x2 % 64) * 64 + x3 % 64 ≤ 1114111
    · rw [if_pos d, if_pos (by omega)]
    · rw [if_neg d, if_neg (by omega)]
  rw [if_neg c3, if_neg (by omega)]
theorem udec_read (s : List UInt8) (p : Nat) (hp : p < s.length) : (((udec s p).1 : Int), ((udec s p).2 : Int)) = ((refRead s p).1, (refRead s p).2.1) := by
  rw [udec_decN]
  unfold refRead
  have b0 := (s.getD p 0).toNat_lt
  have b1 := (s.getD (p + 1) 0).toNat_lt
  have b2 := (s.getD (p + 2) 0).toNat_lt
  have b3 := (s.getD (p + 3) 0).toNat_lt
  have l1 : ∀ x : Int, readLoop s p 1 1 x = if (s.getD (p + 1) 0).toNat < 128 ∨ 191 < (s.getD (p + 1) 0).toNat then none else some (x * 64 + (s.getD (p + 1) 0).toNat - 128) := fun _ => rfl
  have l2 : ∀ x : Int, readLoop s p 2 1 x = if (s.getD (p + 1) 0).toNat < 128 ∨ 191 < (s.getD (p + 1) 0).toNat then none else if (s.getD (p + 2) 0).toNat < 128 ∨ 191 < (s.getD (p + 2) 0).toNat then none else
    some ((x * 64 + (s.getD (p + 1) 0).toNat - 128) * 64 + (s.getD (p + 2) 0).toNat - 128) := fun _ => rfl
  have l3 : ∀ x : Int, readLoop s p 3 1 x = if (s.getD (p + 1) 0).toNat < 128 ∨ 191 < (s.getD (p + 1) 0).toNat then none else if (s.getD (p + 2) 0).toNat < 128 ∨ 191 < (s.getD (p + 2) 0).toNat then none else
    if (s.getD (p + 3) 0).toNat < 128 ∨ 191 < (s.getD (p + 3) 0).toNat then none else
    some (((x * 64 + (s.getD (p + 1) 0).toNat - 128) * 64 + (s.getD (p + 2) 0).toNat - 128) * 64 + (s.getD (p + 3) 0).toNat - 128) := fun _ => rfl
  generalize (s.getD p 0).toNat = x0 at *
  generalize (s.getD (p + 1) 0).toNat = x1 at *
  generalize (s.getD (p + 2) 0).toNat = x2 at *
  generalize (s.getD (p + 3) 0).toNat = x3 at *
  by_cases c0 : x0 < 128
  · rw [decN, if_pos c0, if_pos c0]; rfl
  rw [if_neg c0]
  by_cases c2 : 194 ≤ x0 ∧ x0 < 224
  · rw [show cls x0 = some (2, 128, (x0 : Int) - 192) from if_pos (by omega)]
    simp only [Nat.reduceSub, l1]
    by_cases k1 : p + 1 < s.length ∧ 128 ≤ x1 ∧ x1 ≤ 191
    · rw [decN, if_neg c0, if_pos (by omega), if_pos (by omega), if_neg (by omega), if_neg (by omega)]
      simp only [readEnd]
      rw [if_neg (by omega)]
      refine Prod.ext ?_ ?_
      · show ((_ : Nat) : Int) = (_ : Int); omega
      · rfl
    · rw [decN, if_neg c0, if_neg (by omega), if_neg (by omega), if_neg (by omega)]
      by_cases k2 : s.length < p + 2
      · rw [if_pos k2]; rfl
      · rw [if_neg k2, if_pos (by omega)]; rfl
  by_cases c3 : 224 ≤ x0 ∧ x0 < 240
  · rw [show cls x0 = some (3, 2048, (x0 : Int) - 224) from by rw [cls, if_neg (by omega), if_pos (by omega)]]
    simp only [Nat.reduceSub, l2]
    by_cases k1 : (p + 1 < s.length ∧ 128 ≤ x1 ∧ x1 ≤ 191) ∧ p + 2 < s.length ∧ 128 ≤ x2 ∧ x2 ≤ 191
    · rw [decN, if_neg c0, if_neg (by omega), if_pos (by omega)]
      by_cases d : 2048 ≤ (x0 % 16) * 4096 + (x1 % 64) * 64 + x2 % 64 ∧ ((x0 % 16) * 4096 + (x1 % 64) * 64 + x2 % 64 < 55296 ∨ (57344 ≤ (x0 % 16) * 4096 + (x1 % 64) * 64 + x2 % 64 ∧ (x0 % 16) * 4096 + (x1 % 64) * 64 + x2 % 64 ≤ 1114111))
      · rw [if_pos d, if_neg (by omega), if_neg (by omega), if_neg (by omega)]
        simp only [readEnd]
        rw [if_neg (by omega)]
        refine Prod.ext ?_ ?_
        · show ((_ : Nat) : Int) = (_ : Int); omega
        · rfl
      · rw [if_neg d, if_neg (by omega), if_neg (by omega), if_neg (by omega)]
        simp only [readEnd]
        rw [if_pos (by omega)]; rfl
    · rw [decN, if_neg c0, if_neg (by omega), if_neg (by omega), if_neg (by omega)]
      by_cases k2 : s.length < p + 3
      · rw [if_pos k2]; rfl
      · rw [if_neg k2]
        by_cases k3 : x1 < 128 ∨ 191 < x1
        · rw [if_pos k3]; rfl
        · rw [if_neg k3, if_pos (by omega)]; rfl
  by_cases c4 : 240 ≤ x0 ∧ x0 < 245
  · rw [show cls x0 = some (4, 65536, (x0 : Int) - 240) from by rw [cls, if_neg (by omega), if_neg (by omega), if_pos (by omega)]]
    simp only [Nat.reduceSub, l3]
    by_cases k1 : (p + 1 < s.length ∧ 128 ≤ x1 ∧ x1 ≤ 191) ∧ (p + 2 < s.length ∧ 128 ≤ x2 ∧ x2 ≤ 191) ∧ p + 3 < s.length ∧ 128 ≤ x3 ∧ x3 ≤ 191
    · rw [decN, if_neg c0, if_neg (by omega), if_neg (by omega), if_pos (by omega)]
      by_cases d : 65536 ≤ (x0 % 8) * 262144 + (x1 % 64) * 4096 + (x2 % 64) * 64 + x3 % 64 ∧ (x0 % 8) * 262144 + (x1 % 64) * 4096 + (x2 % 64) * 64 + x3 % 64 ≤ 1114111
      · rw [if_pos d, if_neg (by omega), if_neg (by omega), if_neg (by omega), if_neg (by omega)]
        simp only [readEnd]
        rw [if_neg (by omega)]
        refine Prod.ext ?_ ?_
        · show ((_ : Nat) : Int) = (_ : Int); omega
        · rfl
      · rw [if_neg d, if_neg (by omega), if_neg (by omega), if_neg (by omega), if_neg (by omega)]
        simp only [readEnd]
        rw [if_pos (by omega)]; rfl
    · rw [decN, if_neg c0, if_neg (by omega), if_neg (by omega), if_neg (by omega)]
      by_cases k2 : s.length < p + 4
      · rw [if_pos k2]; rfl
      · rw [if_neg k2]
        by_cases k3 : x1 < 128 ∨ 191 < x1
        · rw [if_pos k3]; rfl
        · rw [if_neg k3]
          by_cases k4 : x2 < 128 ∨ 191 < x2
          · rw [if_pos k4]; rfl
          · rw [if_neg k4, if_pos (by omega)]; rfl
  rw [show cls x0 = none from by rw [cls, if_neg (by omega), if_neg (by omega), if_neg (by omega)]]
  rw [decN, if_neg c0]
  by_cases d1 : x0 / 32 = 6 ∧ p + 1 < s.length ∧ x1 / 64 = 2
  · rw [if_pos d1, if_neg (by omega)]; rfl
  rw [if_neg d1, if_neg (by omega)]
  by_cases d2 : x0 / 8 = 30 ∧ (p + 1 < s.length ∧ x1 / 64 = 2) ∧ (p + 2 < s.length ∧ x2 / 64 = 2) ∧ (p + 3 < s.length ∧ x3 / 64 = 2)
  · rw [if_pos d2, if_neg (by omega)]; rfl
  · rw [if_neg d2]; rfl
end Go.Proofs.L24

namespace Go.Proofs.L24
open Go Aw Go.Proofs
variable {W0 : World}
/-- Is the text from p on made of a name's characters? How many they are. -/
def nameAt (s : List UInt8) : Nat → Nat → Nat → Option Nat
  | 0, _, n => some n
  | f + 1, p, n => if p < s.length then (if (n = 0 ∧ isStart (udec s p).1 = false) ∨ isRest (udec s p).1 = false then none else nameAt s f (p + (udec s p).2) (n + 1)) else some n
def nameOk (s : List UInt8) : Bool := match nameAt s s.length 0 0 with
  | none => false
  | some n => decide (1 ≤ n ∧ n ≤ 16) && !reserved s
theorem udec_wide (s : List UInt8) (p : Nat) : 1 ≤ (udec s p).2 ∧ (udec s p).2 ≤ 4 := by
  rw [udec_decN]
  unfold decN
  repeat' split
  all_goals simp
theorem nameAt_end {s : List UInt8} {f p n : Nat} (h : s.length ≤ p) : nameAt s f p n = some n := by
  cases f with
  | zero => rfl
  | succ f => exact if_neg (by omega)
theorem nameAt_bad {s : List UInt8} {f p n : Nat} (h : p < s.length) (hb : (n = 0 ∧ isStart (udec s p).1 = false) ∨ isRest (udec s p).1 = false) : nameAt s (f + 1) p n = none := by
  rw [nameAt, if_pos h, if_pos hb]
theorem nameAt_go {s : List UInt8} {f p n : Nat} (h : p < s.length) (hb : ¬ ((n = 0 ∧ isStart (udec s p).1 = false) ∨ isRest (udec s p).1 = false)) : nameAt s (f + 1) p n = nameAt s f (p + (udec s p).2) (n + 1) := by
  rw [nameAt, if_pos h, if_neg hb]
theorem refRead_bad {s : List UInt8} {p : Nat} (h : (refRead s p).2.2 = false) : refRead s p = readBad := by
  unfold refRead at h ⊢
  split at h
  · cases h
  rename_i h0
  rw [if_neg h0]
  split at h
  · rfl
  split at h
  · rename_i e2; rw [if_pos e2]
  rename_i e2
  rw [if_neg e2]
  unfold readEnd at h ⊢
  split at h
  · rfl
  · split at h
    · rename_i e2; rw [if_pos e2]
    · cases h
set_option linter.unusedSimpArgs false in
set_option maxRecDepth 100000 in
set_option maxHeartbeats 4000000 in
theorem refName_ok (s : List UInt8) (hs : s.length < 4611686018427387904) : CallsA Tryd.prog W0 25 [] [.d (.str s)] fun rs os => rs = [.d (.bool (nameOk s))] ∧ os = [] := by
  refine calls_of_awpC tok [.tmp 2] Tryd.func25 rfl rfl rfl rfl rfl ?_
  conv => whnf
  refine loop_by3 (fun (f p n : Nat) => nameAt s s.length 0 0 = nameAt s f p n ∧ s.length ≤ p + f ∧ n ≤ p ∧ p ≤ s.length + 4) (fun _ p n => mkT [(0, .d (.str s)), (3, .d (.int .i64 n)), (4, .d (.int .i64 p))]) (fun _ _ _ => mkT []) (fun _ p _ => s.length + 4 - p) s.length 0 0 ⟨rfl, by omega, by omega, by omega⟩
    (Weak.of [] rfl rfl ⟨⟨_, rfl, rfl⟩, ⟨_, rfl, rfl⟩, ⟨_, rfl, rfl⟩, trivial⟩ trivial) ?_
  intro f p n ⟨he, hf, hn, hp⟩
  conv => whnf
  refine Br.mk (fun h => ?_) (fun h => ?_) <;> (conv => whnf)
  · have hlt : p < s.length := by simpa using h
    refine CallsA.then (refRead_ok s p hs hlt) ?_
    conv => whnf
    have hu := udec_read s p hlt
    have hwd := udec_wide s p
    simp only [Prod.mk.injEq] at hu
    obtain ⟨f', rfl⟩ : ∃ f', f = f' + 1 := ⟨f - 1, by omega⟩
    refine Br.mk (fun h1 => ?_) (fun h1 => ?_) <;> (conv => whnf)
    · repeat' (first | (refine Br.tt (by first | assumption | with_reducible rfl | with_reducible exact Bool.not_false) ?_; conv => whnf) | (refine Br.ff (by first | assumption | with_reducible rfl | with_reducible exact Bool.not_true) ?_; conv => whnf) | (refine Need.of (by first | omega | (simp; done) | (simp; omega) | (simp at *; omega)) ?_; conv => whnf) | (refine Br.mk (fun _ => ?_) (fun _ => ?_) <;> (conv => whnf)) | fail)
      have hbad := refRead_bad (s := s) (p := p) (by simpa using h1)
      rw [hbad] at hu
      have hb := nameAt_bad (f := f') (n := n) hlt (.inr (by rw [hu.1]; rfl))
      rw [hb] at he
      unfold nameOk; rw [he]; exact ⟨rfl, rfl⟩
    rw [← hu.1, ← hu.2]
    clear hu
    repeat' (first | (refine Br.tt (by first | assumption | with_reducible rfl | with_reducible exact Bool.not_false) ?_; conv => whnf) | (refine Br.ff (by first | assumption | with_reducible rfl | with_reducible exact Bool.not_true) ?_; conv => whnf) | fail)
    refine Br.mk (fun h2 => ?_) (fun h2 => ?_) <;> (conv => whnf)
    · repeat' (first | (refine Br.tt (by first | assumption | with_reducible rfl | with_reducible exact Bool.not_false) ?_; conv => whnf) | (refine Br.ff (by first | assumption | with_reducible rfl | with_reducible exact Bool.not_true) ?_; conv => whnf) | fail)
      refine CallsA.then (refStart_ok _) ?_
      conv => whnf
      repeat' (first | (refine Br.tt (by first | assumption | with_reducible rfl | with_reducible exact Bool.not_false) ?_; conv => whnf) | (refine Br.ff (by first | assumption | with_reducible rfl | with_reducible exact Bool.not_true) ?_; conv => whnf) | fail)
      refine Br.mk (fun h3 => ?_) (fun h3 => ?_) <;> (conv => whnf)
      · repeat' (first | (refine Br.tt (by first | assumption | with_reducible rfl | with_reducible exact Bool.not_false) ?_; conv => whnf) | (refine Br.ff (by first | assumption | with_reducible rfl | with_reducible exact Bool.not_true) ?_; conv => whnf) | (refine Need.of (by first | omega | (simp; done) | (simp; omega) | (simp at *; omega)) ?_; conv => whnf) | (refine Br.mk (fun _ => ?_) (fun _ => ?_) <;> (conv => whnf)) | fail)
        have hb := nameAt_bad (f := f') (n := n) hlt (.inl (by simp at *; simp [*]))
        rw [hb] at he
        unfold nameOk; rw [he]; exact ⟨rfl, rfl⟩
      repeat' (first | (refine Br.tt (by first | assumption | with_reducible rfl | with_reducible exact Bool.not_false) ?_; conv => whnf) | (refine Br.ff (by first | assumption | with_reducible rfl | with_reducible exact Bool.not_true) ?_; conv => whnf) | fail)
      refine CallsA.then (refRest_ok _) ?_
      conv => whnf
      repeat' (first | (refine Br.tt (by first | assumption | with_reducible rfl | with_reducible exact Bool.not_false) ?_; conv => whnf) | (refine Br.ff (by first | assumption | with_reducible rfl | with_reducible exact Bool.not_true) ?_; conv => whnf) | fail)
      refine Br.mk (fun h4 => ?_) (fun h4 => ?_) <;> (conv => whnf)
      · repeat' (first | (refine Br.tt (by first | assumption | with_reducible rfl | with_reducible exact Bool.not_false) ?_; conv => whnf) | (refine Br.ff (by first | assumption | with_reducible rfl | with_reducible exact Bool.not_true) ?_; conv => whnf) | (refine Need.of (by first | omega | (simp; done) | (simp; omega) | (simp at *; omega)) ?_; conv => whnf) | (refine Br.mk (fun _ => ?_) (fun _ => ?_) <;> (conv => whnf)) | fail)
        have hb := nameAt_bad (f := f') (n := n) hlt (.inr (by simpa using h4))
        rw [hb] at he
        unfold nameOk; rw [he]; exact ⟨rfl, rfl⟩
      repeat' (first | (refine Br.tt (by first | assumption | with_reducible rfl | with_reducible exact Bool.not_false) ?_; conv => whnf) | (refine Br.ff (by first | assumption | with_reducible rfl | with_reducible exact Bool.not_true) ?_; conv => whnf) | (refine Need.of (by first | omega | (simp; done) | (simp; omega) | (simp at *; omega)) ?_; conv => whnf) | (refine Br.mk (fun _ => ?_) (fun _ => ?_) <;> (conv => whnf)) | fail)
      have hg := nameAt_go (f := f') (n := n) hlt (by simp at *; simp [*])
      rw [hg] at he
      refine ⟨f', p + (udec s p).2, n + 1, ⟨⟨he, by omega, by omega, by omega⟩, by omega⟩, Weak.of [] rfl rfl ⟨⟨_, rfl, rfl⟩, ⟨_, rfl, ?_⟩, ⟨_, rfl, ?_⟩, trivial⟩ trivial⟩
      · simp only [Pre]; rw [wrap_i64 (by omega) (by omega)]; rfl
      · simp only [Pre]; rw [wrap_i64 (by omega) (by omega)]; simp
    · repeat' (first | (refine Br.tt (by first | assumption | with_reducible rfl | with_reducible exact Bool.not_false) ?_; conv => whnf) | (refine Br.ff (by first | assumption | with_reducible rfl | with_reducible exact Bool.not_true) ?_; conv => whnf) | fail)
      refine CallsA.then (refRest_ok _) ?_
      conv => whnf
      repeat' (first | (refine Br.tt (by first | assumption | with_reducible rfl | with_reducible exact Bool.not_false) ?_; conv => whnf) | (refine Br.ff (by first | assumption | with_reducible rfl | with_reducible exact Bool.not_true) ?_; conv => whnf) | fail)
      refine Br.mk (fun h4 => ?_) (fun h4 => ?_) <;> (conv => whnf)
      · repeat' (first | (refine Br.tt (by first | assumption | with_reducible rfl | with_reducible exact Bool.not_false) ?_; conv => whnf) | (refine Br.ff (by first | assumption | with_reducible rfl | with_reducible exact Bool.not_true) ?_; conv => whnf) | (refine Need.of (by first | omega | (simp; done) | (simp; omega) | (simp at *; omega)) ?_; conv => whnf) | (refine Br.mk (fun _ => ?_) (fun _ => ?_) <;> (conv => whnf)) | fail)
        have hb := nameAt_bad (f := f') (n := n) hlt (.inr (by simpa using h4))
        rw [hb] at he
        unfold nameOk; rw [he]; exact ⟨rfl, rfl⟩
      repeat' (first | (refine Br.tt (by first | assumption | with_reducible rfl | with_reducible exact Bool.not_false) ?_; conv => whnf) | (refine Br.ff (by first | assumption | with_reducible rfl | with_reducible exact Bool.not_true) ?_; conv => whnf) | (refine Need.of (by first | omega | (simp; done) | (simp; omega) | (simp at *; omega)) ?_; conv => whnf) | (refine Br.mk (fun _ => ?_) (fun _ => ?_) <;> (conv => whnf)) | fail)
      have hg := nameAt_go (f := f') (n := n) hlt (by simp at *; simp [*])
      rw [hg] at he
      refine ⟨f', p + (udec s p).2, n + 1, ⟨⟨he, by omega, by omega, by omega⟩, by omega⟩, Weak.of [] rfl rfl ⟨⟨_, rfl, rfl⟩, ⟨_, rfl, ?_⟩, ⟨_, rfl, ?_⟩, trivial⟩ trivial⟩
      · simp only [Pre]; rw [wrap_i64 (by omega) (by omega)]; rfl
      · simp only [Pre]; rw [wrap_i64 (by omega) (by omega)]; simp
  · have hge : s.length ≤ p := by simpa using h
    rw [nameAt_end (f := f) (p := p) hge] at he
    have hO : nameOk s = (decide (1 ≤ n ∧ n ≤ 16) && !reserved s) := by unfold nameOk; rw [he]
    rw [hO]
    refine Br.mk (fun g1 => ?_) (fun g1 => ?_) <;> (conv => whnf)
    · repeat' (first | (refine Br.tt (by first | assumption | with_reducible rfl | with_reducible exact Bool.not_false) ?_; conv => whnf) | (refine Br.ff (by first | assumption | with_reducible rfl | with_reducible exact Bool.not_true) ?_; conv => whnf) | fail)
      refine Br.mk (fun g2 => ?_) (fun g2 => ?_) <;> (conv => whnf)
      · repeat' (first | (refine Br.tt (by first | assumption | with_reducible rfl | with_reducible exact Bool.not_false) ?_; conv => whnf) | (refine Br.ff (by first | assumption | with_reducible rfl | with_reducible exact Bool.not_true) ?_; conv => whnf) | fail)
        refine CallsA.then (refReserved_ok _) ?_
        conv => whnf
        repeat' (first | (refine Br.tt (by first | assumption | with_reducible rfl | with_reducible exact Bool.not_false) ?_; conv => whnf) | (refine Br.ff (by first | assumption | with_reducible rfl | with_reducible exact Bool.not_true) ?_; conv => whnf) | fail)
        have : 1 ≤ n ∧ n ≤ 16 := by simp at g1 g2; omega
        simp [this]
      · repeat' (first | (refine Br.tt (by first | assumption | with_reducible rfl | with_reducible exact Bool.not_false) ?_; conv => whnf) | (refine Br.ff (by first | assumption | with_reducible rfl | with_reducible exact Bool.not_true) ?_; conv => whnf) | (refine Need.of (by first | omega | (simp; done) | (simp; omega) | (simp at *; omega)) ?_; conv => whnf) | (refine Br.mk (fun _ => ?_) (fun _ => ?_) <;> (conv => whnf)) | fail)
        have : ¬ (1 ≤ n ∧ n ≤ 16) := by simp at g1 g2; omega
        simp [this]
    · repeat' (first | (refine Br.tt (by first | assumption | with_reducible rfl | with_reducible exact Bool.not_false) ?_; conv => whnf) | (refine Br.ff (by first | assumption | with_reducible rfl | with_reducible exact Bool.not_true) ?_; conv => whnf) | (refine Need.of (by first | omega | (simp; done) | (simp; omega) | (simp at *; omega)) ?_; conv => whnf) | (refine Br.mk (fun _ => ?_) (fun _ => ?_) <;> (conv => whnf)) | fail)
      have : ¬ (1 ≤ n ∧ n ≤ 16) := by simp at g1; omega
      simp [this]
end Go.Proofs.L24

namespace Go.Proofs.L24
open Go Aw Go.Proofs
variable {W0 : World}
def isBlank (x : UInt8) : Bool := x == 32 || x == 9
def wordsFrom : List UInt8 → Nat → List UInt8 → List (List UInt8 × Nat)
  | cur, p, [] => if cur = [] then [] else [(cur, p)]
  | cur, p, x :: t => if isBlank x = true then (if cur = [] then [] else [(cur, p)]) ++ wordsFrom [] (p + 1) t else wordsFrom (cur ++ [x]) (p + 1) t
def words (s : List UInt8) : List (List UInt8 × Nat) := wordsFrom [] 0 s
def wd (w : List UInt8 × Nat) : DV := .agg [.str w.1, .int .i64 w.2]
theorem isBlank_iff (x : UInt8) : isBlank x = true ↔ ((x.toNat : Int) = 32 ∨ (x.toNat : Int) = 9) := by
  simp only [isBlank, Bool.or_eq_true, beq_iff_eq, ← UInt8.toNat_inj]
  have h32 : (32 : UInt8).toNat = 32 := rfl
  have h9 : (9 : UInt8).toNat = 9 := rfl
  omega
set_option linter.unusedSimpArgs false in
set_option maxRecDepth 100000 in
set_option maxHeartbeats 4000000 in
theorem refWords_ok (s : List UInt8) (hs : s.length < 1000000000000) : CallsA Tryd.prog W0 17 [] [.d (.str s)] fun rs os => rs = [.own 2 ((words s).map wd) true] ∧ os = [] := by
  refine calls_of_awpC tok [.tmp 2] Tryd.func17 rfl rfl rfl rfl rfl ?_
  conv => whnf
  refine loop_by3 (fun (i : Nat) (cur : List UInt8) (acc : List (List UInt8 × Nat)) => i ≤ s.length + 1 ∧ (i ≤ s.length → words s = acc ++ wordsFrom cur i (s.drop i)) ∧ (i = s.length + 1 → words s = acc) ∧ acc.length ≤ i ∧ cur.length ≤ i)
    (fun i cur acc => mkT [(0, .d (.str s)), (3, .lst 6), (4, .d (.str cur)), (5, .d (.int .i64 i))]) (fun i cur acc => mkT [(6, .list 2 (acc.map wd) true)]) (fun i _ _ => s.length + 1 - i) 0 [] [] ⟨by omega, by simp [words], by omega, by simp, by simp⟩
    (Weak.of [(6, none)] rfl rfl ⟨⟨_, rfl, rfl⟩, ⟨_, rfl, ⟨_, rfl⟩⟩, ⟨_, rfl, rfl⟩, ⟨_, rfl, rfl⟩, trivial⟩ ⟨trivial, trivial⟩) ?_
  intro i cur acc ⟨hi, he, hend, hacc, hcur⟩
  conv => whnf
  refine Br.mk (fun h => ?_) (fun h => ?_) <;> (conv => whnf)
  · have hle : i ≤ s.length := by simpa using h
    have he := he hle
    refine Br.mk (fun h1 => ?_) (fun h1 => ?_) <;> (conv => whnf)
    · have hst : wordsFrom cur i (s.drop i) = (if cur = [] then [] else [(cur, i)]) ++ (if i < s.length then wordsFrom [] (i + 1) (s.drop (i + 1)) else []) := by
        have : i = s.length := by simp at h1; omega
        subst this
        simp [wordsFrom]
      repeat' (first | (refine Br.tt (by first | assumption | with_reducible rfl | with_reducible exact Bool.not_false) ?_; conv => whnf) | (refine Br.ff (by first | assumption | with_reducible rfl | with_reducible exact Bool.not_true) ?_; conv => whnf) | fail)
      refine Br.mk (fun g => ?_) (fun g => ?_) <;> (conv => whnf)
      · repeat' (first | (refine Br.tt (by first | assumption | with_reducible rfl | with_reducible exact Bool.not_false) ?_; conv => whnf) | (refine Br.ff (by first | assumption | with_reducible rfl | with_reducible exact Bool.not_true) ?_; conv => whnf) | fail)
        have hne : cur ≠ [] := by simp at g; simpa using g
        refine Need.of (by intro y hy; simp at hy; subst hy; rfl) ?_
        conv => whnf
        refine Need.of ⟨trivial, by simp; omega⟩ ?_
        conv => whnf
        refine ⟨i + 1, [], acc ++ [(cur, i)], ⟨⟨by omega, ?_, ?_, by simp; omega, by simp⟩, by omega⟩, Weak.of [(6, some 35)] rfl rfl ⟨⟨_, rfl, rfl⟩, ⟨_, rfl, rfl⟩, ⟨_, rfl, rfl⟩, ⟨_, rfl, by simp only [Pre]; rw [wrap_i64 (by omega) (by omega)]; rfl⟩, trivial⟩ ⟨by show some _ = some _; simp [wd], trivial⟩⟩
        · intro hle2
          rw [he, hst, if_neg hne, if_pos (by omega)]; simp
        · intro hle2
          rw [he, hst, if_neg hne, if_neg (by omega)]; simp
      · repeat' (first | (refine Br.tt (by first | assumption | with_reducible rfl | with_reducible exact Bool.not_false) ?_; conv => whnf) | (refine Br.ff (by first | assumption | with_reducible rfl | with_reducible exact Bool.not_true) ?_; conv => whnf) | fail)
        have hne : cur = [] := by simp at g; simpa using g
        refine ⟨i + 1, [], acc, ⟨⟨by omega, ?_, ?_, by omega, by simp⟩, by omega⟩, Weak.of [(6, some 6)] rfl rfl ⟨⟨_, rfl, rfl⟩, ⟨_, rfl, rfl⟩, ⟨_, rfl, rfl⟩, ⟨_, rfl, by simp only [Pre]; rw [wrap_i64 (by omega) (by omega)]; rfl⟩, trivial⟩ ⟨by show some _ = some _; simp [wd], trivial⟩⟩
        · intro hle2
          rw [he, hst, if_pos hne, if_pos (by omega)]; simp
        · intro hle2
          rw [he, hst, if_pos hne, if_neg (by omega)]; simp
    · have hlt : i < s.length := by simp at h1; omega
      have hX : s.getD (Int.toNat (i : Int)) 0 = s[i] := by simp [hlt]
      have hd := List.drop_eq_getElem_cons hlt
      repeat' (first | (refine Br.tt (by first | assumption | with_reducible rfl | with_reducible exact Bool.not_false) ?_; conv => whnf) | (refine Br.ff (by first | assumption | with_reducible rfl | with_reducible exact Bool.not_true) ?_; conv => whnf) | fail)
      refine Need.of ⟨by omega, by simpa using hlt⟩ ?_
      conv => whnf
      by_cases hb : isBlank s[i] = true
      · have hst : wordsFrom cur i (s.drop i) = (if cur = [] then [] else [(cur, i)]) ++ (if i < s.length then wordsFrom [] (i + 1) (s.drop (i + 1)) else []) := by
          rw [hd, wordsFrom, if_pos hb, if_pos hlt]
        have hbb := (isBlank_iff _).1 hb
        repeat' (first | (refine Br.tt (by first | assumption | with_reducible rfl | with_reducible exact Bool.not_false) ?_; conv => whnf) | (refine Br.ff (by first | assumption | with_reducible rfl | with_reducible exact Bool.not_true) ?_; conv => whnf) | fail)
        refine Br.mk (fun h2 => ?_) (fun h2 => ?_) <;> (conv => whnf)
        · repeat' (first | (refine Br.tt (by first | assumption | with_reducible rfl | with_reducible exact Bool.not_false) ?_; conv => whnf) | (refine Br.ff (by first | assumption | with_reducible rfl | with_reducible exact Bool.not_true) ?_; conv => whnf) | fail)
          refine Br.mk (fun g => ?_) (fun g => ?_) <;> (conv => whnf)
          · repeat' (first | (refine Br.tt (by first | assumption | with_reducible rfl | with_reducible exact Bool.not_false) ?_; conv => whnf) | (refine Br.ff (by first | assumption | with_reducible rfl | with_reducible exact Bool.not_true) ?_; conv => whnf) | fail)
            have hne : cur ≠ [] := by simp at g; simpa using g
            refine Need.of (by intro y hy; simp at hy; subst hy; rfl) ?_
            conv => whnf
            refine Need.of ⟨trivial, by simp; omega⟩ ?_
            conv => whnf
            refine ⟨i + 1, [], acc ++ [(cur, i)], ⟨⟨by omega, ?_, ?_, by simp; omega, by simp⟩, by omega⟩, Weak.of [(6, some 35)] rfl rfl ⟨⟨_, rfl, rfl⟩, ⟨_, rfl, rfl⟩, ⟨_, rfl, rfl⟩, ⟨_, rfl, by simp only [Pre]; rw [wrap_i64 (by omega) (by omega)]; rfl⟩, trivial⟩ ⟨by show some _ = some _; simp [wd], trivial⟩⟩
            · intro hle2
              rw [he, hst, if_neg hne, if_pos (by omega)]; simp
            · intro hle2
              rw [he, hst, if_neg hne, if_neg (by omega)]; simp
          · repeat' (first | (refine Br.tt (by first | assumption | with_reducible rfl | with_reducible exact Bool.not_false) ?_; conv => whnf) | (refine Br.ff (by first | assumption | with_reducible rfl | with_reducible exact Bool.not_true) ?_; conv => whnf) | fail)
            have hne : cur = [] := by simp at g; simpa using g
            refine ⟨i + 1, [], acc, ⟨⟨by omega, ?_, ?_, by omega, by simp⟩, by omega⟩, Weak.of [(6, some 6)] rfl rfl ⟨⟨_, rfl, rfl⟩, ⟨_, rfl, rfl⟩, ⟨_, rfl, rfl⟩, ⟨_, rfl, by simp only [Pre]; rw [wrap_i64 (by omega) (by omega)]; rfl⟩, trivial⟩ ⟨by show some _ = some _; simp [wd], trivial⟩⟩
            · intro hle2
              rw [he, hst, if_pos hne, if_pos (by omega)]; simp
            · intro hle2
              rw [he, hst, if_pos hne, if_neg (by omega)]; simp
        · repeat' (first | (refine Br.tt (by first | assumption | with_reducible rfl | with_reducible exact Bool.not_false) ?_; conv => whnf) | (refine Br.ff (by first | assumption | with_reducible rfl | with_reducible exact Bool.not_true) ?_; conv => whnf) | fail)
          refine Need.of ⟨by omega, by simpa using hlt⟩ ?_
          conv => whnf
          have h3 : (((s.getD (Int.toNat (i : Int)) 0).toNat : Int) == 9) = true := by rw [hX] at *; simp at h2 ⊢; omega
          repeat' (first | (refine Br.tt (by first | assumption | with_reducible rfl | with_reducible exact Bool.not_false) ?_; conv => whnf) | (refine Br.ff (by first | assumption | with_reducible rfl | with_reducible exact Bool.not_true) ?_; conv => whnf) | fail)
          refine Br.mk (fun g => ?_) (fun g => ?_) <;> (conv => whnf)
          · repeat' (first | (refine Br.tt (by first | assumption | with_reducible rfl | with_reducible exact Bool.not_false) ?_; conv => whnf) | (refine Br.ff (by first | assumption | with_reducible rfl | with_reducible exact Bool.not_true) ?_; conv => whnf) | fail)
            have hne : cur ≠ [] := by simp at g; simpa using g
            refine Need.of (by intro y hy; simp at hy; subst hy; rfl) ?_
            conv => whnf
            refine Need.of ⟨trivial, by simp; omega⟩ ?_
            conv => whnf
            refine ⟨i + 1, [], acc ++ [(cur, i)], ⟨⟨by omega, ?_, ?_, by simp; omega, by simp⟩, by omega⟩, Weak.of [(6, some 35)] rfl rfl ⟨⟨_, rfl, rfl⟩, ⟨_, rfl, rfl⟩, ⟨_, rfl, rfl⟩, ⟨_, rfl, by simp only [Pre]; rw [wrap_i64 (by omega) (by omega)]; rfl⟩, trivial⟩ ⟨by show some _ = some _; simp [wd], trivial⟩⟩
            · intro hle2
              rw [he, hst, if_neg hne, if_pos (by omega)]; simp
            · intro hle2
              rw [he, hst, if_neg hne, if_neg (by omega)]; simp
          · repeat' (first | (refine Br.tt (by first | assumption | with_reducible rfl | with_reducible exact Bool.not_false) ?_; conv => whnf) | (refine Br.ff (by first | assumption | with_reducible rfl | with_reducible exact Bool.not_true) ?_; conv => whnf) | fail)
            have hne : cur = [] := by simp at g; simpa using g
            refine ⟨i + 1, [], acc, ⟨⟨by omega, ?_, ?_, by omega, by simp⟩, by omega⟩, Weak.of [(6, some 6)] rfl rfl ⟨⟨_, rfl, rfl⟩, ⟨_, rfl, rfl⟩, ⟨_, rfl, rfl⟩, ⟨_, rfl, by simp only [Pre]; rw [wrap_i64 (by omega) (by omega)]; rfl⟩, trivial⟩ ⟨by show some _ = some _; simp [wd], trivial⟩⟩
            · intro hle2
              rw [he, hst, if_pos hne, if_pos (by omega)]; simp
            · intro hle2
              rw [he, hst, if_pos hne, if_neg (by omega)]; simp
      · have hb1 : ¬ ((s[i].toNat : Int) = 32) := fun e => hb ((isBlank_iff _).2 (.inl e))
        have hb2 : ¬ ((s[i].toNat : Int) = 9) := fun e => hb ((isBlank_iff _).2 (.inr e))
        have h2 : (((s.getD (Int.toNat (i : Int)) 0).toNat : Int) == 32) = false := by rw [hX, beq_eq_false_iff_ne]; omega
        have h3 : (((s.getD (Int.toNat (i : Int)) 0).toNat : Int) == 9) = false := by rw [hX, beq_eq_false_iff_ne]; omega
        have hw : IntKind.i64.wrap ((i : Int) + 1) = i + 1 := wrap_i64 (by omega) (by omega)
        repeat' (first | (refine Br.tt (by first | assumption | with_reducible rfl | with_reducible exact Bool.not_false) ?_; conv => whnf) | (refine Br.ff (by first | assumption | with_reducible rfl | with_reducible exact Bool.not_true) ?_; conv => whnf) | fail)
        refine Need.of ⟨by omega, by simpa using hlt⟩ ?_
        conv => whnf
        repeat' (first | (refine Br.tt (by first | assumption | with_reducible rfl | with_reducible exact Bool.not_false) ?_; conv => whnf) | (refine Br.ff (by first | assumption | with_reducible rfl | with_reducible exact Bool.not_true) ?_; conv => whnf) | fail)
        refine Need.of ⟨by omega, by rw [hw]; omega, by rw [hw]; omega⟩ ?_
        conv => whnf
        refine Need.of (by simp; omega) ?_
        conv => whnf
        have hsl : List.drop (Int.toNat (i : Int)) (List.take (Int.toNat (IntKind.i64.wrap ((i : Int) + 1))) s) = [s[i]] := by
          rw [hw]
          simp only [Int.toNat_natCast, show Int.toNat ((i : Int) + 1) = i + 1 from by omega]
          rw [List.drop_take, hd, show i + 1 - i = 1 from by omega]; rfl
        refine ⟨i + 1, cur ++ [s[i]], acc, ⟨⟨by omega, ?_, by omega, by omega, by simp; omega⟩, by omega⟩, Weak.of [(6, some 6)] rfl rfl ⟨⟨_, rfl, rfl⟩, ⟨_, rfl, rfl⟩, ⟨_, rfl, by simp only [Pre, hsl]⟩, ⟨_, rfl, by simp only [Pre]; rw [wrap_i64 (by omega) (by omega)]; rfl⟩, trivial⟩ ⟨by show some _ = some _; simp [wd], trivial⟩⟩
        intro _
        rw [he, hd, wordsFrom, if_neg hb]
  · rw [hend (by simp at h; omega)]; exact ⟨rfl, rfl⟩
end Go.Proofs.L24

namespace Go.Proofs.L24
open Go Aw Go.Proofs
variable {W0 : World}
structure Cmd where
  verb : List UInt8
  names : List (List UInt8)
  text : List UInt8
  values : List Int
  frm : List (List UInt8)
  to_ : List (List UInt8)
  bytes : List Int
  bk : Nat
def Cmd.ps (c : Cmd) : List PV := [.d (.str c.verb), .own 1 (c.names.map DV.str) true, .d (.str c.text), .own 1 (c.values.map (DV.int .i64)) true, .own 1 (c.frm.map DV.str) true, .own 1 (c.to_.map DV.str) true, .own c.bk (c.bytes.map (DV.int .u8)) true]
/-- Where the sign stands first. -/
def cutIx (w : List UInt8) : Nat := w.findIdx (· == 62)
def oneCmd (c : Cmd) (kind : Int) (w : List UInt8) : Cmd × Bool :=
  if kind = 110 then ({c with names := c.names ++ [w]}, nameOk w)
  else if kind = 107 ∨ kind = 75 then ({c with values := c.values ++ [(numOf w).getD 0]}, (numOf w).isSome)
  else if kind = 88 then (if cutIx w < w.length then ({c with frm := c.frm ++ [w.take (cutIx w)], to_ := c.to_ ++ [w.drop (cutIx w + 1)]}, nameOk (w.take (cutIx w)) && nameOk (w.drop (cutIx w + 1))) else (c, false))
  else if kind = 104 then (match hexLoop w with
    | none => ({c with bytes := [], bk := 0}, false)
    | some l => ({c with bytes := l, bk := 1}, decide (0 < w.length ∧ w.length % 2 = 0)))
  else (c, w == [61])
def cmdObs (c : Cmd) : List (Nat × Ob) := [(50000, .box [.d (.str c.verb), .lst 50002, .d (.str c.text), .lst 50004, .lst 50005, .lst 50006, .lst 50007]), (50002, .list 1 (c.names.map DV.str) true), (50004, .list 1 (c.values.map (DV.int .i64)) true),
  (50005, .list 1 (c.frm.map DV.str) true), (50006, .list 1 (c.to_.map DV.str) true), (50007, .list c.bk (c.bytes.map (DV.int .u8)) true)]
structure Cmd.Ok (c : Cmd) (n : Nat) : Prop where
  names : c.names.length ≤ n
  values : c.values.length ≤ n
  frm : c.frm.length ≤ n
  to_ : c.to_.length ≤ n
set_option linter.unusedSimpArgs false in
set_option maxRecDepth 100000 in
set_option maxHeartbeats 4000000 in
theorem refOne_ok (c : Cmd) (kind : Int) (w : List UInt8) (hw : w.length < 1000000000000) (hc : c.Ok 1000000000000) : CallsA Tryd.prog W0 19 [c.ps] [.ptr 0 0, .d (.int .u8 kind), .d (.str w)]
    fun rs os => rs = [.d (.bool (oneCmd c kind w).2)] ∧ os = [(oneCmd c kind w).1.ps] := by
  unfold Cmd.ps
  refine calls_of_awp1 tok [.tmp 6] Tryd.func19 rfl rfl rfl rfl rfl rfl ?_
  conv => whnf
  refine Br.mk (fun h1 => ?_) (fun h1 => ?_) <;> (conv => whnf)
  · have k1 : kind = 110 := by simpa using h1
    refine Need.of (by intro y hy; simp at hy; subst hy; rfl) ?_
    conv => whnf
    refine Need.of ⟨trivial, by have := hc.names; simp; omega⟩ ?_
    conv => whnf
    refine CallsA.then (refName_ok w (by omega)) ?_
    conv => whnf
    unfold oneCmd; rw [if_pos k1]
    simp
  have k1 : ¬ kind = 110 := by simpa using h1
  unfold oneCmd; rw [if_neg k1]
  have f110 : (kind == 110) = false := by simp; omega
  by_cases k107 : kind = 107
  · rw [if_pos (by omega)]
    have f107 : (kind == 107) = true := by simp; omega
    repeat' (first | (refine Br.tt (by first | assumption | with_reducible rfl | with_reducible exact Bool.not_false) ?_; conv => whnf) | (refine Br.ff (by first | assumption | with_reducible rfl | with_reducible exact Bool.not_true) ?_; conv => whnf) | fail)
    refine CallsA.then (refNumber_ok w (by omega)) ?_
    conv => whnf
    refine Need.of (by intro y hy; simp at hy; subst hy; rfl) ?_
    conv => whnf
    refine Need.of ⟨trivial, by have := hc.values; simp; omega⟩ ?_
    conv => whnf
    simp
  have f107 : (kind == 107) = false := by simp; omega
  by_cases k75 : kind = 75
  · rw [if_pos (by omega)]
    have f75 : (kind == 75) = true := by simp; omega
    repeat' (first | (refine Br.tt (by first | assumption | with_reducible rfl | with_reducible exact Bool.not_false) ?_; conv => whnf) | (refine Br.ff (by first | assumption | with_reducible rfl | with_reducible exact Bool.not_true) ?_; conv => whnf) | fail)
    refine CallsA.then (refNumber_ok w (by omega)) ?_
    conv => whnf
    refine Need.of (by intro y hy; simp at hy; subst hy; rfl) ?_
    conv => whnf
    refine Need.of ⟨trivial, by have := hc.values; simp; omega⟩ ?_
    conv => whnf
    simp
  have f75 : (kind == 75) = false := by simp; omega
  rw [if_neg (by omega)]
  by_cases k88 : kind = 88
  · rw [if_pos (by omega)]
    have f88 : (kind == 88) = true := by simp; omega
    repeat' (first | (refine Br.tt (by first | assumption | with_reducible rfl | with_reducible exact Bool.not_false) ?_; conv => whnf) | (refine Br.ff (by first | assumption | with_reducible rfl | with_reducible exact Bool.not_true) ?_; conv => whnf) | fail)
    refine loop_by1 (fun (i : Nat) => i ≤ w.length ∧ ∀ j < i, w[j]? ≠ some 62) (fun i => mkT [(0, .ptr 50000 0), (2, .d (.str w)), (10, .d (.int .i64 i))]) (fun _ => mkT (cmdObs c))
      (fun i => w.length - i) 0 ⟨by omega, by omega⟩ (Weak.of [] rfl rfl ⟨⟨_, rfl, rfl⟩, ⟨_, rfl, rfl⟩, ⟨_, rfl, rfl⟩, trivial⟩ ⟨⟨_, rfl, rfl, rfl, rfl, rfl, rfl, rfl, rfl, trivial⟩, rfl, rfl, rfl, rfl, rfl, trivial⟩) ?_
    unfold cmdObs
    intro i ⟨hi, hj⟩
    conv => whnf
    ((repeat' (first | (refine Br.tt (by first | assumption | with_reducible rfl | with_reducible exact Bool.not_false) ?_; conv => whnf) | (refine Br.ff (by first | assumption | with_reducible rfl | with_reducible exact Bool.not_true) ?_; conv => whnf) | fail)); (refine Br.mk (fun h => ?_) (fun h => ?_) <;> ((conv => whnf); (repeat' (first | (refine Br.tt (by first | assumption | with_reducible rfl | with_reducible exact Bool.not_false) ?_; conv => whnf) | (refine Br.ff (by first | assumption | with_reducible rfl | with_reducible exact Bool.not_true) ?_; conv => whnf) | fail)))))
    · have hlt : i < w.length := by simpa using h
      have hX : w.getD (Int.toNat (i : Int)) 0 = w[i] := by simp [hlt]
      repeat' (first | (refine Br.tt (by first | assumption | with_reducible rfl | with_reducible exact Bool.not_false) ?_; conv => whnf) | (refine Br.ff (by first | assumption | with_reducible rfl | with_reducible exact Bool.not_true) ?_; conv => whnf) | fail)
      refine Need.of ⟨by omega, by simpa using hlt⟩ ?_
      conv => whnf
      ((repeat' (first | (refine Br.tt (by first | assumption | with_reducible rfl | with_reducible exact Bool.not_false) ?_; conv => whnf) | (refine Br.ff (by first | assumption | with_reducible rfl | with_reducible exact Bool.not_true) ?_; conv => whnf) | fail)); (refine Br.mk (fun g => ?_) (fun g => ?_) <;> ((conv => whnf); (repeat' (first | (refine Br.tt (by first | assumption | with_reducible rfl | with_reducible exact Bool.not_false) ?_; conv => whnf) | (refine Br.ff (by first | assumption | with_reducible rfl | with_reducible exact Bool.not_true) ?_; conv => whnf) | fail)))))
      · have gne : w[i] ≠ 62 := by
          rw [hX] at g
          rintro e
          rw [e] at g
          simp at g
        repeat' (first | (refine Br.tt (by first | assumption | with_reducible rfl | with_reducible exact Bool.not_false) ?_; conv => whnf) | (refine Br.ff (by first | assumption | with_reducible rfl | with_reducible exact Bool.not_true) ?_; conv => whnf) | (refine Need.of (by first | omega | (simp; done) | (simp; omega) | (simp at *; omega)) ?_; conv => whnf) | (refine Br.mk (fun _ => ?_) (fun _ => ?_) <;> (conv => whnf)) | fail)
        refine ⟨i + 1, ⟨⟨by omega, fun j hj2 => ?_⟩, by omega⟩, Weak.of [] rfl rfl ⟨⟨_, rfl, rfl⟩, ⟨_, rfl, rfl⟩, ⟨_, rfl, by simp only [Pre]; rw [wrap_i64 (by omega) (by omega)]; rfl⟩, trivial⟩ ⟨⟨_, rfl, rfl, rfl, rfl, rfl, rfl, rfl, rfl, trivial⟩, rfl, rfl, rfl, rfl, rfl, trivial⟩⟩
        rcases Nat.lt_or_ge j i with q | q
        · exact hj j q
        · have : j = i := by omega
          subst this
          rw [List.getElem?_eq_getElem hlt]; simpa using gne
      · have ge : w[i] = 62 := by
          rw [hX] at g
          simp at g
          refine UInt8.toNat_inj.1 ?_
          show w[i].toNat = 62
          omega
        have hix : cutIx w = i := by
          unfold cutIx
          rw [List.findIdx_eq hlt]
          refine ⟨by simpa using ge, fun j hj2 => ?_⟩
          have := hj j hj2
          rw [List.getElem?_eq_getElem (by omega)] at this
          simpa using this
        rw [if_pos (by omega), hix]
        have hw1 : IntKind.i64.wrap ((i : Int) + 1) = i + 1 := wrap_i64 (by omega) (by omega)
        have hne : ((i : Int) == (w.length : Int)) = false := by rw [beq_eq_false_iff_ne]; omega
        repeat' (first | (refine Br.tt (by first | assumption | with_reducible rfl | with_reducible exact Bool.not_false) ?_; conv => whnf) | (refine Br.ff (by first | assumption | with_reducible rfl | with_reducible exact Bool.not_true) ?_; conv => whnf) | fail)
        refine ⟨by kernel_rfl, ?_⟩
        conv => whnf
        have hap : ∀ (n m : Nat), n ≤ 1000000000000 → m ≤ 1 → (n + m) * 16 ≤ 70368744177664 := fun n m h1 h2 => by omega
        have htk : Int.toNat (i : Int) = i := by omega
        have htk1 : Int.toNat (IntKind.i64.wrap ((i : Int) + 1)) = i + 1 := by rw [hw1]; omega
        refine Need.of ⟨by omega, by omega⟩ ?_
        conv => whnf
        refine Need.of (by intro y hy; simp at hy; subst hy; rfl) ?_
        conv => whnf
        refine Need.of ⟨trivial, by simpa using hap _ _ hc.frm (Nat.le_refl 1)⟩ ?_
        conv => whnf
        refine Need.of ⟨by rw [hw1]; omega, by rw [hw1]; omega⟩ ?_
        conv => whnf
        refine Need.of (by intro y hy; simp at hy; subst hy; rfl) ?_
        conv => whnf
        refine Need.of ⟨trivial, by simpa using hap _ _ hc.to_ (Nat.le_refl 1)⟩ ?_
        conv => whnf
        refine Need.of ⟨by omega, by omega⟩ ?_
        conv => whnf
        rw [htk, htk1]
        refine CallsA.then (refName_ok _ (by simp; omega)) ?_
        conv => whnf
        ((repeat' (first | (refine Br.tt (by first | assumption | with_reducible rfl | with_reducible exact Bool.not_false) ?_; conv => whnf) | (refine Br.ff (by first | assumption | with_reducible rfl | with_reducible exact Bool.not_true) ?_; conv => whnf) | fail)); (refine Br.mk (fun n1 => ?_) (fun n1 => ?_) <;> ((conv => whnf); (repeat' (first | (refine Br.tt (by first | assumption | with_reducible rfl | with_reducible exact Bool.not_false) ?_; conv => whnf) | (refine Br.ff (by first | assumption | with_reducible rfl | with_reducible exact Bool.not_true) ?_; conv => whnf) | fail)))))
        · repeat' (first | (refine Br.tt (by first | assumption | with_reducible rfl | with_reducible exact Bool.not_false) ?_; conv => whnf) | (refine Br.ff (by first | assumption | with_reducible rfl | with_reducible exact Bool.not_true) ?_; conv => whnf) | fail)
          refine Need.of ⟨by rw [hw1]; omega, by rw [hw1]; omega⟩ ?_
          conv => whnf
          repeat' (first | (refine Br.tt (by first | assumption | with_reducible rfl | with_reducible exact Bool.not_false) ?_; conv => whnf) | (refine Br.ff (by first | assumption | with_reducible rfl | with_reducible exact Bool.not_true) ?_; conv => whnf) | fail)
          rw [htk1]
          refine CallsA.then (refName_ok _ (by simp; omega)) ?_
          conv => whnf
          repeat' (first | (refine Br.tt (by first | assumption | with_reducible rfl | with_reducible exact Bool.not_false) ?_; conv => whnf) | (refine Br.ff (by first | assumption | with_reducible rfl | with_reducible exact Bool.not_true) ?_; conv => whnf) | fail)
          simp [n1]
        · repeat' (first | (refine Br.tt (by first | assumption | with_reducible rfl | with_reducible exact Bool.not_false) ?_; conv => whnf) | (refine Br.ff (by first | assumption | with_reducible rfl | with_reducible exact Bool.not_true) ?_; conv => whnf) | fail)
          simp [n1]
    · have hix : ¬ cutIx w < w.length := by
        intro hlt
        have := List.findIdx_getElem (w := hlt)
        have h2 := hj (cutIx w) (by simp at h; omega)
        rw [List.getElem?_eq_getElem hlt] at h2
        simp at this
        have e : w[cutIx w] = 62 := this
        exact h2 (by rw [e])
      rw [if_neg hix]
      have heq : ((i : Int) == (w.length : Int)) = true := by simp at h ⊢; omega
      repeat' (first | (refine Br.tt (by first | assumption | with_reducible rfl | with_reducible exact Bool.not_false) ?_; conv => whnf) | (refine Br.ff (by first | assumption | with_reducible rfl | with_reducible exact Bool.not_true) ?_; conv => whnf) | fail)
      exact ⟨rfl, rfl⟩
  have f88 : (kind == 88) = false := by simp; omega
  rw [if_neg (by omega)]
  by_cases k104 : kind = 104
  · rw [if_pos (by omega)]
    have f104 : (kind == 104) = true := by simp; omega
    repeat' (first | (refine Br.tt (by first | assumption | with_reducible rfl | with_reducible exact Bool.not_false) ?_; conv => whnf) | (refine Br.ff (by first | assumption | with_reducible rfl | with_reducible exact Bool.not_true) ?_; conv => whnf) | fail)
    refine CallsA.then (refHex_ok w (by omega)) ?_
    unfold hexOut
    cases hexLoop w with
    | none =>
      conv => whnf
      simp
    | some l =>
      conv => whnf
      simp
  have f104 : (kind == 104) = false := by simp; omega
  rw [if_neg (by omega)]
  repeat' (first | (refine Br.tt (by first | assumption | with_reducible rfl | with_reducible exact Bool.not_false) ?_; conv => whnf) | (refine Br.ff (by first | assumption | with_reducible rfl | with_reducible exact Bool.not_true) ?_; conv => whnf) | fail)
  exact ⟨rfl, rfl⟩
end Go.Proofs.L24

namespace Go.Proofs.L24
open Go Aw Go.Proofs
variable {W0 : World}
theorem wordsFrom_mem {cur : List UInt8} {p : Nat} {r : List UInt8} : ∀ x ∈ wordsFrom cur p r, x.1 ≠ [] ∧ x.1.length ≤ cur.length + r.length ∧ x.2 ≤ p + r.length := by
  induction r generalizing cur p with
  | nil =>
    intro x hx
    simp only [wordsFrom] at hx
    split at hx
    · cases hx
    · rename_i h; simp at hx; subst hx; exact ⟨h, by simp, by simp⟩
  | cons y t ih =>
    intro x hx
    simp only [wordsFrom] at hx
    split at hx
    · rcases List.mem_append.1 hx with hx | hx
      · split at hx
        · cases hx
        · rename_i h; simp at hx; subst hx; exact ⟨h, by simp, by simp⟩
      · have := ih x hx
        refine ⟨this.1, ?_, ?_⟩
        · have := this.2.1; simp at this ⊢; omega
        · have := this.2.2; simp; omega
    · have := ih x hx
      refine ⟨this.1, ?_, ?_⟩
      · have := this.2.1; simp at this ⊢; omega
      · have := this.2.2; simp; omega
theorem wordsFrom_len {cur : List UInt8} {p : Nat} {r : List UInt8} : (wordsFrom cur p r).length ≤ r.length + 1 := by
  induction r generalizing cur p with
  | nil => simp only [wordsFrom]; split <;> simp
  | cons y t ih =>
    simp only [wordsFrom]
    split
    · have := @ih [] (p + 1); simp; split <;> simp <;> omega
    · have := @ih (cur ++ [y]) (p + 1); simp; omega
def cmd0 (v : List UInt8) : Cmd := ⟨v, [], [], [], [], [], [], 1⟩
def Cmd.dv (c : Cmd) : DV := .agg [.str c.verb, .sl (c.names.map DV.str), .str c.text, .sl (c.values.map (DV.int .i64)), .sl (c.frm.map DV.str), .sl (c.to_.map DV.str), .sl (c.bytes.map (DV.int .u8))]
def oneO (c : Cmd) (k : Int) (w : List UInt8) : Option Cmd := if (oneCmd c k w).2 = true then some (oneCmd c k w).1 else none
def oneAll (k : Int) : Cmd → List (List UInt8 × Nat) → Option Cmd
  | c, [] => some c
  | c, (w, _) :: r => match oneO c k w with
    | none => none
    | some c => oneAll k c r
def refGo (s : List UInt8) : List UInt8 → Cmd → Nat → List (List UInt8 × Nat) → Option Cmd
  | [], c, _, ws => if ws = [] then some c else none
  | k :: ks, c, e, ws => if k = 102 then some { c with text := s.drop e }
    else if k = 75 ∨ k = 88 then match oneAll k.toNat c ws with
      | none => none
      | some c => refGo s ks c ((ws.getLast?.map (·.2)).getD e) []
    else match ws with
      | [] => none
      | (w, e') :: ws' => match oneO c k.toNat w with
        | none => none
        | some c => refGo s ks c e' ws'
theorem refGo_cons {s : List UInt8} {k : UInt8} {ks : List UInt8} {c : Cmd} {e : Nat} {ws : List (List UInt8 × Nat)} : refGo s (k :: ks) c e ws = if k = 102 then some { c with text := s.drop e }
    else if k = 75 ∨ k = 88 then match oneAll k.toNat c ws with
      | none => none
      | some c => refGo s ks c ((ws.getLast?.map (·.2)).getD e) []
    else match ws with
      | [] => none
      | (w, e') :: ws' => match oneO c k.toNat w with
        | none => none
        | some c => refGo s ks c e' ws' := by cases ws <;> rfl
theorem refGo_nil {s : List UInt8} {c : Cmd} {e : Nat} {ws : List (List UInt8 × Nat)} : refGo s [] c e ws = if ws = [] then some c else none := rfl
theorem Cmd.Ok.one {c : Cmd} {n : Nat} (h : c.Ok n) (k : Int) (w : List UInt8) : (oneCmd c k w).1.Ok (n + 1) := by
  have h1 := h.names; have h2 := h.values; have h3 := h.frm; have h4 := h.to_
  unfold oneCmd
  split
  · exact ⟨by simp; omega, by simp; omega, by simp; omega, by simp; omega⟩
  split
  · exact ⟨by simp; omega, by simp; omega, by simp; omega, by simp; omega⟩
  split
  · split
    · exact ⟨by simp; omega, by simp; omega, by simp; omega, by simp; omega⟩
    · exact ⟨by simp; omega, by simp; omega, by simp; omega, by simp; omega⟩
  split
  · split <;> exact ⟨by simp; omega, by simp; omega, by simp; omega, by simp; omega⟩
  · exact ⟨by simp; omega, by simp; omega, by simp; omega, by simp; omega⟩
theorem Cmd.Ok.le {c : Cmd} {n m : Nat} (h : c.Ok n) (hl : n ≤ m) : c.Ok m := ⟨Nat.le_trans h.names hl, Nat.le_trans h.values hl, Nat.le_trans h.frm hl, Nat.le_trans h.to_ hl⟩
def refParse (s : List UInt8) : Cmd × Int :=
  if 10 ∈ s then (cmd0 [], 240)
  else match words s with
    | [] => (cmd0 [], 0)
    | (w, e) :: ws => if w.head? = some 35 then (cmd0 [], 0) else if refForm w = [63] then (cmd0 [], 240)
      else match refGo s (refForm w) (cmd0 w) e ws with
        | none => (cmd0 [], 240)
        | some c => (c, 0)
theorem refForm_len (v : List UInt8) : (refForm v).length ≤ 4 := by
  unfold refForm
  split
  · rename_i i _
    have : ∀ x ∈ forms, x.length ≤ 4 := by decide
    rw [List.getD_eq_getElem?_getD]
    cases h : forms[i]? with
    | none => simp
    | some x => exact this x (List.mem_of_getElem? h)
  · simp
def parseObs (L : List (List UInt8 × Nat)) (c : Cmd) : List (Nat × Ob) := [(2, .box [.d (.str []), .nil 1, .d (.str []), .nil 1, .nil 1, .nil 1, .nil 1]), (5, .list 2 (L.map wd) true),
  (48, .box [.d (.str c.verb), .lst 62, .d (.str c.text), .lst 64, .lst 65, .lst 66, .lst 67]), (62, .list 1 (c.names.map DV.str) true), (64, .list 1 (c.values.map (DV.int .i64)) true),
  (65, .list 1 (c.frm.map DV.str) true), (66, .list 1 (c.to_.map DV.str) true), (67, .list c.bk (c.bytes.map (DV.int .u8)) true)]
set_option linter.unusedSimpArgs false in
set_option maxRecDepth 100000 in
set_option maxHeartbeats 4000000 in
theorem refParse_ok (s : List UInt8) (hs : s.length < 100000000000) : CallsA Tryd.prog W0 7 [] [.d (.str s)] fun rs os => rs = [.d (refParse s).1.dv, .d (.int .i64 (refParse s).2)] ∧ os = [] := by
  refine calls_of_awpC tok [.cell 2 30, .tmp 3] Tryd.func7 rfl rfl rfl rfl rfl ?_
  ((conv => whnf); (repeat' (first | (refine Br.tt (by first | assumption | with_reducible rfl | with_reducible exact Bool.not_false) ?_; conv => whnf) | (refine Br.ff (by first | assumption | with_reducible rfl | with_reducible exact Bool.not_true) ?_; conv => whnf) | fail)))
  refine loop_by1 (fun (i : Nat) => i ≤ s.length ∧ (10 ∈ s ↔ 10 ∈ s.drop i)) (fun i => mkT [(0, .d (.str s)), (2, .ptr 2 0), (4, .d (.int .i64 i))]) (fun _ => mkT [(2, .box [.d (.str []), .nil 1, .d (.str []), .nil 1, .nil 1, .nil 1, .nil 1])])
    (fun i => s.length - i) 0 ⟨by omega, Iff.rfl⟩ (Weak.of [] rfl rfl ⟨⟨_, rfl, rfl⟩, ⟨_, rfl, rfl⟩, ⟨_, rfl, rfl⟩, trivial⟩ ⟨⟨_, rfl, rfl, rfl, rfl, rfl, rfl, rfl, rfl, trivial⟩, trivial⟩) ?_
  intro i ⟨hi, h10⟩
  ((conv => whnf); (repeat' (first | (refine Br.tt (by first | assumption | with_reducible rfl | with_reducible exact Bool.not_false) ?_; conv => whnf) | (refine Br.ff (by first | assumption | with_reducible rfl | with_reducible exact Bool.not_true) ?_; conv => whnf) | fail)))
  ((repeat' (first | (refine Br.tt (by first | assumption | with_reducible rfl | with_reducible exact Bool.not_false) ?_; conv => whnf) | (refine Br.ff (by first | assumption | with_reducible rfl | with_reducible exact Bool.not_true) ?_; conv => whnf) | fail)); (refine Br.mk (fun h => ?_) (fun h => ?_) <;> ((conv => whnf); (repeat' (first | (refine Br.tt (by first | assumption | with_reducible rfl | with_reducible exact Bool.not_false) ?_; conv => whnf) | (refine Br.ff (by first | assumption | with_reducible rfl | with_reducible exact Bool.not_true) ?_; conv => whnf) | fail)))))
  · have hlt : i < s.length := by simpa using h
    have hX : s.getD (Int.toNat (i : Int)) 0 = s[i] := by simp [hlt]
    have hd := List.drop_eq_getElem_cons hlt
    refine Need.of ⟨by omega, by simpa using hlt⟩ ?_
    ((conv => whnf); (repeat' (first | (refine Br.tt (by first | assumption | with_reducible rfl | with_reducible exact Bool.not_false) ?_; conv => whnf) | (refine Br.ff (by first | assumption | with_reducible rfl | with_reducible exact Bool.not_true) ?_; conv => whnf) | fail)))
    ((repeat' (first | (refine Br.tt (by first | assumption | with_reducible rfl | with_reducible exact Bool.not_false) ?_; conv => whnf) | (refine Br.ff (by first | assumption | with_reducible rfl | with_reducible exact Bool.not_true) ?_; conv => whnf) | fail)); (refine Br.mk (fun g => ?_) (fun g => ?_) <;> ((conv => whnf); (repeat' (first | (refine Br.tt (by first | assumption | with_reducible rfl | with_reducible exact Bool.not_false) ?_; conv => whnf) | (refine Br.ff (by first | assumption | with_reducible rfl | with_reducible exact Bool.not_true) ?_; conv => whnf) | fail)))))
    · have ge : s[i] = 10 := by
        rw [hX] at g
        simp at g
        refine UInt8.toNat_inj.1 ?_
        show s[i].toNat = 10
        omega
      have : refParse s = (cmd0 [], 240) := if_pos (h10.2 (by rw [hd, ge]; exact List.mem_cons_self ..))
      rw [this]; exact ⟨rfl, by trivial⟩
    · have ge : s[i] ≠ 10 := by
        rintro e
        rw [hX, e] at g
        simp at g
      refine ⟨i + 1, ⟨⟨by omega, ?_⟩, by omega⟩, Weak.of [] rfl rfl ⟨⟨_, rfl, rfl⟩, ⟨_, rfl, rfl⟩, ⟨_, rfl, by simp only [Pre]; rw [wrap_i64 (by omega) (by omega)]; rfl⟩, trivial⟩ ⟨⟨_, rfl, rfl, rfl, rfl, rfl, rfl, rfl, rfl, trivial⟩, trivial⟩⟩
      rw [h10, hd, List.mem_cons]
      exact ⟨fun e => e.resolve_left (Ne.symm ge), .inr⟩
  have hn10 : ¬ 10 ∈ s := by
    rw [h10, List.drop_eq_nil_of_le (by simpa using h)]; simp
  have hR1 : refParse s = match words s with
    | [] => (cmd0 [], 0)
    | (w, e) :: ws => if w.head? = some 35 then (cmd0 [], 0) else if refForm w = [63] then (cmd0 [], 240)
      else match refGo s (refForm w) (cmd0 w) e ws with
        | none => (cmd0 [], 240)
        | some c => (c, 0) := if_neg hn10
  refine CallsA.then (refWords_ok s (by omega)) ?_
  have hmem : ∀ x ∈ words s, x.1 ≠ [] ∧ x.1.length ≤ s.length ∧ x.2 ≤ s.length := fun x hx => by
    have := @wordsFrom_mem [] 0 s x hx
    simpa using this
  have hlen := @wordsFrom_len [] 0 s
  change (words s).length ≤ _ at hlen
  generalize hws : words s = WS at *
  cases WS with
  | nil =>
    ((conv => whnf); (repeat' (first | (refine Br.tt (by first | assumption | with_reducible rfl | with_reducible exact Bool.not_false) ?_; conv => whnf) | (refine Br.ff (by first | assumption | with_reducible rfl | with_reducible exact Bool.not_true) ?_; conv => whnf) | fail)))
    have : decide ((0 : Int) = 0) = true := rfl
    repeat' (first | (refine Br.tt rfl ?_; conv => whnf) | (refine Br.ff rfl ?_; conv => whnf) | fail)
    rw [hR1]; exact ⟨rfl, by trivial⟩
  | cons we ws =>
    obtain ⟨w, e⟩ := we
    have hw0 := hmem (w, e) (List.mem_cons_self ..)
    simp only at hw0
    have hl : (((((w, e) :: ws).map wd).length : Int) == 0) = false := by rw [beq_eq_false_iff_ne]; simp; omega
    ((conv => whnf); (repeat' (first | (refine Br.tt (by first | assumption | with_reducible rfl | with_reducible exact Bool.not_false) ?_; conv => whnf) | (refine Br.ff (by first | assumption | with_reducible rfl | with_reducible exact Bool.not_true) ?_; conv => whnf) | fail)))
    repeat' (first | (refine Br.tt (by first | assumption | with_reducible rfl | with_reducible exact Bool.not_false) ?_; conv => whnf) | (refine Br.ff (by first | assumption | with_reducible rfl | with_reducible exact Bool.not_true) ?_; conv => whnf) | fail)
    refine Need.of ⟨by omega, by simp⟩ ?_
    ((conv => whnf); (repeat' (first | (refine Br.tt (by first | assumption | with_reducible rfl | with_reducible exact Bool.not_false) ?_; conv => whnf) | (refine Br.ff (by first | assumption | with_reducible rfl | with_reducible exact Bool.not_true) ?_; conv => whnf) | fail)))
    cases w with
    | nil => exact absurd rfl hw0.1
    | cons y w' =>
    refine Get.of (wd (y :: w', e)) rfl ?_
    ((conv => whnf); (repeat' (first | (refine Br.tt (by first | assumption | with_reducible rfl | with_reducible exact Bool.not_false) ?_; conv => whnf) | (refine Br.ff (by first | assumption | with_reducible rfl | with_reducible exact Bool.not_true) ?_; conv => whnf) | fail)))
    refine Need.of ⟨by omega, by simp⟩ ?_
    ((conv => whnf); (repeat' (first | (refine Br.tt (by first | assumption | with_reducible rfl | with_reducible exact Bool.not_false) ?_; conv => whnf) | (refine Br.ff (by first | assumption | with_reducible rfl | with_reducible exact Bool.not_true) ?_; conv => whnf) | fail)))
    ((repeat' (first | (refine Br.tt (by first | assumption | with_reducible rfl | with_reducible exact Bool.not_false) ?_; conv => whnf) | (refine Br.ff (by first | assumption | with_reducible rfl | with_reducible exact Bool.not_true) ?_; conv => whnf) | fail)); (refine Br.mk (fun g => ?_) (fun g => ?_) <;> ((conv => whnf); (repeat' (first | (refine Br.tt (by first | assumption | with_reducible rfl | with_reducible exact Bool.not_false) ?_; conv => whnf) | (refine Br.ff (by first | assumption | with_reducible rfl | with_reducible exact Bool.not_true) ?_; conv => whnf) | fail)))))
    · have : ((y :: w').head? = some 35) := by
        simp at g
        simp only [List.head?_cons, Option.some.injEq]
        refine UInt8.toNat_inj.1 ?_
        show y.toNat = 35
        omega
      rw [hR1]
      simp only [if_pos this]
      exact ⟨rfl, by trivial⟩
    have hy : ¬ ((y :: w').head? = some 35) := by
      simp only [List.head?_cons, Option.some.injEq]
      rintro rfl
      simp at g
    simp only [if_neg hy] at hR1
    repeat' (first | (refine Br.tt (by first | assumption | with_reducible rfl | with_reducible exact Bool.not_false) ?_; conv => whnf) | (refine Br.ff (by first | assumption | with_reducible rfl | with_reducible exact Bool.not_true) ?_; conv => whnf) | fail)
    refine Need.of ⟨by omega, by simp⟩ ?_
    ((conv => whnf); (repeat' (first | (refine Br.tt (by first | assumption | with_reducible rfl | with_reducible exact Bool.not_false) ?_; conv => whnf) | (refine Br.ff (by first | assumption | with_reducible rfl | with_reducible exact Bool.not_true) ?_; conv => whnf) | fail)))
    refine Get.of (wd (y :: w', e)) rfl ?_
    ((conv => whnf); (repeat' (first | (refine Br.tt (by first | assumption | with_reducible rfl | with_reducible exact Bool.not_false) ?_; conv => whnf) | (refine Br.ff (by first | assumption | with_reducible rfl | with_reducible exact Bool.not_true) ?_; conv => whnf) | fail)))
    refine CallsA.then (refForm_ok _) ?_
    ((conv => whnf); (repeat' (first | (refine Br.tt (by first | assumption | with_reducible rfl | with_reducible exact Bool.not_false) ?_; conv => whnf) | (refine Br.ff (by first | assumption | with_reducible rfl | with_reducible exact Bool.not_true) ?_; conv => whnf) | fail)))
    ((repeat' (first | (refine Br.tt (by first | assumption | with_reducible rfl | with_reducible exact Bool.not_false) ?_; conv => whnf) | (refine Br.ff (by first | assumption | with_reducible rfl | with_reducible exact Bool.not_true) ?_; conv => whnf) | fail)); (refine Br.mk (fun g2 => ?_) (fun g2 => ?_) <;> ((conv => whnf); (repeat' (first | (refine Br.tt (by first | assumption | with_reducible rfl | with_reducible exact Bool.not_false) ?_; conv => whnf) | (refine Br.ff (by first | assumption | with_reducible rfl | with_reducible exact Bool.not_true) ?_; conv => whnf) | fail)))))
    · rw [if_pos (by simpa using g2)] at hR1
      rw [hR1]; exact ⟨rfl, by trivial⟩
    rw [if_neg (by simpa using g2)] at hR1
    refine Need.of ⟨by omega, by simp⟩ ?_
    ((conv => whnf); (repeat' (first | (refine Br.tt (by first | assumption | with_reducible rfl | with_reducible exact Bool.not_false) ?_; conv => whnf) | (refine Br.ff (by first | assumption | with_reducible rfl | with_reducible exact Bool.not_true) ?_; conv => whnf) | fail)))
    refine Get.of (wd (y :: w', e)) rfl ?_
    ((conv => whnf); (repeat' (first | (refine Br.tt (by first | assumption | with_reducible rfl | with_reducible exact Bool.not_false) ?_; conv => whnf) | (refine Br.ff (by first | assumption | with_reducible rfl | with_reducible exact Bool.not_true) ?_; conv => whnf) | fail)))
    have hF : (refForm (y :: w')).length ≤ 4 := refForm_len _
    simp only [show (y :: w', e).fst = y :: w' from rfl] at *
    generalize hL : (y :: w', e) :: ws = L at *
    generalize hw : y :: w' = w at *
    generalize hF2 : refForm w = F at *
    refine loop_by4 (fun (i at' en : Nat) (c : Cmd) => i ≤ F.length ∧ 1 ≤ at' ∧ at' ≤ L.length ∧ L[at' - 1]?.map (·.2) = some en ∧ c.Ok at' ∧ refGo s F (cmd0 w) e ws = refGo s (F.drop i) c en (L.drop at'))
      (fun i at' _ _ => mkT [(0, .d (.str s)), (2, .ptr 2 0), (5, .lst 5), (6, .d (.str F)), (7, .ptr 48 0), (8, .d (.int .i64 at')), (9, .d (.int .i64 i))]) (fun _ _ _ c => mkT (parseObs L c)) (fun i _ _ _ => F.length - i) 0 1 e (cmd0 w)
      ⟨by omega, by omega, by rw [← hL]; simp, by rw [← hL]; rfl, ⟨by simp [cmd0], by simp [cmd0], by simp [cmd0], by simp [cmd0]⟩, by rw [← hL]; rfl⟩
      (Weak.of [(5, some 122900), (62, none), (64, none), (65, none), (66, none), (67, none)] rfl rfl ⟨⟨_, rfl, rfl⟩, ⟨_, rfl, rfl⟩, ⟨_, rfl, rfl⟩, ⟨_, rfl, rfl⟩, ⟨_, rfl, rfl⟩, ⟨_, rfl, rfl⟩, ⟨_, rfl, rfl⟩, trivial⟩
        ⟨⟨_, rfl, rfl, rfl, rfl, rfl, rfl, rfl, rfl, trivial⟩, rfl, ⟨_, rfl, rfl, ⟨_, rfl⟩, rfl, ⟨_, rfl⟩, ⟨_, rfl⟩, ⟨_, rfl⟩, ⟨_, rfl⟩, trivial⟩, trivial, trivial, trivial, trivial, trivial, trivial⟩) ?_
    unfold parseObs
    intro i at' en c ⟨hi, ha1, ha2, hen, hc, hgo⟩
    ((conv => whnf); (repeat' (first | (refine Br.tt (by first | assumption | with_reducible rfl | with_reducible exact Bool.not_false) ?_; conv => whnf) | (refine Br.ff (by first | assumption | with_reducible rfl | with_reducible exact Bool.not_true) ?_; conv => whnf) | fail)))
    ((repeat' (first | (refine Br.tt (by first | assumption | with_reducible rfl | with_reducible exact Bool.not_false) ?_; conv => whnf) | (refine Br.ff (by first | assumption | with_reducible rfl | with_reducible exact Bool.not_true) ?_; conv => whnf) | fail)); (refine Br.mk (fun h1 => ?_) (fun h1 => ?_) <;> ((conv => whnf); (repeat' (first | (refine Br.tt (by first | assumption | with_reducible rfl | with_reducible exact Bool.not_false) ?_; conv => whnf) | (refine Br.ff (by first | assumption | with_reducible rfl | with_reducible exact Bool.not_true) ?_; conv => whnf) | fail)))))
    · have hlt : i < F.length := by simpa using h1
      have hX : F.getD (Int.toNat (i : Int)) 0 = F[i] := by simp [hlt]
      have hd := List.drop_eq_getElem_cons hlt
      rw [hd] at hgo
      refine Need.of ⟨by omega, by simpa using hlt⟩ ?_
      ((conv => whnf); (repeat' (first | (refine Br.tt (by first | assumption | with_reducible rfl | with_reducible exact Bool.not_false) ?_; conv => whnf) | (refine Br.ff (by first | assumption | with_reducible rfl | with_reducible exact Bool.not_true) ?_; conv => whnf) | fail)))
      ((repeat' (first | (refine Br.tt (by first | assumption | with_reducible rfl | with_reducible exact Bool.not_false) ?_; conv => whnf) | (refine Br.ff (by first | assumption | with_reducible rfl | with_reducible exact Bool.not_true) ?_; conv => whnf) | fail)); (refine Br.mk (fun hf => ?_) (fun hf => ?_) <;> ((conv => whnf); (repeat' (first | (refine Br.tt (by first | assumption | with_reducible rfl | with_reducible exact Bool.not_false) ?_; conv => whnf) | (refine Br.ff (by first | assumption | with_reducible rfl | with_reducible exact Bool.not_true) ?_; conv => whnf) | fail)))))
      · obtain ⟨x, hx, hxe⟩ := Option.map_eq_some_iff.1 hen
        have hxm := hmem x (List.mem_of_getElem? hx)
        have hw8 : IntKind.i64.wrap ((at' : Int) - 1) = ((at' - 1 : Nat) : Int) := by rw [wrap_i64 (by omega) (by omega)]; omega
        refine Need.of ⟨by rw [hw8]; omega, by rw [hw8]; simp; omega⟩ ?_
        ((conv => whnf); (repeat' (first | (refine Br.tt (by first | assumption | with_reducible rfl | with_reducible exact Bool.not_false) ?_; conv => whnf) | (refine Br.ff (by first | assumption | with_reducible rfl | with_reducible exact Bool.not_true) ?_; conv => whnf) | fail)))
        refine Get.of (wd x) (by rw [hw8]; simp [hx]) ?_
        ((conv => whnf); (repeat' (first | (refine Br.tt (by first | assumption | with_reducible rfl | with_reducible exact Bool.not_false) ?_; conv => whnf) | (refine Br.ff (by first | assumption | with_reducible rfl | with_reducible exact Bool.not_true) ?_; conv => whnf) | fail)))
        refine Need.of ⟨by omega, by have := hxm.2.2; omega⟩ ?_
        ((conv => whnf); (repeat' (first | (refine Br.tt (by first | assumption | with_reducible rfl | with_reducible exact Bool.not_false) ?_; conv => whnf) | (refine Br.ff (by first | assumption | with_reducible rfl | with_reducible exact Bool.not_true) ?_; conv => whnf) | fail)))
        have k102 : F[i] = 102 := by
          rw [hX] at hf
          simp at hf
          refine UInt8.toNat_inj.1 ?_
          show F[i].toNat = 102
          omega
        rw [hR1, hgo, refGo_cons, if_pos k102]
        simp [Cmd.dv, hxe]
      have n102 : F[i] ≠ 102 := by
        rintro e
        rw [hX, e] at hf
        simp at hf
      rw [refGo_cons, if_neg n102] at hgo
      refine Need.of ⟨by omega, by simpa using hlt⟩ ?_
      ((conv => whnf); (repeat' (first | (refine Br.tt (by first | assumption | with_reducible rfl | with_reducible exact Bool.not_false) ?_; conv => whnf) | (refine Br.ff (by first | assumption | with_reducible rfl | with_reducible exact Bool.not_true) ?_; conv => whnf) | fail)))
      by_cases hKX : F[i] = 75 ∨ F[i] = 88
      · rw [if_pos hKX] at hgo
        have hv : ∀ v : UInt8, F[i] = v → (F.getD (Int.toNat (i : Int)) 0).toNat = v.toNat := fun v h => by rw [hX, h]
        have hE : ∀ (n m : Nat), n = m → ((n : Int) == (m : Int)) = true := fun n m h => by simp [h]
        have hE2 : ∀ (n m : Nat), n ≠ m → ((n : Int) == (m : Int)) = false := fun n m h => by rw [beq_eq_false_iff_ne]; omega
        rcases hKX with h75 | h88
        all_goals (first
          | (have k1 : (((F.getD (Int.toNat (i : Int)) 0).toNat : Int) == 75) = true := hE _ 75 (hv 75 h75)
             repeat' (first | (refine Br.tt (by first | assumption | with_reducible rfl | with_reducible exact Bool.not_false) ?_; conv => whnf) | (refine Br.ff (by first | assumption | with_reducible rfl | with_reducible exact Bool.not_true) ?_; conv => whnf) | fail))
          | (have k1 : (((F.getD (Int.toNat (i : Int)) 0).toNat : Int) == 75) = false := hE2 _ 75 (by rw [hv 88 h88]; decide)
             have k2 : (((F.getD (Int.toNat (i : Int)) 0).toNat : Int) == 88) = true := hE _ 88 (hv 88 h88)
             repeat' (first | (refine Br.tt (by first | assumption | with_reducible rfl | with_reducible exact Bool.not_false) ?_; conv => whnf) | (refine Br.ff (by first | assumption | with_reducible rfl | with_reducible exact Bool.not_true) ?_; conv => whnf) | fail)
             refine Need.of ⟨by omega, by simpa using hlt⟩ ?_
             ((conv => whnf); (repeat' (first | (refine Br.tt (by first | assumption | with_reducible rfl | with_reducible exact Bool.not_false) ?_; conv => whnf) | (refine Br.ff (by first | assumption | with_reducible rfl | with_reducible exact Bool.not_true) ?_; conv => whnf) | fail)))))
        all_goals (
          refine loop_by2 (fun (at2 : Nat) (c2 : Cmd) => at' ≤ at2 ∧ at2 ≤ L.length ∧ c2.Ok at2 ∧ oneAll (F[i].toNat : Int) c (L.drop at') = oneAll (F[i].toNat : Int) c2 (L.drop at2))
            (fun at2 _ => mkT [(0, .d (.str s)), (2, .ptr 2 0), (5, .lst 5), (6, .d (.str F)), (7, .ptr 48 0), (8, .d (.int .i64 at2)), (9, .d (.int .i64 i))]) (fun _ c2 => mkT (parseObs L c2)) (fun at2 _ => L.length - at2) at' c
            ⟨by omega, by omega, hc, rfl⟩
            (Weak.of [] rfl rfl ⟨⟨_, rfl, rfl⟩, ⟨_, rfl, rfl⟩, ⟨_, rfl, rfl⟩, ⟨_, rfl, rfl⟩, ⟨_, rfl, rfl⟩, ⟨_, rfl, rfl⟩, ⟨_, rfl, rfl⟩, trivial⟩
              ⟨⟨_, rfl, rfl, rfl, rfl, rfl, rfl, rfl, rfl, trivial⟩, rfl, ⟨_, rfl, rfl, rfl, rfl, rfl, rfl, rfl, rfl, trivial⟩, rfl, rfl, rfl, rfl, rfl, trivial⟩) ?_
          unfold parseObs
          intro at2 c2 ⟨hb1, hb2, hc2, hall⟩
          ((conv => whnf); (repeat' (first | (refine Br.tt (by first | assumption | with_reducible rfl | with_reducible exact Bool.not_false) ?_; conv => whnf) | (refine Br.ff (by first | assumption | with_reducible rfl | with_reducible exact Bool.not_true) ?_; conv => whnf) | fail)))
          ((repeat' (first | (refine Br.tt (by first | assumption | with_reducible rfl | with_reducible exact Bool.not_false) ?_; conv => whnf) | (refine Br.ff (by first | assumption | with_reducible rfl | with_reducible exact Bool.not_true) ?_; conv => whnf) | fail)); (refine Br.mk (fun q1 => ?_) (fun q1 => ?_) <;> ((conv => whnf); (repeat' (first | (refine Br.tt (by first | assumption | with_reducible rfl | with_reducible exact Bool.not_false) ?_; conv => whnf) | (refine Br.ff (by first | assumption | with_reducible rfl | with_reducible exact Bool.not_true) ?_; conv => whnf) | fail)))))
          · have hlt2 : at2 < L.length := by simpa using q1
            have hxm := hmem L[at2] (List.getElem_mem hlt2)
            rw [List.drop_eq_getElem_cons hlt2] at hall
            refine ⟨by kernel_rfl, ?_⟩
            ((conv => whnf); (repeat' (first | (refine Br.tt (by first | assumption | with_reducible rfl | with_reducible exact Bool.not_false) ?_; conv => whnf) | (refine Br.ff (by first | assumption | with_reducible rfl | with_reducible exact Bool.not_true) ?_; conv => whnf) | fail)))
            refine Need.of ⟨by omega, by simpa using hlt⟩ ?_
            ((conv => whnf); (repeat' (first | (refine Br.tt (by first | assumption | with_reducible rfl | with_reducible exact Bool.not_false) ?_; conv => whnf) | (refine Br.ff (by first | assumption | with_reducible rfl | with_reducible exact Bool.not_true) ?_; conv => whnf) | fail)))
            rw [hX]
            refine Need.of ⟨by omega, by simpa using hlt2⟩ ?_
            ((conv => whnf); (repeat' (first | (refine Br.tt (by first | assumption | with_reducible rfl | with_reducible exact Bool.not_false) ?_; conv => whnf) | (refine Br.ff (by first | assumption | with_reducible rfl | with_reducible exact Bool.not_true) ?_; conv => whnf) | fail)))
            refine GetD.of (wd L[at2]) (by simp [hlt2]) ?_
            ((conv => whnf); (repeat' (first | (refine Br.tt (by first | assumption | with_reducible rfl | with_reducible exact Bool.not_false) ?_; conv => whnf) | (refine Br.ff (by first | assumption | with_reducible rfl | with_reducible exact Bool.not_true) ?_; conv => whnf) | fail)))
            have hone := refOne_ok (W0 := W0) c2 (F[i].toNat : Int) L[at2].1 (by have := hxm.2.1; omega) (hc2.le (by omega))
            have hok3 := hc2.one (F[i].toNat : Int) L[at2].1
            have hO : oneO c2 (F[i].toNat : Int) L[at2].1 = if (oneCmd c2 (F[i].toNat : Int) L[at2].1).2 = true then some (oneCmd c2 (F[i].toNat : Int) L[at2].1).1 else none := rfl
            generalize (oneCmd c2 (F[i].toNat : Int) L[at2].1).1 = c3 at *
            generalize (oneCmd c2 (F[i].toNat : Int) L[at2].1).2 = b3 at *
            unfold Cmd.ps at hone
            refine CallD.of1 hone ?_
            ((conv => whnf); (repeat' (first | (refine Br.tt (by first | assumption | with_reducible rfl | with_reducible exact Bool.not_false) ?_; conv => whnf) | (refine Br.ff (by first | assumption | with_reducible rfl | with_reducible exact Bool.not_true) ?_; conv => whnf) | fail)))
            cases b3 with
            | false =>
              (refine Br.tt rfl ?_; conv => whnf)
              have : refGo s F (cmd0 w) e ws = none := by
                rw [hgo, hall]
                simp only [oneAll, hO]
                rfl
              rw [hR1, this]
              exact ⟨rfl, by trivial⟩
            | true =>
              (refine Br.ff rfl ?_; conv => whnf)
              have hwa : IntKind.i64.wrap ((at2 : Int) + 1) = ((at2 + 1 : Nat) : Int) := by rw [wrap_i64 (by omega) (by omega)]; rfl
              refine ⟨at2 + 1, c3, ⟨⟨by omega, by omega, hok3, ?_⟩, by omega⟩,
                Weak.of [(62, some 198001), (64, some 198003), (65, some 198004), (66, some 198005), (67, some 198006)] rfl rfl ⟨⟨_, rfl, rfl⟩, ⟨_, rfl, rfl⟩, ⟨_, rfl, rfl⟩, ⟨_, rfl, rfl⟩, ⟨_, rfl, rfl⟩, ⟨_, rfl, by simp only [Pre, hwa]⟩, ⟨_, rfl, rfl⟩, trivial⟩
              ⟨⟨_, rfl, rfl, rfl, rfl, rfl, rfl, rfl, rfl, trivial⟩, rfl, ⟨_, rfl, rfl, rfl, rfl, rfl, rfl, rfl, rfl, trivial⟩, rfl, rfl, rfl, rfl, rfl, trivial⟩⟩
              rw [hall]
              simp only [oneAll, hO]
              rfl
          · have hge : at2 = L.length := by simp at q1; omega
            subst hge
            rw [List.drop_length] at hall
            rw [hall] at hgo
            have hwi : IntKind.i64.wrap ((i : Int) + 1) = ((i + 1 : Nat) : Int) := by rw [wrap_i64 (by omega) (by omega)]; rfl
            refine ⟨i + 1, L.length, ((L.drop at').getLast?.map (·.2)).getD en, c2, ⟨⟨by omega, by omega, by omega, ?_, hc2, ?_⟩, by omega⟩, Weak.of [] rfl rfl ⟨⟨_, rfl, rfl⟩, ⟨_, rfl, rfl⟩, ⟨_, rfl, rfl⟩, ⟨_, rfl, rfl⟩, ⟨_, rfl, rfl⟩, ⟨_, rfl, rfl⟩, ⟨_, rfl, by simp only [Pre, hwi]⟩, trivial⟩
              ⟨⟨_, rfl, rfl, rfl, rfl, rfl, rfl, rfl, rfl, trivial⟩, rfl, ⟨_, rfl, rfl, rfl, rfl, rfl, rfl, rfl, rfl, trivial⟩, rfl, rfl, rfl, rfl, rfl, trivial⟩⟩
            · by_cases hq : at' = L.length
              · rw [hq, List.drop_length]
                rw [hq] at hen
                simpa using hen
              · rw [List.getLast?_drop, if_neg (by omega), List.getLast?_eq_getElem?]
                rw [List.getElem?_eq_getElem (by omega)]
                rfl
            · rw [hgo, List.drop_length]; rfl)
      rw [if_neg hKX] at hgo
      have n75 : (((F.getD (Int.toNat (i : Int)) 0).toNat : Int) == 75) = false := by
        rw [beq_eq_false_iff_ne, hX]
        intro h
        exact hKX (.inl (UInt8.toNat_inj.1 (by show F[i].toNat = 75; omega)))
      have n88 : (((F.getD (Int.toNat (i : Int)) 0).toNat : Int) == 88) = false := by
        rw [beq_eq_false_iff_ne, hX]
        intro h
        exact hKX (.inr (UInt8.toNat_inj.1 (by show F[i].toNat = 88; omega)))
      repeat' (first | (refine Br.tt (by first | assumption | with_reducible rfl | with_reducible exact Bool.not_false) ?_; conv => whnf) | (refine Br.ff (by first | assumption | with_reducible rfl | with_reducible exact Bool.not_true) ?_; conv => whnf) | fail)
      refine Need.of ⟨by omega, by simpa using hlt⟩ ?_
      ((conv => whnf); (repeat' (first | (refine Br.tt (by first | assumption | with_reducible rfl | with_reducible exact Bool.not_false) ?_; conv => whnf) | (refine Br.ff (by first | assumption | with_reducible rfl | with_reducible exact Bool.not_true) ?_; conv => whnf) | fail)))
      refine ⟨by kernel_rfl, ?_⟩
      ((conv => whnf); (repeat' (first | (refine Br.tt (by first | assumption | with_reducible rfl | with_reducible exact Bool.not_false) ?_; conv => whnf) | (refine Br.ff (by first | assumption | with_reducible rfl | with_reducible exact Bool.not_true) ?_; conv => whnf) | fail)))
      ((repeat' (first | (refine Br.tt (by first | assumption | with_reducible rfl | with_reducible exact Bool.not_false) ?_; conv => whnf) | (refine Br.ff (by first | assumption | with_reducible rfl | with_reducible exact Bool.not_true) ?_; conv => whnf) | fail)); (refine Br.mk (fun q1 => ?_) (fun q1 => ?_) <;> ((conv => whnf); (repeat' (first | (refine Br.tt (by first | assumption | with_reducible rfl | with_reducible exact Bool.not_false) ?_; conv => whnf) | (refine Br.ff (by first | assumption | with_reducible rfl | with_reducible exact Bool.not_true) ?_; conv => whnf) | fail)))))
      · have hge : at' = L.length := by simp at q1; omega
        have : refGo s F (cmd0 w) e ws = none := by
          rw [hgo, hge, List.drop_length]
        repeat' (first | (refine Br.tt (by first | assumption | with_reducible rfl | with_reducible exact Bool.not_false) ?_; conv => whnf) | (refine Br.ff (by first | assumption | with_reducible rfl | with_reducible exact Bool.not_true) ?_; conv => whnf) | (refine Need.of (by first | omega | (simp; done) | (simp; omega) | (simp at *; omega)) ?_; conv => whnf) | (refine Br.mk (fun _ => ?_) (fun _ => ?_) <;> (conv => whnf)) | fail)
        rw [hR1, this]
        exact ⟨rfl, by trivial⟩
      · have hlt2 : at' < L.length := by simp at q1; omega
        have hxm := hmem L[at'] (List.getElem_mem hlt2)
        rw [List.drop_eq_getElem_cons hlt2] at hgo
        repeat' (first | (refine Br.tt (by first | assumption | with_reducible rfl | with_reducible exact Bool.not_false) ?_; conv => whnf) | (refine Br.ff (by first | assumption | with_reducible rfl | with_reducible exact Bool.not_true) ?_; conv => whnf) | fail)
        refine Need.of ⟨by omega, by simpa using hlt⟩ ?_
        ((conv => whnf); (repeat' (first | (refine Br.tt (by first | assumption | with_reducible rfl | with_reducible exact Bool.not_false) ?_; conv => whnf) | (refine Br.ff (by first | assumption | with_reducible rfl | with_reducible exact Bool.not_true) ?_; conv => whnf) | fail)))
        rw [hX]
        refine Need.of ⟨by omega, by simpa using hlt2⟩ ?_
        ((conv => whnf); (repeat' (first | (refine Br.tt (by first | assumption | with_reducible rfl | with_reducible exact Bool.not_false) ?_; conv => whnf) | (refine Br.ff (by first | assumption | with_reducible rfl | with_reducible exact Bool.not_true) ?_; conv => whnf) | fail)))
        refine GetD.of (wd L[at']) (by simp [hlt2]) ?_
        ((conv => whnf); (repeat' (first | (refine Br.tt (by first | assumption | with_reducible rfl | with_reducible exact Bool.not_false) ?_; conv => whnf) | (refine Br.ff (by first | assumption | with_reducible rfl | with_reducible exact Bool.not_true) ?_; conv => whnf) | fail)))
        have hone := refOne_ok (W0 := W0) c (F[i].toNat : Int) L[at'].1 (by have := hxm.2.1; omega) (hc.le (by omega))
        have hok3 := hc.one (F[i].toNat : Int) L[at'].1
        have hO : oneO c (F[i].toNat : Int) L[at'].1 = if (oneCmd c (F[i].toNat : Int) L[at'].1).2 = true then some (oneCmd c (F[i].toNat : Int) L[at'].1).1 else none := rfl
        generalize (oneCmd c (F[i].toNat : Int) L[at'].1).1 = c3 at *
        generalize (oneCmd c (F[i].toNat : Int) L[at'].1).2 = b3 at *
        unfold Cmd.ps at hone
        refine CallD.of1 hone ?_
        ((conv => whnf); (repeat' (first | (refine Br.tt (by first | assumption | with_reducible rfl | with_reducible exact Bool.not_false) ?_; conv => whnf) | (refine Br.ff (by first | assumption | with_reducible rfl | with_reducible exact Bool.not_true) ?_; conv => whnf) | fail)))
        simp only [hO] at hgo
        cases b3 with
        | false =>
          repeat' (first | (refine Br.tt rfl ?_; conv => whnf) | (refine Br.ff rfl ?_; conv => whnf) | fail)
          have : refGo s F (cmd0 w) e ws = none := by rw [hgo]; rfl
          rw [hR1, this]
          exact ⟨rfl, by trivial⟩
        | true =>
          repeat' (first | (refine Br.tt (by first | assumption | with_reducible rfl | with_reducible exact Bool.not_false) ?_; conv => whnf) | (refine Br.ff (by first | assumption | with_reducible rfl | with_reducible exact Bool.not_true) ?_; conv => whnf) | (refine Br.tt rfl ?_; conv => whnf) | (refine Br.ff rfl ?_; conv => whnf) | fail)
          have hwa : IntKind.i64.wrap ((at' : Int) + 1) = ((at' + 1 : Nat) : Int) := by rw [wrap_i64 (by omega) (by omega)]; rfl
          have hwi : IntKind.i64.wrap ((i : Int) + 1) = ((i + 1 : Nat) : Int) := by rw [wrap_i64 (by omega) (by omega)]; rfl
          refine ⟨i + 1, at' + 1, L[at'].2, c3, ⟨⟨by omega, by omega, by omega, by simp [hlt2], hok3, by rw [hgo]; rfl⟩, by omega⟩,
            Weak.of [(62, some 215001), (64, some 215003), (65, some 215004), (66, some 215005), (67, some 215006)] rfl rfl ⟨⟨_, rfl, rfl⟩, ⟨_, rfl, rfl⟩, ⟨_, rfl, rfl⟩, ⟨_, rfl, rfl⟩, ⟨_, rfl, rfl⟩, ⟨_, rfl, by simp only [Pre, hwa]⟩, ⟨_, rfl, by simp only [Pre, hwi]⟩, trivial⟩
              ⟨⟨_, rfl, rfl, rfl, rfl, rfl, rfl, rfl, rfl, trivial⟩, rfl, ⟨_, rfl, rfl, rfl, rfl, rfl, rfl, rfl, rfl, trivial⟩, rfl, rfl, rfl, rfl, rfl, trivial⟩⟩
    · have hge : i = F.length := by simp at h1; omega
      rw [hge, List.drop_length, refGo_nil] at hgo
      ((repeat' (first | (refine Br.tt (by first | assumption | with_reducible rfl | with_reducible exact Bool.not_false) ?_; conv => whnf) | (refine Br.ff (by first | assumption | with_reducible rfl | with_reducible exact Bool.not_true) ?_; conv => whnf) | fail)); (refine Br.mk (fun q1 => ?_) (fun q1 => ?_) <;> ((conv => whnf); (repeat' (first | (refine Br.tt (by first | assumption | with_reducible rfl | with_reducible exact Bool.not_false) ?_; conv => whnf) | (refine Br.ff (by first | assumption | with_reducible rfl | with_reducible exact Bool.not_true) ?_; conv => whnf) | fail)))))
      · have hlt2 : at' < L.length := by simpa using q1
        have hnn : L.drop at' ≠ [] := by
          intro h
          have := congrArg List.length h
          simp at this
          omega
        rw [if_neg hnn] at hgo
        rw [hR1, hgo]
        exact ⟨rfl, by trivial⟩
      · have hnn : L.drop at' = [] := List.drop_eq_nil_of_le (by simpa using q1)
        rw [if_pos hnn] at hgo
        rw [hR1, hgo]
        exact ⟨rfl, by trivial⟩
end Go.Proofs.L24
