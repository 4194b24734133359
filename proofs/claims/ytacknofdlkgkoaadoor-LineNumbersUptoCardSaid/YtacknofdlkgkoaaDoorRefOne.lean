/-
  Contracts of the document side: characters, reserved words, forms, numbers, hex; texts of less than the bounds that stand in each.
-/
import Derived.Test.YtacknofdlkgkoaaDoorTable
set_option linter.unusedSectionVars false
set_option linter.unusedSimpArgs false
set_option linter.unusedVariables false
namespace Go.Proofs.L24
open Go Aw Go.Proofs
variable {W0 : World}

/-! Characters and bytes. -/
def isStart (r : Int) : Bool := decide ((65 ≤ r ∧ r ≤ 90) ∨ (97 ≤ r ∧ r ≤ 122) ∨ r = 95 ∨ (913 ≤ r ∧ r ≤ 929) ∨ (931 ≤ r ∧ r ≤ 937) ∨ (945 ≤ r ∧ r ≤ 969))
def isRest (r : Int) : Bool := isStart r || decide ((48 ≤ r ∧ r ≤ 57) ∨ r = 8242 ∨ (8320 ≤ r ∧ r ≤ 8329))
set_option linter.unusedSimpArgs false in
set_option maxRecDepth 100000 in
set_option maxHeartbeats 4000000 in
theorem start_ok (r : Int) : CallsA Tryd.prog W0 51 [] [.d (.int .i32 r)] fun rs os => rs = [.d (.bool (isStart r))] ∧ os = [] := by
  refine calls_of_awpC tok [.tmp 2] Tryd.func51 rfl rfl rfl rfl rfl ?_
  conv => whnf
  repeat' (first | (refine Br.tt (by first | assumption | with_reducible rfl | with_reducible exact Bool.not_false) ?_; conv => whnf) | (refine Br.ff (by first | assumption | with_reducible rfl | with_reducible exact Bool.not_true) ?_; conv => whnf) | (refine Br.mk (fun _ => ?_) (fun _ => ?_) <;> (conv => whnf)))
  all_goals (simp [isStart] at *; try omega)
set_option linter.unusedSimpArgs false in
set_option maxRecDepth 100000 in
set_option maxHeartbeats 4000000 in
theorem rest_ok (r : Int) : CallsA Tryd.prog W0 52 [] [.d (.int .i32 r)] fun rs os => rs = [.d (.bool (isRest r))] ∧ os = [] := by
  refine calls_of_awpC tok [.tmp 2] Tryd.func52 rfl rfl rfl rfl rfl ?_
  conv => whnf
  refine CallsA.then (start_ok r) ?_
  conv => whnf
  repeat' (first | (refine Br.tt (by first | assumption | with_reducible rfl | with_reducible exact Bool.not_false) ?_; conv => whnf) | (refine Br.ff (by first | assumption | with_reducible rfl | with_reducible exact Bool.not_true) ?_; conv => whnf) | (refine Br.mk (fun _ => ?_) (fun _ => ?_) <;> (conv => whnf)))
  all_goals (simp_all [isRest] <;> try omega)
set_option linter.unusedSimpArgs false in
set_option maxRecDepth 100000 in
set_option maxHeartbeats 4000000 in
theorem blank_ok (r : Int) : CallsA Tryd.prog W0 23 [] [.d (.int .i32 r)] fun rs os => rs = [.d (.bool (decide (r = 32 ∨ r = 9)))] ∧ os = [] := by
  refine calls_of_awpC tok [.tmp 2] Tryd.func23 rfl rfl rfl rfl rfl ?_
  conv => whnf
  repeat' (first | (refine Br.tt (by first | assumption | with_reducible rfl | with_reducible exact Bool.not_false) ?_; conv => whnf) | (refine Br.ff (by first | assumption | with_reducible rfl | with_reducible exact Bool.not_true) ?_; conv => whnf) | (refine Br.mk (fun _ => ?_) (fun _ => ?_) <;> (conv => whnf)))
  all_goals (simp_all <;> try omega)
  by_cases h : r = 9 <;> simp_all
def reserved (s : List UInt8) : Bool := s == [97, 110, 100] || s == [111, 114] || s == [110, 111, 116] || s == [101, 120] || s == [97, 108, 108] || s == [109, 111, 100] || s == [116, 114, 117, 101] || s == [102, 97, 108, 115, 101]
set_option linter.unusedSimpArgs false in
set_option maxRecDepth 100000 in
set_option maxHeartbeats 4000000 in
theorem reserved_ok (s : List UInt8) : CallsA Tryd.prog W0 53 [] [.d (.str s)] fun rs os => rs = [.d (.bool (reserved s))] ∧ os = [] := by
  refine calls_of_awpC tok [.tmp 2] Tryd.func53 rfl rfl rfl rfl rfl ?_
  conv => whnf
  repeat' (first | (refine Br.tt (by first | assumption | with_reducible rfl | with_reducible exact Bool.not_false) ?_; conv => whnf) | (refine Br.ff (by first | assumption | with_reducible rfl | with_reducible exact Bool.not_true) ?_; conv => whnf) | (refine Br.mk (fun _ => ?_) (fun _ => ?_) <;> (conv => whnf)))
  all_goals (simp [reserved] at *; try simp [*])
set_option linter.unusedSimpArgs false in
set_option maxRecDepth 100000 in
set_option maxHeartbeats 4000000 in
theorem digit_ok (x : Int) : CallsA Tryd.prog W0 42 [] [.d (.int .u8 x)] fun rs os => rs = [.d (.bool (decide (48 ≤ x ∧ x ≤ 57)))] ∧ os = [] := by
  refine calls_of_awpC tok [.tmp 2] Tryd.func42 rfl rfl rfl rfl rfl ?_
  conv => whnf
  repeat' (first | (refine Br.tt (by first | assumption | with_reducible rfl | with_reducible exact Bool.not_false) ?_; conv => whnf) | (refine Br.ff (by first | assumption | with_reducible rfl | with_reducible exact Bool.not_true) ?_; conv => whnf) | (refine Br.mk (fun _ => ?_) (fun _ => ?_) <;> (conv => whnf)))
  all_goals (simp at *; try omega)
end Go.Proofs.L24

namespace Go.Proofs.L24
open Go Aw Go.Proofs
variable {W0 : World}
def resWords : List (List UInt8) := [[97, 110, 100], [111, 114], [110, 111, 116], [101, 120], [97, 108, 108], [109, 111, 100], [116, 114, 117, 101], [102, 97, 108, 115, 101]]
theorem reserved_iff (s : List UInt8) : reserved s = true ↔ ∃ j : Nat, resWords[j]? = some s := by
  rw [← List.mem_iff_getElem?]
  simp [reserved, resWords, or_assoc]
theorem getElem?_map_str {l : List (List UInt8)} {i : Nat} (h : i < l.length) : (l.map DV.str)[i]? = some (.str l[i]) := by simp [h]
set_option linter.unusedSimpArgs false in
set_option maxRecDepth 100000 in
set_option maxHeartbeats 4000000 in
theorem refReserved_ok (s : List UInt8) : CallsA Tryd.prog W0 41 [] [.d (.str s)] fun rs os => rs = [.d (.bool (reserved s))] ∧ os = [] := by
  refine calls_of_awpC tok [.tmp 2] Tryd.func41 rfl rfl rfl rfl rfl ?_
  conv => whnf
  refine Need.of (by simp [DV.width, DV.cells]) ?_
  conv => whnf
  refine loop_by1 (fun (i : Nat) => i ≤ 8 ∧ ∀ j < i, resWords[j]? ≠ some s) (fun i => mkT [(0, .d (.str s)), (3, .lst 5), (4, .d (.int .i64 i))]) (fun _ => mkT [(5, .list 1 (resWords.map .str) true)]) (fun i => 8 - i) 0 ⟨by omega, fun j hj => by omega⟩
    (Weak.of [] rfl rfl ⟨⟨_, rfl, rfl⟩, ⟨_, rfl, rfl⟩, ⟨_, rfl, rfl⟩, trivial⟩ ⟨rfl, trivial⟩) ?_
  intro i ⟨hi, hno⟩
  conv => whnf
  refine Br.mk (fun h => ?_) (fun h => ?_) <;> (conv => whnf)
  · have hlt : i < resWords.length := by simpa using h
    refine Need.of ⟨by omega, by simpa using hlt⟩ ?_
    conv => whnf
    refine Get.of _ (getElem?_map_str hlt) ?_
    conv => whnf
    refine Br.mk (fun h => ?_) (fun h => ?_) <;> (conv => whnf)
    · have : reserved s = true := (reserved_iff s).2 ⟨i, by rw [List.getElem?_eq_getElem hlt]; simpa using h⟩
      simp [this]
    · refine ⟨i + 1, ⟨⟨by simp [resWords] at hlt ⊢; omega, fun j hj => ?_⟩, by simp [resWords] at hlt; omega⟩, Weak.of [] rfl rfl ⟨⟨_, rfl, rfl⟩, ⟨_, rfl, rfl⟩, ⟨_, rfl, ?_⟩, trivial⟩ ⟨rfl, trivial⟩⟩
      · rcases Nat.lt_or_ge j i with h1 | h1
        · exact hno j h1
        · have : j = i := by omega
          subst this
          rw [List.getElem?_eq_getElem hlt]; simpa using h
      · simp [resWords] at hlt
        simp only [Pre]
        rw [wrap_i64 (by omega) (by omega)]; rfl
  · have : reserved s = false := by
      cases hr : reserved s with
      | false => rfl
      | true =>
        obtain ⟨j, hj⟩ := (reserved_iff s).1 hr
        have hl := (List.getElem?_eq_some_iff.1 hj).1
        have : ¬ i < resWords.length := by simpa using h
        exact absurd hj (hno j (by omega))
    simp [this]
end Go.Proofs.L24

namespace Go.Proofs.L24
open Go Aw Go.Proofs
variable {W0 : World}
def inRanges (r : Int) : List Int → Bool
  | a :: b :: t => (decide (a ≤ r) && decide (r ≤ b)) || inRanges r t
  | _ => false
theorem getElem?_map_int {k : IntKind} {l : List Int} {i : Nat} (h : i < l.length) : (l.map (DV.int k))[i]? = some (.int k l[i]) := by simp [h]
set_option linter.unusedSimpArgs false in
set_option maxRecDepth 100000 in
set_option maxHeartbeats 4000000 in
theorem within_ok (r : Int) (xs : List Int) (hl : xs.length < 4611686018427387904) : CallsA Tryd.prog W0 58 [] [.d (.int .i64 r), .d (.sl (xs.map (DV.int .i64)))] fun rs os => rs = [.d (.bool (inRanges r xs))] ∧ os = [] := by
  refine calls_of_awpC tok [.tmp 4] Tryd.func58 rfl rfl rfl rfl rfl ?_
  conv => whnf
  refine loop_by1 (fun (i : Nat) => i ≤ xs.length + 1 ∧ inRanges r xs = inRanges r (xs.drop i)) (fun i => mkT [(0, .d (.int .i64 r)), (1, .d (.sl (xs.map (DV.int .i64)))), (5, .d (.int .i64 i))]) (fun _ => mkT []) (fun i => xs.length + 2 - i) 0 ⟨by omega, rfl⟩
    (Weak.of [] rfl rfl ⟨⟨_, rfl, rfl⟩, ⟨_, rfl, rfl⟩, ⟨_, rfl, rfl⟩, trivial⟩ trivial) ?_
  intro i ⟨hi, he⟩
  conv => whnf
  have hw : IntKind.i64.wrap ((i : Int) + 1) = i + 1 := wrap_i64 (by omega) (by omega)
  have hw2 : IntKind.i64.wrap ((i : Int) + 2) = i + 2 := wrap_i64 (by omega) (by omega)
  refine Br.mk (fun h => ?_) (fun h => ?_) <;> (conv => whnf)
  · have hlt : i + 1 < xs.length := by rw [hw] at h; simp at h; omega
    have h1 : (xs.map (DV.int .i64))[(i : Int).toNat]? = some (.int .i64 xs[i]) := getElem?_map_int (by omega)
    have h2 : (xs.map (DV.int .i64))[(IntKind.i64.wrap ((i : Int) + 1)).toNat]? = some (.int .i64 xs[i+1]) := by rw [hw]; exact getElem?_map_int hlt
    have hd : xs.drop i = xs[i] :: xs[i+1] :: xs.drop (i + 2) := by
      rw [List.drop_eq_getElem_cons (by omega), List.drop_eq_getElem_cons hlt]
    refine Idx.of _ (by omega) h1 rfl ?_
    conv => whnf
    refine Br.mk (fun g1 => ?_) (fun g1 => ?_) <;> (conv => whnf)
    · repeat' (first | (refine Br.tt (by first | assumption | with_reducible rfl | with_reducible exact Bool.not_false) ?_; conv => whnf) | (refine Br.ff (by first | assumption | with_reducible rfl | with_reducible exact Bool.not_true) ?_; conv => whnf) | fail)
      refine Idx.of _ (by rw [hw]; omega) h2 rfl ?_
      conv => whnf
      repeat' (first | (refine Br.tt (by first | assumption | with_reducible rfl | with_reducible exact Bool.not_false) ?_; conv => whnf) | (refine Br.ff (by first | assumption | with_reducible rfl | with_reducible exact Bool.not_true) ?_; conv => whnf) | fail)
      refine Br.mk (fun g2 => ?_) (fun g2 => ?_) <;> (conv => whnf)
      · rw [he, hd]; simp at g1 g2; simp [inRanges, g1, g2]
      · refine ⟨i + 2, ⟨⟨by omega, ?_⟩, by omega⟩, Weak.of [] rfl rfl ⟨⟨_, rfl, rfl⟩, ⟨_, rfl, rfl⟩, ⟨_, rfl, ?_⟩, trivial⟩ trivial⟩
        · rw [he, hd]; simp at g1 g2; simp [inRanges]; omega
        · simp only [Pre, hw2]; rfl
    · repeat' (first | (refine Br.tt (by first | assumption | with_reducible rfl | with_reducible exact Bool.not_false) ?_; conv => whnf) | (refine Br.ff (by first | assumption | with_reducible rfl | with_reducible exact Bool.not_true) ?_; conv => whnf) | (refine Br.mk (fun _ => ?_) (fun _ => ?_) <;> (conv => whnf)))
      refine ⟨i + 2, ⟨⟨by omega, ?_⟩, by omega⟩, Weak.of [] rfl rfl ⟨⟨_, rfl, rfl⟩, ⟨_, rfl, rfl⟩, ⟨_, rfl, ?_⟩, trivial⟩ trivial⟩
      · rw [he, hd]; simp at g1; simp [inRanges]; omega
      · simp only [Pre, hw2]; rfl
  · have hge : ¬ i + 1 < xs.length := by rw [hw] at h; simp at h; omega
    rw [he]
    have : inRanges r (xs.drop i) = false := by
      have hlen : (xs.drop i).length ≤ 1 := by simp; omega
      match xs.drop i, hlen with
      | [], _ => rfl
      | [_], _ => rfl
    simp [this]
set_option linter.unusedSimpArgs false in
set_option maxRecDepth 100000 in
set_option maxHeartbeats 4000000 in
theorem refStart_ok (r : Int) : CallsA Tryd.prog W0 39 [] [.d (.int .i64 r)] fun rs os => rs = [.d (.bool (isStart r))] ∧ os = [] := by
  refine calls_of_awpC tok [.tmp 2] Tryd.func39 rfl rfl rfl rfl rfl ?_
  conv => whnf
  refine Need.of (by simp [DV.width, DV.cells]) ?_
  conv => whnf
  refine CallsA.then (within_ok r [65, 90, 97, 122, 95, 95, 913, 929, 931, 937, 945, 969] (by simp)) ?_
  conv => whnf
  have : inRanges r [65, 90, 97, 122, 95, 95, 913, 929, 931, 937, 945, 969] = isStart r := by
    rw [Bool.eq_iff_iff]; simp [inRanges, isStart]; omega
  simp [this]
set_option linter.unusedSimpArgs false in
set_option maxRecDepth 100000 in
set_option maxHeartbeats 4000000 in
theorem refRest_ok (r : Int) : CallsA Tryd.prog W0 40 [] [.d (.int .i64 r)] fun rs os => rs = [.d (.bool (isRest r))] ∧ os = [] := by
  refine calls_of_awpC tok [.tmp 2] Tryd.func40 rfl rfl rfl rfl rfl ?_
  conv => whnf
  refine CallsA.then (refStart_ok r) ?_
  conv => whnf
  have hin : inRanges r [48, 57, 8242, 8242, 8320, 8329] = decide ((48 ≤ r ∧ r ≤ 57) ∨ r = 8242 ∨ (8320 ≤ r ∧ r ≤ 8329)) := by
    rw [Bool.eq_iff_iff]; simp [inRanges]; omega
  refine Br.mk (fun g => ?_) (fun g => ?_) <;> (conv => whnf)
  · repeat' (first | (refine Br.tt (by first | assumption | with_reducible rfl | with_reducible exact Bool.not_false) ?_; conv => whnf) | (refine Br.ff (by first | assumption | with_reducible rfl | with_reducible exact Bool.not_true) ?_; conv => whnf) | (refine Br.mk (fun _ => ?_) (fun _ => ?_) <;> (conv => whnf)))
    simp [isRest, g]
  · repeat' (first | (refine Br.tt (by first | assumption | with_reducible rfl | with_reducible exact Bool.not_false) ?_; conv => whnf) | (refine Br.ff (by first | assumption | with_reducible rfl | with_reducible exact Bool.not_true) ?_; conv => whnf) | fail)
    refine Need.of (by simp [DV.width, DV.cells]) ?_
    conv => whnf
    repeat' (first | (refine Br.tt (by first | assumption | with_reducible rfl | with_reducible exact Bool.not_false) ?_; conv => whnf) | (refine Br.ff (by first | assumption | with_reducible rfl | with_reducible exact Bool.not_true) ?_; conv => whnf) | fail)
    refine CallsA.then (within_ok r [48, 57, 8242, 8242, 8320, 8329] (by simp)) ?_
    conv => whnf
    repeat' (first | (refine Br.tt (by first | assumption | with_reducible rfl | with_reducible exact Bool.not_false) ?_; conv => whnf) | (refine Br.ff (by first | assumption | with_reducible rfl | with_reducible exact Bool.not_true) ?_; conv => whnf) | fail)
    simp [isRest, g, hin]
end Go.Proofs.L24

namespace Go.Proofs.L24
open Go Aw Go.Proofs
variable {W0 : World}
def verbs : List (List UInt8) := [[108, 101, 116], [115, 116, 101, 112, 115], [110, 97, 109, 101, 115], [117, 115, 101, 100], [100, 114, 111, 112], [115, 104, 111, 119], [101, 109, 112, 116, 121], [115, 111, 108, 118, 101], [99, 111, 117, 110, 116], [115, 97, 118, 101], [97, 116], [102, 105, 114, 115, 116], [117, 112, 116, 111], [119, 105, 116, 104, 105, 110], [115, 97, 109, 101], [97, 112, 97, 114, 116], [110, 111, 116], [97, 110, 100], [111, 114], [105, 109, 112, 108, 105, 101, 115], [105, 102, 102], [101, 120], [114, 101, 110, 97, 109, 101], [108, 111, 97, 100]]
def forms : List (List UInt8) := [[110, 61, 102], [102], [], [], [110], [110], [110], [110], [110], [110], [110, 75], [110, 107], [110, 107], [110, 110], [110, 110], [110, 110], [110, 61, 110], [110, 61, 110, 110], [110, 61, 110, 110], [110, 61, 110, 110], [110, 61, 110, 110], [110, 61, 110, 110], [110, 61, 110, 88], [110, 104]]
def kinds : List (List UInt8) := [[110, 61, 102], [102], [], [], [110], [110], [110], [110], [110], [110], [110, 107, 42], [110, 107], [110, 107], [110, 110], [110, 110], [110, 110], [110, 61, 110], [110, 61, 110, 110], [110, 61, 110, 110], [110, 61, 110, 110], [110, 61, 110, 110], [110, 61, 110, 110], [110, 61, 110, 120, 42], [110, 104]]
def verbAt (v : List UInt8) : Option Nat := verbs.findIdx? (fun x => x == v)
def progForm (v : List UInt8) : List UInt8 × Bool := match verbAt v with | some i => (kinds.getD i [], true) | none => ([], false)
def refForm (v : List UInt8) : List UInt8 := match verbAt v with | some i => forms.getD i [] | none => [63]
theorem verbAt_none {v : List UInt8} (h : v ∉ verbs) : verbAt v = none := by
  unfold verbAt
  rw [List.findIdx?_eq_none_iff]
  intro x hx
  simp
  rintro rfl
  exact h hx
set_option linter.unusedSimpArgs false in
set_option maxRecDepth 100000 in
set_option maxHeartbeats 4000000 in
theorem form_ok (v : List UInt8) : CallsA Tryd.prog W0 15 [] [.d (.str v)] fun rs os => rs = [.d (.str (progForm v).1), .d (.bool (progForm v).2)] ∧ os = [] := by
  refine calls_of_awpC tok [.tmp 2, .tmp 3] Tryd.func15 rfl rfl rfl rfl rfl ?_
  conv => whnf
  repeat' (first | (refine Br.tt (by first | assumption | with_reducible rfl | with_reducible exact Bool.not_false) ?_; conv => whnf) | (refine Br.ff (by first | assumption | with_reducible rfl | with_reducible exact Bool.not_true) ?_; conv => whnf) | (refine Br.mk (fun _ => ?_) (fun _ => ?_) <;> (conv => whnf)))
  all_goals simp only [beq_iff_eq, beq_eq_false_iff_ne] at *
  all_goals first
    | (subst_vars; exact ⟨rfl, trivial⟩)
    | (have : verbAt v = none := verbAt_none (by simp [verbs, *])
       unfold progForm; rw [this]; exact ⟨rfl, trivial⟩)
set_option linter.unusedSimpArgs false in
set_option maxRecDepth 100000 in
set_option maxHeartbeats 4000000 in
theorem refForm_ok (v : List UInt8) : CallsA Tryd.prog W0 18 [] [.d (.str v)] fun rs os => rs = [.d (.str (refForm v))] ∧ os = [] := by
  refine calls_of_awpC tok [.tmp 2] Tryd.func18 rfl rfl rfl rfl rfl ?_
  conv => whnf
  refine Need.of (by simp [DV.width, DV.cells]) ?_
  conv => whnf
  refine Need.of (by simp [DV.width, DV.cells]) ?_
  conv => whnf
  refine loop_by1 (fun (i : Nat) => i ≤ 24 ∧ ∀ j < i, verbs[j]? ≠ some v) (fun i => mkT [(0, .d (.str v)), (3, .lst 6), (4, .lst 7), (5, .d (.int .i64 i))]) (fun _ => mkT [(6, .list 1 (verbs.map .str) true), (7, .list 1 (forms.map .str) true)]) (fun i => 24 - i) 0 ⟨by omega, fun j hj => by omega⟩
    (Weak.of [] rfl rfl ⟨⟨_, rfl, rfl⟩, ⟨_, rfl, rfl⟩, ⟨_, rfl, rfl⟩, ⟨_, rfl, rfl⟩, trivial⟩ ⟨rfl, rfl, trivial⟩) ?_
  intro i ⟨hi, hno⟩
  conv => whnf
  refine Br.mk (fun h => ?_) (fun h => ?_) <;> (conv => whnf)
  · have hlt : i < verbs.length := by simpa using h
    refine Need.of ⟨by omega, by simpa using hlt⟩ ?_
    conv => whnf
    refine Get.of _ (getElem?_map_str hlt) ?_
    conv => whnf
    have hlt2 : i < forms.length := hlt
    refine Br.mk (fun h => ?_) (fun h => ?_) <;> (conv => whnf)
    · refine Need.of ⟨by omega, by simpa using hlt2⟩ ?_
      conv => whnf
      refine Get.of _ (getElem?_map_str hlt2) ?_
      conv => whnf
      have hv : verbAt v = some i := by
        unfold verbAt
        rw [List.findIdx?_eq_some_iff_getElem]
        refine ⟨hlt, h, fun j hj => ?_⟩
        have := hno j hj
        rw [List.getElem?_eq_getElem (by omega)] at this
        simpa using this
      unfold refForm
      rw [hv]
      refine ⟨?_, rfl⟩
      simp [List.getD_eq_getElem?_getD, List.getElem?_eq_getElem hlt2]
    · refine ⟨i + 1, ⟨⟨by simp [verbs] at hlt ⊢; omega, fun j hj => ?_⟩, by simp [verbs] at hlt; omega⟩, Weak.of [] rfl rfl ⟨⟨_, rfl, rfl⟩, ⟨_, rfl, rfl⟩, ⟨_, rfl, rfl⟩, ⟨_, rfl, ?_⟩, trivial⟩ ⟨rfl, rfl, trivial⟩⟩
      · rcases Nat.lt_or_ge j i with h1 | h1
        · exact hno j h1
        · have : j = i := by omega
          subst this
          rw [List.getElem?_eq_getElem hlt]; simpa using h
      · simp only [Pre]
        rw [wrap_i64 (by omega) (by omega)]; rfl
  · have : verbAt v = none := verbAt_none fun hm => by
      obtain ⟨j, hj, e⟩ := List.mem_iff_getElem.1 hm
      have : ¬ i < verbs.length := by simpa using h
      exact hno j (by omega) (by rw [List.getElem?_eq_getElem hj, e])
    unfold refForm; rw [this]; exact ⟨rfl, rfl⟩
end Go.Proofs.L24

namespace Go.Proofs.L24
open Go Aw Go.Proofs
variable {W0 : World}
/-- A run of digits, as the document reads it: below nought, from v on. -/
def numLoop (L : Int) : List UInt8 → Int → Option Int
  | [], v => some v
  | x :: t, v => if ¬ (48 ≤ x.toNat ∧ x.toNat ≤ 57) then none
    else if v < -922337203685477580 ∨ (v = -922337203685477580 ∧ L < (x.toNat : Int) - 48) then none
    else numLoop L t (10 * v - ((x.toNat : Int) - 48))
def numTail (below : Bool) (d : List UInt8) : Option Int :=
  if d = [] ∨ (1 < d.length ∧ (d.getD 0 0).toNat = 48) ∨ (below = true ∧ d = [48]) then none
  else (numLoop (if below then 8 else 7) d 0).map fun v => if below then v else -v
def numOf (w : List UInt8) : Option Int := match w with
  | 45 :: d => numTail true d
  | d => numTail false d
theorem numLoop_nil {L v : Int} : numLoop L [] v = some v := rfl
theorem numLoop_bad {L v : Int} {x : UInt8} {t : List UInt8} (h : ¬ (48 ≤ x.toNat ∧ x.toNat ≤ 57)) : numLoop L (x :: t) v = none := if_pos h
theorem numLoop_big {L v : Int} {x : UInt8} {t : List UInt8} (g : 48 ≤ x.toNat ∧ x.toNat ≤ 57) (h : v < -922337203685477580 ∨ (v = -922337203685477580 ∧ L < (x.toNat : Int) - 48)) : numLoop L (x :: t) v = none := by
  show (if ¬ (48 ≤ x.toNat ∧ x.toNat ≤ 57) then none else _) = _
  rw [if_neg (by simpa using g), if_pos h]
theorem numLoop_go {L v : Int} {x : UInt8} {t : List UInt8} (g : 48 ≤ x.toNat ∧ x.toNat ≤ 57) (h : ¬ (v < -922337203685477580 ∨ (v = -922337203685477580 ∧ L < (x.toNat : Int) - 48))) :
    numLoop L (x :: t) v = numLoop L t (10 * v - ((x.toNat : Int) - 48)) := by
  show (if ¬ (48 ≤ x.toNat ∧ x.toNat ≤ 57) then none else _) = _
  rw [if_neg (by simpa using g), if_neg h]
theorem numTail_bad {b : Bool} {d : List UInt8} (h : d = [] ∨ (1 < d.length ∧ (d.getD 0 0).toNat = 48) ∨ (b = true ∧ d = [48])) : numTail b d = none := if_pos h
theorem numTail_good {b : Bool} {d : List UInt8} (h : ¬ (d = [] ∨ (1 < d.length ∧ (d.getD 0 0).toNat = 48) ∨ (b = true ∧ d = [48]))) : numTail b d = (numLoop (if b then 8 else 7) d 0).map fun v => if b then v else -v := if_neg h
set_option linter.unusedSimpArgs false in
set_option maxRecDepth 100000 in
set_option maxHeartbeats 4000000 in
theorem refNumber_ok (w : List UInt8) (hw : w.length < 4611686018427387904) : CallsA Tryd.prog W0 26 [] [.d (.str w)] fun rs os => rs = [.d (.int .i64 ((numOf w).getD 0)), .d (.bool (numOf w).isSome)] ∧ os = [] := by
  refine calls_of_awpC tok [.tmp 2, .tmp 3] Tryd.func26 rfl rfl rfl rfl rfl ?_
  cases w with
  | nil =>
    conv => whnf
    repeat' (first | (refine Br.tt rfl ?_; conv => whnf) | (refine Br.ff rfl ?_; conv => whnf) | fail)
    exact ⟨rfl, rfl⟩
  | cons x t =>
    have h0 : decide (((x :: t).length : Int) > 0) = true := by simp
    conv => whnf
    repeat' (first | (refine Br.tt (by first | assumption | with_reducible rfl | with_reducible exact Bool.not_false) ?_; conv => whnf) | (refine Br.ff (by first | assumption | with_reducible rfl | with_reducible exact Bool.not_true) ?_; conv => whnf) | fail)
    refine Need.of (by first | omega | (simp; done) | (simp; omega) | (simp at *; omega)) ?_
    conv => whnf
    repeat' (first | (refine Br.tt (by first | assumption | with_reducible rfl | with_reducible exact Bool.not_false) ?_; conv => whnf) | (refine Br.ff (by first | assumption | with_reducible rfl | with_reducible exact Bool.not_true) ?_; conv => whnf) | fail)
    refine Br.mk (fun h45 => ?_) (fun h45 => ?_) <;> (conv => whnf)
    · refine Need.of (by simp; omega) ?_
      conv => whnf
      obtain ⟨b, hb⟩ : ∃ b, b = true := ⟨_, rfl⟩
      obtain ⟨d, hd⟩ : ∃ d, d = t := ⟨_, rfl⟩
      have hx : x = 45 := by
        have : x.toNat = 45 := by simp at h45; omega
        exact UInt8.toNat_inj.1 this
      have hN : numOf (x :: t) = numTail b d := by rw [hx, hb, hd]; rfl
      have hnb : (!b) = false := by rw [hb]; rfl
      have hdl : d.length < 4611686018427387904 := by rw [hd]; simp at hw; omega
      have hdt : List.drop (Int.toNat 1) (x :: t) = d := hd.symm
      obtain ⟨L, hL, hL2⟩ : ∃ L : Int, (if b then (8 : Int) else 7) = L ∧ L = 8 := ⟨8, by rw [hb]; rfl, rfl⟩
      repeat' (first | (refine Br.tt (by first | assumption | with_reducible rfl | with_reducible exact Bool.not_false) ?_; conv => whnf) | (refine Br.ff (by first | assumption | with_reducible rfl | with_reducible exact Bool.not_true) ?_; conv => whnf) | (refine Need.of (by first | omega | (simp; done) | (simp; omega) | (simp at *; omega)) ?_; conv => whnf) | (refine Br.mk (fun _ => ?_) (fun _ => ?_) <;> (conv => whnf)) | fail)
      all_goals try (
        rw [hN, numTail_bad (by simp only [hdt] at *; simp at *; first | (simp_all; done) | (simp_all; grind))]
        exact ⟨rfl, rfl⟩)
      all_goals (
        have hg := numTail_good (b := b) (d := d) (by simp only [hdt] at *; simp at *; first | (simp_all; done) | (simp_all; grind))
        rw [hL] at hg
        refine loop_by2 (fun (i : Nat) (v : Int) => i ≤ d.length ∧ numLoop L d 0 = numLoop L (d.drop i) v ∧ -9223372036854775800 - L ≤ v ∧ v ≤ 0)
          (fun i v => mkT [(4, .d (.bool b)), (5, .d (.str d)), (6, .d (.int .i64 v)), (7, .d (.int .i64 i))]) (fun _ _ => mkT []) (fun i _ => d.length - i) 0 0 ⟨by simp, rfl, by omega, by simp⟩
          (Weak.of [] rfl rfl ⟨⟨_, rfl, by simp only [Pre, h45, hb]⟩, ⟨_, rfl, by simp only [Pre, hdt]⟩, ⟨_, rfl, rfl⟩, ⟨_, rfl, rfl⟩, trivial⟩ trivial) ?_
        intro i v ⟨hi, he, hv0, hv1⟩
        conv => whnf
        refine Br.mk (fun hlt => ?_) (fun hlt => ?_) <;> (conv => whnf)
        · have hlt' : i < d.length := by simpa using hlt
          have hX : d.getD (Int.toNat (i : Int)) 0 = d[i] := by simp [hlt']
          have hdr := List.drop_eq_getElem_cons hlt'
          rw [hdr] at he
          have hXl := d[i].toNat_lt
          rw [hX]
          refine Need.of ⟨by omega, by simpa using hlt'⟩ ?_
          conv => whnf
          refine CallsA.then (digit_ok _) ?_
          conv => whnf
          by_cases hdig : 48 ≤ d[i].toNat ∧ d[i].toNat ≤ 57
          · have hD : (!decide ((48 : Int) ≤ (d[i].toNat : Int) ∧ (d[i].toNat : Int) ≤ 57)) = false := by simp; omega
            have hW : IntKind.i64.wrap (IntKind.u8.wrap ((d.getD (Int.toNat (i : Int)) 0).toNat - 48)) = (d[i].toNat : Int) - 48 := by
              rw [hX, wrap_u8 (by omega) (by omega), wrap_i64 (by omega) (by omega)]
            repeat' (first | (refine Br.tt (by first | assumption | with_reducible rfl | with_reducible exact Bool.not_false) ?_; conv => whnf) | (refine Br.ff (by first | assumption | with_reducible rfl | with_reducible exact Bool.not_true) ?_; conv => whnf) | (refine Need.of (by first | omega | (simp; done) | (simp; omega) | (simp at *; omega)) ?_; conv => whnf) | (refine Br.mk (fun _ => ?_) (fun _ => ?_) <;> (conv => whnf)) | fail)
            all_goals simp only [hW, decide_eq_true_eq, decide_eq_false_iff_not, beq_iff_eq, beq_eq_false_iff_ne, Bool.not_eq_true'] at *
            all_goals first
              | (rw [hN, hg, he, numLoop_big hdig (by omega)]; exact ⟨rfl, by trivial⟩)
              | (refine ⟨i + 1, 10 * v - ((d[i].toNat : Int) - 48), ⟨⟨by omega, ?_, by omega, by omega⟩, by omega⟩, Weak.of [] rfl rfl ⟨⟨_, rfl, rfl⟩, ⟨_, rfl, rfl⟩, ⟨_, rfl, ?_⟩, ⟨_, rfl, ?_⟩, trivial⟩ trivial⟩
                 · rw [he, numLoop_go hdig (by omega)]
                 · simp only [Pre, hW]; rw [wrap_i64 (n := 10 * v) (by omega) (by omega), wrap_i64 (by omega) (by omega)]
                 · simp only [Pre]; rw [wrap_i64 (by omega) (by omega)]; rfl)
          · have hD : (!decide ((48 : Int) ≤ (d[i].toNat : Int) ∧ (d[i].toNat : Int) ≤ 57)) = true := by simp; omega
            repeat' (first | (refine Br.tt (by first | assumption | with_reducible rfl | with_reducible exact Bool.not_false) ?_; conv => whnf) | (refine Br.ff (by first | assumption | with_reducible rfl | with_reducible exact Bool.not_true) ?_; conv => whnf) | (refine Need.of (by first | omega | (simp; done) | (simp; omega) | (simp at *; omega)) ?_; conv => whnf) | (refine Br.mk (fun _ => ?_) (fun _ => ?_) <;> (conv => whnf)) | fail)
            rw [hN, hg, he, numLoop_bad hdig]; exact ⟨rfl, rfl⟩
        · have hdr : d.drop i = [] := List.drop_eq_nil_of_le (by simpa using hlt)
          rw [hdr, numLoop_nil] at he
          repeat' (first | (refine Br.tt (by first | assumption | with_reducible rfl | with_reducible exact Bool.not_false) ?_; conv => whnf) | (refine Br.ff (by first | assumption | with_reducible rfl | with_reducible exact Bool.not_true) ?_; conv => whnf) | (refine Need.of (by first | omega | (simp; done) | (simp; omega) | (simp at *; omega)) ?_; conv => whnf) | (refine Br.mk (fun _ => ?_) (fun _ => ?_) <;> (conv => whnf)) | fail)
          rw [hN, hg, he, hb]; simp [*])
    · repeat' (first | (refine Br.tt (by first | assumption | with_reducible rfl | with_reducible exact Bool.not_false) ?_; conv => whnf) | (refine Br.ff (by first | assumption | with_reducible rfl | with_reducible exact Bool.not_true) ?_; conv => whnf) | fail)
      obtain ⟨b, hb⟩ : ∃ b, b = false := ⟨_, rfl⟩
      obtain ⟨d, hd⟩ : ∃ d, d = x :: t := ⟨_, rfl⟩
      have hx : x ≠ 45 := by
        rintro rfl
        simp at h45
      have hN : numOf (x :: t) = numTail b d := by
        rw [hb, hd]
        unfold numOf
        split
        · rename_i e; cases e; exact absurd rfl hx
        · rfl
      have hnb : (!b) = true := by rw [hb]; rfl
      have hdl : d.length < 4611686018427387904 := by rw [hd]; exact hw
      have hdt : x :: t = d := hd.symm
      obtain ⟨L, hL, hL2⟩ : ∃ L : Int, (if b then (8 : Int) else 7) = L ∧ L = 7 := ⟨7, by rw [hb]; rfl, rfl⟩
      repeat' (first | (refine Br.tt (by first | assumption | with_reducible rfl | with_reducible exact Bool.not_false) ?_; conv => whnf) | (refine Br.ff (by first | assumption | with_reducible rfl | with_reducible exact Bool.not_true) ?_; conv => whnf) | (refine Need.of (by first | omega | (simp; done) | (simp; omega) | (simp at *; omega)) ?_; conv => whnf) | (refine Br.mk (fun _ => ?_) (fun _ => ?_) <;> (conv => whnf)) | fail)
      all_goals try (
        rw [hN, numTail_bad (by simp only [hdt] at *; simp at *; first | (simp_all; done) | (simp_all; grind))]
        exact ⟨rfl, rfl⟩)
      all_goals (
        have hg := numTail_good (b := b) (d := d) (by simp only [hdt] at *; simp at *; first | (simp_all; done) | (simp_all; grind))
        rw [hL] at hg
        refine loop_by2 (fun (i : Nat) (v : Int) => i ≤ d.length ∧ numLoop L d 0 = numLoop L (d.drop i) v ∧ -9223372036854775800 - L ≤ v ∧ v ≤ 0)
          (fun i v => mkT [(4, .d (.bool b)), (5, .d (.str d)), (6, .d (.int .i64 v)), (7, .d (.int .i64 i))]) (fun _ _ => mkT []) (fun i _ => d.length - i) 0 0 ⟨by simp, rfl, by omega, by simp⟩
          (Weak.of [] rfl rfl ⟨⟨_, rfl, by simp only [Pre, h45, hb]⟩, ⟨_, rfl, by simp only [Pre, hdt]⟩, ⟨_, rfl, rfl⟩, ⟨_, rfl, rfl⟩, trivial⟩ trivial) ?_
        intro i v ⟨hi, he, hv0, hv1⟩
        conv => whnf
        refine Br.mk (fun hlt => ?_) (fun hlt => ?_) <;> (conv => whnf)
        · have hlt' : i < d.length := by simpa using hlt
          have hX : d.getD (Int.toNat (i : Int)) 0 = d[i] := by simp [hlt']
          have hdr := List.drop_eq_getElem_cons hlt'
          rw [hdr] at he
          have hXl := d[i].toNat_lt
          rw [hX]
          refine Need.of ⟨by omega, by simpa using hlt'⟩ ?_
          conv => whnf
          refine CallsA.then (digit_ok _) ?_
          conv => whnf
          by_cases hdig : 48 ≤ d[i].toNat ∧ d[i].toNat ≤ 57
          · have hD : (!decide ((48 : Int) ≤ (d[i].toNat : Int) ∧ (d[i].toNat : Int) ≤ 57)) = false := by simp; omega
            have hW : IntKind.i64.wrap (IntKind.u8.wrap ((d.getD (Int.toNat (i : Int)) 0).toNat - 48)) = (d[i].toNat : Int) - 48 := by
              rw [hX, wrap_u8 (by omega) (by omega), wrap_i64 (by omega) (by omega)]
            repeat' (first | (refine Br.tt (by first | assumption | with_reducible rfl | with_reducible exact Bool.not_false) ?_; conv => whnf) | (refine Br.ff (by first | assumption | with_reducible rfl | with_reducible exact Bool.not_true) ?_; conv => whnf) | (refine Need.of (by first | omega | (simp; done) | (simp; omega) | (simp at *; omega)) ?_; conv => whnf) | (refine Br.mk (fun _ => ?_) (fun _ => ?_) <;> (conv => whnf)) | fail)
            all_goals simp only [hW, decide_eq_true_eq, decide_eq_false_iff_not, beq_iff_eq, beq_eq_false_iff_ne, Bool.not_eq_true'] at *
            all_goals first
              | (rw [hN, hg, he, numLoop_big hdig (by omega)]; exact ⟨rfl, by trivial⟩)
              | (refine ⟨i + 1, 10 * v - ((d[i].toNat : Int) - 48), ⟨⟨by omega, ?_, by omega, by omega⟩, by omega⟩, Weak.of [] rfl rfl ⟨⟨_, rfl, rfl⟩, ⟨_, rfl, rfl⟩, ⟨_, rfl, ?_⟩, ⟨_, rfl, ?_⟩, trivial⟩ trivial⟩
                 · rw [he, numLoop_go hdig (by omega)]
                 · simp only [Pre, hW]; rw [wrap_i64 (n := 10 * v) (by omega) (by omega), wrap_i64 (by omega) (by omega)]
                 · simp only [Pre]; rw [wrap_i64 (by omega) (by omega)]; rfl)
          · have hD : (!decide ((48 : Int) ≤ (d[i].toNat : Int) ∧ (d[i].toNat : Int) ≤ 57)) = true := by simp; omega
            repeat' (first | (refine Br.tt (by first | assumption | with_reducible rfl | with_reducible exact Bool.not_false) ?_; conv => whnf) | (refine Br.ff (by first | assumption | with_reducible rfl | with_reducible exact Bool.not_true) ?_; conv => whnf) | (refine Need.of (by first | omega | (simp; done) | (simp; omega) | (simp at *; omega)) ?_; conv => whnf) | (refine Br.mk (fun _ => ?_) (fun _ => ?_) <;> (conv => whnf)) | fail)
            rw [hN, hg, he, numLoop_bad hdig]; exact ⟨rfl, rfl⟩
        · have hdr : d.drop i = [] := List.drop_eq_nil_of_le (by simpa using hlt)
          rw [hdr, numLoop_nil] at he
          have hneg : IntKind.i64.wrap (-v) = -v := by rw [wrap_i64 (by omega) (by omega)]
          repeat' (first | (refine Br.tt (by first | assumption | with_reducible rfl | with_reducible exact Bool.not_false) ?_; conv => whnf) | (refine Br.ff (by first | assumption | with_reducible rfl | with_reducible exact Bool.not_true) ?_; conv => whnf) | (refine Need.of (by first | omega | (simp; done) | (simp; omega) | (simp at *; omega)) ?_; conv => whnf) | (refine Br.mk (fun _ => ?_) (fun _ => ?_) <;> (conv => whnf)) | fail)
          rw [hN, hg, he, hb]; simp [*])
end Go.Proofs.L24

namespace Go.Proofs.L24
open Go Aw Go.Proofs
variable {W0 : World}
def nib (x : Int) : Int := if 48 ≤ x ∧ x ≤ 57 then x - 48 else if 97 ≤ x ∧ x ≤ 102 then x - 97 + 10 else -1
set_option linter.unusedSimpArgs false in
set_option maxRecDepth 100000 in
set_option maxHeartbeats 4000000 in
theorem nibble_ok (x : Int) : CallsA Tryd.prog W0 43 [] [.d (.int .u8 x)] fun rs os => rs = [.d (.int .i64 (nib x))] ∧ os = [] := by
  refine calls_of_awpC tok [.tmp 2] Tryd.func43 rfl rfl rfl rfl rfl ?_
  conv => whnf
  refine CallsA.then (digit_ok _) ?_
  conv => whnf
  repeat' (first | (refine Br.tt (by first | assumption | with_reducible rfl | with_reducible exact Bool.not_false) ?_; conv => whnf) | (refine Br.ff (by first | assumption | with_reducible rfl | with_reducible exact Bool.not_true) ?_; conv => whnf) | (refine Need.of (by first | omega | (simp; done) | (simp; omega) | (simp at *; omega)) ?_; conv => whnf) | (refine Br.mk (fun _ => ?_) (fun _ => ?_) <;> (conv => whnf)) | fail)
  all_goals simp at *
  · rw [wrap_u8 (by omega) (by omega), wrap_i64 (by omega) (by omega), nib, if_pos (by omega)]
  · rw [wrap_u8 (by omega) (by omega), wrap_i64 (n := x - 97) (by omega) (by omega), wrap_i64 (by omega) (by omega), nib, if_neg (by omega), if_pos (by omega)]
  · rw [nib, if_neg (by omega), if_neg (by omega)]
  · rw [nib, if_neg (by omega), if_neg (by omega)]
/-- Pairs of hex digits, as bytes. -/
def hexLoop : List UInt8 → Option (List Int)
  | a :: b :: t => if nib a.toNat < 0 ∨ nib b.toNat < 0 then none else (hexLoop t).map fun l => (16 * nib a.toNat + nib b.toNat) :: l
  | _ => some []
def hexOut (w : List UInt8) : List PV := match hexLoop w with
  | none => [.own 0 [] true, .d (.bool false)]
  | some l => [.own 1 (l.map (DV.int .u8)) true, .d (.bool (decide (0 < w.length ∧ w.length % 2 = 0)))]
theorem nib_range (x : Int) : -1 ≤ nib x ∧ nib x ≤ 15 := by
  unfold nib
  split
  · omega
  · split <;> omega
set_option linter.unusedSimpArgs false in
set_option maxRecDepth 100000 in
set_option maxHeartbeats 4000000 in
theorem refHex_ok (w : List UInt8) (hw : w.length < 1000000000000) : CallsA Tryd.prog W0 27 [] [.d (.str w)] fun rs os => rs = hexOut w ∧ os = [] := by
  refine calls_of_awpC tok [.tmp 2, .tmp 3] Tryd.func27 rfl rfl rfl rfl rfl ?_
  conv => whnf
  refine loop_by2 (fun (i : Nat) (acc : List Int) => i ≤ w.length + 1 ∧ acc.length ≤ i ∧ hexLoop w = (hexLoop (w.drop i)).map (acc ++ ·) ∧ i % 2 = 0)
    (fun i acc => mkT [(0, .d (.str w)), (4, .lst 6), (5, .d (.int .i64 i))]) (fun i acc => mkT [(6, .list 1 (acc.map (DV.int .u8)) true)]) (fun i _ => w.length + 2 - i) 0 [] ⟨by omega, by simp, by simp, rfl⟩
    (Weak.of [(6, none)] rfl rfl ⟨⟨_, rfl, rfl⟩, ⟨_, rfl, ⟨_, rfl⟩⟩, ⟨_, rfl, rfl⟩, trivial⟩ ⟨trivial, trivial⟩) ?_
  intro i acc ⟨hi, hl, he, hp⟩
  conv => whnf
  have hw1 : IntKind.i64.wrap ((i : Int) + 1) = i + 1 := wrap_i64 (by omega) (by omega)
  refine Br.mk (fun h => ?_) (fun h => ?_) <;> (conv => whnf)
  · have hlt : i + 1 < w.length := by rw [hw1] at h; simp at h; omega
    refine ⟨by kernel_rfl, ?_⟩
    conv => whnf
    refine Need.of ⟨by omega, by simp; omega⟩ ?_
    conv => whnf
    refine CallD.of (nibble_ok _) ?_
    conv => whnf
    refine Need.of ⟨by rw [hw1]; omega, by rw [hw1]; simp; omega⟩ ?_
    conv => whnf
    refine CallD.of (nibble_ok _) ?_
    conv => whnf
    have hA : w.getD (Int.toNat (i : Int)) 0 = w[i] := by simp [List.getElem?_eq_getElem (show i < w.length by omega)]
    have hB : w.getD (Int.toNat (IntKind.i64.wrap ((i : Int) + 1))) 0 = w[i+1] := by rw [hw1]; simp [List.getElem?_eq_getElem hlt]
    have hd : w.drop i = w[i] :: w[i+1] :: w.drop (i + 2) := by
      rw [List.drop_eq_getElem_cons (by omega), List.drop_eq_getElem_cons hlt]
    have r1 := nib_range w[i].toNat
    have r2 := nib_range w[i+1].toNat
    rw [hd] at he
    simp only [hA, hB] at *
    refine Br.mk (fun g1 => ?_) (fun g1 => ?_) <;> (conv => whnf)
    · repeat' (first | (refine Br.tt (by first | assumption | with_reducible rfl | with_reducible exact Bool.not_false) ?_; conv => whnf) | (refine Br.ff (by first | assumption | with_reducible rfl | with_reducible exact Bool.not_true) ?_; conv => whnf) | (refine Need.of (by first | omega | (simp; done) | (simp; omega) | (simp at *; omega)) ?_; conv => whnf) | (refine Br.mk (fun _ => ?_) (fun _ => ?_) <;> (conv => whnf)) | fail)
      have hb : hexLoop (w[i] :: w[i+1] :: w.drop (i + 2)) = none := if_pos (by left; simpa [hA] using g1)
      rw [hb] at he
      unfold hexOut; rw [he]; exact ⟨rfl, rfl⟩
    repeat' (first | (refine Br.tt (by first | assumption | with_reducible rfl | with_reducible exact Bool.not_false) ?_; conv => whnf) | (refine Br.ff (by first | assumption | with_reducible rfl | with_reducible exact Bool.not_true) ?_; conv => whnf) | fail)
    refine Br.mk (fun g2 => ?_) (fun g2 => ?_) <;> (conv => whnf)
    · repeat' (first | (refine Br.tt (by first | assumption | with_reducible rfl | with_reducible exact Bool.not_false) ?_; conv => whnf) | (refine Br.ff (by first | assumption | with_reducible rfl | with_reducible exact Bool.not_true) ?_; conv => whnf) | (refine Need.of (by first | omega | (simp; done) | (simp; omega) | (simp at *; omega)) ?_; conv => whnf) | (refine Br.mk (fun _ => ?_) (fun _ => ?_) <;> (conv => whnf)) | fail)
      have hb : hexLoop (w[i] :: w[i+1] :: w.drop (i + 2)) = none := if_pos (by right; simpa [hB] using g2)
      rw [hb] at he
      unfold hexOut; rw [he]; exact ⟨rfl, rfl⟩
    repeat' (first | (refine Br.tt (by first | assumption | with_reducible rfl | with_reducible exact Bool.not_false) ?_; conv => whnf) | (refine Br.ff (by first | assumption | with_reducible rfl | with_reducible exact Bool.not_true) ?_; conv => whnf) | fail)
    have hb : hexLoop (w[i] :: w[i+1] :: w.drop (i + 2)) = (hexLoop (w.drop (i + 2))).map fun l => (16 * nib w[i].toNat + nib w[i+1].toNat) :: l :=
      if_neg (by simp [hA] at g1; simp [hB] at g2; omega)
    rw [hb] at he
    refine Need.of (by intro y hy; simp at hy; subst hy; rfl) ?_
    conv => whnf
    refine Need.of ⟨trivial, by simp; omega⟩ ?_
    conv => whnf
    refine ⟨i + 2, acc ++ [16 * nib w[i].toNat + nib w[i+1].toNat], ⟨⟨by omega, by simp; omega, ?_, by omega⟩, by omega⟩, Weak.of [(6, some 37)] rfl rfl ⟨⟨_, rfl, rfl⟩, ⟨_, rfl, rfl⟩, ⟨_, rfl, ?_⟩, trivial⟩ ⟨?_, trivial⟩⟩
    · rw [he]; simp [Function.comp_def]
    · simp only [Pre]; rw [wrap_i64 (by omega) (by omega)]; rfl
    · refine (show some (Ob.list 1 (acc.map (DV.int .u8) ++ [DV.int .u8 (IntKind.u8.wrap (IntKind.i64.wrap (IntKind.i64.wrap (16 * nib w[i].toNat) + nib w[i+1].toNat)))]) true) = some (Ob.list 1 ((acc ++ [16 * nib w[i].toNat + nib w[i+1].toNat]).map (DV.int .u8)) true) from ?_)
      have q1 : ¬ nib w[i].toNat < 0 := by simpa using g1
      have q2 : ¬ nib w[i+1].toNat < 0 := by simpa using g2
      rw [wrap_i64 (n := 16 * nib w[i].toNat) (by omega) (by omega), wrap_i64 (by omega) (by omega), wrap_u8 (by omega) (by omega)]
      simp
  · have hs : hexLoop (w.drop i) = some [] := by
      have hlen : (w.drop i).length ≤ 1 := by rw [hw1] at h; simp at h; simp; omega
      match w.drop i, hlen with
      | [], _ => rfl
      | [_], _ => rfl
    rw [hs] at he
    have hO : hexOut w = [.own 1 (acc.map (DV.int .u8)) true, .d (.bool (decide (0 < w.length ∧ w.length % 2 = 0)))] := by
      unfold hexOut; rw [he]; simp
    have ht : ((w.length : Int).tmod 2 == 0) = decide (w.length % 2 = 0) := by
      rw [Int.tmod_eq_emod_of_nonneg (by omega), Bool.eq_iff_iff]
      simp
      omega
    repeat' (first | (refine Br.tt (by first | assumption | with_reducible rfl | with_reducible exact Bool.not_false) ?_; conv => whnf) | (refine Br.ff (by first | assumption | with_reducible rfl | with_reducible exact Bool.not_true) ?_; conv => whnf) | (refine Need.of (by first | omega | (simp; done) | (simp; omega) | (simp at *; omega)) ?_; conv => whnf) | (refine Br.mk (fun _ => ?_) (fun _ => ?_) <;> (conv => whnf)) | fail)
    · rename_i g
      rw [hO, ht]
      have g' : 0 < w.length := by simpa using g
      simp [g']
    · rename_i g
      rw [hO]
      have g' : ¬ 0 < w.length := by simpa using g
      simp [g']
end Go.Proofs.L24
