/-
  Contracts of characters, names, nodes and the checks of trees; texts of less than the bounds that stand in each.
-/
import Derived.Test.YtdeljonfleopdaaDoorTable
set_option linter.unusedSectionVars false
set_option linter.unusedSimpArgs false
set_option linter.unusedVariables false
namespace Go.Proofs.L08
open Go Aw Go.Proofs
variable {W0 : World}

/-! Characters and bytes. -/
def isStart (r : Int) : Bool := decide ((65 ≤ r ∧ r ≤ 90) ∨ (97 ≤ r ∧ r ≤ 122) ∨ r = 95 ∨ (913 ≤ r ∧ r ≤ 929) ∨ (931 ≤ r ∧ r ≤ 937) ∨ (945 ≤ r ∧ r ≤ 969))
def isRest (r : Int) : Bool := isStart r || decide ((48 ≤ r ∧ r ≤ 57) ∨ r = 8242 ∨ (8320 ≤ r ∧ r ≤ 8329))
set_option linter.unusedSimpArgs false in
set_option maxRecDepth 100000 in
set_option maxHeartbeats 4000000 in
theorem start_ok (r : Int) : CallsA Tryd.prog W0 50 [] [.d (.int .i32 r)] fun rs os => rs = [.d (.bool (isStart r))] ∧ os = [] := by
  refine calls_of_awpC tok [.tmp 2] Tryd.func50 rfl rfl rfl rfl rfl ?_
  conv => whnf
  repeat' (first | (refine Br.tt (by first | assumption | with_reducible rfl | with_reducible exact Bool.not_false) ?_; conv => whnf) | (refine Br.ff (by first | assumption | with_reducible rfl | with_reducible exact Bool.not_true) ?_; conv => whnf) | (refine Br.mk (fun _ => ?_) (fun _ => ?_) <;> (conv => whnf)))
  all_goals (simp [isStart] at *; try omega)
set_option linter.unusedSimpArgs false in
set_option maxRecDepth 100000 in
set_option maxHeartbeats 4000000 in
theorem rest_ok (r : Int) : CallsA Tryd.prog W0 51 [] [.d (.int .i32 r)] fun rs os => rs = [.d (.bool (isRest r))] ∧ os = [] := by
  refine calls_of_awpC tok [.tmp 2] Tryd.func51 rfl rfl rfl rfl rfl ?_
  conv => whnf
  refine CallsA.then (start_ok r) ?_
  conv => whnf
  repeat' (first | (refine Br.tt (by first | assumption | with_reducible rfl | with_reducible exact Bool.not_false) ?_; conv => whnf) | (refine Br.ff (by first | assumption | with_reducible rfl | with_reducible exact Bool.not_true) ?_; conv => whnf) | (refine Br.mk (fun _ => ?_) (fun _ => ?_) <;> (conv => whnf)))
  all_goals (simp_all [isRest] <;> try omega)

def reserved (s : List UInt8) : Bool := s == [97, 110, 100] || s == [111, 114] || s == [110, 111, 116] || s == [101, 120] || s == [97, 108, 108] || s == [109, 111, 100] || s == [116, 114, 117, 101] || s == [102, 97, 108, 115, 101]
set_option linter.unusedSimpArgs false in
set_option maxRecDepth 100000 in
set_option maxHeartbeats 4000000 in
theorem reserved_ok (s : List UInt8) : CallsA Tryd.prog W0 69 [] [.d (.str s)] fun rs os => rs = [.d (.bool (reserved s))] ∧ os = [] := by
  refine calls_of_awpC tok [.tmp 2] Tryd.func69 rfl rfl rfl rfl rfl ?_
  conv => whnf
  repeat' (first | (refine Br.tt (by first | assumption | with_reducible rfl | with_reducible exact Bool.not_false) ?_; conv => whnf) | (refine Br.ff (by first | assumption | with_reducible rfl | with_reducible exact Bool.not_true) ?_; conv => whnf) | (refine Br.mk (fun _ => ?_) (fun _ => ?_) <;> (conv => whnf)))
  all_goals (simp [reserved] at *; try simp [*])

end Go.Proofs.L08

namespace Go.Proofs.L08
open Go Aw Go.Proofs
variable {W0 : World}
def resWords : List (List UInt8) := [[97, 110, 100], [111, 114], [110, 111, 116], [101, 120], [97, 108, 108], [109, 111, 100], [116, 114, 117, 101], [102, 97, 108, 115, 101]]
theorem reserved_iff (s : List UInt8) : reserved s = true ↔ ∃ j : Nat, resWords[j]? = some s := by
  rw [← List.mem_iff_getElem?]
  simp [reserved, resWords, or_assoc]
theorem getElem?_map_str {l : List (List UInt8)} {i : Nat} (h : i < l.length) : (l.map DV.str)[i]? = some (.str l[i]) := by simp [h]
set_option linter.unusedSimpArgs false in
set_option maxRecDepth 100000 in
set_option maxHeartbeats 4000000 in
theorem refReserved_ok (s : List UInt8) : CallsA Tryd.prog W0 77 [] [.d (.str s)] fun rs os => rs = [.d (.bool (reserved s))] ∧ os = [] := by
  refine calls_of_awpC tok [.tmp 2] Tryd.func77 rfl rfl rfl rfl rfl ?_
  conv => whnf
  refine Need.of (by simp [DV.width, DV.cells]) ?_
  conv => whnf
  refine loop_by1 (fun (i : Nat) => i ≤ 8 ∧ ∀ j < i, resWords[j]? ≠ some s) (fun i => mkT [(0, .d (.str s)), (3, .lst 5), (4, .d (.int .i64 i))]) (fun _ => mkT [(5, .list 1 (resWords.map .str) true)]) (fun i => 8 - i) 0 ⟨by omega, fun j hj => by omega⟩
    (Weak.of [] rfl rfl ⟨⟨_, rfl, rfl⟩, ⟨_, rfl, rfl⟩, ⟨_, rfl, rfl⟩, trivial⟩ ⟨rfl, trivial⟩) ?_
  intro i ⟨hi, hno⟩
  conv => whnf
  refine Br.mk (fun h => ?_) (fun h => ?_) <;> (conv => whnf)
  · have hlt : i < resWords.length := by simpa using h
    refine Need.of ⟨by omega, by simpa using hlt⟩ ?_
    conv => whnf
    refine Get.of _ (getElem?_map_str hlt) ?_
    conv => whnf
    refine Br.mk (fun h => ?_) (fun h => ?_) <;> (conv => whnf)
    · have : reserved s = true := (reserved_iff s).2 ⟨i, by rw [List.getElem?_eq_getElem hlt]; simpa using h⟩
      simp [this]
    · refine ⟨i + 1, ⟨⟨by simp [resWords] at hlt ⊢; omega, fun j hj => ?_⟩, by simp [resWords] at hlt; omega⟩, Weak.of [] rfl rfl ⟨⟨_, rfl, rfl⟩, ⟨_, rfl, rfl⟩, ⟨_, rfl, ?_⟩, trivial⟩ ⟨rfl, trivial⟩⟩
      · rcases Nat.lt_or_ge j i with h1 | h1
        · exact hno j h1
        · have : j = i := by omega
          subst this
          rw [List.getElem?_eq_getElem hlt]; simpa using h
      · simp [resWords] at hlt
        simp only [Pre]
        rw [wrap_i64 (by omega) (by omega)]; rfl
  · have : reserved s = false := by
      cases hr : reserved s with
      | false => rfl
      | true =>
        obtain ⟨j, hj⟩ := (reserved_iff s).1 hr
        have hl := (List.getElem?_eq_some_iff.1 hj).1
        have : ¬ i < resWords.length := by simpa using h
        exact absurd hj (hno j (by omega))
    simp [this]
end Go.Proofs.L08

namespace Go.Proofs.L08
open Go Aw Go.Proofs
variable {W0 : World}
def inRanges (r : Int) : List Int → Bool
  | a :: b :: t => (decide (a ≤ r) && decide (r ≤ b)) || inRanges r t
  | _ => false
theorem getElem?_map_int {k : IntKind} {l : List Int} {i : Nat} (h : i < l.length) : (l.map (DV.int k))[i]? = some (.int k l[i]) := by simp [h]
set_option linter.unusedSimpArgs false in
set_option maxRecDepth 100000 in
set_option maxHeartbeats 4000000 in
theorem within_ok (r : Int) (xs : List Int) (hl : xs.length < 4611686018427387904) : CallsA Tryd.prog W0 84 [] [.d (.int .i64 r), .d (.sl (xs.map (DV.int .i64)))] fun rs os => rs = [.d (.bool (inRanges r xs))] ∧ os = [] := by
  refine calls_of_awpC tok [.tmp 4] Tryd.func84 rfl rfl rfl rfl rfl ?_
  conv => whnf
  refine loop_by1 (fun (i : Nat) => i ≤ xs.length + 1 ∧ inRanges r xs = inRanges r (xs.drop i)) (fun i => mkT [(0, .d (.int .i64 r)), (1, .d (.sl (xs.map (DV.int .i64)))), (5, .d (.int .i64 i))]) (fun _ => mkT []) (fun i => xs.length + 2 - i) 0 ⟨by omega, rfl⟩
    (Weak.of [] rfl rfl ⟨⟨_, rfl, rfl⟩, ⟨_, rfl, rfl⟩, ⟨_, rfl, rfl⟩, trivial⟩ trivial) ?_
  intro i ⟨hi, he⟩
  conv => whnf
  have hw : IntKind.i64.wrap ((i : Int) + 1) = i + 1 := wrap_i64 (by omega) (by omega)
  have hw2 : IntKind.i64.wrap ((i : Int) + 2) = i + 2 := wrap_i64 (by omega) (by omega)
  refine Br.mk (fun h => ?_) (fun h => ?_) <;> (conv => whnf)
  · have hlt : i + 1 < xs.length := by rw [hw] at h; simp at h; omega
    have h1 : (xs.map (DV.int .i64))[(i : Int).toNat]? = some (.int .i64 xs[i]) := getElem?_map_int (by omega)
    have h2 : (xs.map (DV.int .i64))[(IntKind.i64.wrap ((i : Int) + 1)).toNat]? = some (.int .i64 xs[i+1]) := by rw [hw]; exact getElem?_map_int hlt
    have hd : xs.drop i = xs[i] :: xs[i+1] :: xs.drop (i + 2) := by
      rw [List.drop_eq_getElem_cons (by omega), List.drop_eq_getElem_cons hlt]
    refine Idx.of _ (by omega) h1 rfl ?_
    conv => whnf
    refine Br.mk (fun g1 => ?_) (fun g1 => ?_) <;> (conv => whnf)
    · repeat' (first | (refine Br.tt (by first | assumption | with_reducible rfl | with_reducible exact Bool.not_false) ?_; conv => whnf) | (refine Br.ff (by first | assumption | with_reducible rfl | with_reducible exact Bool.not_true) ?_; conv => whnf) | fail)
      refine Idx.of _ (by rw [hw]; omega) h2 rfl ?_
      conv => whnf
      repeat' (first | (refine Br.tt (by first | assumption | with_reducible rfl | with_reducible exact Bool.not_false) ?_; conv => whnf) | (refine Br.ff (by first | assumption | with_reducible rfl | with_reducible exact Bool.not_true) ?_; conv => whnf) | fail)
      refine Br.mk (fun g2 => ?_) (fun g2 => ?_) <;> (conv => whnf)
      · rw [he, hd]; simp at g1 g2; simp [inRanges, g1, g2]
      · refine ⟨i + 2, ⟨⟨by omega, ?_⟩, by omega⟩, Weak.of [] rfl rfl ⟨⟨_, rfl, rfl⟩, ⟨_, rfl, rfl⟩, ⟨_, rfl, ?_⟩, trivial⟩ trivial⟩
        · rw [he, hd]; simp at g1 g2; simp [inRanges]; omega
        · simp only [Pre, hw2]; rfl
    · repeat' (first | (refine Br.tt (by first | assumption | with_reducible rfl | with_reducible exact Bool.not_false) ?_; conv => whnf) | (refine Br.ff (by first | assumption | with_reducible rfl | with_reducible exact Bool.not_true) ?_; conv => whnf) | (refine Br.mk (fun _ => ?_) (fun _ => ?_) <;> (conv => whnf)))
      refine ⟨i + 2, ⟨⟨by omega, ?_⟩, by omega⟩, Weak.of [] rfl rfl ⟨⟨_, rfl, rfl⟩, ⟨_, rfl, rfl⟩, ⟨_, rfl, ?_⟩, trivial⟩ trivial⟩
      · rw [he, hd]; simp at g1; simp [inRanges]; omega
      · simp only [Pre, hw2]; rfl
  · have hge : ¬ i + 1 < xs.length := by rw [hw] at h; simp at h; omega
    rw [he]
    have : inRanges r (xs.drop i) = false := by
      have hlen : (xs.drop i).length ≤ 1 := by simp; omega
      match xs.drop i, hlen with
      | [], _ => rfl
      | [_], _ => rfl
    simp [this]
set_option linter.unusedSimpArgs false in
set_option maxRecDepth 100000 in
set_option maxHeartbeats 4000000 in
theorem refStart_ok (r : Int) : CallsA Tryd.prog W0 75 [] [.d (.int .i64 r)] fun rs os => rs = [.d (.bool (isStart r))] ∧ os = [] := by
  refine calls_of_awpC tok [.tmp 2] Tryd.func75 rfl rfl rfl rfl rfl ?_
  conv => whnf
  refine Need.of (by simp [DV.width, DV.cells]) ?_
  conv => whnf
  refine CallsA.then (within_ok r [65, 90, 97, 122, 95, 95, 913, 929, 931, 937, 945, 969] (by simp)) ?_
  conv => whnf
  have : inRanges r [65, 90, 97, 122, 95, 95, 913, 929, 931, 937, 945, 969] = isStart r := by
    rw [Bool.eq_iff_iff]; simp [inRanges, isStart]; omega
  simp [this]
set_option linter.unusedSimpArgs false in
set_option maxRecDepth 100000 in
set_option maxHeartbeats 4000000 in
theorem refRest_ok (r : Int) : CallsA Tryd.prog W0 76 [] [.d (.int .i64 r)] fun rs os => rs = [.d (.bool (isRest r))] ∧ os = [] := by
  refine calls_of_awpC tok [.tmp 2] Tryd.func76 rfl rfl rfl rfl rfl ?_
  conv => whnf
  refine CallsA.then (refStart_ok r) ?_
  conv => whnf
  have hin : inRanges r [48, 57, 8242, 8242, 8320, 8329] = decide ((48 ≤ r ∧ r ≤ 57) ∨ r = 8242 ∨ (8320 ≤ r ∧ r ≤ 8329)) := by
    rw [Bool.eq_iff_iff]; simp [inRanges]; omega
  refine Br.mk (fun g => ?_) (fun g => ?_) <;> (conv => whnf)
  · repeat' (first | (refine Br.tt (by first | assumption | with_reducible rfl | with_reducible exact Bool.not_false) ?_; conv => whnf) | (refine Br.ff (by first | assumption | with_reducible rfl | with_reducible exact Bool.not_true) ?_; conv => whnf) | (refine Br.mk (fun _ => ?_) (fun _ => ?_) <;> (conv => whnf)))
    simp [isRest, g]
  · repeat' (first | (refine Br.tt (by first | assumption | with_reducible rfl | with_reducible exact Bool.not_false) ?_; conv => whnf) | (refine Br.ff (by first | assumption | with_reducible rfl | with_reducible exact Bool.not_true) ?_; conv => whnf) | fail)
    refine Need.of (by simp [DV.width, DV.cells]) ?_
    conv => whnf
    repeat' (first | (refine Br.tt (by first | assumption | with_reducible rfl | with_reducible exact Bool.not_false) ?_; conv => whnf) | (refine Br.ff (by first | assumption | with_reducible rfl | with_reducible exact Bool.not_true) ?_; conv => whnf) | fail)
    refine CallsA.then (within_ok r [48, 57, 8242, 8242, 8320, 8329] (by simp)) ?_
    conv => whnf
    repeat' (first | (refine Br.tt (by first | assumption | with_reducible rfl | with_reducible exact Bool.not_false) ?_; conv => whnf) | (refine Br.ff (by first | assumption | with_reducible rfl | with_reducible exact Bool.not_true) ?_; conv => whnf) | fail)
    simp [isRest, g, hin]
end Go.Proofs.L08

namespace Go.Proofs.L08
open Go Aw Go.Proofs
variable {W0 : World}
/-- The bytes behind a character's first. -/
def readLoop (s : List UInt8) (at' : Nat) : Nat → Nat → Int → Option Int
  | 0, _, x => some x
  | k + 1, i, x => if (s.getD (at' + i) 0).toNat < 128 ∨ 191 < (s.getD (at' + i) 0).toNat then none else readLoop s at' k (i + 1) (x * 64 + (s.getD (at' + i) 0).toNat - 128)
/-- Width, least number, and the bits of the first byte. -/
def cls (x : Int) : Option (Nat × Int × Int) :=
  if 194 ≤ x ∧ x < 224 then some (2, 128, x - 192) else if 224 ≤ x ∧ x < 240 then some (3, 2048, x - 224) else if 240 ≤ x ∧ x < 245 then some (4, 65536, x - 240) else none
def readBad : Int × Int × Bool := (65533, 1, false)
def readEnd (o : Option Int) (wd : Nat) (least : Int) : Int × Int × Bool := match o with
  | none => readBad
  | some v => if v < least ∨ 1114111 < v ∨ (55296 ≤ v ∧ v ≤ 57343) then readBad else (v, wd, true)
def refRead (s : List UInt8) (at' : Nat) : Int × Int × Bool :=
  if (s.getD at' 0).toNat < 128 then ((s.getD at' 0).toNat, 1, true)
  else match cls (s.getD at' 0).toNat with
    | none => readBad
    | some (wd, least, x) => if s.length < at' + wd then readBad else readEnd (readLoop s at' (wd - 1) 1 x) wd least
theorem readLoop_bad {s : List UInt8} {p k i : Nat} {x : Int} (h : (s.getD (p + i) 0).toNat < 128 ∨ 191 < (s.getD (p + i) 0).toNat) : readLoop s p (k + 1) i x = none := if_pos h
theorem readLoop_go {s : List UInt8} {p k i : Nat} {x : Int} (h : ¬ ((s.getD (p + i) 0).toNat < 128 ∨ 191 < (s.getD (p + i) 0).toNat)) : readLoop s p (k + 1) i x = readLoop s p k (i + 1) (x * 64 + (s.getD (p + i) 0).toNat - 128) := if_neg h
set_option linter.unusedSimpArgs false in
set_option maxRecDepth 100000 in
set_option maxHeartbeats 4000000 in
theorem refRead_ok (s : List UInt8) (p : Nat) (hs : s.length < 4611686018427387904) (hp : p < s.length) : CallsA Tryd.prog W0 74 [] [.d (.str s), .d (.int .i64 p)]
    fun rs os => rs = [.d (.int .i64 (refRead s p).1), .d (.int .i64 (refRead s p).2.1), .d (.bool (refRead s p).2.2)] ∧ os = [] := by
  refine calls_of_awpC tok [.tmp 4, .tmp 5, .tmp 6] Tryd.func74 rfl rfl rfl rfl rfl ?_
  conv => whnf
  refine Need.of ⟨by omega, by simpa using hp⟩ ?_
  conv => whnf
  have hX0 : s.getD (Int.toNat (p : Int)) 0 = s.getD p 0 := rfl
  have hX1 := (s.getD p 0).toNat_lt
  have hW0 : IntKind.i64.wrap ((s.getD (Int.toNat (p : Int)) 0).toNat : Int) = ((s.getD p 0).toNat : Int) := by rw [hX0]; exact wrap_i64 (by omega) (by omega)
  have hL : IntKind.i64.wrap ((s.length : Int) - (p : Int)) = (s.length : Int) - p := wrap_i64 (by omega) (by omega)
  refine Br.mk (fun h1 => ?_) (fun h1 => ?_) <;> (conv => whnf)
  · have : refRead s p = (((s.getD p 0).toNat : Int), 1, true) := if_pos (by rw [hW0] at h1; simp only [decide_eq_true_eq] at h1; omega)
    rw [this, hW0]; exact ⟨rfl, rfl⟩
  have h1' : ¬ (s.getD p 0).toNat < 128 := by rw [hW0] at h1; simp only [decide_eq_false_iff_not] at h1; omega
  have hR : refRead s p = match cls (s.getD p 0).toNat with
    | none => readBad
    | some (wd, least, x) => if s.length < p + wd then readBad else readEnd (readLoop s p (wd - 1) 1 x) wd least := if_neg h1'
  by_cases hc : 194 ≤ (s.getD p 0).toNat ∧ (s.getD p 0).toNat < 224
  ·
    have : decide (IntKind.i64.wrap ((s.getD (Int.toNat (p : Int)) 0).toNat : Int) ≥ 194) = true := by rw [hW0]; exact decide_eq_true (by omega)
    have : decide (IntKind.i64.wrap ((s.getD (Int.toNat (p : Int)) 0).toNat : Int) < 224) = true := by rw [hW0]; exact decide_eq_true (by omega)
    have : decide (IntKind.i64.wrap ((s.getD (Int.toNat (p : Int)) 0).toNat : Int) ≥ 224) = false := by rw [hW0]; exact decide_eq_false (by omega)
    have : decide (IntKind.i64.wrap ((s.getD (Int.toNat (p : Int)) 0).toNat : Int) < 240) = true := by rw [hW0]; exact decide_eq_true (by omega)
    have : decide (IntKind.i64.wrap ((s.getD (Int.toNat (p : Int)) 0).toNat : Int) ≥ 240) = false := by rw [hW0]; exact decide_eq_false (by omega)
    have : decide (IntKind.i64.wrap ((s.getD (Int.toNat (p : Int)) 0).toNat : Int) < 245) = true := by rw [hW0]; exact decide_eq_true (by omega)
    repeat' (first | (refine Br.tt (by first | assumption | with_reducible rfl | with_reducible exact Bool.not_false) ?_; conv => whnf) | (refine Br.ff (by first | assumption | with_reducible rfl | with_reducible exact Bool.not_true) ?_; conv => whnf) | fail)
    refine Br.mk (fun hln => ?_) (fun hln => ?_) <;> (conv => whnf)
    · rw [hL, decide_eq_true_eq] at hln
      rw [hR, show cls (s.getD p 0).toNat = some (2, 128, ((s.getD p 0).toNat : Int) - 192) from by rw [cls, if_pos (by omega)]]
      simp only
      rw [if_pos (by omega)]
      exact ⟨rfl, by trivial⟩
    rw [hL, decide_eq_false_iff_not] at hln
    rw [show cls (s.getD p 0).toNat = some (2, 128, ((s.getD p 0).toNat : Int) - 192) from by rw [cls, if_pos (by omega)]] at hR
    simp only at hR
    rw [if_neg (by omega)] at hR
    refine loop_by2 (fun (i : Nat) (x : Int) => 1 ≤ i ∧ i ≤ 2 ∧ readLoop s p (2 - 1) 1 ((s.getD p 0).toNat - 192) = readLoop s p (2 - i) i x ∧ 0 ≤ x ∧ (i = 1 → x < 64) ∧ (i = 2 → x < 4096) ∧ (i = 3 → x < 262144) ∧ (i = 4 → x < 16777216))
      (fun i x => mkT [(0, .d (.str s)), (1, .d (.int .i64 p)), (7, .d (.int .i64 x)), (8, .d (.int .i64 2)), (9, .d (.int .i64 128)), (10, .d (.int .i64 i))]) (fun _ _ => mkT []) (fun i _ => 2 - i) 1 ((s.getD p 0).toNat - 192) ⟨by omega, by omega, rfl, by omega, by omega, by omega, by omega, by omega⟩
      (Weak.of [] rfl rfl ⟨⟨_, rfl, rfl⟩, ⟨_, rfl, rfl⟩, ⟨_, rfl, ?_⟩, ⟨_, rfl, rfl⟩, ⟨_, rfl, rfl⟩, ⟨_, rfl, rfl⟩, trivial⟩ trivial) ?_
    · simp only [Pre]; rw [hW0, wrap_i64 (by omega) (by omega)]
    intro i x ⟨hi1, hi2, he, hx0, hb1, hb2, hb3, hb4⟩
    conv => whnf
    refine Br.mk (fun hlt => ?_) (fun hlt => ?_) <;> (conv => whnf)
    · have hlt' : i < 2 := by simp only [decide_eq_true_eq] at hlt; omega
      have hw : IntKind.i64.wrap ((p : Int) + i) = ((p + i : Nat) : Int) := by rw [wrap_i64 (by omega) (by omega)]; omega
      have hY1 := (s.getD (p + i) 0).toNat_lt
      have hY : s.getD (Int.toNat (IntKind.i64.wrap ((p : Int) + i))) 0 = s.getD (p + i) 0 := by rw [hw]; rfl
      have hWY : IntKind.i64.wrap ((s.getD (Int.toNat (IntKind.i64.wrap ((p : Int) + i))) 0).toNat : Int) = ((s.getD (p + i) 0).toNat : Int) := by rw [hY]; exact wrap_i64 (by omega) (by omega)
      refine Need.of ⟨by rw [hw]; omega, by rw [hw]; simp; omega⟩ ?_
      conv => whnf
      obtain ⟨k, hk⟩ : ∃ k, 2 - i = k + 1 := ⟨2 - i - 1, by omega⟩
      have hk2 : 2 - (i + 1) = k := by omega
      rw [hk] at he
      repeat' (first | (refine Br.tt (by first | assumption | with_reducible rfl | with_reducible exact Bool.not_false) ?_; conv => whnf) | (refine Br.ff (by first | assumption | with_reducible rfl | with_reducible exact Bool.not_true) ?_; conv => whnf) | (refine Need.of (by first | omega | (simp; done) | (simp; omega) | (simp at *; omega)) ?_; conv => whnf) | (refine Br.mk (fun _ => ?_) (fun _ => ?_) <;> (conv => whnf)) | fail)
      all_goals simp only [hWY, decide_eq_true_eq, decide_eq_false_iff_not] at *
      all_goals first
        | (have hb := readLoop_bad (s := s) (p := p) (k := k) (i := i) (x := x) (by omega)
           rw [hb] at he
           rw [hR, he]; exact ⟨rfl, by trivial⟩)
        | (have hg := readLoop_go (s := s) (p := p) (k := k) (i := i) (x := x) (by omega)
           rw [hg] at he
           refine ⟨i + 1, x * 64 + (s.getD (p + i) 0).toNat - 128, ⟨⟨by omega, by omega, by rw [he, hk2], by omega, by omega, by omega, by omega, by omega⟩, by omega⟩, Weak.of [] rfl rfl ⟨⟨_, rfl, rfl⟩, ⟨_, rfl, rfl⟩, ⟨_, rfl, ?_⟩, ⟨_, rfl, rfl⟩, ⟨_, rfl, rfl⟩, ⟨_, rfl, ?_⟩, trivial⟩ trivial⟩
           · simp only [Pre, hWY]
             rw [wrap_i64 (n := x * 64) (by omega) (by omega), wrap_i64 (n := x * 64 + _) (by omega) (by omega), wrap_i64 (by omega) (by omega)]
           · simp only [Pre]; rw [wrap_i64 (by omega) (by omega)]; rfl)
    · have hge : i = 2 := by simp only [decide_eq_false_iff_not] at hlt; omega
      subst hge
      rw [he] at hR
      rw [hR]
      repeat' (first | (refine Br.tt (by first | assumption | with_reducible rfl | with_reducible exact Bool.not_false) ?_; conv => whnf) | (refine Br.ff (by first | assumption | with_reducible rfl | with_reducible exact Bool.not_true) ?_; conv => whnf) | (refine Need.of (by first | omega | (simp; done) | (simp; omega) | (simp at *; omega)) ?_; conv => whnf) | (refine Br.mk (fun _ => ?_) (fun _ => ?_) <;> (conv => whnf)) | fail)
      all_goals simp only [decide_eq_true_eq, decide_eq_false_iff_not] at *
      all_goals first
        | (rw [show readEnd (readLoop s p (2 - 2) 2 x) 2 128 = readBad from if_pos (by omega)]; exact ⟨rfl, by trivial⟩)
        | (rw [show readEnd (readLoop s p (2 - 2) 2 x) 2 128 = (x, 2, true) from if_neg (by omega)]; exact ⟨rfl, by trivial⟩)
  by_cases hc : 224 ≤ (s.getD p 0).toNat ∧ (s.getD p 0).toNat < 240
  ·
    have : decide (IntKind.i64.wrap ((s.getD (Int.toNat (p : Int)) 0).toNat : Int) ≥ 194) = true := by rw [hW0]; exact decide_eq_true (by omega)
    have : decide (IntKind.i64.wrap ((s.getD (Int.toNat (p : Int)) 0).toNat : Int) < 224) = false := by rw [hW0]; exact decide_eq_false (by omega)
    have : decide (IntKind.i64.wrap ((s.getD (Int.toNat (p : Int)) 0).toNat : Int) ≥ 224) = true := by rw [hW0]; exact decide_eq_true (by omega)
    have : decide (IntKind.i64.wrap ((s.getD (Int.toNat (p : Int)) 0).toNat : Int) < 240) = true := by rw [hW0]; exact decide_eq_true (by omega)
    have : decide (IntKind.i64.wrap ((s.getD (Int.toNat (p : Int)) 0).toNat : Int) ≥ 240) = false := by rw [hW0]; exact decide_eq_false (by omega)
    have : decide (IntKind.i64.wrap ((s.getD (Int.toNat (p : Int)) 0).toNat : Int) < 245) = true := by rw [hW0]; exact decide_eq_true (by omega)
    repeat' (first | (refine Br.tt (by first | assumption | with_reducible rfl | with_reducible exact Bool.not_false) ?_; conv => whnf) | (refine Br.ff (by first | assumption | with_reducible rfl | with_reducible exact Bool.not_true) ?_; conv => whnf) | fail)
    refine Br.mk (fun hln => ?_) (fun hln => ?_) <;> (conv => whnf)
    · rw [hL, decide_eq_true_eq] at hln
      rw [hR, show cls (s.getD p 0).toNat = some (3, 2048, ((s.getD p 0).toNat : Int) - 224) from by rw [cls, if_neg (by omega), if_pos (by omega)]]
      simp only
      rw [if_pos (by omega)]
      exact ⟨rfl, by trivial⟩
    rw [hL, decide_eq_false_iff_not] at hln
    rw [show cls (s.getD p 0).toNat = some (3, 2048, ((s.getD p 0).toNat : Int) - 224) from by rw [cls, if_neg (by omega), if_pos (by omega)]] at hR
    simp only at hR
    rw [if_neg (by omega)] at hR
    refine loop_by2 (fun (i : Nat) (x : Int) => 1 ≤ i ∧ i ≤ 3 ∧ readLoop s p (3 - 1) 1 ((s.getD p 0).toNat - 224) = readLoop s p (3 - i) i x ∧ 0 ≤ x ∧ (i = 1 → x < 64) ∧ (i = 2 → x < 4096) ∧ (i = 3 → x < 262144) ∧ (i = 4 → x < 16777216))
      (fun i x => mkT [(0, .d (.str s)), (1, .d (.int .i64 p)), (7, .d (.int .i64 x)), (8, .d (.int .i64 3)), (9, .d (.int .i64 2048)), (10, .d (.int .i64 i))]) (fun _ _ => mkT []) (fun i _ => 3 - i) 1 ((s.getD p 0).toNat - 224) ⟨by omega, by omega, rfl, by omega, by omega, by omega, by omega, by omega⟩
      (Weak.of [] rfl rfl ⟨⟨_, rfl, rfl⟩, ⟨_, rfl, rfl⟩, ⟨_, rfl, ?_⟩, ⟨_, rfl, rfl⟩, ⟨_, rfl, rfl⟩, ⟨_, rfl, rfl⟩, trivial⟩ trivial) ?_
    · simp only [Pre]; rw [hW0, wrap_i64 (by omega) (by omega)]
    intro i x ⟨hi1, hi2, he, hx0, hb1, hb2, hb3, hb4⟩
    conv => whnf
    refine Br.mk (fun hlt => ?_) (fun hlt => ?_) <;> (conv => whnf)
    · have hlt' : i < 3 := by simp only [decide_eq_true_eq] at hlt; omega
      have hw : IntKind.i64.wrap ((p : Int) + i) = ((p + i : Nat) : Int) := by rw [wrap_i64 (by omega) (by omega)]; omega
      have hY1 := (s.getD (p + i) 0).toNat_lt
      have hY : s.getD (Int.toNat (IntKind.i64.wrap ((p : Int) + i))) 0 = s.getD (p + i) 0 := by rw [hw]; rfl
      have hWY : IntKind.i64.wrap ((s.getD (Int.toNat (IntKind.i64.wrap ((p : Int) + i))) 0).toNat : Int) = ((s.getD (p + i) 0).toNat : Int) := by rw [hY]; exact wrap_i64 (by omega) (by omega)
      refine Need.of ⟨by rw [hw]; omega, by rw [hw]; simp; omega⟩ ?_
      conv => whnf
      obtain ⟨k, hk⟩ : ∃ k, 3 - i = k + 1 := ⟨3 - i - 1, by omega⟩
      have hk2 : 3 - (i + 1) = k := by omega
      rw [hk] at he
      repeat' (first | (refine Br.tt (by first | assumption | with_reducible rfl | with_reducible exact Bool.not_false) ?_; conv => whnf) | (refine Br.ff (by first | assumption | with_reducible rfl | with_reducible exact Bool.not_true) ?_; conv => whnf) | (refine Need.of (by first | omega | (simp; done) | (simp; omega) | (simp at *; omega)) ?_; conv => whnf) | (refine Br.mk (fun _ => ?_) (fun _ => ?_) <;> (conv => whnf)) | fail)
      all_goals simp only [hWY, decide_eq_true_eq, decide_eq_false_iff_not] at *
      all_goals first
        | (have hb := readLoop_bad (s := s) (p := p) (k := k) (i := i) (x := x) (by omega)
           rw [hb] at he
           rw [hR, he]; exact ⟨rfl, by trivial⟩)
        | (have hg := readLoop_go (s := s) (p := p) (k := k) (i := i) (x := x) (by omega)
           rw [hg] at he
           refine ⟨i + 1, x * 64 + (s.getD (p + i) 0).toNat - 128, ⟨⟨by omega, by omega, by rw [he, hk2], by omega, by omega, by omega, by omega, by omega⟩, by omega⟩, Weak.of [] rfl rfl ⟨⟨_, rfl, rfl⟩, ⟨_, rfl, rfl⟩, ⟨_, rfl, ?_⟩, ⟨_, rfl, rfl⟩, ⟨_, rfl, rfl⟩, ⟨_, rfl, ?_⟩, trivial⟩ trivial⟩
           · simp only [Pre, hWY]
             rw [wrap_i64 (n := x * 64) (by omega) (by omega), wrap_i64 (n := x * 64 + _) (by omega) (by omega), wrap_i64 (by omega) (by omega)]
           · simp only [Pre]; rw [wrap_i64 (by omega) (by omega)]; rfl)
    · have hge : i = 3 := by simp only [decide_eq_false_iff_not] at hlt; omega
      subst hge
      rw [he] at hR
      rw [hR]
      repeat' (first | (refine Br.tt (by first | assumption | with_reducible rfl | with_reducible exact Bool.not_false) ?_; conv => whnf) | (refine Br.ff (by first | assumption | with_reducible rfl | with_reducible exact Bool.not_true) ?_; conv => whnf) | (refine Need.of (by first | omega | (simp; done) | (simp; omega) | (simp at *; omega)) ?_; conv => whnf) | (refine Br.mk (fun _ => ?_) (fun _ => ?_) <;> (conv => whnf)) | fail)
      all_goals simp only [decide_eq_true_eq, decide_eq_false_iff_not] at *
      all_goals first
        | (rw [show readEnd (readLoop s p (3 - 3) 3 x) 3 2048 = readBad from if_pos (by omega)]; exact ⟨rfl, by trivial⟩)
        | (rw [show readEnd (readLoop s p (3 - 3) 3 x) 3 2048 = (x, 3, true) from if_neg (by omega)]; exact ⟨rfl, by trivial⟩)
  by_cases hc : 240 ≤ (s.getD p 0).toNat ∧ (s.getD p 0).toNat < 245
  ·
    have : decide (IntKind.i64.wrap ((s.getD (Int.toNat (p : Int)) 0).toNat : Int) ≥ 194) = true := by rw [hW0]; exact decide_eq_true (by omega)
    have : decide (IntKind.i64.wrap ((s.getD (Int.toNat (p : Int)) 0).toNat : Int) < 224) = false := by rw [hW0]; exact decide_eq_false (by omega)
    have : decide (IntKind.i64.wrap ((s.getD (Int.toNat (p : Int)) 0).toNat : Int) ≥ 224) = true := by rw [hW0]; exact decide_eq_true (by omega)
    have : decide (IntKind.i64.wrap ((s.getD (Int.toNat (p : Int)) 0).toNat : Int) < 240) = false := by rw [hW0]; exact decide_eq_false (by omega)
    have : decide (IntKind.i64.wrap ((s.getD (Int.toNat (p : Int)) 0).toNat : Int) ≥ 240) = true := by rw [hW0]; exact decide_eq_true (by omega)
    have : decide (IntKind.i64.wrap ((s.getD (Int.toNat (p : Int)) 0).toNat : Int) < 245) = true := by rw [hW0]; exact decide_eq_true (by omega)
    repeat' (first | (refine Br.tt (by first | assumption | with_reducible rfl | with_reducible exact Bool.not_false) ?_; conv => whnf) | (refine Br.ff (by first | assumption | with_reducible rfl | with_reducible exact Bool.not_true) ?_; conv => whnf) | fail)
    refine Br.mk (fun hln => ?_) (fun hln => ?_) <;> (conv => whnf)
    · rw [hL, decide_eq_true_eq] at hln
      rw [hR, show cls (s.getD p 0).toNat = some (4, 65536, ((s.getD p 0).toNat : Int) - 240) from by rw [cls, if_neg (by omega), if_neg (by omega), if_pos (by omega)]]
      simp only
      rw [if_pos (by omega)]
      exact ⟨rfl, by trivial⟩
    rw [hL, decide_eq_false_iff_not] at hln
    rw [show cls (s.getD p 0).toNat = some (4, 65536, ((s.getD p 0).toNat : Int) - 240) from by rw [cls, if_neg (by omega), if_neg (by omega), if_pos (by omega)]] at hR
    simp only at hR
    rw [if_neg (by omega)] at hR
    refine loop_by2 (fun (i : Nat) (x : Int) => 1 ≤ i ∧ i ≤ 4 ∧ readLoop s p (4 - 1) 1 ((s.getD p 0).toNat - 240) = readLoop s p (4 - i) i x ∧ 0 ≤ x ∧ (i = 1 → x < 64) ∧ (i = 2 → x < 4096) ∧ (i = 3 → x < 262144) ∧ (i = 4 → x < 16777216))
      (fun i x => mkT [(0, .d (.str s)), (1, .d (.int .i64 p)), (7, .d (.int .i64 x)), (8, .d (.int .i64 4)), (9, .d (.int .i64 65536)), (10, .d (.int .i64 i))]) (fun _ _ => mkT []) (fun i _ => 4 - i) 1 ((s.getD p 0).toNat - 240) ⟨by omega, by omega, rfl, by omega, by omega, by omega, by omega, by omega⟩
      (Weak.of [] rfl rfl ⟨⟨_, rfl, rfl⟩, ⟨_, rfl, rfl⟩, ⟨_, rfl, ?_⟩, ⟨_, rfl, rfl⟩, ⟨_, rfl, rfl⟩, ⟨_, rfl, rfl⟩, trivial⟩ trivial) ?_
    · simp only [Pre]; rw [hW0, wrap_i64 (by omega) (by omega)]
    intro i x ⟨hi1, hi2, he, hx0, hb1, hb2, hb3, hb4⟩
    conv => whnf
    refine Br.mk (fun hlt => ?_) (fun hlt => ?_) <;> (conv => whnf)
    · have hlt' : i < 4 := by simp only [decide_eq_true_eq] at hlt; omega
      have hw : IntKind.i64.wrap ((p : Int) + i) = ((p + i : Nat) : Int) := by rw [wrap_i64 (by omega) (by omega)]; omega
      have hY1 := (s.getD (p + i) 0).toNat_lt
      have hY : s.getD (Int.toNat (IntKind.i64.wrap ((p : Int) + i))) 0 = s.getD (p + i) 0 := by rw [hw]; rfl
      have hWY : IntKind.i64.wrap ((s.getD (Int.toNat (IntKind.i64.wrap ((p : Int) + i))) 0).toNat : Int) = ((s.getD (p + i) 0).toNat : Int) := by rw [hY]; exact wrap_i64 (by omega) (by omega)
      refine Need.of ⟨by rw [hw]; omega, by rw [hw]; simp; omega⟩ ?_
      conv => whnf
      obtain ⟨k, hk⟩ : ∃ k, 4 - i = k + 1 := ⟨4 - i - 1, by omega⟩
      have hk2 : 4 - (i + 1) = k := by omega
      rw [hk] at he
      repeat' (first | (refine Br.tt (by first | assumption | with_reducible rfl | with_reducible exact Bool.not_false) ?_; conv => whnf) | (refine Br.ff (by first | assumption | with_reducible rfl | with_reducible exact Bool.not_true) ?_; conv => whnf) | (refine Need.of (by first | omega | (simp; done) | (simp; omega) | (simp at *; omega)) ?_; conv => whnf) | (refine Br.mk (fun _ => ?_) (fun _ => ?_) <;> (conv => whnf)) | fail)
      all_goals simp only [hWY, decide_eq_true_eq, decide_eq_false_iff_not] at *
      all_goals first
        | (have hb := readLoop_bad (s := s) (p := p) (k := k) (i := i) (x := x) (by omega)
           rw [hb] at he
           rw [hR, he]; exact ⟨rfl, by trivial⟩)
        | (have hg := readLoop_go (s := s) (p := p) (k := k) (i := i) (x := x) (by omega)
           rw [hg] at he
           refine ⟨i + 1, x * 64 + (s.getD (p + i) 0).toNat - 128, ⟨⟨by omega, by omega, by rw [he, hk2], by omega, by omega, by omega, by omega, by omega⟩, by omega⟩, Weak.of [] rfl rfl ⟨⟨_, rfl, rfl⟩, ⟨_, rfl, rfl⟩, ⟨_, rfl, ?_⟩, ⟨_, rfl, rfl⟩, ⟨_, rfl, rfl⟩, ⟨_, rfl, ?_⟩, trivial⟩ trivial⟩
           · simp only [Pre, hWY]
             rw [wrap_i64 (n := x * 64) (by omega) (by omega), wrap_i64 (n := x * 64 + _) (by omega) (by omega), wrap_i64 (by omega) (by omega)]
           · simp only [Pre]; rw [wrap_i64 (by omega) (by omega)]; rfl)
    · have hge : i = 4 := by simp only [decide_eq_false_iff_not] at hlt; omega
      subst hge
      rw [he] at hR
      rw [hR]
      repeat' (first | (refine Br.tt (by first | assumption | with_reducible rfl | with_reducible exact Bool.not_false) ?_; conv => whnf) | (refine Br.ff (by first | assumption | with_reducible rfl | with_reducible exact Bool.not_true) ?_; conv => whnf) | (refine Need.of (by first | omega | (simp; done) | (simp; omega) | (simp at *; omega)) ?_; conv => whnf) | (refine Br.mk (fun _ => ?_) (fun _ => ?_) <;> (conv => whnf)) | fail)
      all_goals simp only [decide_eq_true_eq, decide_eq_false_iff_not] at *
      all_goals first
        | (rw [show readEnd (readLoop s p (4 - 4) 4 x) 4 65536 = readBad from if_pos (by omega)]; exact ⟨rfl, by trivial⟩)
        | (rw [show readEnd (readLoop s p (4 - 4) 4 x) 4 65536 = (x, 4, true) from if_neg (by omega)]; exact ⟨rfl, by trivial⟩)
  by_cases hc : (s.getD p 0).toNat < 194
  ·
    have : decide (IntKind.i64.wrap ((s.getD (Int.toNat (p : Int)) 0).toNat : Int) ≥ 194) = false := by rw [hW0]; exact decide_eq_false (by omega)
    have : decide (IntKind.i64.wrap ((s.getD (Int.toNat (p : Int)) 0).toNat : Int) < 224) = true := by rw [hW0]; exact decide_eq_true (by omega)
    have : decide (IntKind.i64.wrap ((s.getD (Int.toNat (p : Int)) 0).toNat : Int) ≥ 224) = false := by rw [hW0]; exact decide_eq_false (by omega)
    have : decide (IntKind.i64.wrap ((s.getD (Int.toNat (p : Int)) 0).toNat : Int) < 240) = true := by rw [hW0]; exact decide_eq_true (by omega)
    have : decide (IntKind.i64.wrap ((s.getD (Int.toNat (p : Int)) 0).toNat : Int) ≥ 240) = false := by rw [hW0]; exact decide_eq_false (by omega)
    have : decide (IntKind.i64.wrap ((s.getD (Int.toNat (p : Int)) 0).toNat : Int) < 245) = true := by rw [hW0]; exact decide_eq_true (by omega)
    repeat' (first | (refine Br.tt (by first | assumption | with_reducible rfl | with_reducible exact Bool.not_false) ?_; conv => whnf) | (refine Br.ff (by first | assumption | with_reducible rfl | with_reducible exact Bool.not_true) ?_; conv => whnf) | (refine Need.of (by first | omega | (simp; done) | (simp; omega) | (simp at *; omega)) ?_; conv => whnf) | (refine Br.mk (fun _ => ?_) (fun _ => ?_) <;> (conv => whnf)) | fail)
    rw [hR, show cls (s.getD p 0).toNat = none from by rw [cls, if_neg (by omega), if_neg (by omega), if_neg (by omega)]]
    exact ⟨rfl, by trivial⟩
  have : decide (IntKind.i64.wrap ((s.getD (Int.toNat (p : Int)) 0).toNat : Int) ≥ 194) = true := by rw [hW0]; exact decide_eq_true (by omega)
  have : decide (IntKind.i64.wrap ((s.getD (Int.toNat (p : Int)) 0).toNat : Int) < 224) = false := by rw [hW0]; exact decide_eq_false (by omega)
  have : decide (IntKind.i64.wrap ((s.getD (Int.toNat (p : Int)) 0).toNat : Int) ≥ 224) = true := by rw [hW0]; exact decide_eq_true (by omega)
  have : decide (IntKind.i64.wrap ((s.getD (Int.toNat (p : Int)) 0).toNat : Int) < 240) = false := by rw [hW0]; exact decide_eq_false (by omega)
  have : decide (IntKind.i64.wrap ((s.getD (Int.toNat (p : Int)) 0).toNat : Int) ≥ 240) = true := by rw [hW0]; exact decide_eq_true (by omega)
  have : decide (IntKind.i64.wrap ((s.getD (Int.toNat (p : Int)) 0).toNat : Int) < 245) = false := by rw [hW0]; exact decide_eq_false (by omega)
  repeat' (first | (refine Br.tt (by first | assumption | with_reducible rfl | with_reducible exact Bool.not_false) ?_; conv => whnf) | (refine Br.ff (by first | assumption | with_reducible rfl | with_reducible exact Bool.not_true) ?_; conv => whnf) | (refine Need.of (by first | omega | (simp; done) | (simp; omega) | (simp at *; omega)) ?_; conv => whnf) | (refine Br.mk (fun _ => ?_) (fun _ => ?_) <;> (conv => whnf)) | fail)
  rw [hR, show cls (s.getD p 0).toNat = none from by rw [cls, if_neg (by omega), if_neg (by omega), if_neg (by omega)]]
  exact ⟨rfl, by trivial⟩
end Go.Proofs.L08

namespace Go.Proofs.L08
open Go Aw Go.Proofs
variable {W0 : World}
theorem bget (s : List UInt8) (i : Nat) : (ByteArray.mk s.toArray).get! i = s.getD i 0 := by
  show s.toArray[i]! = _
  simp [List.getD_eq_getElem?_getD, getElem!_def]
  cases s[i]? <;> rfl
/-- The same, over the four bytes' numbers. -/
def decN (len p x0 x1 x2 x3 : Nat) : Nat × Nat :=
  if x0 < 128 then (x0, 1)
  else if x0 / 32 = 6 ∧ p + 1 < len ∧ x1 / 64 = 2 then
    if 128 ≤ (x0 % 32) * 64 + x1 % 64 then ((x0 % 32) * 64 + x1 % 64, 2) else (65533, 1)
  else if x0 / 16 = 14 ∧ (p + 1 < len ∧ x1 / 64 = 2) ∧ (p + 2 < len ∧ x2 / 64 = 2) then
    if 2048 ≤ (x0 % 16) * 4096 + (x1 % 64) * 64 + x2 % 64 ∧ ((x0 % 16) * 4096 + (x1 % 64) * 64 + x2 % 64 < 55296 ∨ (57344 ≤ (x0 % 16) * 4096 + (x1 % 64) * 64 + x2 % 64 ∧ (x0 % 16) * 4096 + (x1 % 64) * 64 + x2 % 64 ≤ 1114111)) then ((x0 % 16) * 4096 + (x1 % 64) * 64 + x2 % 64, 3) else (65533, 1)
  else if x0 / 8 = 30 ∧ (p + 1 < len ∧ x1 / 64 = 2) ∧ (p + 2 < len ∧ x2 / 64 = 2) ∧ (p + 3 < len ∧ x3 / 64 = 2) then
    if 65536 ≤ (x0 % 8) * 262144 + (x1 % 64) * 4096 + (x2 % 64) * 64 + x3 % 64 ∧ (x0 % 8) * 262144 + (x1 % 64) * 4096 + (x2 % 64) * 64 + x3 % 64 ≤ 1114111 then ((x0 % 8) * 262144 + (x1 % 64) * 4096 + (x2 % 64) * 64 + x3 % 64, 4) else (65533, 1)
  else (65533, 1)
theorem udec_decN (s : List UInt8) (p : Nat) : udec s p = decN s.length p (s.getD p 0).toNat (s.getD (p + 1) 0).toNat (s.getD (p + 2) 0).toNat (s.getD (p + 3) 0).toNat := by
  unfold udec Utf8.decode decN
  simp only [bget, show (ByteArray.mk s.toArray).size = s.length from by simp [ByteArray.size], Nat.add_zero, Utf8.runeError, Utf8.valid, Bool.and_eq_true, beq_iff_eq, decide_eq_true_eq, Bool.or_eq_true, ge_iff_le]
  generalize (s.getD p 0).toNat = x0
  generalize (s.getD (p + 1) 0).toNat = x1
  generalize (s.getD (p + 2) 0).toNat = x2
  generalize (s.getD (p + 3) 0).toNat = x3
  by_cases c0 : x0 < 128
  · rw [if_pos c0, if_pos c0]
  rw [if_neg c0, if_neg c0]
  by_cases c1 : x0 / 32 = 6 ∧ p + 1 < s.length ∧ x1 / 64 = 2
  · rw [if_pos c1, if_pos c1]
  rw [if_neg c1, if_neg c1]
  by_cases c2 : x0 / 16 = 14 ∧ (p + 1 < s.length ∧ x1 / 64 = 2) ∧ (p + 2 < s.length ∧ x2 / 64 = 2)
  · rw [if_pos c2, if_pos (by omega)]
    by_cases d : 2048 ≤ (x0 % 16) * 4096 + (x1 % 64) * 64 + x2 % 64 ∧ ((x0 % 16) * 4096 + (x1 % 64) * 64 + x2 % 64 < 55296 ∨ (57344 ≤ (x0 % 16) * 4096 + (x1 % 64) * 64 + x2 % 64 ∧ (x0 % 16) * 4096 + (x1 % 64) * 64 + x2 % 64 ≤ 1114111))
    · rw [if_pos d, if_pos (by omega)]
    · rw [if_neg d, if_neg (by omega)]
  rw [if_neg c2, if_neg (by omega)]
  by_cases c3 : x0 / 8 = 30 ∧ (p + 1 < s.length ∧ x1 / 64 = 2) ∧ (p + 2 < s.length ∧ x2 / 64 = 2) ∧ (p + 3 < s.length ∧ x3 / 64 = 2)
  · rw [if_pos c3, if_pos (by omega)]
    by_cases d : 65536 ≤ (x0 % 8) * 262144 + (x1 % 64) * 4096 + (x2 % 64) * 64 + x3 % 64 ∧ (x0 % 8) * 262144 + (x1 % 64) * 4096 + (x2 % 64) * 64 + x3 % 64 ≤ 1114111
    · rw [if_pos d, if_pos (by omega)]
    · rw [if_neg d, if_neg (by omega)]
  rw [if_neg c3, if_neg (by omega)]
theorem udec_read (s : List UInt8) (p : Nat) (hp : p < s.length) : (((udec s p).1 : Int), ((udec s p).2 : Int)) = ((refRead s p).1, (refRead s p).2.1) := by
  rw [udec_decN]
  unfold refRead
  have b0 := (s.getD p 0).toNat_lt
  have b1 := (s.getD (p + 1) 0).toNat_lt
  have b2 := (s.getD (p + 2) 0).toNat_lt
  have b3 := (s.getD (p + 3) 0).toNat_lt
  have l1 : ∀ x : Int, readLoop s p 1 1 x = if (s.getD (p + 1) 0).toNat < 128 ∨ 191 < (s.getD (p + 1) 0).toNat then none else some (x * 64 + (s.getD (p + 1) 0).toNat - 128) := fun _ => rfl
  have l2 : ∀ x : Int, readLoop s p 2 1 x = if (s.getD (p + 1) 0).toNat < 128 ∨ 191 < (s.getD (p + 1) 0).toNat then none else if (s.getD (p + 2) 0).toNat < 128 ∨ 191 < (s.getD (p + 2) 0).toNat then none else
    some ((x * 64 + (s.getD (p + 1) 0).toNat - 128) * 64 + (s.getD (p + 2) 0).toNat - 128) := fun _ => rfl
  have l3 : ∀ x : Int, readLoop s p 3 1 x = if (s.getD (p + 1) 0).toNat < 128 ∨ 191 < (s.getD (p + 1) 0).toNat then none else if (s.getD (p + 2) 0).toNat < 128 ∨ 191 < (s.getD (p + 2) 0).toNat then none else
    if (s.getD (p + 3) 0).toNat < 128 ∨ 191 < (s.getD (p + 3) 0).toNat then none else
    some (((x * 64 + (s.getD (p + 1) 0).toNat - 128) * 64 + (s.getD (p + 2) 0).toNat - 128) * 64 + (s.getD (p + 3) 0).toNat - 128) := fun _ => rfl
  generalize (s.getD p 0).toNat = x0 at *
  generalize (s.getD (p + 1) 0).toNat = x1 at *
  generalize (s.getD (p + 2) 0).toNat = x2 at *
  generalize (s.getD (p + 3) 0).toNat = x3 at *
  by_cases c0 : x0 < 128
  · rw [decN, if_pos c0, if_pos c0]; rfl
  rw [if_neg c0]
  by_cases c2 : 194 ≤ x0 ∧ x0 < 224
  · rw [show cls x0 = some (2, 128, (x0 : Int) - 192) from if_pos (by omega)]
    simp only [Nat.reduceSub, l1]
    by_cases k1 : p + 1 < s.length ∧ 128 ≤ x1 ∧ x1 ≤ 191
    · rw [decN, if_neg c0, if_pos (by omega), if_pos (by omega), if_neg (by omega), if_neg (by omega)]
      simp only [readEnd]
      rw [if_neg (by omega)]
      refine Prod.ext ?_ ?_
      · show ((_ : Nat) : Int) = (_ : Int); omega
      · rfl
    · rw [decN, if_neg c0, if_neg (by omega), if_neg (by omega), if_neg (by omega)]
      by_cases k2 : s.length < p + 2
      · rw [if_pos k2]; rfl
      · rw [if_neg k2, if_pos (by omega)]; rfl
  by_cases c3 : 224 ≤ x0 ∧ x0 < 240
  · rw [show cls x0 = some (3, 2048, (x0 : Int) - 224) from by rw [cls, if_neg (by omega), if_pos (by omega)]]
    simp only [Nat.reduceSub, l2]
    by_cases k1 : (p + 1 < s.length ∧ 128 ≤ x1 ∧ x1 ≤ 191) ∧ p + 2 < s.length ∧ 128 ≤ x2 ∧ x2 ≤ 191
    · rw [decN, if_neg c0, if_neg (by omega), if_pos (by omega)]
      by_cases d : 2048 ≤ (x0 % 16) * 4096 + (x1 % 64) * 64 + x2 % 64 ∧ ((x0 % 16) * 4096 + (x1 % 64) * 64 + x2 % 64 < 55296 ∨ (57344 ≤ (x0 % 16) * 4096 + (x1 % 64) * 64 + x2 % 64 ∧ (x0 % 16) * 4096 + (x1 % 64) * 64 + x2 % 64 ≤ 1114111))
      · rw [if_pos d, if_neg (by omega), if_neg (by omega), if_neg (by omega)]
        simp only [readEnd]
        rw [if_neg (by omega)]
        refine Prod.ext ?_ ?_
        · show ((_ : Nat) : Int) = (_ : Int); omega
        · rfl
      · rw [if_neg d, if_neg (by omega), if_neg (by omega), if_neg (by omega)]
        simp only [readEnd]
        rw [if_pos (by omega)]; rfl
    · rw [decN, if_neg c0, if_neg (by omega), if_neg (by omega), if_neg (by omega)]
      by_cases k2 : s.length < p + 3
      · rw [if_pos k2]; rfl
      · rw [if_neg k2]
        by_cases k3 : x1 < 128 ∨ 191 < x1
        · rw [if_pos k3]; rfl
        · rw [if_neg k3, if_pos (by omega)]; rfl
  by_cases c4 : 240 ≤ x0 ∧ x0 < 245
  · rw [show cls x0 = some (4, 65536, (x0 : Int) - 240) from by rw [cls, if_neg (by omega), if_neg (by omega), if_pos (by omega)]]
    simp only [Nat.reduceSub, l3]
    by_cases k1 : (p + 1 < s.length ∧ 128 ≤ x1 ∧ x1 ≤ 191) ∧ (p + 2 < s.length ∧ 128 ≤ x2 ∧ x2 ≤ 191) ∧ p + 3 < s.length ∧ 128 ≤ x3 ∧ x3 ≤ 191
    · rw [decN, if_neg c0, if_neg (by omega), if_neg (by omega), if_pos (by omega)]
      by_cases d : 65536 ≤ (x0 % 8) * 262144 + (x1 % 64) * 4096 + (x2 % 64) * 64 + x3 % 64 ∧ (x0 % 8) * 262144 + (x1 % 64) * 4096 + (x2 % 64) * 64 + x3 % 64 ≤ 1114111
      · rw [if_pos d, if_neg (by omega), if_neg (by omega), if_neg (by omega), if_neg (by omega)]
        simp only [readEnd]
        rw [if_neg (by omega)]
        refine Prod.ext ?_ ?_
        · show ((_ : Nat) : Int) = (_ : Int); omega
        · rfl
      · rw [if_neg d, if_neg (by omega), if_neg (by omega), if_neg (by omega), if_neg (by omega)]
        simp only [readEnd]
        rw [if_pos (by omega)]; rfl
    · rw [decN, if_neg c0, if_neg (by omega), if_neg (by omega), if_neg (by omega)]
      by_cases k2 : s.length < p + 4
      · rw [if_pos k2]; rfl
      · rw [if_neg k2]
        by_cases k3 : x1 < 128 ∨ 191 < x1
        · rw [if_pos k3]; rfl
        · rw [if_neg k3]
          by_cases k4 : x2 < 128 ∨ 191 < x2
          · rw [if_pos k4]; rfl
          · rw [if_neg k4, if_pos (by omega)]; rfl
  rw [show cls x0 = none from by rw [cls, if_neg (by omega), if_neg (by omega), if_neg (by omega)]]
  rw [decN, if_neg c0]
  by_cases d1 : x0 / 32 = 6 ∧ p + 1 < s.length ∧ x1 / 64 = 2
  · rw [if_pos d1, if_neg (by omega)]; rfl
  rw [if_neg d1, if_neg (by omega)]
  by_cases d2 : x0 / 8 = 30 ∧ (p + 1 < s.length ∧ x1 / 64 = 2) ∧ (p + 2 < s.length ∧ x2 / 64 = 2) ∧ (p + 3 < s.length ∧ x3 / 64 = 2)
  · rw [if_pos d2, if_neg (by omega)]; rfl
  · rw [if_neg d2]; rfl
end Go.Proofs.L08

namespace Go.Proofs.L08
open Go Aw Go.Proofs
variable {W0 : World}
/-- Is the text from p on made of a name's characters? How many they are. -/
def nameAt (s : List UInt8) : Nat → Nat → Nat → Option Nat
  | 0, _, n => some n
  | f + 1, p, n => if p < s.length then (if (n = 0 ∧ isStart (udec s p).1 = false) ∨ isRest (udec s p).1 = false then none else nameAt s f (p + (udec s p).2) (n + 1)) else some n
def nameOk (s : List UInt8) : Bool := match nameAt s s.length 0 0 with
  | none => false
  | some n => decide (1 ≤ n ∧ n ≤ 16) && !reserved s
theorem udec_wide (s : List UInt8) (p : Nat) : 1 ≤ (udec s p).2 ∧ (udec s p).2 ≤ 4 := by
  rw [udec_decN]
  unfold decN
  repeat' split
  all_goals simp
theorem nameAt_end {s : List UInt8} {f p n : Nat} (h : s.length ≤ p) : nameAt s f p n = some n := by
  cases f with
  | zero => rfl
  | succ f => exact if_neg (by omega)
theorem nameAt_bad {s : List UInt8} {f p n : Nat} (h : p < s.length) (hb : (n = 0 ∧ isStart (udec s p).1 = false) ∨ isRest (udec s p).1 = false) : nameAt s (f + 1) p n = none := by
  rw [nameAt, if_pos h, if_pos hb]
theorem nameAt_go {s : List UInt8} {f p n : Nat} (h : p < s.length) (hb : ¬ ((n = 0 ∧ isStart (udec s p).1 = false) ∨ isRest (udec s p).1 = false)) : nameAt s (f + 1) p n = nameAt s f (p + (udec s p).2) (n + 1) := by
  rw [nameAt, if_pos h, if_neg hb]
theorem refRead_bad {s : List UInt8} {p : Nat} (h : (refRead s p).2.2 = false) : refRead s p = readBad := by
  unfold refRead at h ⊢
  split at h
  · cases h
  rename_i h0
  rw [if_neg h0]
  split at h
  · rfl
  split at h
  · rename_i e2; rw [if_pos e2]
  rename_i e2
  rw [if_neg e2]
  unfold readEnd at h ⊢
  split at h
  · rfl
  · split at h
    · rename_i e2; rw [if_pos e2]
    · cases h
set_option linter.unusedSimpArgs false in
set_option maxRecDepth 100000 in
set_option maxHeartbeats 4000000 in
theorem refName_ok (s : List UInt8) (hs : s.length < 4611686018427387904) : CallsA Tryd.prog W0 59 [] [.d (.str s)] fun rs os => rs = [.d (.bool (nameOk s))] ∧ os = [] := by
  refine calls_of_awpC tok [.tmp 2] Tryd.func59 rfl rfl rfl rfl rfl ?_
  conv => whnf
  refine loop_by3 (fun (f p n : Nat) => nameAt s s.length 0 0 = nameAt s f p n ∧ s.length ≤ p + f ∧ n ≤ p ∧ p ≤ s.length + 4) (fun _ p n => mkT [(0, .d (.str s)), (3, .d (.int .i64 n)), (4, .d (.int .i64 p))]) (fun _ _ _ => mkT []) (fun _ p _ => s.length + 4 - p) s.length 0 0 ⟨rfl, by omega, by omega, by omega⟩
    (Weak.of [] rfl rfl ⟨⟨_, rfl, rfl⟩, ⟨_, rfl, rfl⟩, ⟨_, rfl, rfl⟩, trivial⟩ trivial) ?_
  intro f p n ⟨he, hf, hn, hp⟩
  conv => whnf
  refine Br.mk (fun h => ?_) (fun h => ?_) <;> (conv => whnf)
  · have hlt : p < s.length := by simpa using h
    refine CallsA.then (refRead_ok s p hs hlt) ?_
    conv => whnf
    have hu := udec_read s p hlt
    have hwd := udec_wide s p
    simp only [Prod.mk.injEq] at hu
    obtain ⟨f', rfl⟩ : ∃ f', f = f' + 1 := ⟨f - 1, by omega⟩
    refine Br.mk (fun h1 => ?_) (fun h1 => ?_) <;> (conv => whnf)
    · repeat' (first | (refine Br.tt (by first | assumption | with_reducible rfl | with_reducible exact Bool.not_false) ?_; conv => whnf) | (refine Br.ff (by first | assumption | with_reducible rfl | with_reducible exact Bool.not_true) ?_; conv => whnf) | (refine Need.of (by first | omega | (simp; done) | (simp; omega) | (simp at *; omega)) ?_; conv => whnf) | (refine Br.mk (fun _ => ?_) (fun _ => ?_) <;> (conv => whnf)) | fail)
      have hbad := refRead_bad (s := s) (p := p) (by simpa using h1)
      rw [hbad] at hu
      have hb := nameAt_bad (f := f') (n := n) hlt (.inr (by rw [hu.1]; rfl))
      rw [hb] at he
      unfold nameOk; rw [he]; exact ⟨rfl, rfl⟩
    rw [← hu.1, ← hu.2]
    clear hu
    repeat' (first | (refine Br.tt (by first | assumption | with_reducible rfl | with_reducible exact Bool.not_false) ?_; conv => whnf) | (refine Br.ff (by first | assumption | with_reducible rfl | with_reducible exact Bool.not_true) ?_; conv => whnf) | fail)
    refine Br.mk (fun h2 => ?_) (fun h2 => ?_) <;> (conv => whnf)
    · repeat' (first | (refine Br.tt (by first | assumption | with_reducible rfl | with_reducible exact Bool.not_false) ?_; conv => whnf) | (refine Br.ff (by first | assumption | with_reducible rfl | with_reducible exact Bool.not_true) ?_; conv => whnf) | fail)
      refine CallsA.then (refStart_ok _) ?_
      conv => whnf
      repeat' (first | (refine Br.tt (by first | assumption | with_reducible rfl | with_reducible exact Bool.not_false) ?_; conv => whnf) | (refine Br.ff (by first | assumption | with_reducible rfl | with_reducible exact Bool.not_true) ?_; conv => whnf) | fail)
      refine Br.mk (fun h3 => ?_) (fun h3 => ?_) <;> (conv => whnf)
      · repeat' (first | (refine Br.tt (by first | assumption | with_reducible rfl | with_reducible exact Bool.not_false) ?_; conv => whnf) | (refine Br.ff (by first | assumption | with_reducible rfl | with_reducible exact Bool.not_true) ?_; conv => whnf) | (refine Need.of (by first | omega | (simp; done) | (simp; omega) | (simp at *; omega)) ?_; conv => whnf) | (refine Br.mk (fun _ => ?_) (fun _ => ?_) <;> (conv => whnf)) | fail)
        have hb := nameAt_bad (f := f') (n := n) hlt (.inl (by simp at *; simp [*]))
        rw [hb] at he
        unfold nameOk; rw [he]; exact ⟨rfl, rfl⟩
      repeat' (first | (refine Br.tt (by first | assumption | with_reducible rfl | with_reducible exact Bool.not_false) ?_; conv => whnf) | (refine Br.ff (by first | assumption | with_reducible rfl | with_reducible exact Bool.not_true) ?_; conv => whnf) | fail)
      refine CallsA.then (refRest_ok _) ?_
      conv => whnf
      repeat' (first | (refine Br.tt (by first | assumption | with_reducible rfl | with_reducible exact Bool.not_false) ?_; conv => whnf) | (refine Br.ff (by first | assumption | with_reducible rfl | with_reducible exact Bool.not_true) ?_; conv => whnf) | fail)
      refine Br.mk (fun h4 => ?_) (fun h4 => ?_) <;> (conv => whnf)
      · repeat' (first | (refine Br.tt (by first | assumption | with_reducible rfl | with_reducible exact Bool.not_false) ?_; conv => whnf) | (refine Br.ff (by first | assumption | with_reducible rfl | with_reducible exact Bool.not_true) ?_; conv => whnf) | (refine Need.of (by first | omega | (simp; done) | (simp; omega) | (simp at *; omega)) ?_; conv => whnf) | (refine Br.mk (fun _ => ?_) (fun _ => ?_) <;> (conv => whnf)) | fail)
        have hb := nameAt_bad (f := f') (n := n) hlt (.inr (by simpa using h4))
        rw [hb] at he
        unfold nameOk; rw [he]; exact ⟨rfl, rfl⟩
      repeat' (first | (refine Br.tt (by first | assumption | with_reducible rfl | with_reducible exact Bool.not_false) ?_; conv => whnf) | (refine Br.ff (by first | assumption | with_reducible rfl | with_reducible exact Bool.not_true) ?_; conv => whnf) | (refine Need.of (by first | omega | (simp; done) | (simp; omega) | (simp at *; omega)) ?_; conv => whnf) | (refine Br.mk (fun _ => ?_) (fun _ => ?_) <;> (conv => whnf)) | fail)
      have hg := nameAt_go (f := f') (n := n) hlt (by simp at *; simp [*])
      rw [hg] at he
      refine ⟨f', p + (udec s p).2, n + 1, ⟨⟨he, by omega, by omega, by omega⟩, by omega⟩, Weak.of [] rfl rfl ⟨⟨_, rfl, rfl⟩, ⟨_, rfl, ?_⟩, ⟨_, rfl, ?_⟩, trivial⟩ trivial⟩
      · simp only [Pre]; rw [wrap_i64 (by omega) (by omega)]; rfl
      · simp only [Pre]; rw [wrap_i64 (by omega) (by omega)]; simp
    · repeat' (first | (refine Br.tt (by first | assumption | with_reducible rfl | with_reducible exact Bool.not_false) ?_; conv => whnf) | (refine Br.ff (by first | assumption | with_reducible rfl | with_reducible exact Bool.not_true) ?_; conv => whnf) | fail)
      refine CallsA.then (refRest_ok _) ?_
      conv => whnf
      repeat' (first | (refine Br.tt (by first | assumption | with_reducible rfl | with_reducible exact Bool.not_false) ?_; conv => whnf) | (refine Br.ff (by first | assumption | with_reducible rfl | with_reducible exact Bool.not_true) ?_; conv => whnf) | fail)
      refine Br.mk (fun h4 => ?_) (fun h4 => ?_) <;> (conv => whnf)
      · repeat' (first | (refine Br.tt (by first | assumption | with_reducible rfl | with_reducible exact Bool.not_false) ?_; conv => whnf) | (refine Br.ff (by first | assumption | with_reducible rfl | with_reducible exact Bool.not_true) ?_; conv => whnf) | (refine Need.of (by first | omega | (simp; done) | (simp; omega) | (simp at *; omega)) ?_; conv => whnf) | (refine Br.mk (fun _ => ?_) (fun _ => ?_) <;> (conv => whnf)) | fail)
        have hb := nameAt_bad (f := f') (n := n) hlt (.inr (by simpa using h4))
        rw [hb] at he
        unfold nameOk; rw [he]; exact ⟨rfl, rfl⟩
      repeat' (first | (refine Br.tt (by first | assumption | with_reducible rfl | with_reducible exact Bool.not_false) ?_; conv => whnf) | (refine Br.ff (by first | assumption | with_reducible rfl | with_reducible exact Bool.not_true) ?_; conv => whnf) | (refine Need.of (by first | omega | (simp; done) | (simp; omega) | (simp at *; omega)) ?_; conv => whnf) | (refine Br.mk (fun _ => ?_) (fun _ => ?_) <;> (conv => whnf)) | fail)
      have hg := nameAt_go (f := f') (n := n) hlt (by simp at *; simp [*])
      rw [hg] at he
      refine ⟨f', p + (udec s p).2, n + 1, ⟨⟨he, by omega, by omega, by omega⟩, by omega⟩, Weak.of [] rfl rfl ⟨⟨_, rfl, rfl⟩, ⟨_, rfl, ?_⟩, ⟨_, rfl, ?_⟩, trivial⟩ trivial⟩
      · simp only [Pre]; rw [wrap_i64 (by omega) (by omega)]; rfl
      · simp only [Pre]; rw [wrap_i64 (by omega) (by omega)]; simp
  · have hge : s.length ≤ p := by simpa using h
    rw [nameAt_end (f := f) (p := p) hge] at he
    have hO : nameOk s = (decide (1 ≤ n ∧ n ≤ 16) && !reserved s) := by unfold nameOk; rw [he]
    rw [hO]
    refine Br.mk (fun g1 => ?_) (fun g1 => ?_) <;> (conv => whnf)
    · repeat' (first | (refine Br.tt (by first | assumption | with_reducible rfl | with_reducible exact Bool.not_false) ?_; conv => whnf) | (refine Br.ff (by first | assumption | with_reducible rfl | with_reducible exact Bool.not_true) ?_; conv => whnf) | fail)
      refine Br.mk (fun g2 => ?_) (fun g2 => ?_) <;> (conv => whnf)
      · repeat' (first | (refine Br.tt (by first | assumption | with_reducible rfl | with_reducible exact Bool.not_false) ?_; conv => whnf) | (refine Br.ff (by first | assumption | with_reducible rfl | with_reducible exact Bool.not_true) ?_; conv => whnf) | fail)
        refine CallsA.then (refReserved_ok _) ?_
        conv => whnf
        repeat' (first | (refine Br.tt (by first | assumption | with_reducible rfl | with_reducible exact Bool.not_false) ?_; conv => whnf) | (refine Br.ff (by first | assumption | with_reducible rfl | with_reducible exact Bool.not_true) ?_; conv => whnf) | fail)
        have : 1 ≤ n ∧ n ≤ 16 := by simp at g1 g2; omega
        simp [this]
      · repeat' (first | (refine Br.tt (by first | assumption | with_reducible rfl | with_reducible exact Bool.not_false) ?_; conv => whnf) | (refine Br.ff (by first | assumption | with_reducible rfl | with_reducible exact Bool.not_true) ?_; conv => whnf) | (refine Need.of (by first | omega | (simp; done) | (simp; omega) | (simp at *; omega)) ?_; conv => whnf) | (refine Br.mk (fun _ => ?_) (fun _ => ?_) <;> (conv => whnf)) | fail)
        have : ¬ (1 ≤ n ∧ n ≤ 16) := by simp at g1 g2; omega
        simp [this]
    · repeat' (first | (refine Br.tt (by first | assumption | with_reducible rfl | with_reducible exact Bool.not_false) ?_; conv => whnf) | (refine Br.ff (by first | assumption | with_reducible rfl | with_reducible exact Bool.not_true) ?_; conv => whnf) | (refine Need.of (by first | omega | (simp; done) | (simp; omega) | (simp at *; omega)) ?_; conv => whnf) | (refine Br.mk (fun _ => ?_) (fun _ => ?_) <;> (conv => whnf)) | fail)
      have : ¬ (1 ≤ n ∧ n ≤ 16) := by simp at g1; omega
      simp [this]
end Go.Proofs.L08

namespace Go.Proofs.L08
open Go Aw Go.Proofs
variable {W0 : World}
theorem udec_spec (s : List UInt8) (p : Nat) : ((s.getD p 0).toNat < 128 → (udec s p).1 = (s.getD p 0).toNat ∧ (udec s p).2 = 1) ∧ (¬ (s.getD p 0).toNat < 128 → 128 ≤ (udec s p).1) ∧
    (∀ j, 1 ≤ j → j < (udec s p).2 → 128 ≤ (s.getD (p + j) 0).toNat ∧ p + j < s.length) := by
  rw [udec_decN]
  have b0 := (s.getD p 0).toNat_lt
  have key : ∀ j, 1 ≤ j → j < 4 → ∀ x, (s.getD (p + j) 0).toNat = x → (x / 64 = 2 → 128 ≤ x) := fun j _ _ x _ h => by omega
  generalize h0 : (s.getD p 0).toNat = x0 at *
  generalize h1 : (s.getD (p + 1) 0).toNat = x1 at *
  generalize h2 : (s.getD (p + 2) 0).toNat = x2 at *
  generalize h3 : (s.getD (p + 3) 0).toNat = x3 at *
  have fin : ∀ (w : Nat), (2 ≤ w → x1 / 64 = 2 ∧ p + 1 < s.length) → (3 ≤ w → x2 / 64 = 2 ∧ p + 2 < s.length) → (4 ≤ w → x3 / 64 = 2 ∧ p + 3 < s.length) → w ≤ 4 →
      ∀ j, 1 ≤ j → j < w → 128 ≤ (s.getD (p + j) 0).toNat ∧ p + j < s.length := by
    intro w k1 k2 k3 k4 j hj1 hj2
    have : j = 1 ∨ j = 2 ∨ j = 3 := by omega
    rcases this with rfl | rfl | rfl
    · rw [h1]; have := k1 (by omega); omega
    · rw [h2]; have := k2 (by omega); omega
    · rw [h3]; have := k3 (by omega); omega
  unfold decN
  by_cases c0 : x0 < 128
  · rw [if_pos c0]
    exact ⟨fun _ => ⟨rfl, rfl⟩, fun h => absurd c0 h, fun j h1 h2 => by simp at h2; omega⟩
  rw [if_neg c0]
  refine ⟨fun h => absurd h c0, fun _ => ?_, ?_⟩
  · repeat' split
    all_goals simp only
    all_goals omega
  · apply fin
    all_goals (repeat' split)
    all_goals simp only
    all_goals omega
set_option linter.unusedSimpArgs false in
set_option maxRecDepth 100000 in
set_option maxHeartbeats 4000000 in
theorem name_ok (s : List UInt8) (hs : s.length < 4611686018427387904) : CallsA Tryd.prog W0 61 [] [.d (.str s)] fun rs os => rs = [.d (.bool (nameOk s))] ∧ os = [] := by
  refine calls_of_awpC tok [.tmp 2] Tryd.func61 rfl rfl rfl rfl rfl ?_
  ((conv => whnf); (repeat' (first | (refine Br.tt (by first | assumption | with_reducible rfl | with_reducible exact Bool.not_false) ?_; conv => whnf) | (refine Br.ff (by first | assumption | with_reducible rfl | with_reducible exact Bool.not_true) ?_; conv => whnf) | fail)))
  refine loop_by3 (fun (f p n : Nat) => nameAt s s.length 0 0 = nameAt s f p n ∧ s.length ≤ p + f ∧ n ≤ p ∧ p ≤ s.length ∧ (p = 0 ↔ n = 0)) (fun _ p n => mkT [(0, .d (.str s)), (3, .d (.int .i64 n)), (7, .ptr 7 0)]) (fun _ p _ => mkT [(7, .iter s p)]) (fun _ p _ => s.length + 4 - p) s.length 0 0 ⟨rfl, by omega, by omega, by omega, by simp⟩
    (Weak.of [] rfl rfl ⟨⟨_, rfl, rfl⟩, ⟨_, rfl, rfl⟩, ⟨_, rfl, rfl⟩, trivial⟩ ⟨rfl, trivial⟩) ?_
  intro f p n ⟨he, hf, hn, hp, hpn⟩
  ((conv => whnf); (repeat' (first | (refine Br.tt (by first | assumption | with_reducible rfl | with_reducible exact Bool.not_false) ?_; conv => whnf) | (refine Br.ff (by first | assumption | with_reducible rfl | with_reducible exact Bool.not_true) ?_; conv => whnf) | fail)))
  ((repeat' (first | (refine Br.tt (by first | assumption | with_reducible rfl | with_reducible exact Bool.not_false) ?_; conv => whnf) | (refine Br.ff (by first | assumption | with_reducible rfl | with_reducible exact Bool.not_true) ?_; conv => whnf) | fail)); (refine Br.mk (fun h => ?_) (fun h => ?_) <;> ((conv => whnf); (repeat' (first | (refine Br.tt (by first | assumption | with_reducible rfl | with_reducible exact Bool.not_false) ?_; conv => whnf) | (refine Br.ff (by first | assumption | with_reducible rfl | with_reducible exact Bool.not_true) ?_; conv => whnf) | fail)))))
  · have hlt : p < s.length := by simpa using h
    have hu := udec_spec s p
    have hwd := udec_wide s p
    have hpw : p + (udec s p).2 ≤ s.length := by
      by_cases h2 : (udec s p).2 = 1
      · omega
      · have := hu.2.2 ((udec s p).2 - 1) (by omega) (by omega); omega
    obtain ⟨f', rfl⟩ : ∃ f', f = f' + 1 := ⟨f - 1, by omega⟩
    have hnb : (((p : Int)) == 0) = decide (n = 0) := by
      rw [Bool.eq_iff_iff]; simp; omega
    ((repeat' (first | (refine Br.tt (by first | assumption | with_reducible rfl | with_reducible exact Bool.not_false) ?_; conv => whnf) | (refine Br.ff (by first | assumption | with_reducible rfl | with_reducible exact Bool.not_true) ?_; conv => whnf) | fail)); (refine Br.mk (fun h2 => ?_) (fun h2 => ?_) <;> ((conv => whnf); (repeat' (first | (refine Br.tt (by first | assumption | with_reducible rfl | with_reducible exact Bool.not_false) ?_; conv => whnf) | (refine Br.ff (by first | assumption | with_reducible rfl | with_reducible exact Bool.not_true) ?_; conv => whnf) | fail)))))
    · refine CallsA.then (start_ok _) ?_
      ((conv => whnf); (repeat' (first | (refine Br.tt (by first | assumption | with_reducible rfl | with_reducible exact Bool.not_false) ?_; conv => whnf) | (refine Br.ff (by first | assumption | with_reducible rfl | with_reducible exact Bool.not_true) ?_; conv => whnf) | fail)))
      ((repeat' (first | (refine Br.tt (by first | assumption | with_reducible rfl | with_reducible exact Bool.not_false) ?_; conv => whnf) | (refine Br.ff (by first | assumption | with_reducible rfl | with_reducible exact Bool.not_true) ?_; conv => whnf) | fail)); (refine Br.mk (fun h3 => ?_) (fun h3 => ?_) <;> ((conv => whnf); (repeat' (first | (refine Br.tt (by first | assumption | with_reducible rfl | with_reducible exact Bool.not_false) ?_; conv => whnf) | (refine Br.ff (by first | assumption | with_reducible rfl | with_reducible exact Bool.not_true) ?_; conv => whnf) | fail)))))
      · repeat' (first | (refine Br.tt (by first | assumption | with_reducible rfl | with_reducible exact Bool.not_false) ?_; conv => whnf) | (refine Br.ff (by first | assumption | with_reducible rfl | with_reducible exact Bool.not_true) ?_; conv => whnf) | (refine Need.of (by first | omega | (simp; done) | (simp; omega) | (simp at *; omega)) ?_; conv => whnf) | (refine Br.mk (fun _ => ?_) (fun _ => ?_) <;> (conv => whnf)) | fail)
        have hb := nameAt_bad (f := f') (n := n) hlt (.inl ⟨by simp at h2; omega, by simpa using h3⟩)
        rw [hb] at he
        unfold nameOk; rw [he]; exact ⟨rfl, by trivial⟩
      refine CallsA.then (rest_ok _) ?_
      ((conv => whnf); (repeat' (first | (refine Br.tt (by first | assumption | with_reducible rfl | with_reducible exact Bool.not_false) ?_; conv => whnf) | (refine Br.ff (by first | assumption | with_reducible rfl | with_reducible exact Bool.not_true) ?_; conv => whnf) | fail)))
      ((repeat' (first | (refine Br.tt (by first | assumption | with_reducible rfl | with_reducible exact Bool.not_false) ?_; conv => whnf) | (refine Br.ff (by first | assumption | with_reducible rfl | with_reducible exact Bool.not_true) ?_; conv => whnf) | fail)); (refine Br.mk (fun h4 => ?_) (fun h4 => ?_) <;> ((conv => whnf); (repeat' (first | (refine Br.tt (by first | assumption | with_reducible rfl | with_reducible exact Bool.not_false) ?_; conv => whnf) | (refine Br.ff (by first | assumption | with_reducible rfl | with_reducible exact Bool.not_true) ?_; conv => whnf) | fail)))))
      · repeat' (first | (refine Br.tt (by first | assumption | with_reducible rfl | with_reducible exact Bool.not_false) ?_; conv => whnf) | (refine Br.ff (by first | assumption | with_reducible rfl | with_reducible exact Bool.not_true) ?_; conv => whnf) | (refine Need.of (by first | omega | (simp; done) | (simp; omega) | (simp at *; omega)) ?_; conv => whnf) | (refine Br.mk (fun _ => ?_) (fun _ => ?_) <;> (conv => whnf)) | fail)
        have hb := nameAt_bad (f := f') (n := n) hlt (.inr (by simpa using h4))
        rw [hb] at he
        unfold nameOk; rw [he]; exact ⟨rfl, by trivial⟩
      have hg := nameAt_go (f := f') (n := n) hlt (by simp at h3 h4; simp [h3, h4])
      rw [hg] at he
      refine ⟨f', p + (udec s p).2, n + 1, ⟨⟨he, by omega, by omega, by omega, by omega⟩, by omega⟩, Weak.of [] rfl rfl ⟨⟨_, rfl, rfl⟩, ⟨_, rfl, ?_⟩, ⟨_, rfl, rfl⟩, trivial⟩ ⟨rfl, trivial⟩⟩
      simp only [Pre]; rw [wrap_i64 (by omega) (by omega)]; rfl
    · refine CallsA.then (rest_ok _) ?_
      ((conv => whnf); (repeat' (first | (refine Br.tt (by first | assumption | with_reducible rfl | with_reducible exact Bool.not_false) ?_; conv => whnf) | (refine Br.ff (by first | assumption | with_reducible rfl | with_reducible exact Bool.not_true) ?_; conv => whnf) | fail)))
      ((repeat' (first | (refine Br.tt (by first | assumption | with_reducible rfl | with_reducible exact Bool.not_false) ?_; conv => whnf) | (refine Br.ff (by first | assumption | with_reducible rfl | with_reducible exact Bool.not_true) ?_; conv => whnf) | fail)); (refine Br.mk (fun h4 => ?_) (fun h4 => ?_) <;> ((conv => whnf); (repeat' (first | (refine Br.tt (by first | assumption | with_reducible rfl | with_reducible exact Bool.not_false) ?_; conv => whnf) | (refine Br.ff (by first | assumption | with_reducible rfl | with_reducible exact Bool.not_true) ?_; conv => whnf) | fail)))))
      · repeat' (first | (refine Br.tt (by first | assumption | with_reducible rfl | with_reducible exact Bool.not_false) ?_; conv => whnf) | (refine Br.ff (by first | assumption | with_reducible rfl | with_reducible exact Bool.not_true) ?_; conv => whnf) | (refine Need.of (by first | omega | (simp; done) | (simp; omega) | (simp at *; omega)) ?_; conv => whnf) | (refine Br.mk (fun _ => ?_) (fun _ => ?_) <;> (conv => whnf)) | fail)
        have hb := nameAt_bad (f := f') (n := n) hlt (.inr (by simpa using h4))
        rw [hb] at he
        unfold nameOk; rw [he]; exact ⟨rfl, by trivial⟩
      have hn0 : n ≠ 0 := by simp at h2; omega
      have hg := nameAt_go (f := f') (n := n) hlt (by simp at h4; simp [h4, hn0])
      rw [hg] at he
      refine ⟨f', p + (udec s p).2, n + 1, ⟨⟨he, by omega, by omega, by omega, by omega⟩, by omega⟩, Weak.of [] rfl rfl ⟨⟨_, rfl, rfl⟩, ⟨_, rfl, ?_⟩, ⟨_, rfl, rfl⟩, trivial⟩ ⟨rfl, trivial⟩⟩
      simp only [Pre]; rw [wrap_i64 (by omega) (by omega)]; rfl
  · have hge : s.length ≤ p := by simpa using h
    rw [nameAt_end (f := f) (p := p) hge] at he
    have hO : nameOk s = (decide (1 ≤ n ∧ n ≤ 16) && !reserved s) := by unfold nameOk; rw [he]
    rw [hO]
    ((repeat' (first | (refine Br.tt (by first | assumption | with_reducible rfl | with_reducible exact Bool.not_false) ?_; conv => whnf) | (refine Br.ff (by first | assumption | with_reducible rfl | with_reducible exact Bool.not_true) ?_; conv => whnf) | fail)); (refine Br.mk (fun g1 => ?_) (fun g1 => ?_) <;> ((conv => whnf); (repeat' (first | (refine Br.tt (by first | assumption | with_reducible rfl | with_reducible exact Bool.not_false) ?_; conv => whnf) | (refine Br.ff (by first | assumption | with_reducible rfl | with_reducible exact Bool.not_true) ?_; conv => whnf) | fail)))))
    · ((repeat' (first | (refine Br.tt (by first | assumption | with_reducible rfl | with_reducible exact Bool.not_false) ?_; conv => whnf) | (refine Br.ff (by first | assumption | with_reducible rfl | with_reducible exact Bool.not_true) ?_; conv => whnf) | fail)); (refine Br.mk (fun g2 => ?_) (fun g2 => ?_) <;> ((conv => whnf); (repeat' (first | (refine Br.tt (by first | assumption | with_reducible rfl | with_reducible exact Bool.not_false) ?_; conv => whnf) | (refine Br.ff (by first | assumption | with_reducible rfl | with_reducible exact Bool.not_true) ?_; conv => whnf) | fail)))))
      · refine CallsA.then (reserved_ok _) ?_
        ((conv => whnf); (repeat' (first | (refine Br.tt (by first | assumption | with_reducible rfl | with_reducible exact Bool.not_false) ?_; conv => whnf) | (refine Br.ff (by first | assumption | with_reducible rfl | with_reducible exact Bool.not_true) ?_; conv => whnf) | fail)))
        have : 1 ≤ n ∧ n ≤ 16 := by simp at g1 g2; omega
        simp [this]
      · repeat' (first | (refine Br.tt (by first | assumption | with_reducible rfl | with_reducible exact Bool.not_false) ?_; conv => whnf) | (refine Br.ff (by first | assumption | with_reducible rfl | with_reducible exact Bool.not_true) ?_; conv => whnf) | (refine Need.of (by first | omega | (simp; done) | (simp; omega) | (simp at *; omega)) ?_; conv => whnf) | (refine Br.mk (fun _ => ?_) (fun _ => ?_) <;> (conv => whnf)) | fail)
        have : ¬ (1 ≤ n ∧ n ≤ 16) := by simp at g1 g2; omega
        simp [this]
    · repeat' (first | (refine Br.tt (by first | assumption | with_reducible rfl | with_reducible exact Bool.not_false) ?_; conv => whnf) | (refine Br.ff (by first | assumption | with_reducible rfl | with_reducible exact Bool.not_true) ?_; conv => whnf) | (refine Need.of (by first | omega | (simp; done) | (simp; omega) | (simp at *; omega)) ?_; conv => whnf) | (refine Br.mk (fun _ => ?_) (fun _ => ?_) <;> (conv => whnf)) | fail)
      have : ¬ (1 ≤ n ∧ n ≤ 16) := by simp at g1; omega
      simp [this]
end Go.Proofs.L08

namespace Go.Proofs.L08
open Go Aw Go.Proofs
variable {W0 : World}
theorem nameOk_nil : nameOk [] = false := rfl
/-- Is a term's own node well made? -/
def wellT (op num : Int) (name : List UInt8) (n : Nat) : Bool :=
  if op = 0 then decide (0 ≤ num) && decide (name = []) && decide (n = 0)
  else if op = 1 then decide (num = 0) && nameOk name && decide (n = 0)
  else if op = 2 then decide (num = 0) && decide (name = []) && decide (n = 1)
  else if op = 3 ∨ op = 4 ∨ op = 5 then decide (num = 0) && decide (name = []) && decide (n = 2)
  else false
set_option linter.unusedSimpArgs false in
set_option maxRecDepth 100000 in
set_option maxHeartbeats 4000000 in
theorem wellTerm_ok (op num : Int) (name : List UInt8) (args : List DV) (hn : name.length < 4611686018427387904) : CallsA Tryd.prog W0 60 [] [.d (.agg [.int .i64 op, .int .i64 num, .str name, .sl args])]
    fun rs os => rs = [.d (.bool (wellT op num name args.length))] ∧ os = [] := by
  refine calls_of_awpC tok [.tmp 2] Tryd.func60 rfl rfl rfl rfl rfl ?_
  by_cases hr : op < 0 ∨ 5 < op
  · have hO : wellT op num name args.length = false := by
      unfold wellT
      rw [if_neg (by omega), if_neg (by omega), if_neg (by omega), if_neg (by omega)]
    rw [hO]
    ((conv => whnf); (repeat' (first | (refine Br.tt (by first | assumption | with_reducible rfl | with_reducible exact Bool.not_false) ?_; conv => whnf) | (refine Br.ff (by first | assumption | with_reducible rfl | with_reducible exact Bool.not_true) ?_; conv => whnf) | fail)))
    repeat' (first | (refine Br.tt (by first | assumption | with_reducible rfl | with_reducible exact Bool.not_false) ?_; conv => whnf) | (refine Br.ff (by first | assumption | with_reducible rfl | with_reducible exact Bool.not_true) ?_; conv => whnf) | (refine Need.of (by first | omega | (simp; done) | (simp; omega) | (simp at *; omega)) ?_; conv => whnf) | (refine Br.mk (fun _ => ?_) (fun _ => ?_) <;> (conv => whnf)) | fail)
    all_goals simp only [decide_eq_true_eq, decide_eq_false_iff_not] at *
    all_goals first | omega | exact ⟨rfl, by trivial⟩ | exact ⟨trivial, trivial⟩
  have hop : op = 0 ∨ op = 1 ∨ op = 2 ∨ op = 3 ∨ op = 4 ∨ op = 5 := by omega
  clear hr
  rcases hop with rfl | rfl | rfl | rfl | rfl | rfl
  all_goals (
    ((conv => whnf); (repeat' (first | (refine Br.tt (by first | assumption | with_reducible rfl | with_reducible exact Bool.not_false) ?_; conv => whnf) | (refine Br.ff (by first | assumption | with_reducible rfl | with_reducible exact Bool.not_true) ?_; conv => whnf) | (refine Br.tt rfl ?_; conv => whnf) | (refine Br.ff rfl ?_; conv => whnf) | fail)))
    (repeat' (first | (refine Br.tt (by first | assumption | with_reducible rfl | with_reducible exact Bool.not_false) ?_; conv => whnf) | (refine Br.ff (by first | assumption | with_reducible rfl | with_reducible exact Bool.not_true) ?_; conv => whnf) | (refine Br.tt rfl ?_; conv => whnf) | (refine Br.ff rfl ?_; conv => whnf) | (refine Br.mk (fun _ => ?_) (fun _ => ?_) <;> (conv => whnf)) | fail)))
  all_goals first
    | (have hO : ∃ b, b = false ∧ [PV.d (DV.bool b)] = [PV.d (DV.bool false)] := ⟨_, rfl, rfl⟩
       refine ⟨?_, by trivial⟩
       simp_all [wellT, nameOk_nil]
       done)
    | (refine Need.of (by simp [DV.width, DV.cells]) ?_
       ((conv => whnf); (repeat' (first | (refine Br.tt (by first | assumption | with_reducible rfl | with_reducible exact Bool.not_false) ?_; conv => whnf) | (refine Br.ff (by first | assumption | with_reducible rfl | with_reducible exact Bool.not_true) ?_; conv => whnf) | (refine Br.tt rfl ?_; conv => whnf) | (refine Br.ff rfl ?_; conv => whnf) | fail)))
       refine ⟨by kernel_rfl, ?_⟩
       ((conv => whnf); (repeat' (first | (refine Br.tt (by first | assumption | with_reducible rfl | with_reducible exact Bool.not_false) ?_; conv => whnf) | (refine Br.ff (by first | assumption | with_reducible rfl | with_reducible exact Bool.not_true) ?_; conv => whnf) | (refine Br.tt rfl ?_; conv => whnf) | (refine Br.ff rfl ?_; conv => whnf) | fail))))
  all_goals (
    refine Need.of ⟨by decide, by decide⟩ ?_
    ((conv => whnf); (repeat' (first | (refine Br.tt (by first | assumption | with_reducible rfl | with_reducible exact Bool.not_false) ?_; conv => whnf) | (refine Br.ff (by first | assumption | with_reducible rfl | with_reducible exact Bool.not_true) ?_; conv => whnf) | (refine Br.tt rfl ?_; conv => whnf) | (refine Br.ff rfl ?_; conv => whnf) | fail))))
  all_goals first
    | refine GetD.of (DV.int .i64 0) rfl ?_
    | refine GetD.of (DV.int .i64 1) rfl ?_
    | refine GetD.of (DV.int .i64 2) rfl ?_
  all_goals (
    ((conv => whnf); (repeat' (first | (refine Br.tt (by first | assumption | with_reducible rfl | with_reducible exact Bool.not_false) ?_; conv => whnf) | (refine Br.ff (by first | assumption | with_reducible rfl | with_reducible exact Bool.not_true) ?_; conv => whnf) | (refine Br.tt rfl ?_; conv => whnf) | (refine Br.ff rfl ?_; conv => whnf) | fail)))
    (repeat' (first | (refine Br.tt (by first | assumption | with_reducible rfl | with_reducible exact Bool.not_false) ?_; conv => whnf) | (refine Br.ff (by first | assumption | with_reducible rfl | with_reducible exact Bool.not_true) ?_; conv => whnf) | (refine Br.tt rfl ?_; conv => whnf) | (refine Br.ff rfl ?_; conv => whnf) | (refine Br.mk (fun _ => ?_) (fun _ => ?_) <;> (conv => whnf)) | fail)))
  all_goals first
    | (refine CallD.of (refName_ok name hn) ?_
       ((conv => whnf); (repeat' (first | (refine Br.tt (by first | assumption | with_reducible rfl | with_reducible exact Bool.not_false) ?_; conv => whnf) | (refine Br.ff (by first | assumption | with_reducible rfl | with_reducible exact Bool.not_true) ?_; conv => whnf) | (refine Br.tt rfl ?_; conv => whnf) | (refine Br.ff rfl ?_; conv => whnf) | fail)))
       (repeat' (first | (refine Br.tt (by first | assumption | with_reducible rfl | with_reducible exact Bool.not_false) ?_; conv => whnf) | (refine Br.ff (by first | assumption | with_reducible rfl | with_reducible exact Bool.not_true) ?_; conv => whnf) | (refine Br.tt rfl ?_; conv => whnf) | (refine Br.ff rfl ?_; conv => whnf) | (refine Br.mk (fun _ => ?_) (fun _ => ?_) <;> (conv => whnf)) | fail)))
    | skip
  all_goals (
    refine ⟨?_, by trivial⟩
    first
      | (simp_all [wellT, nameOk_nil]; done)
      | (simp_all [wellT, nameOk_nil]; omega))
end Go.Proofs.L08

namespace Go.Proofs.L08
open Go Aw Go.Proofs
variable {W0 : World}
theorem nb0 (n : Nat) : ((n : Int) == 0) = decide (n = 0) := by rw [Bool.eq_iff_iff]; simp
theorem nb1 (n : Nat) : ((n : Int) == 1) = decide (n = 1) := by rw [Bool.eq_iff_iff]; simp; omega
theorem nb2 (n : Nat) : ((n : Int) == 2) = decide (n = 2) := by rw [Bool.eq_iff_iff]; simp; omega
set_option linter.unusedSimpArgs false in
set_option maxRecDepth 100000 in
set_option maxHeartbeats 4000000 in
theorem treeTerm_ok (op num : Int) (name : List UInt8) (args : List DV) (hn : name.length < 4611686018427387904) : CallsA Tryd.prog W0 62 [] [.d (.agg [.int .i64 op, .int .i64 num, .str name, .sl args])]
    fun rs os => rs = [.d (.bool (wellT op num name args.length))] ∧ os = [] := by
  refine calls_of_awpC tok [.tmp 2] Tryd.func62 rfl rfl rfl rfl rfl ?_
  by_cases hr : op < 0 ∨ 5 < op
  · have hO : wellT op num name args.length = false := by
      unfold wellT
      rw [if_neg (by omega), if_neg (by omega), if_neg (by omega), if_neg (by omega)]
    have f0 : (op == 0) = false := by rw [beq_eq_false_iff_ne]; omega
    have f1 : (op == 1) = false := by rw [beq_eq_false_iff_ne]; omega
    have f2 : (op == 2) = false := by rw [beq_eq_false_iff_ne]; omega
    have f3 : (op == 3) = false := by rw [beq_eq_false_iff_ne]; omega
    have f4 : (op == 4) = false := by rw [beq_eq_false_iff_ne]; omega
    have f5 : (op == 5) = false := by rw [beq_eq_false_iff_ne]; omega
    rw [hO]
    ((conv => whnf); (repeat' (first | (refine Br.tt (by first | assumption | with_reducible rfl | with_reducible exact Bool.not_false) ?_; conv => whnf) | (refine Br.ff (by first | assumption | with_reducible rfl | with_reducible exact Bool.not_true) ?_; conv => whnf) | fail)))
    refine ⟨by kernel_rfl, ?_⟩
    ((conv => whnf); (repeat' (first | (refine Br.tt (by first | assumption | with_reducible rfl | with_reducible exact Bool.not_false) ?_; conv => whnf) | (refine Br.ff (by first | assumption | with_reducible rfl | with_reducible exact Bool.not_true) ?_; conv => whnf) | fail)))
    exact ⟨rfl, by trivial⟩
  have hop : op = 0 ∨ op = 1 ∨ op = 2 ∨ op = 3 ∨ op = 4 ∨ op = 5 := by omega
  clear hr
  rcases hop with rfl | rfl | rfl | rfl | rfl | rfl
  all_goals (
    ((conv => whnf); (repeat' (first | (refine Br.tt (by first | assumption | with_reducible rfl | with_reducible exact Bool.not_false) ?_; conv => whnf) | (refine Br.ff (by first | assumption | with_reducible rfl | with_reducible exact Bool.not_true) ?_; conv => whnf) | (refine Br.tt rfl ?_; conv => whnf) | (refine Br.ff rfl ?_; conv => whnf) | fail)))
    refine ⟨by kernel_rfl, ?_⟩
    ((conv => whnf); (repeat' (first | (refine Br.tt (by first | assumption | with_reducible rfl | with_reducible exact Bool.not_false) ?_; conv => whnf) | (refine Br.ff (by first | assumption | with_reducible rfl | with_reducible exact Bool.not_true) ?_; conv => whnf) | (refine Br.tt rfl ?_; conv => whnf) | (refine Br.ff rfl ?_; conv => whnf) | fail)))
    (repeat' (first | (refine Br.tt (by first | assumption | with_reducible rfl | with_reducible exact Bool.not_false) ?_; conv => whnf) | (refine Br.ff (by first | assumption | with_reducible rfl | with_reducible exact Bool.not_true) ?_; conv => whnf) | (refine Br.tt rfl ?_; conv => whnf) | (refine Br.ff rfl ?_; conv => whnf) | (refine Br.mk (fun _ => ?_) (fun _ => ?_) <;> (conv => whnf)) | fail)))
  all_goals first
    | (refine CallsA.then (name_ok name hn) ?_
       ((conv => whnf); (repeat' (first | (refine Br.tt (by first | assumption | with_reducible rfl | with_reducible exact Bool.not_false) ?_; conv => whnf) | (refine Br.ff (by first | assumption | with_reducible rfl | with_reducible exact Bool.not_true) ?_; conv => whnf) | (refine Br.tt rfl ?_; conv => whnf) | (refine Br.ff rfl ?_; conv => whnf) | fail)))
       (repeat' (first | (refine Br.tt (by first | assumption | with_reducible rfl | with_reducible exact Bool.not_false) ?_; conv => whnf) | (refine Br.ff (by first | assumption | with_reducible rfl | with_reducible exact Bool.not_true) ?_; conv => whnf) | (refine Br.tt rfl ?_; conv => whnf) | (refine Br.ff rfl ?_; conv => whnf) | (refine Br.mk (fun _ => ?_) (fun _ => ?_) <;> (conv => whnf)) | fail)))
    | skip
  all_goals (
    refine ⟨?_, by trivial⟩
    first
      | (simp_all [wellT, nameOk_nil, nb0, nb1, nb2]; done)
      | (simp_all [wellT, nameOk_nil, nb0, nb1, nb2]; omega))
end Go.Proofs.L08

namespace Go.Proofs.L08
open Go Aw Go.Proofs
variable {W0 : World}
/-- Is a formula's own node well made? -/
def wellF (op : Int) (name : List UInt8) (md : Int) (t n : Nat) : Bool :=
  if op = 0 ∨ op = 1 then decide (name = []) && decide (md = 0) && decide (t = 0) && decide (n = 0)
  else if op = 2 then decide (name = []) && decide (md = 0) && decide (t = 0) && decide (n = 1)
  else if 3 ≤ op ∧ op ≤ 6 then decide (name = []) && decide (md = 0) && decide (t = 0) && decide (n = 2)
  else if op = 7 ∨ op = 8 then nameOk name && decide (md = 0) && decide (t = 0) && decide (n = 1)
  else if 9 ≤ op ∧ op ≤ 14 then decide (name = []) && decide (md = 0) && decide (t = 2) && decide (n = 0)
  else if op = 15 then decide (name = []) && decide (1 ≤ md) && decide (t = 2) && decide (n = 0)
  else false
set_option linter.unusedSimpArgs false in
set_option maxRecDepth 100000 in
set_option maxHeartbeats 4000000 in
theorem treeFormula_ok (op : Int) (name : List UInt8) (md : Int) (ts fs : List DV) (hn : name.length < 4611686018427387904) : CallsA Tryd.prog W0 42 [] [.d (.agg [.int .i64 op, .str name, .int .i64 md, .sl ts, .sl fs])]
    fun rs os => rs = [.d (.bool (wellF op name md ts.length fs.length))] ∧ os = [] := by
  refine calls_of_awpC tok [.tmp 2] Tryd.func42 rfl rfl rfl rfl rfl ?_
  have nm : ∀ (b : Bool) (x y : List PV), x = y → (x = y ∧ ([] : List (List PV)) = []) := fun _ _ _ h => ⟨h, rfl⟩
  ((conv => whnf); (repeat' (first | (refine Br.tt (by first | assumption | with_reducible rfl | with_reducible exact Bool.not_false) ?_; conv => whnf) | (refine Br.ff (by first | assumption | with_reducible rfl | with_reducible exact Bool.not_true) ?_; conv => whnf) | (refine Br.tt rfl ?_; conv => whnf) | (refine Br.ff rfl ?_; conv => whnf) | fail)))
  cases h1 : (name == ({ data := #[] } : ByteArray).data.toList) <;> cases h2 : (md == 0)
  all_goals (
    ((conv => whnf); (repeat' (first | (refine Br.tt (by first | assumption | with_reducible rfl | with_reducible exact Bool.not_false) ?_; conv => whnf) | (refine Br.ff (by first | assumption | with_reducible rfl | with_reducible exact Bool.not_true) ?_; conv => whnf) | (refine Br.tt rfl ?_; conv => whnf) | (refine Br.ff rfl ?_; conv => whnf) | fail)))
    refine ⟨by kernel_rfl, ?_⟩
    ((conv => whnf); (repeat' (first | (refine Br.tt (by first | assumption | with_reducible rfl | with_reducible exact Bool.not_false) ?_; conv => whnf) | (refine Br.ff (by first | assumption | with_reducible rfl | with_reducible exact Bool.not_true) ?_; conv => whnf) | (refine Br.tt rfl ?_; conv => whnf) | (refine Br.ff rfl ?_; conv => whnf) | fail)))
    (repeat' (first | (refine Br.tt (by first | assumption | with_reducible rfl | with_reducible exact Bool.not_false) ?_; conv => whnf) | (refine Br.ff (by first | assumption | with_reducible rfl | with_reducible exact Bool.not_true) ?_; conv => whnf) | (refine Br.tt rfl ?_; conv => whnf) | (refine Br.ff rfl ?_; conv => whnf) | (refine Br.mk (fun _ => ?_) (fun _ => ?_) <;> (conv => whnf)) | fail)))
  all_goals first
    | (refine CallsA.then (name_ok name hn) ?_
       ((conv => whnf); (repeat' (first | (refine Br.tt (by first | assumption | with_reducible rfl | with_reducible exact Bool.not_false) ?_; conv => whnf) | (refine Br.ff (by first | assumption | with_reducible rfl | with_reducible exact Bool.not_true) ?_; conv => whnf) | (refine Br.tt rfl ?_; conv => whnf) | (refine Br.ff rfl ?_; conv => whnf) | fail)))
       (repeat' (first | (refine Br.tt (by first | assumption | with_reducible rfl | with_reducible exact Bool.not_false) ?_; conv => whnf) | (refine Br.ff (by first | assumption | with_reducible rfl | with_reducible exact Bool.not_true) ?_; conv => whnf) | (refine Br.tt rfl ?_; conv => whnf) | (refine Br.ff rfl ?_; conv => whnf) | (refine Br.mk (fun _ => ?_) (fun _ => ?_) <;> (conv => whnf)) | fail)))
    | skip
  all_goals first
    | (refine ⟨?_, by trivial⟩
       simp only [wellF, nb0, nb1, nb2, decide_eq_true_eq, decide_eq_false_iff_not, beq_iff_eq, beq_eq_false_iff_ne, ge_iff_le] at *
       first
         | omega
         | (simp_all [nameOk_nil]; done)
         | (simp_all [nameOk_nil]; omega)
         | (rw [if_neg (by omega), if_neg (by omega), if_neg (by omega), if_neg (by omega), if_neg (by omega), if_neg (by omega)]; simp_all; done)
         | (rw [if_neg (by omega), if_neg (by omega), if_neg (by omega), if_neg (by omega), if_neg (by omega), if_neg (by omega)]))
end Go.Proofs.L08

namespace Go.Proofs.L08
open Go Aw Go.Proofs
variable {W0 : World}
set_option linter.unusedSimpArgs false in
set_option maxRecDepth 100000 in
set_option maxHeartbeats 4000000 in
theorem wellMade_ok (op : Int) (name : List UInt8) (md : Int) (ts fs : List DV) (hn : name.length < 4611686018427387904) : CallsA Tryd.prog W0 39 [] [.d (.agg [.int .i64 op, .str name, .int .i64 md, .sl ts, .sl fs])]
    fun rs os => rs = [.d (.bool (wellF op name md ts.length fs.length))] ∧ os = [] := by
  refine calls_of_awpC tok [.tmp 2] Tryd.func39 rfl rfl rfl rfl rfl ?_
  by_cases hr : op < 0 ∨ 15 < op
  · have hO : wellF op name md ts.length fs.length = false := by
      unfold wellF
      rw [if_neg (by omega), if_neg (by omega), if_neg (by omega), if_neg (by omega), if_neg (by omega), if_neg (by omega)]
    rw [hO]
    ((conv => whnf); (repeat' (first | (refine Br.tt (by first | assumption | with_reducible rfl | with_reducible exact Bool.not_false) ?_; conv => whnf) | (refine Br.ff (by first | assumption | with_reducible rfl | with_reducible exact Bool.not_true) ?_; conv => whnf) | fail)))
    repeat' (first | (refine Br.tt (by first | assumption | with_reducible rfl | with_reducible exact Bool.not_false) ?_; conv => whnf) | (refine Br.ff (by first | assumption | with_reducible rfl | with_reducible exact Bool.not_true) ?_; conv => whnf) | (refine Need.of (by first | omega | (simp; done) | (simp; omega) | (simp at *; omega)) ?_; conv => whnf) | (refine Br.mk (fun _ => ?_) (fun _ => ?_) <;> (conv => whnf)) | fail)
    all_goals simp only [decide_eq_true_eq, decide_eq_false_iff_not] at *
    all_goals first | omega | exact ⟨rfl, by trivial⟩ | exact ⟨trivial, trivial⟩
  have hop : op = 0 ∨ op = 1 ∨ op = 2 ∨ op = 3 ∨ op = 4 ∨ op = 5 ∨ op = 6 ∨ op = 7 ∨ op = 8 ∨ op = 9 ∨ op = 10 ∨ op = 11 ∨ op = 12 ∨ op = 13 ∨ op = 14 ∨ op = 15 := by omega
  clear hr
  rcases hop with rfl | rfl | rfl | rfl | rfl | rfl | rfl | rfl | rfl | rfl | rfl | rfl | rfl | rfl | rfl | rfl
  all_goals (
    ((conv => whnf); (repeat' (first | (refine Br.tt (by first | assumption | with_reducible rfl | with_reducible exact Bool.not_false) ?_; conv => whnf) | (refine Br.ff (by first | assumption | with_reducible rfl | with_reducible exact Bool.not_true) ?_; conv => whnf) | (refine Br.tt rfl ?_; conv => whnf) | (refine Br.ff rfl ?_; conv => whnf) | fail)))
    (repeat' (first | (refine Br.tt (by first | assumption | with_reducible rfl | with_reducible exact Bool.not_false) ?_; conv => whnf) | (refine Br.ff (by first | assumption | with_reducible rfl | with_reducible exact Bool.not_true) ?_; conv => whnf) | (refine Br.tt rfl ?_; conv => whnf) | (refine Br.ff rfl ?_; conv => whnf) | (refine Br.mk (fun _ => ?_) (fun _ => ?_) <;> (conv => whnf)) | fail)))
  all_goals first
    | (refine CallsA.then (refName_ok name hn) ?_
       ((conv => whnf); (repeat' (first | (refine Br.tt (by first | assumption | with_reducible rfl | with_reducible exact Bool.not_false) ?_; conv => whnf) | (refine Br.ff (by first | assumption | with_reducible rfl | with_reducible exact Bool.not_true) ?_; conv => whnf) | (refine Br.tt rfl ?_; conv => whnf) | (refine Br.ff rfl ?_; conv => whnf) | fail)))
       (repeat' (first | (refine Br.tt (by first | assumption | with_reducible rfl | with_reducible exact Bool.not_false) ?_; conv => whnf) | (refine Br.ff (by first | assumption | with_reducible rfl | with_reducible exact Bool.not_true) ?_; conv => whnf) | (refine Br.tt rfl ?_; conv => whnf) | (refine Br.ff rfl ?_; conv => whnf) | (refine Br.mk (fun _ => ?_) (fun _ => ?_) <;> (conv => whnf)) | fail)))
    | skip
  all_goals first
    | (refine ⟨?_, by trivial⟩
       simp_all [wellF, nameOk_nil]
       done)
    | (refine ⟨?_, by trivial⟩
       simp_all [wellF, nameOk_nil]
       omega)
    | (refine Need.of (by simp [DV.width, DV.cells]) ?_
       ((conv => whnf); (repeat' (first | (refine Br.tt (by first | assumption | with_reducible rfl | with_reducible exact Bool.not_false) ?_; conv => whnf) | (refine Br.ff (by first | assumption | with_reducible rfl | with_reducible exact Bool.not_true) ?_; conv => whnf) | (refine Br.tt rfl ?_; conv => whnf) | (refine Br.ff rfl ?_; conv => whnf) | fail)))
       refine ⟨by kernel_rfl, ?_⟩
       ((conv => whnf); (repeat' (first | (refine Br.tt (by first | assumption | with_reducible rfl | with_reducible exact Bool.not_false) ?_; conv => whnf) | (refine Br.ff (by first | assumption | with_reducible rfl | with_reducible exact Bool.not_true) ?_; conv => whnf) | (refine Br.tt rfl ?_; conv => whnf) | (refine Br.ff rfl ?_; conv => whnf) | fail))))
  all_goals (
    refine Need.of ⟨by decide, by decide⟩ ?_
    ((conv => whnf); (repeat' (first | (refine Br.tt (by first | assumption | with_reducible rfl | with_reducible exact Bool.not_false) ?_; conv => whnf) | (refine Br.ff (by first | assumption | with_reducible rfl | with_reducible exact Bool.not_true) ?_; conv => whnf) | (refine Br.tt rfl ?_; conv => whnf) | (refine Br.ff rfl ?_; conv => whnf) | fail))))
  all_goals first
    | refine GetD.of (DV.int .i64 0) rfl ?_
    | refine GetD.of (DV.int .i64 1) rfl ?_
    | refine GetD.of (DV.int .i64 2) rfl ?_
  all_goals (
    ((conv => whnf); (repeat' (first | (refine Br.tt (by first | assumption | with_reducible rfl | with_reducible exact Bool.not_false) ?_; conv => whnf) | (refine Br.ff (by first | assumption | with_reducible rfl | with_reducible exact Bool.not_true) ?_; conv => whnf) | (refine Br.tt rfl ?_; conv => whnf) | (refine Br.ff rfl ?_; conv => whnf) | fail)))
    (repeat' (first | (refine Br.tt (by first | assumption | with_reducible rfl | with_reducible exact Bool.not_false) ?_; conv => whnf) | (refine Br.ff (by first | assumption | with_reducible rfl | with_reducible exact Bool.not_true) ?_; conv => whnf) | (refine Br.tt rfl ?_; conv => whnf) | (refine Br.ff rfl ?_; conv => whnf) | (refine Br.mk (fun _ => ?_) (fun _ => ?_) <;> (conv => whnf)) | fail)))
  all_goals (
    refine ⟨?_, by trivial⟩
    first
      | (simp_all [wellF, nameOk_nil, nb0, nb1, nb2]; done)
      | (simp_all [wellF, nameOk_nil, nb0, nb1, nb2]; omega))
end Go.Proofs.L08

namespace Go.Proofs.L08
open Go Aw Go.Proofs
variable {W0 : World}
/-- Terms and formulas, as trees. -/
inductive T where
  | mk (op num : Int) (name : List UInt8) (args : List T)
inductive F where
  | mk (op : Int) (name : List UInt8) (md : Int) (ts : List T) (fs : List F)
theorem T.ind {P : T → Prop} (h : ∀ op num name args, (∀ a ∈ args, P a) → P (.mk op num name args)) (t : T) : P t :=
  @T.rec P (fun l => ∀ a ∈ l, P a) (fun op num name args ih => h op num name args ih) (fun a ha => by cases ha) (fun a r ha hr b hb => by
    rcases List.mem_cons.1 hb with rfl | hb
    · exact ha
    · exact hr b hb) t
theorem F.ind {P : F → Prop} (h : ∀ op name md ts fs, (∀ a ∈ fs, P a) → P (.mk op name md ts fs)) (f : F) : P f :=
  @F.rec P (fun l => ∀ a ∈ l, P a) (fun op name md ts fs ih => h op name md ts fs ih) (fun a ha => by cases ha) (fun a r ha hr b hb => by
    rcases List.mem_cons.1 hb with rfl | hb
    · exact ha
    · exact hr b hb) f
mutual
def T.dv : T → DV
  | .mk op num name args => .agg [.int .i64 op, .int .i64 num, .str name, .sl (T.dvs args)]
def T.dvs : List T → List DV
  | [] => []
  | a :: r => T.dv a :: T.dvs r
end
mutual
def F.dv : F → DV
  | .mk op name md ts fs => .agg [.int .i64 op, .str name, .int .i64 md, .sl (T.dvs ts), .sl (F.dvs fs)]
def F.dvs : List F → List DV
  | [] => []
  | a :: r => F.dv a :: F.dvs r
end
theorem T.dvs_eq : ∀ l, T.dvs l = l.map T.dv
  | [] => rfl
  | a :: r => by simp [T.dvs, T.dvs_eq r]
theorem F.dvs_eq : ∀ l, F.dvs l = l.map F.dv
  | [] => rfl
  | a :: r => by simp [F.dvs, F.dvs_eq r]
/- Sizes that a machine can hold. -/
mutual
def T.Ok : T → Prop
  | .mk _ _ name args => name.length < 1000000000000 ∧ args.length < 1000000000000 ∧ T.Oks args
def T.Oks : List T → Prop
  | [] => True
  | a :: r => T.Ok a ∧ T.Oks r
end
mutual
def F.Ok : F → Prop
  | .mk _ name _ ts fs => name.length < 1000000000000 ∧ ts.length < 1000000000000 ∧ fs.length < 1000000000000 ∧ T.Oks ts ∧ F.Oks fs
def F.Oks : List F → Prop
  | [] => True
  | a :: r => F.Ok a ∧ F.Oks r
end
theorem T.Oks_mem : ∀ {l : List T}, T.Oks l → ∀ a ∈ l, T.Ok a
  | _ :: _, h, a, ha => by
    rcases List.mem_cons.1 ha with rfl | ha
    · exact h.1
    · exact T.Oks_mem h.2 a ha
theorem F.Oks_mem : ∀ {l : List F}, F.Oks l → ∀ a ∈ l, F.Ok a
  | _ :: _, h, a, ha => by
    rcases List.mem_cons.1 ha with rfl | ha
    · exact h.1
    · exact F.Oks_mem h.2 a ha

/-- What a walk has met so far. -/
structure M where
  sz : Int
  dp : Int
  er : Int
def M.ps (m : M) : List PV := [.d (.int .i64 m.sz), .d (.int .i64 m.dp), .d (.int .i64 m.er)]
def met (m : M) (d : Int) (good : Bool) : M :=
  { sz := m.sz + 1, dp := if m.dp < d then d else m.dp, er := if 500 < m.sz + 1 then 73 else if 40 < d then 72 else if good = false then 3 else m.er }
mutual
def T.meas : T → Int → M → M
  | .mk op num name args, d, m => T.measL args (d + 1) (met m d (wellT op num name args.length))
def T.measL : List T → Int → M → M
  | [], _, m => m
  | a :: r, d, m => if m.er = 0 then T.measL r d (T.meas a d m) else m
end
mutual
def F.meas : F → Int → M → M
  | .mk op name md ts fs, d, m => F.measL fs (d + 1) (T.measL ts (d + 1) (met m d (wellF op name md ts.length fs.length)))
def F.measL : List F → Int → M → M
  | [], _, m => m
  | a :: r, d, m => if m.er = 0 then F.measL r d (F.meas a d m) else m
end
theorem T.measL_stop {l : List T} {d : Int} {m : M} (h : m.er ≠ 0) : T.measL l d m = m := by
  cases l with
  | nil => rw [T.measL]
  | cons a r => rw [T.measL, if_neg h]
theorem F.measL_stop {l : List F} {d : Int} {m : M} (h : m.er ≠ 0) : F.measL l d m = m := by
  cases l with
  | nil => rw [F.measL]
  | cons a r => rw [F.measL, if_neg h]
def M.fine (m : M) : Prop := 0 ≤ m.sz ∧ (m.er = 0 → m.sz ≤ 500)
theorem met_fine {m : M} {d : Int} {g : Bool} (h : m.fine) : (met m d g).fine ∧ ((met m d g).er = 0 → d ≤ 40 ∧ g = true ∧ m.er = 0) := by
  obtain ⟨h1, h2⟩ := h
  unfold met M.fine
  refine ⟨⟨by simp only; omega, ?_⟩, ?_⟩ <;> simp only <;> intro h <;> split at h <;> try (first | omega | (exfalso; revert h; decide))
  · split at h <;> try (exfalso; revert h; decide)
    split at h <;> try (exfalso; revert h; decide)
    rename_i hg; exact ⟨by omega, by simpa using hg, h⟩
theorem T.meas_fine (t : T) : ∀ (d : Int) (m : M), m.fine → (T.meas t d m).fine := by
  induction t using T.ind with
  | h op num name args ih =>
    intro d m hm
    rw [T.meas]
    have key : ∀ (l : List T), (∀ a ∈ l, ∀ (d : Int) (m : M), m.fine → (T.meas a d m).fine) → ∀ (d : Int) (m : M), m.fine → (T.measL l d m).fine := by
      intro l
      induction l with
      | nil => intro _ d m h; rw [T.measL]; exact h
      | cons a r ihl =>
        intro h d m hm
        rw [T.measL]
        split
        · exact ihl (fun b hb => h b (List.mem_cons_of_mem _ hb)) d _ (h a (List.mem_cons_self ..) d m hm)
        · exact hm
    exact key args ih _ _ (met_fine hm).1
theorem T.measL_fine (l : List T) : ∀ (d : Int) (m : M), m.fine → (T.measL l d m).fine := by
  induction l with
  | nil => intro d m h; rw [T.measL]; exact h
  | cons a r ihl =>
    intro d m hm
    rw [T.measL]
    split
    · exact ihl d _ (T.meas_fine a d m hm)
    · exact hm
theorem F.meas_fine (t : F) : ∀ (d : Int) (m : M), m.fine → (F.meas t d m).fine := by
  induction t using F.ind with
  | h op name md ts fs ih =>
    intro d m hm
    rw [F.meas]
    have key : ∀ (l : List F), (∀ a ∈ l, ∀ (d : Int) (m : M), m.fine → (F.meas a d m).fine) → ∀ (d : Int) (m : M), m.fine → (F.measL l d m).fine := by
      intro l
      induction l with
      | nil => intro _ d m h; rw [F.measL]; exact h
      | cons a r ihl =>
        intro h d m hm
        rw [F.measL]
        split
        · exact ihl (fun b hb => h b (List.mem_cons_of_mem _ hb)) d _ (h a (List.mem_cons_self ..) d m hm)
        · exact hm
    exact key fs ih _ _ (T.measL_fine ts _ _ (met_fine hm).1)
theorem F.measL_fine (l : List F) : ∀ (d : Int) (m : M), m.fine → (F.measL l d m).fine := by
  induction l with
  | nil => intro d m h; rw [F.measL]; exact h
  | cons a r ihl =>
    intro d m hm
    rw [F.measL]
    split
    · exact ihl d _ (F.meas_fine a d m hm)
    · exact hm
/-- A walk that ends well began well, and not too deep. -/
theorem T.measL_er {l : List T} {d : Int} {m : M} (h : (T.measL l d m).er = 0) : m.er = 0 := by
  by_cases he : m.er = 0
  · exact he
  · rw [T.measL_stop he] at h; exact h
end Go.Proofs.L08

namespace Go.Proofs.L08
open Go Aw Go.Proofs
variable {W0 : World}
theorem met_a {m : M} {d : Int} {g : Bool} (h : 500 < m.sz + 1) : met m d g = ⟨m.sz + 1, if m.dp < d then d else m.dp, 73⟩ := by simp only [met, if_pos h]
theorem met_b {m : M} {d : Int} {g : Bool} (h : ¬ 500 < m.sz + 1) (h2 : 40 < d) : met m d g = ⟨m.sz + 1, if m.dp < d then d else m.dp, 72⟩ := by simp only [met, if_neg h, if_pos h2]
theorem met_c {m : M} {d : Int} {g : Bool} (h : ¬ 500 < m.sz + 1) (h2 : ¬ 40 < d) (h3 : (!g) = true) : met m d g = ⟨m.sz + 1, if m.dp < d then d else m.dp, 3⟩ := by
  have : g = false := by simpa using h3
  simp only [met, if_neg h, if_neg h2, if_pos this]
theorem met_d {m : M} {d : Int} {g : Bool} (h : ¬ 500 < m.sz + 1) (h2 : ¬ 40 < d) (h3 : (!g) = false) : met m d g = ⟨m.sz + 1, if m.dp < d then d else m.dp, m.er⟩ := by
  have : ¬ g = false := by simpa using h3
  simp only [met, if_neg h, if_neg h2, if_neg this]
set_option linter.unusedSimpArgs false in
set_option maxRecDepth 100000 in
set_option maxHeartbeats 4000000 in
theorem node_ok (m : M) (d : Int) (g : Bool) (h0 : 0 ≤ m.sz) (h1 : m.sz ≤ 1000000) : CallsA Tryd.prog W0 38 [m.ps] [.ptr 0 0, .d (.int .i64 d), .d (.bool g)]
    fun rs os => rs = [] ∧ os = [(met m d g).ps] := by
  unfold M.ps
  refine calls_of_awp1 tok [] Tryd.func38 rfl rfl rfl rfl rfl rfl ?_
  have hw : IntKind.i64.wrap (m.sz + 1) = m.sz + 1 := wrap_i64 (by omega) (by omega)
  ((conv => whnf); (repeat' (first | (refine Br.tt (by first | assumption | with_reducible rfl | with_reducible exact Bool.not_false) ?_; conv => whnf) | (refine Br.ff (by first | assumption | with_reducible rfl | with_reducible exact Bool.not_true) ?_; conv => whnf) | fail)))
  repeat' (first | (refine Br.tt (by first | assumption | with_reducible rfl | with_reducible exact Bool.not_false) ?_; conv => whnf) | (refine Br.ff (by first | assumption | with_reducible rfl | with_reducible exact Bool.not_true) ?_; conv => whnf) | (refine Need.of (by first | omega | (simp; done) | (simp; omega) | (simp at *; omega)) ?_; conv => whnf) | (refine Br.mk (fun _ => ?_) (fun _ => ?_) <;> (conv => whnf)) | fail)
  all_goals (simp only [hw, decide_eq_true_eq, decide_eq_false_iff_not, gt_iff_lt] at *)
  · rw [met_a (by assumption)]; exact ⟨trivial, rfl⟩
  · rw [met_b (by assumption) (by assumption)]; exact ⟨trivial, rfl⟩
  · rw [met_c (by assumption) (by assumption) (by assumption)]; exact ⟨trivial, rfl⟩
  · rw [met_d (by assumption) (by assumption) (by assumption)]; exact ⟨trivial, rfl⟩
set_option linter.unusedSimpArgs false in
set_option maxRecDepth 100000 in
set_option maxHeartbeats 4000000 in
theorem met1_ok (m : M) (d : Int) (g : Bool) (h0 : 0 ≤ m.sz) (h1 : m.sz ≤ 1000000) : CallsA Tryd.prog W0 41 [m.ps] [.d (.int .i64 d), .d (.bool g), .clo none 0 0]
    fun rs os => rs = [.d (.bool (decide ((met m d g).er = 0)))] ∧ os = [(met m d g).ps] := by
  unfold M.ps
  refine calls_of_awp1 tok [.tmp 5] Tryd.func41 rfl rfl rfl rfl rfl rfl ?_
  have hw : IntKind.i64.wrap (m.sz + 1) = m.sz + 1 := wrap_i64 (by omega) (by omega)
  ((conv => whnf); (repeat' (first | (refine Br.tt (by first | assumption | with_reducible rfl | with_reducible exact Bool.not_false) ?_; conv => whnf) | (refine Br.ff (by first | assumption | with_reducible rfl | with_reducible exact Bool.not_true) ?_; conv => whnf) | fail)))
  refine ⟨by kernel_rfl, ?_⟩
  ((conv => whnf); (repeat' (first | (refine Br.tt (by first | assumption | with_reducible rfl | with_reducible exact Bool.not_false) ?_; conv => whnf) | (refine Br.ff (by first | assumption | with_reducible rfl | with_reducible exact Bool.not_true) ?_; conv => whnf) | fail)))
  repeat' (first | (refine Br.tt (by first | assumption | with_reducible rfl | with_reducible exact Bool.not_false) ?_; conv => whnf) | (refine Br.ff (by first | assumption | with_reducible rfl | with_reducible exact Bool.not_true) ?_; conv => whnf) | (refine Need.of (by first | omega | (simp; done) | (simp; omega) | (simp at *; omega)) ?_; conv => whnf) | (refine Br.mk (fun _ => ?_) (fun _ => ?_) <;> (conv => whnf)) | fail)
  all_goals (simp only [hw, decide_eq_true_eq, decide_eq_false_iff_not, gt_iff_lt] at *)
  · rw [met_a (by assumption)]; exact ⟨rfl, rfl⟩
  · rw [met_b (by assumption) (by assumption)]; exact ⟨rfl, rfl⟩
  · rw [met_c (by assumption) (by assumption) (by assumption)]; exact ⟨rfl, rfl⟩
  · rw [met_d (by assumption) (by assumption) (by assumption)]
    refine ⟨?_, rfl⟩
    by_cases h : m.er = 0 <;> simp [h]
set_option linter.unusedSimpArgs false in
set_option maxRecDepth 100000 in
set_option maxHeartbeats 4000000 in
theorem refTerm_ok (t : T) : ∀ (_ : t.Ok) (m : M) (d : Int) (_ : m.fine) (_ : m.er = 0) (_ : 0 ≤ d) (_ : d ≤ 41), CallsA Tryd.prog W0 40 [m.ps] [.ptr 0 0, .d t.dv, .d (.int .i64 d)]
    fun rs os => rs = [] ∧ os = [(t.meas d m).ps] := by
  induction t using T.ind with
  | h op num name args ih =>
    intro ht m d hm he hd0 hd
    rw [T.dv, T.meas, T.dvs_eq]
    rw [T.Ok] at ht
    obtain ⟨hn, ha, hok⟩ := ht
    unfold M.ps
    refine calls_of_awp1 tok [] Tryd.func40 rfl rfl rfl rfl rfl rfl ?_
    ((conv => whnf); (repeat' (first | (refine Br.tt (by first | assumption | with_reducible rfl | with_reducible exact Bool.not_false) ?_; conv => whnf) | (refine Br.ff (by first | assumption | with_reducible rfl | with_reducible exact Bool.not_true) ?_; conv => whnf) | fail)))
    refine CallsA.then (wellTerm_ok op num name _ (by omega)) ?_
    ((conv => whnf); (repeat' (first | (refine Br.tt (by first | assumption | with_reducible rfl | with_reducible exact Bool.not_false) ?_; conv => whnf) | (refine Br.ff (by first | assumption | with_reducible rfl | with_reducible exact Bool.not_true) ?_; conv => whnf) | fail)))
    refine CallsA.then1 (node_ok m d _ hm.1 (by have := hm.2 he; omega)) ?_
    rw [List.length_map]
    generalize hm0 : met m d (wellT op num name args.length) = m0
    have hm0f : m0.fine ∧ (m0.er = 0 → d ≤ 40) := by
      rw [← hm0]; exact ⟨(met_fine hm).1, fun h => ((met_fine hm).2 h).1⟩
    have hd1 : IntKind.i64.wrap (d + 1) = d + 1 := wrap_i64 (by omega) (by omega)
    unfold M.ps
    ((conv => whnf); (repeat' (first | (refine Br.tt (by first | assumption | with_reducible rfl | with_reducible exact Bool.not_false) ?_; conv => whnf) | (refine Br.ff (by first | assumption | with_reducible rfl | with_reducible exact Bool.not_true) ?_; conv => whnf) | fail)))
    refine loop_by2 (fun (i : Nat) (m : M) => i ≤ args.length ∧ m.fine ∧ (m.er = 0 → d ≤ 40) ∧ T.measL args (d + 1) m0 = T.measL (args.drop i) (d + 1) m)
      (fun i m => mkT [(0, .ptr 50000 0), (2, .d (.int .i64 d)), (4, .ptr 4 0), (6, .d (.int .i64 i))])
      (fun i m => mkT [(50000, .box [.d (.int .i64 m.sz), .d (.int .i64 m.dp), .d (.int .i64 m.er)]), (4, .box [.d (.int .i64 op), .d (.int .i64 num), .d (.str name), .d (.sl (args.map T.dv))])])
      (fun i m => args.length - i) 0 m0 ⟨by omega, hm0f.1, hm0f.2, rfl⟩
      (Weak.of [] rfl rfl ⟨⟨_, rfl, rfl⟩, ⟨_, rfl, rfl⟩, ⟨_, rfl, rfl⟩, ⟨_, rfl, rfl⟩, trivial⟩ ⟨⟨_, rfl, ⟨rfl, rfl, rfl, trivial⟩⟩, ⟨_, rfl, ⟨rfl, rfl, rfl, rfl, trivial⟩⟩, trivial⟩) ?_
    intro i m1 ⟨hi, hf1, hdd, heq⟩
    conv => whnf
    ((repeat' (first | (refine Br.tt (by first | assumption | with_reducible rfl | with_reducible exact Bool.not_false) ?_; conv => whnf) | (refine Br.ff (by first | assumption | with_reducible rfl | with_reducible exact Bool.not_true) ?_; conv => whnf) | fail)); (refine Br.mk (fun hlt => ?_) (fun hlt => ?_) <;> ((conv => whnf); (repeat' (first | (refine Br.tt (by first | assumption | with_reducible rfl | with_reducible exact Bool.not_false) ?_; conv => whnf) | (refine Br.ff (by first | assumption | with_reducible rfl | with_reducible exact Bool.not_true) ?_; conv => whnf) | fail)))))
    · have hlt : i < args.length := by simpa using hlt
      ((repeat' (first | (refine Br.tt (by first | assumption | with_reducible rfl | with_reducible exact Bool.not_false) ?_; conv => whnf) | (refine Br.ff (by first | assumption | with_reducible rfl | with_reducible exact Bool.not_true) ?_; conv => whnf) | fail)); (refine Br.mk (fun her => ?_) (fun her => ?_) <;> ((conv => whnf); (repeat' (first | (refine Br.tt (by first | assumption | with_reducible rfl | with_reducible exact Bool.not_false) ?_; conv => whnf) | (refine Br.ff (by first | assumption | with_reducible rfl | with_reducible exact Bool.not_true) ?_; conv => whnf) | fail)))))
      · have her : m1.er = 0 := by simpa using her
        repeat' (first | (refine Br.tt (by first | assumption | with_reducible rfl | with_reducible exact Bool.not_false) ?_; conv => whnf) | (refine Br.ff (by first | assumption | with_reducible rfl | with_reducible exact Bool.not_true) ?_; conv => whnf) | fail)
        have hmem : args[i] ∈ args := List.getElem_mem hlt
        have hia := ih args[i] hmem (T.Oks_mem hok _ hmem) m1 (d + 1) hf1 her (by omega) (by have := hdd her; omega)
        have hst : T.measL (args.drop i) (d + 1) m1 = T.measL (args.drop (i + 1)) (d + 1) (T.meas args[i] (d + 1) m1) := by
          rw [List.drop_eq_getElem_cons hlt, T.measL, if_pos her]
        have hf2 := T.meas_fine args[i] (d + 1) m1 hf1
        have hget : (args.map T.dv)[i]? = some (T.dv args[i]) := by simp [hlt]
        generalize T.meas args[i] (d + 1) m1 = m2 at *
        rcases hx : args[i] with ⟨aop, anum, aname, aargs⟩
        rw [hx, T.dv] at hia hget
        unfold M.ps at hia
        refine Idx.of _ (by omega) hget rfl ?_
        ((conv => whnf); (repeat' (first | (refine Br.tt (by first | assumption | with_reducible rfl | with_reducible exact Bool.not_false) ?_; conv => whnf) | (refine Br.ff (by first | assumption | with_reducible rfl | with_reducible exact Bool.not_true) ?_; conv => whnf) | fail)))
        rw [hd1]
        refine CallsA.then1 hia ?_
        ((conv => whnf); (repeat' (first | (refine Br.tt (by first | assumption | with_reducible rfl | with_reducible exact Bool.not_false) ?_; conv => whnf) | (refine Br.ff (by first | assumption | with_reducible rfl | with_reducible exact Bool.not_true) ?_; conv => whnf) | fail)))
        refine ⟨i + 1, m2, ⟨⟨by omega, hf2, fun _ => hdd her, by rw [heq, hst]⟩, by omega⟩,
          Weak.of [] rfl rfl ⟨⟨_, rfl, rfl⟩, ⟨_, rfl, rfl⟩, ⟨_, rfl, rfl⟩, ⟨_, rfl, by simp only [Pre]; rw [wrap_i64 (by omega) (by omega)]; rfl⟩, trivial⟩ ⟨⟨_, rfl, ⟨rfl, rfl, rfl, trivial⟩⟩, ⟨_, rfl, ⟨rfl, rfl, rfl, rfl, trivial⟩⟩, trivial⟩⟩
      · have her : m1.er ≠ 0 := by simpa using her
        rw [T.measL_stop her] at heq
        rw [heq]
        exact ⟨rfl, rfl⟩
    · have hie : i = args.length := by simp at hlt; omega
      rw [hie, List.drop_length, T.measL] at heq
      rw [heq]
      exact ⟨rfl, rfl⟩
end Go.Proofs.L08
