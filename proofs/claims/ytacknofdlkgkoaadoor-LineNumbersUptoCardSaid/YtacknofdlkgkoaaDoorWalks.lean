/-
  Contracts of the program side: the words of a line, numbers, hex, read, Parse; texts of less than the bounds that stand in each.
-/
import Derived.Test.YtacknofdlkgkoaaDoorRefTwo
import Derived.WalkKit
import Derived.Ground.NamesProg
import Derived.Test.YtacknofdlkgkoaaDoorShelf
import Derived.Shelf.Strings.SlTrimAscii
import Derived.Shelf.Strings.Search3
import Derived.Shelf.Strconv.ParseIntPublic10
import Derived.Shelf.Strconv.Itoa4
set_option linter.unusedSectionVars false
set_option linter.unusedSimpArgs false
set_option linter.unusedVariables false
namespace Go.Proofs
open Go.Shelf
end Go.Proofs
namespace Go.Proofs.L24
open Go Aw Go.Proofs Go.Shelf Go.RowKit
variable {W0 : World}
theorem known_of {P : Program} {f : Nat} {fn : Func} (h : P.funcs[f]? = some fn) (h1 : fn.body.isNone = false) (h2 : (fn.name == "runtime.NumGoroutine") = false) : ∃ fn, P.funcs[f]? = some fn ∧ fn.body.isNone = false ∧ (fn.name == "runtime.NumGoroutine") = false := ⟨fn, h, h1, h2⟩
theorem isBlank_contains : (fun x => [32, 9].contains x) = isBlank := by
  funext x
  simp only [List.contains_cons, List.contains_nil, Bool.or_false]
  rfl
theorem trimLeft_ok (s : List UInt8) : CallsA Tryd.prog W0 21 [] [.d (.str s), .d (.str [32, 9])] fun rs os => rs = [.d (.str (s.dropWhile isBlank))] ∧ os = [] := by
  have h : ∀ w, Calls Tryd.prog 21 #[.string ⟨s.toArray⟩, .string ⟨#[32, 9]⟩] w fun e w' => e = .returned (.string ⟨(s.dropWhile (fun x => [32, 9].contains x)).toArray⟩) ∧ Below w.heap.size w w' :=
    fun w => Any.strings_TrimLeft_laid Tryd.lays161 (by kernel_rfl) ⟨s.toArray⟩ ⟨#[32, 9]⟩ w (by decide) (ascii_of_all (by decide))
  rw [isBlank_contains] at h
  refine CallsA.of_below (xs := [.str s, .str [32, 9]]) (ys := [.str (s.dropWhile isBlank)]) («as» := [.string ⟨s.toArray⟩, .string ⟨#[32, 9]⟩]) (vs := [.string ⟨(s.dropWhile isBlank).toArray⟩]) (known_of Tryd.func21 rfl rfl) rfl ?_ rfl ?_ (fun w _ => h w)
  · intro i x a hx ha
    match i with
    | 0 => cases hx; cases ha; exact .str s
    | 1 => cases hx; cases ha; exact .str [32, 9]
  · intro i x a hx ha
    match i with
    | 0 => cases hx; cases ha; exact .str _
theorem indexByte_mem (s : List UInt8) (c : UInt8) : decide (0 ≤ Lib.indexByte s c) = decide (c ∈ s) := by
  induction s with
  | nil => rfl
  | cons b l ih =>
    have h := Lib.indexByte_ge l c
    rw [Bool.eq_iff_iff] at ih ⊢
    simp only [decide_eq_true_eq, List.mem_cons] at ih ⊢
    unfold Lib.indexByte
    by_cases hb : b = c
    · simp [hb]
    · rw [if_neg (by simpa using hb)]
      split
      · rename_i h1
        have h1' : Lib.indexByte l c = -1 := by simpa using h1
        have : ¬ c ∈ l := fun hm => by have := ih.2 hm; omega
        simp [this, Ne.symm hb]
      · rename_i h1
        have h1' : Lib.indexByte l c ≠ -1 := by simpa using h1
        have : c ∈ l := ih.1 (by omega)
        simp [this]; omega
theorem contains_ok (s : List UInt8) (c : UInt8) : CallsA Tryd.prog W0 13 [] [.d (.str s), .d (.str [c])] fun rs os => rs = [.d (.bool (decide (c ∈ s)))] ∧ os = [] := by
  have h : ∀ w, Calls Tryd.prog 13 #[.string ⟨s.toArray⟩, .string ⟨#[c]⟩] w fun e w' => e = .returned (.bool (decide (0 ≤ Lib.indexByte s c))) ∧ w' = w :=
    fun w => Any.strings_Contains_one Tryd.lays144 ⟨s.toArray⟩ c w
  rw [indexByte_mem] at h
  refine CallsA.of_below (xs := [.str s, .str [c]]) (ys := [.bool (decide (c ∈ s))]) («as» := [.string ⟨s.toArray⟩, .string ⟨#[c]⟩]) (vs := [.bool (decide (c ∈ s))]) (known_of Tryd.func13 rfl rfl) rfl ?_ rfl ?_
    (fun w _ => (h w).mono fun e w' ⟨h1, h2⟩ => ⟨h1, h2 ▸ Below.refl _ _⟩)
  · intro i x a hx ha
    match i with
    | 0 => cases hx; cases ha; exact .str s
    | 1 => cases hx; cases ha; exact .str [c]
  · intro i x a hx ha
    match i with
    | 0 => cases hx; cases ha; exact .bool _
theorem slIndex_ok (s : List UInt8) (c : UInt8) : CallsA Tryd.prog W0 28 [] [.d (.str s), .d (.str [c])] fun rs os => rs = [.d (.int .i64 (Lib.indexByte s c))] ∧ os = [] := by
  have h : ∀ w, Calls Tryd.prog 28 #[.string ⟨s.toArray⟩, .string ⟨#[c]⟩] w fun e w' => e = .returned (.int .i64 (Lib.indexByte s c)) ∧ w' = w :=
    fun w => Any.stringslite_Index_one Tryd.lays219 ⟨s.toArray⟩ c w
  refine CallsA.of_below (xs := [.str s, .str [c]]) (ys := [.int .i64 (Lib.indexByte s c)]) («as» := [.string ⟨s.toArray⟩, .string ⟨#[c]⟩]) (vs := [.int .i64 (Lib.indexByte s c)]) (known_of Tryd.func28 rfl rfl) rfl ?_ rfl ?_
    (fun w _ => (h w).mono fun e w' ⟨h1, h2⟩ => ⟨h1, h2 ▸ Below.refl _ _⟩)
  · intro i x a hx ha
    match i with
    | 0 => cases hx; cases ha; exact .str s
    | 1 => cases hx; cases ha; exact .str [c]
  · intro i x a hx ha
    match i with
    | 0 => cases hx; cases ha; exact .int _ _
theorem indexByte_cut (s : List UInt8) : Lib.indexByte s 62 = if cutIx s < s.length then (cutIx s : Int) else -1 := by
  induction s with
  | nil => rfl
  | cons b l ih =>
    unfold Lib.indexByte
    have hc : cutIx (b :: l) = if b == 62 then 0 else cutIx l + 1 := by
      unfold cutIx
      rw [List.findIdx_cons]
      cases b == 62 <;> rfl
    rw [hc, ih]
    by_cases hb : (b == 62) = true
    · rw [if_pos hb, if_pos hb, if_pos (by simp)]; rfl
    · rw [if_neg hb, if_neg hb]
      by_cases hl : cutIx l < l.length
      · rw [if_pos hl, if_neg (by simp), if_pos (by simpa using hl)]; rfl
      · rw [if_neg hl, if_pos (by decide), if_neg (by simpa using hl)]
theorem cutIx_le (s : List UInt8) : cutIx s ≤ s.length := List.findIdx_le_length
set_option linter.unusedSimpArgs false in
set_option maxRecDepth 100000 in
set_option maxHeartbeats 4000000 in
theorem slCut_ok (s : List UInt8) (hs : s.length < 1000000000000) : CallsA Tryd.prog W0 56 [] [.d (.str s), .d (.str [62])] fun rs os => rs = [.d (.str (s.take (cutIx s))), .d (.str (s.drop (cutIx s + 1))), .d (.bool (decide (cutIx s < s.length)))] ∧ os = [] := by
  refine calls_of_awpC tok [.tmp 4, .tmp 5, .tmp 6] Tryd.func56 rfl rfl rfl rfl rfl ?_
  ((conv => whnf); (repeat' (first | (refine Br.tt (by first | assumption | with_reducible rfl | with_reducible exact Bool.not_false) ?_; conv => whnf) | (refine Br.ff (by first | assumption | with_reducible rfl | with_reducible exact Bool.not_true) ?_; conv => whnf) | fail)))
  refine CallsA.then (slIndex_ok s 62) ?_
  rw [indexByte_cut]
  have hle := cutIx_le s
  by_cases hl : cutIx s < s.length
  · rw [if_pos hl]
    have hg : decide ((cutIx s : Int) ≥ 0) = true := by simp
    ((conv => whnf); (repeat' (first | (refine Br.tt (by first | assumption | with_reducible rfl | with_reducible exact Bool.not_false) ?_; conv => whnf) | (refine Br.ff (by first | assumption | with_reducible rfl | with_reducible exact Bool.not_true) ?_; conv => whnf) | fail)))
    refine ⟨by kernel_rfl, ?_⟩
    ((conv => whnf); (repeat' (first | (refine Br.tt (by first | assumption | with_reducible rfl | with_reducible exact Bool.not_false) ?_; conv => whnf) | (refine Br.ff (by first | assumption | with_reducible rfl | with_reducible exact Bool.not_true) ?_; conv => whnf) | fail)))
    have hw : IntKind.i64.wrap ((cutIx s : Int) + (([62] : List UInt8).length : Int)) = ((cutIx s + 1 : Nat) : Int) := by
      rw [show (([62] : List UInt8).length : Int) = 1 from rfl, wrap_i64 (by omega) (by omega)]; rfl
    refine Need.of ⟨by omega, by omega⟩ ?_
    ((conv => whnf); (repeat' (first | (refine Br.tt (by first | assumption | with_reducible rfl | with_reducible exact Bool.not_false) ?_; conv => whnf) | (refine Br.ff (by first | assumption | with_reducible rfl | with_reducible exact Bool.not_true) ?_; conv => whnf) | fail)))
    refine Need.of ⟨by rw [hw]; omega, by rw [hw]; omega⟩ ?_
    ((conv => whnf); (repeat' (first | (refine Br.tt (by first | assumption | with_reducible rfl | with_reducible exact Bool.not_false) ?_; conv => whnf) | (refine Br.ff (by first | assumption | with_reducible rfl | with_reducible exact Bool.not_true) ?_; conv => whnf) | fail)))
    rw [hw]
    simp [hl]
  · rw [if_neg hl]
    have hg : decide ((-1 : Int) ≥ 0) = false := by simp
    ((conv => whnf); (repeat' (first | (refine Br.tt (by first | assumption | with_reducible rfl | with_reducible exact Bool.not_false) ?_; conv => whnf) | (refine Br.ff (by first | assumption | with_reducible rfl | with_reducible exact Bool.not_true) ?_; conv => whnf) | fail)))
    have e1 : cutIx s = s.length := by omega
    simp [e1]
set_option linter.unusedSimpArgs false in
set_option maxRecDepth 100000 in
set_option maxHeartbeats 4000000 in
theorem cut_ok (s : List UInt8) (hs : s.length < 1000000000000) : CallsA Tryd.prog W0 36 [] [.d (.str s), .d (.str [62])] fun rs os => rs = [.d (.str (s.take (cutIx s))), .d (.str (s.drop (cutIx s + 1))), .d (.bool (decide (cutIx s < s.length)))] ∧ os = [] := by
  refine calls_of_awpC tok [.tmp 4, .tmp 5, .tmp 6] Tryd.func36 rfl rfl rfl rfl rfl ?_
  ((conv => whnf); (repeat' (first | (refine Br.tt (by first | assumption | with_reducible rfl | with_reducible exact Bool.not_false) ?_; conv => whnf) | (refine Br.ff (by first | assumption | with_reducible rfl | with_reducible exact Bool.not_true) ?_; conv => whnf) | fail)))
  refine CallsA.then (slCut_ok s hs) ?_
  ((conv => whnf); (repeat' (first | (refine Br.tt (by first | assumption | with_reducible rfl | with_reducible exact Bool.not_false) ?_; conv => whnf) | (refine Br.ff (by first | assumption | with_reducible rfl | with_reducible exact Bool.not_true) ?_; conv => whnf) | fail)))
  exact ⟨rfl, rfl⟩
/-- A text without blanks in it: what the first character that is one leads to. -/
def blankIx (s : List UInt8) : Int := if s.findIdx isBlank < s.length then (s.findIdx isBlank : Int) else -1
theorem udec_spec (s : List UInt8) (p : Nat) : ((s.getD p 0).toNat < 128 → (udec s p).1 = (s.getD p 0).toNat ∧ (udec s p).2 = 1) ∧ (¬ (s.getD p 0).toNat < 128 → 128 ≤ (udec s p).1) ∧
    (∀ j, 1 ≤ j → j < (udec s p).2 → 128 ≤ (s.getD (p + j) 0).toNat ∧ p + j < s.length) := by
  rw [udec_decN]
  have b0 := (s.getD p 0).toNat_lt
  have key : ∀ j, 1 ≤ j → j < 4 → ∀ x, (s.getD (p + j) 0).toNat = x → (x / 64 = 2 → 128 ≤ x) := fun j _ _ x _ h => by omega
  generalize h0 : (s.getD p 0).toNat = x0 at *
  generalize h1 : (s.getD (p + 1) 0).toNat = x1 at *
  generalize h2 : (s.getD (p + 2) 0).toNat = x2 at *
  generalize h3 : (s.getD (p + 3) 0).toNat = x3 at *
  have fin : ∀ (w : Nat), (2 ≤ w → x1 / 64 = 2 ∧ p + 1 < s.length) → (3 ≤ w → x2 / 64 = 2 ∧ p + 2 < s.length) → (4 ≤ w → x3 / 64 = 2 ∧ p + 3 < s.length) → w ≤ 4 →
      ∀ j, 1 ≤ j → j < w → 128 ≤ (s.getD (p + j) 0).toNat ∧ p + j < s.length := by
    intro w k1 k2 k3 k4 j hj1 hj2
    have : j = 1 ∨ j = 2 ∨ j = 3 := by omega
    rcases this with rfl | rfl | rfl
    · rw [h1]; have := k1 (by omega); omega
    · rw [h2]; have := k2 (by omega); omega
    · rw [h3]; have := k3 (by omega); omega
  unfold decN
  by_cases c0 : x0 < 128
  · rw [if_pos c0]
    exact ⟨fun _ => ⟨rfl, rfl⟩, fun h => absurd c0 h, fun j h1 h2 => by simp at h2; omega⟩
  rw [if_neg c0]
  refine ⟨fun h => absurd h c0, fun _ => ?_, ?_⟩
  · repeat' split
    all_goals simp only
    all_goals omega
  · apply fin
    all_goals (repeat' split)
    all_goals simp only
    all_goals omega
theorem toNat_blank {x : UInt8} : isBlank x = true ↔ (x.toNat = 32 ∨ x.toNat = 9) := by rw [isBlank_iff]; omega
theorem blank_udec (s : List UInt8) (p : Nat) : (((udec s p).1 : Int) = 32 ∨ ((udec s p).1 : Int) = 9) ↔ isBlank (s.getD p 0) = true := by
  obtain ⟨h1, h2, -⟩ := udec_spec s p
  rw [toNat_blank]
  by_cases h : (s.getD p 0).toNat < 128
  · have := (h1 h).1; omega
  · have := h2 h; omega
set_option linter.unusedSimpArgs false in
set_option maxRecDepth 100000 in
set_option maxHeartbeats 4000000 in
theorem indexFunc_ok (s : List UInt8) (hs : s.length < 1000000000000) : CallsA Tryd.prog W0 33 [] [.d (.str s), .d (.fn 23), .d (.bool true)] fun rs os => rs = [.d (.int .i64 (blankIx s))] ∧ os = [] := by
  refine calls_of_awpC tok [.tmp 6] Tryd.func33 rfl rfl rfl rfl rfl ?_
  ((conv => whnf); (repeat' (first | (refine Br.tt (by first | assumption | with_reducible rfl | with_reducible exact Bool.not_false) ?_; conv => whnf) | (refine Br.ff (by first | assumption | with_reducible rfl | with_reducible exact Bool.not_true) ?_; conv => whnf) | fail)))
  refine loop_by1 (fun (p : Nat) => p ≤ s.length ∧ ∀ j, j < p → isBlank (s.getD j 0) = false) (fun _ => mkT [(0, .d (.str s)), (1, .d (.fn 23)), (2, .d (.bool true)), (10, .ptr 10 0)]) (fun p => mkT [(10, .iter s p)]) (fun p => s.length - p) 0
    ⟨by omega, by omega⟩ (Weak.of [] rfl rfl ⟨⟨_, rfl, rfl⟩, ⟨_, rfl, rfl⟩, ⟨_, rfl, rfl⟩, ⟨_, rfl, rfl⟩, trivial⟩ ⟨rfl, trivial⟩) ?_
  intro p ⟨hp, hj⟩
  ((conv => whnf); (repeat' (first | (refine Br.tt (by first | assumption | with_reducible rfl | with_reducible exact Bool.not_false) ?_; conv => whnf) | (refine Br.ff (by first | assumption | with_reducible rfl | with_reducible exact Bool.not_true) ?_; conv => whnf) | fail)))
  ((repeat' (first | (refine Br.tt (by first | assumption | with_reducible rfl | with_reducible exact Bool.not_false) ?_; conv => whnf) | (refine Br.ff (by first | assumption | with_reducible rfl | with_reducible exact Bool.not_true) ?_; conv => whnf) | fail)); (refine Br.mk (fun h => ?_) (fun h => ?_) <;> ((conv => whnf); (repeat' (first | (refine Br.tt (by first | assumption | with_reducible rfl | with_reducible exact Bool.not_false) ?_; conv => whnf) | (refine Br.ff (by first | assumption | with_reducible rfl | with_reducible exact Bool.not_true) ?_; conv => whnf) | fail)))))
  · have hlt : p < s.length := by simpa using h
    have hu := udec_spec s p
    have hb := blank_udec s p
    have hwd := udec_wide s p
    refine CallsA.then (blank_ok _) ?_
    ((conv => whnf); (repeat' (first | (refine Br.tt (by first | assumption | with_reducible rfl | with_reducible exact Bool.not_false) ?_; conv => whnf) | (refine Br.ff (by first | assumption | with_reducible rfl | with_reducible exact Bool.not_true) ?_; conv => whnf) | fail)))
    by_cases hbl : isBlank (s.getD p 0) = true
    · have hq : (decide (((udec s p).1 : Int) = 32 ∨ ((udec s p).1 : Int) = 9) == true) = true := by simp only [beq_true, decide_eq_true_eq]; exact hb.2 hbl
      repeat' (first | (refine Br.tt (by first | assumption | with_reducible rfl | with_reducible exact Bool.not_false) ?_; conv => whnf) | (refine Br.ff (by first | assumption | with_reducible rfl | with_reducible exact Bool.not_true) ?_; conv => whnf) | fail)
      have : s.findIdx isBlank = p := by
        rw [List.findIdx_eq hlt]
        refine ⟨by simpa [hlt] using hbl, fun j hj2 => ?_⟩
        have := hj j hj2
        simpa [List.getElem?_eq_getElem (show j < s.length by omega)] using this
      rw [blankIx, this, if_pos hlt]; exact ⟨rfl, rfl⟩
    · have hq : (decide (((udec s p).1 : Int) = 32 ∨ ((udec s p).1 : Int) = 9) == true) = false := by
        rw [show ∀ b : Bool, (b == true) = b from fun b => by cases b <;> rfl, decide_eq_false_iff_not]; exact fun h => hbl (hb.1 h)
      repeat' (first | (refine Br.tt (by first | assumption | with_reducible rfl | with_reducible exact Bool.not_false) ?_; conv => whnf) | (refine Br.ff (by first | assumption | with_reducible rfl | with_reducible exact Bool.not_true) ?_; conv => whnf) | fail)
      refine ⟨p + (udec s p).2, ⟨⟨?_, fun j hj2 => ?_⟩, by omega⟩, Weak.of [] rfl rfl ⟨⟨_, rfl, rfl⟩, ⟨_, rfl, rfl⟩, ⟨_, rfl, rfl⟩, ⟨_, rfl, rfl⟩, trivial⟩ ⟨rfl, trivial⟩⟩
      · by_cases h2 : (udec s p).2 = 1
        · omega
        · have := hu.2.2 ((udec s p).2 - 1) (by omega) (by omega); omega
      · rcases Nat.lt_or_ge j p with q | q
        · exact hj j q
        · by_cases h2 : j = p
          · rw [h2]; simpa using hbl
          · have := hu.2.2 (j - p) (by omega) (by omega)
            rw [show p + (j - p) = j from by omega] at this
            rw [Bool.eq_false_iff, Ne, toNat_blank]; omega
  · have hge : p = s.length := by simp at h; omega
    have : ¬ s.findIdx isBlank < s.length := by
      intro hlt
      have h1 := List.findIdx_getElem (w := hlt)
      have h2 := hj (s.findIdx isBlank) (by omega)
      rw [List.getD_eq_getElem?_getD, List.getElem?_eq_getElem hlt] at h2
      simp only [Option.getD_some] at h2
      rw [h2] at h1; cases h1
    rw [blankIx, if_neg this]; exact ⟨rfl, rfl⟩
set_option linter.unusedSimpArgs false in
set_option maxRecDepth 100000 in
set_option maxHeartbeats 4000000 in
theorem indexFuncT_ok (s : List UInt8) (hs : s.length < 1000000000000) : CallsA Tryd.prog W0 22 [] [.d (.str s), .d (.fn 23)] fun rs os => rs = [.d (.int .i64 (blankIx s))] ∧ os = [] := by
  refine calls_of_awpC tok [.tmp 4] Tryd.func22 rfl rfl rfl rfl rfl ?_
  ((conv => whnf); (repeat' (first | (refine Br.tt (by first | assumption | with_reducible rfl | with_reducible exact Bool.not_false) ?_; conv => whnf) | (refine Br.ff (by first | assumption | with_reducible rfl | with_reducible exact Bool.not_true) ?_; conv => whnf) | fail)))
  refine CallsA.then (indexFunc_ok s hs) ?_
  ((conv => whnf); (repeat' (first | (refine Br.tt (by first | assumption | with_reducible rfl | with_reducible exact Bool.not_false) ?_; conv => whnf) | (refine Br.ff (by first | assumption | with_reducible rfl | with_reducible exact Bool.not_true) ?_; conv => whnf) | fail)))
  exact ⟨rfl, rfl⟩
/-- The first word of a text, and what stands behind it. -/
def nextW (s : List UInt8) : List UInt8 × List UInt8 := ((s.dropWhile isBlank).take ((s.dropWhile isBlank).findIdx isBlank), (s.dropWhile isBlank).drop ((s.dropWhile isBlank).findIdx isBlank))
theorem dropWhile_len {s : List UInt8} : (s.dropWhile isBlank).length ≤ s.length := by
  induction s with
  | nil => simp
  | cons x t ih => rw [List.dropWhile_cons]; split <;> simp <;> omega
set_option linter.unusedSimpArgs false in
set_option maxRecDepth 100000 in
set_option maxHeartbeats 4000000 in
theorem next_ok (s : List UInt8) (hs : s.length < 1000000000000) : CallsA Tryd.prog W0 14 [] [.d (.str s)] fun rs os => rs = [.d (.str (nextW s).1), .d (.str (nextW s).2)] ∧ os = [] := by
  refine calls_of_awpC tok [.tmp 2, .tmp 3] Tryd.func14 rfl rfl rfl rfl rfl ?_
  ((conv => whnf); (repeat' (first | (refine Br.tt (by first | assumption | with_reducible rfl | with_reducible exact Bool.not_false) ?_; conv => whnf) | (refine Br.ff (by first | assumption | with_reducible rfl | with_reducible exact Bool.not_true) ?_; conv => whnf) | fail)))
  refine CallsA.then (trimLeft_ok s) ?_
  have hd := @dropWhile_len s
  unfold nextW
  generalize s.dropWhile isBlank = d at *
  ((conv => whnf); (repeat' (first | (refine Br.tt (by first | assumption | with_reducible rfl | with_reducible exact Bool.not_false) ?_; conv => whnf) | (refine Br.ff (by first | assumption | with_reducible rfl | with_reducible exact Bool.not_true) ?_; conv => whnf) | fail)))
  refine CallsA.then (indexFuncT_ok d (by omega)) ?_
  by_cases hlt : d.findIdx isBlank < d.length
  · have hbi : blankIx d = (d.findIdx isBlank : Int) := by rw [blankIx, if_pos hlt]
    rw [hbi]
    have hg : decide ((d.findIdx isBlank : Int) ≥ 0) = true := by simp
    ((conv => whnf); (repeat' (first | (refine Br.tt (by first | assumption | with_reducible rfl | with_reducible exact Bool.not_false) ?_; conv => whnf) | (refine Br.ff (by first | assumption | with_reducible rfl | with_reducible exact Bool.not_true) ?_; conv => whnf) | fail)))
    refine ⟨by kernel_rfl, ?_⟩
    ((conv => whnf); (repeat' (first | (refine Br.tt (by first | assumption | with_reducible rfl | with_reducible exact Bool.not_false) ?_; conv => whnf) | (refine Br.ff (by first | assumption | with_reducible rfl | with_reducible exact Bool.not_true) ?_; conv => whnf) | fail)))
    refine Need.of ⟨by omega, by omega⟩ ?_
    ((conv => whnf); (repeat' (first | (refine Br.tt (by first | assumption | with_reducible rfl | with_reducible exact Bool.not_false) ?_; conv => whnf) | (refine Br.ff (by first | assumption | with_reducible rfl | with_reducible exact Bool.not_true) ?_; conv => whnf) | fail)))
    refine Need.of ⟨by omega, by omega⟩ ?_
    ((conv => whnf); (repeat' (first | (refine Br.tt (by first | assumption | with_reducible rfl | with_reducible exact Bool.not_false) ?_; conv => whnf) | (refine Br.ff (by first | assumption | with_reducible rfl | with_reducible exact Bool.not_true) ?_; conv => whnf) | fail)))
    exact ⟨rfl, rfl⟩
  · have hbi : blankIx d = -1 := by rw [blankIx, if_neg hlt]
    rw [hbi]
    have hg : decide ((-1 : Int) ≥ 0) = false := by simp
    ((conv => whnf); (repeat' (first | (refine Br.tt (by first | assumption | with_reducible rfl | with_reducible exact Bool.not_false) ?_; conv => whnf) | (refine Br.ff (by first | assumption | with_reducible rfl | with_reducible exact Bool.not_true) ?_; conv => whnf) | fail)))
    have e1 : d.findIdx isBlank = d.length := by have := @List.findIdx_le_length _ isBlank d; omega
    rw [e1, List.take_length, List.drop_length]; exact ⟨rfl, rfl⟩
end Go.Proofs.L24

namespace Go.Proofs.L24
open Go Aw Go.Proofs
variable {W0 : World}
set_option linter.unusedSimpArgs false in
set_option maxRecDepth 100000 in
set_option maxHeartbeats 4000000 in
theorem name_ok (s : List UInt8) (hs : s.length < 4611686018427387904) : CallsA Tryd.prog W0 34 [] [.d (.str s)] fun rs os => rs = [.d (.bool (nameOk s))] ∧ os = [] := by
  refine calls_of_awpC tok [.tmp 2] Tryd.func34 rfl rfl rfl rfl rfl ?_
  ((conv => whnf); (repeat' (first | (refine Br.tt (by first | assumption | with_reducible rfl | with_reducible exact Bool.not_false) ?_; conv => whnf) | (refine Br.ff (by first | assumption | with_reducible rfl | with_reducible exact Bool.not_true) ?_; conv => whnf) | fail)))
  refine loop_by3 (fun (f p n : Nat) => nameAt s s.length 0 0 = nameAt s f p n ∧ s.length ≤ p + f ∧ n ≤ p ∧ p ≤ s.length ∧ (p = 0 ↔ n = 0)) (fun _ p n => mkT [(0, .d (.str s)), (3, .d (.int .i64 n)), (7, .ptr 7 0)]) (fun _ p _ => mkT [(7, .iter s p)]) (fun _ p _ => s.length + 4 - p) s.length 0 0 ⟨rfl, by omega, by omega, by omega, by simp⟩
    (Weak.of [] rfl rfl ⟨⟨_, rfl, rfl⟩, ⟨_, rfl, rfl⟩, ⟨_, rfl, rfl⟩, trivial⟩ ⟨rfl, trivial⟩) ?_
  intro f p n ⟨he, hf, hn, hp, hpn⟩
  ((conv => whnf); (repeat' (first | (refine Br.tt (by first | assumption | with_reducible rfl | with_reducible exact Bool.not_false) ?_; conv => whnf) | (refine Br.ff (by first | assumption | with_reducible rfl | with_reducible exact Bool.not_true) ?_; conv => whnf) | fail)))
  ((repeat' (first | (refine Br.tt (by first | assumption | with_reducible rfl | with_reducible exact Bool.not_false) ?_; conv => whnf) | (refine Br.ff (by first | assumption | with_reducible rfl | with_reducible exact Bool.not_true) ?_; conv => whnf) | fail)); (refine Br.mk (fun h => ?_) (fun h => ?_) <;> ((conv => whnf); (repeat' (first | (refine Br.tt (by first | assumption | with_reducible rfl | with_reducible exact Bool.not_false) ?_; conv => whnf) | (refine Br.ff (by first | assumption | with_reducible rfl | with_reducible exact Bool.not_true) ?_; conv => whnf) | fail)))))
  · have hlt : p < s.length := by simpa using h
    have hu := udec_spec s p
    have hwd := udec_wide s p
    have hpw : p + (udec s p).2 ≤ s.length := by
      by_cases h2 : (udec s p).2 = 1
      · omega
      · have := hu.2.2 ((udec s p).2 - 1) (by omega) (by omega); omega
    obtain ⟨f', rfl⟩ : ∃ f', f = f' + 1 := ⟨f - 1, by omega⟩
    have hnb : (((p : Int)) == 0) = decide (n = 0) := by
      rw [Bool.eq_iff_iff]; simp; omega
    ((repeat' (first | (refine Br.tt (by first | assumption | with_reducible rfl | with_reducible exact Bool.not_false) ?_; conv => whnf) | (refine Br.ff (by first | assumption | with_reducible rfl | with_reducible exact Bool.not_true) ?_; conv => whnf) | fail)); (refine Br.mk (fun h2 => ?_) (fun h2 => ?_) <;> ((conv => whnf); (repeat' (first | (refine Br.tt (by first | assumption | with_reducible rfl | with_reducible exact Bool.not_false) ?_; conv => whnf) | (refine Br.ff (by first | assumption | with_reducible rfl | with_reducible exact Bool.not_true) ?_; conv => whnf) | fail)))))
    · refine CallsA.then (start_ok _) ?_
      ((conv => whnf); (repeat' (first | (refine Br.tt (by first | assumption | with_reducible rfl | with_reducible exact Bool.not_false) ?_; conv => whnf) | (refine Br.ff (by first | assumption | with_reducible rfl | with_reducible exact Bool.not_true) ?_; conv => whnf) | fail)))
      ((repeat' (first | (refine Br.tt (by first | assumption | with_reducible rfl | with_reducible exact Bool.not_false) ?_; conv => whnf) | (refine Br.ff (by first | assumption | with_reducible rfl | with_reducible exact Bool.not_true) ?_; conv => whnf) | fail)); (refine Br.mk (fun h3 => ?_) (fun h3 => ?_) <;> ((conv => whnf); (repeat' (first | (refine Br.tt (by first | assumption | with_reducible rfl | with_reducible exact Bool.not_false) ?_; conv => whnf) | (refine Br.ff (by first | assumption | with_reducible rfl | with_reducible exact Bool.not_true) ?_; conv => whnf) | fail)))))
      · repeat' (first | (refine Br.tt (by first | assumption | with_reducible rfl | with_reducible exact Bool.not_false) ?_; conv => whnf) | (refine Br.ff (by first | assumption | with_reducible rfl | with_reducible exact Bool.not_true) ?_; conv => whnf) | (refine Need.of (by first | omega | (simp; done) | (simp; omega) | (simp at *; omega)) ?_; conv => whnf) | (refine Br.mk (fun _ => ?_) (fun _ => ?_) <;> (conv => whnf)) | fail)
        have hb := nameAt_bad (f := f') (n := n) hlt (.inl ⟨by simp at h2; omega, by simpa using h3⟩)
        rw [hb] at he
        unfold nameOk; rw [he]; exact ⟨rfl, by trivial⟩
      refine CallsA.then (rest_ok _) ?_
      ((conv => whnf); (repeat' (first | (refine Br.tt (by first | assumption | with_reducible rfl | with_reducible exact Bool.not_false) ?_; conv => whnf) | (refine Br.ff (by first | assumption | with_reducible rfl | with_reducible exact Bool.not_true) ?_; conv => whnf) | fail)))
      ((repeat' (first | (refine Br.tt (by first | assumption | with_reducible rfl | with_reducible exact Bool.not_false) ?_; conv => whnf) | (refine Br.ff (by first | assumption | with_reducible rfl | with_reducible exact Bool.not_true) ?_; conv => whnf) | fail)); (refine Br.mk (fun h4 => ?_) (fun h4 => ?_) <;> ((conv => whnf); (repeat' (first | (refine Br.tt (by first | assumption | with_reducible rfl | with_reducible exact Bool.not_false) ?_; conv => whnf) | (refine Br.ff (by first | assumption | with_reducible rfl | with_reducible exact Bool.not_true) ?_; conv => whnf) | fail)))))
      · repeat' (first | (refine Br.tt (by first | assumption | with_reducible rfl | with_reducible exact Bool.not_false) ?_; conv => whnf) | (refine Br.ff (by first | assumption | with_reducible rfl | with_reducible exact Bool.not_true) ?_; conv => whnf) | (refine Need.of (by first | omega | (simp; done) | (simp; omega) | (simp at *; omega)) ?_; conv => whnf) | (refine Br.mk (fun _ => ?_) (fun _ => ?_) <;> (conv => whnf)) | fail)
        have hb := nameAt_bad (f := f') (n := n) hlt (.inr (by simpa using h4))
        rw [hb] at he
        unfold nameOk; rw [he]; exact ⟨rfl, by trivial⟩
      have hg := nameAt_go (f := f') (n := n) hlt (by simp at h3 h4; simp [h3, h4])
      rw [hg] at he
      refine ⟨f', p + (udec s p).2, n + 1, ⟨⟨he, by omega, by omega, by omega, by omega⟩, by omega⟩, Weak.of [] rfl rfl ⟨⟨_, rfl, rfl⟩, ⟨_, rfl, ?_⟩, ⟨_, rfl, rfl⟩, trivial⟩ ⟨rfl, trivial⟩⟩
      simp only [Pre]; rw [wrap_i64 (by omega) (by omega)]; rfl
    · refine CallsA.then (rest_ok _) ?_
      ((conv => whnf); (repeat' (first | (refine Br.tt (by first | assumption | with_reducible rfl | with_reducible exact Bool.not_false) ?_; conv => whnf) | (refine Br.ff (by first | assumption | with_reducible rfl | with_reducible exact Bool.not_true) ?_; conv => whnf) | fail)))
      ((repeat' (first | (refine Br.tt (by first | assumption | with_reducible rfl | with_reducible exact Bool.not_false) ?_; conv => whnf) | (refine Br.ff (by first | assumption | with_reducible rfl | with_reducible exact Bool.not_true) ?_; conv => whnf) | fail)); (refine Br.mk (fun h4 => ?_) (fun h4 => ?_) <;> ((conv => whnf); (repeat' (first | (refine Br.tt (by first | assumption | with_reducible rfl | with_reducible exact Bool.not_false) ?_; conv => whnf) | (refine Br.ff (by first | assumption | with_reducible rfl | with_reducible exact Bool.not_true) ?_; conv => whnf) | fail)))))
      · repeat' (first | (refine Br.tt (by first | assumption | with_reducible rfl | with_reducible exact Bool.not_false) ?_; conv => whnf) | (refine Br.ff (by first | assumption | with_reducible rfl | with_reducible exact Bool.not_true) ?_; conv => whnf) | (refine Need.of (by first | omega | (simp; done) | (simp; omega) | (simp at *; omega)) ?_; conv => whnf) | (refine Br.mk (fun _ => ?_) (fun _ => ?_) <;> (conv => whnf)) | fail)
        have hb := nameAt_bad (f := f') (n := n) hlt (.inr (by simpa using h4))
        rw [hb] at he
        unfold nameOk; rw [he]; exact ⟨rfl, by trivial⟩
      have hn0 : n ≠ 0 := by simp at h2; omega
      have hg := nameAt_go (f := f') (n := n) hlt (by simp at h4; simp [h4, hn0])
      rw [hg] at he
      refine ⟨f', p + (udec s p).2, n + 1, ⟨⟨he, by omega, by omega, by omega, by omega⟩, by omega⟩, Weak.of [] rfl rfl ⟨⟨_, rfl, rfl⟩, ⟨_, rfl, ?_⟩, ⟨_, rfl, rfl⟩, trivial⟩ ⟨rfl, trivial⟩⟩
      simp only [Pre]; rw [wrap_i64 (by omega) (by omega)]; rfl
  · have hge : s.length ≤ p := by simpa using h
    rw [nameAt_end (f := f) (p := p) hge] at he
    have hO : nameOk s = (decide (1 ≤ n ∧ n ≤ 16) && !reserved s) := by unfold nameOk; rw [he]
    rw [hO]
    ((repeat' (first | (refine Br.tt (by first | assumption | with_reducible rfl | with_reducible exact Bool.not_false) ?_; conv => whnf) | (refine Br.ff (by first | assumption | with_reducible rfl | with_reducible exact Bool.not_true) ?_; conv => whnf) | fail)); (refine Br.mk (fun g1 => ?_) (fun g1 => ?_) <;> ((conv => whnf); (repeat' (first | (refine Br.tt (by first | assumption | with_reducible rfl | with_reducible exact Bool.not_false) ?_; conv => whnf) | (refine Br.ff (by first | assumption | with_reducible rfl | with_reducible exact Bool.not_true) ?_; conv => whnf) | fail)))))
    · ((repeat' (first | (refine Br.tt (by first | assumption | with_reducible rfl | with_reducible exact Bool.not_false) ?_; conv => whnf) | (refine Br.ff (by first | assumption | with_reducible rfl | with_reducible exact Bool.not_true) ?_; conv => whnf) | fail)); (refine Br.mk (fun g2 => ?_) (fun g2 => ?_) <;> ((conv => whnf); (repeat' (first | (refine Br.tt (by first | assumption | with_reducible rfl | with_reducible exact Bool.not_false) ?_; conv => whnf) | (refine Br.ff (by first | assumption | with_reducible rfl | with_reducible exact Bool.not_true) ?_; conv => whnf) | fail)))))
      · refine CallsA.then (reserved_ok _) ?_
        ((conv => whnf); (repeat' (first | (refine Br.tt (by first | assumption | with_reducible rfl | with_reducible exact Bool.not_false) ?_; conv => whnf) | (refine Br.ff (by first | assumption | with_reducible rfl | with_reducible exact Bool.not_true) ?_; conv => whnf) | fail)))
        have : 1 ≤ n ∧ n ≤ 16 := by simp at g1 g2; omega
        simp [this]
      · repeat' (first | (refine Br.tt (by first | assumption | with_reducible rfl | with_reducible exact Bool.not_false) ?_; conv => whnf) | (refine Br.ff (by first | assumption | with_reducible rfl | with_reducible exact Bool.not_true) ?_; conv => whnf) | (refine Need.of (by first | omega | (simp; done) | (simp; omega) | (simp at *; omega)) ?_; conv => whnf) | (refine Br.mk (fun _ => ?_) (fun _ => ?_) <;> (conv => whnf)) | fail)
        have : ¬ (1 ≤ n ∧ n ≤ 16) := by simp at g1 g2; omega
        simp [this]
    · repeat' (first | (refine Br.tt (by first | assumption | with_reducible rfl | with_reducible exact Bool.not_false) ?_; conv => whnf) | (refine Br.ff (by first | assumption | with_reducible rfl | with_reducible exact Bool.not_true) ?_; conv => whnf) | (refine Need.of (by first | omega | (simp; done) | (simp; omega) | (simp at *; omega)) ?_; conv => whnf) | (refine Br.mk (fun _ => ?_) (fun _ => ?_) <;> (conv => whnf)) | fail)
      have : ¬ (1 ≤ n ∧ n ≤ 16) := by simp at g1; omega
      simp [this]
end Go.Proofs.L24

namespace Go.Proofs.L24
open Go Aw Go.Proofs
variable {W0 : World}
set_option linter.unusedSimpArgs false in
set_option maxRecDepth 100000 in
set_option maxHeartbeats 4000000 in
theorem half_ok (x : Int) : CallsA Tryd.prog W0 57 [] [.d (.int .u8 x)] fun rs os => rs = [.d (.int .u8 (if nib x < 0 then 0 else nib x)), .d (.bool (decide (0 ≤ nib x)))] ∧ os = [] := by
  refine calls_of_awpC tok [.tmp 2, .tmp 3] Tryd.func57 rfl rfl rfl rfl rfl ?_
  ((conv => whnf); (repeat' (first | (refine Br.tt (by first | assumption | with_reducible rfl | with_reducible exact Bool.not_false) ?_; conv => whnf) | (refine Br.ff (by first | assumption | with_reducible rfl | with_reducible exact Bool.not_true) ?_; conv => whnf) | fail)))
  repeat' (first | (refine Br.tt (by first | assumption | with_reducible rfl | with_reducible exact Bool.not_false) ?_; conv => whnf) | (refine Br.ff (by first | assumption | with_reducible rfl | with_reducible exact Bool.not_true) ?_; conv => whnf) | (refine Need.of (by first | omega | (simp; done) | (simp; omega) | (simp at *; omega)) ?_; conv => whnf) | (refine Br.mk (fun _ => ?_) (fun _ => ?_) <;> (conv => whnf)) | fail)
  all_goals simp only [decide_eq_true_eq, decide_eq_false_iff_not] at *
  all_goals first
    | omega
    | (have e : nib x = x - 48 := by rw [nib, if_pos (by omega)]
       rw [wrap_u8 (by omega) (by omega), e, if_neg (by omega), decide_eq_true (by omega)]; exact ⟨rfl, by trivial⟩)
    | (have e : nib x = x - 97 + 10 := by rw [nib, if_neg (by omega), if_pos (by omega)]
       rw [wrap_u8 (n := x - 97) (by omega) (by omega), wrap_u8 (by omega) (by omega), e, if_neg (by omega), decide_eq_true (by omega)]; exact ⟨rfl, by trivial⟩)
    | (have e : nib x = -1 := by rw [nib, if_neg (by omega), if_neg (by omega)]
       rw [e, if_pos (by omega), decide_eq_false (by omega)]; exact ⟨rfl, by trivial⟩)
theorem or16 (a b : Int) (ha : 0 ≤ a ∧ a ≤ 15) (hb : 0 ≤ b ∧ b ≤ 15) : IntKind.u8.wrap (BitVec.ofInt IntKind.u8.bits (a * 16) ||| BitVec.ofInt IntKind.u8.bits b).toNat = 16 * a + b := by
  have key : ∀ a b : Fin 16, IntKind.u8.wrap (BitVec.ofInt IntKind.u8.bits ((a.val : Int) * 16) ||| BitVec.ofInt IntKind.u8.bits (b.val : Int)).toNat = 16 * (a.val : Int) + b.val := by decide
  have := key ⟨a.toNat, by omega⟩ ⟨b.toNat, by omega⟩
  simp only [Int.toNat_of_nonneg ha.1, Int.toNat_of_nonneg hb.1] at this
  exact this
def hexOutP (w : List UInt8) : List PV := if w.length = 0 ∨ w.length % 2 ≠ 0 then [.own 0 [] true, .d (.bool false)] else match hexLoop w with
  | none => [.own 0 [] true, .d (.bool false)]
  | some l => [.own 1 (l.map (DV.int .u8)) true, .d (.bool true)]
set_option linter.unusedSimpArgs false in
set_option maxRecDepth 100000 in
set_option maxHeartbeats 4000000 in
theorem hex_ok (w : List UInt8) (hw : w.length < 1000000000000) : CallsA Tryd.prog W0 37 [] [.d (.str w)] fun rs os => rs = hexOutP w ∧ os = [] := by
  refine calls_of_awpC tok [.tmp 2, .tmp 3] Tryd.func37 rfl rfl rfl rfl rfl ?_
  ((conv => whnf); (repeat' (first | (refine Br.tt (by first | assumption | with_reducible rfl | with_reducible exact Bool.not_false) ?_; conv => whnf) | (refine Br.ff (by first | assumption | with_reducible rfl | with_reducible exact Bool.not_true) ?_; conv => whnf) | fail)))
  have ht : ((w.length : Int).tmod 2 != 0) = decide (w.length % 2 ≠ 0) := by
    rw [Int.tmod_eq_emod_of_nonneg (by omega), Bool.eq_iff_iff]
    simp
    omega
  ((repeat' (first | (refine Br.tt (by first | assumption | with_reducible rfl | with_reducible exact Bool.not_false) ?_; conv => whnf) | (refine Br.ff (by first | assumption | with_reducible rfl | with_reducible exact Bool.not_true) ?_; conv => whnf) | fail)); (refine Br.mk (fun h1 => ?_) (fun h1 => ?_) <;> ((conv => whnf); (repeat' (first | (refine Br.tt (by first | assumption | with_reducible rfl | with_reducible exact Bool.not_false) ?_; conv => whnf) | (refine Br.ff (by first | assumption | with_reducible rfl | with_reducible exact Bool.not_true) ?_; conv => whnf) | fail)))))
  · have h1' : w.length = 0 := by simp at h1; simp [h1]
    have : hexOutP w = [.own 0 [] true, .d (.bool false)] := if_pos (.inl h1')
    rw [this]; exact ⟨rfl, by trivial⟩
  have h1' : w.length ≠ 0 := by intro h; rw [h] at h1; simp at h1
  refine Need.of (by omega) ?_
  ((conv => whnf); (repeat' (first | (refine Br.tt (by first | assumption | with_reducible rfl | with_reducible exact Bool.not_false) ?_; conv => whnf) | (refine Br.ff (by first | assumption | with_reducible rfl | with_reducible exact Bool.not_true) ?_; conv => whnf) | fail)))
  ((repeat' (first | (refine Br.tt (by first | assumption | with_reducible rfl | with_reducible exact Bool.not_false) ?_; conv => whnf) | (refine Br.ff (by first | assumption | with_reducible rfl | with_reducible exact Bool.not_true) ?_; conv => whnf) | fail)); (refine Br.mk (fun h2 => ?_) (fun h2 => ?_) <;> ((conv => whnf); (repeat' (first | (refine Br.tt (by first | assumption | with_reducible rfl | with_reducible exact Bool.not_false) ?_; conv => whnf) | (refine Br.ff (by first | assumption | with_reducible rfl | with_reducible exact Bool.not_true) ?_; conv => whnf) | fail)))))
  · rw [ht] at h2
    have : hexOutP w = [.own 0 [] true, .d (.bool false)] := if_pos (.inr (by simpa using h2))
    rw [this]; exact ⟨rfl, by trivial⟩
  rw [ht, decide_eq_false_iff_not] at h2
  have hO : hexOutP w = match hexLoop w with
    | none => [.own 0 [] true, .d (.bool false)]
    | some l => [.own 1 (l.map (DV.int .u8)) true, .d (.bool true)] := if_neg (by omega)
  refine loop_by2 (fun (i : Nat) (acc : List Int) => i ≤ w.length ∧ acc.length ≤ i ∧ hexLoop w = (hexLoop (w.drop i)).map (acc ++ ·) ∧ i % 2 = 0)
    (fun i acc => mkT [(0, .d (.str w)), (4, .lst 6), (5, .d (.int .i64 i))]) (fun i acc => mkT [(6, .list 1 (acc.map (DV.int .u8)) true)]) (fun i _ => w.length + 2 - i) 0 [] ⟨by omega, by simp, by simp, rfl⟩
    (Weak.of [(6, none)] rfl rfl ⟨⟨_, rfl, rfl⟩, ⟨_, rfl, ⟨_, rfl⟩⟩, ⟨_, rfl, rfl⟩, trivial⟩ ⟨trivial, trivial⟩) ?_
  intro i acc ⟨hi, hl, he, hp⟩
  ((conv => whnf); (repeat' (first | (refine Br.tt (by first | assumption | with_reducible rfl | with_reducible exact Bool.not_false) ?_; conv => whnf) | (refine Br.ff (by first | assumption | with_reducible rfl | with_reducible exact Bool.not_true) ?_; conv => whnf) | fail)))
  have hw1 : IntKind.i64.wrap ((i : Int) + 1) = i + 1 := wrap_i64 (by omega) (by omega)
  ((repeat' (first | (refine Br.tt (by first | assumption | with_reducible rfl | with_reducible exact Bool.not_false) ?_; conv => whnf) | (refine Br.ff (by first | assumption | with_reducible rfl | with_reducible exact Bool.not_true) ?_; conv => whnf) | fail)); (refine Br.mk (fun h => ?_) (fun h => ?_) <;> ((conv => whnf); (repeat' (first | (refine Br.tt (by first | assumption | with_reducible rfl | with_reducible exact Bool.not_false) ?_; conv => whnf) | (refine Br.ff (by first | assumption | with_reducible rfl | with_reducible exact Bool.not_true) ?_; conv => whnf) | fail)))))
  · have hlt0 : i < w.length := by simpa using h
    have hlt : i + 1 < w.length := by omega
    have hA : w.getD (Int.toNat (i : Int)) 0 = w[i] := by simp [List.getElem?_eq_getElem (show i < w.length by omega)]
    have hB : w.getD (Int.toNat (IntKind.i64.wrap ((i : Int) + 1))) 0 = w[i+1] := by rw [hw1]; simp [List.getElem?_eq_getElem hlt]
    have hd : w.drop i = w[i] :: w[i+1] :: w.drop (i + 2) := by
      rw [List.drop_eq_getElem_cons (by omega), List.drop_eq_getElem_cons hlt]
    have r1 := nib_range w[i].toNat
    have r2 := nib_range w[i+1].toNat
    rw [hd] at he
    refine Need.of ⟨by omega, by simp; omega⟩ ?_
    ((conv => whnf); (repeat' (first | (refine Br.tt (by first | assumption | with_reducible rfl | with_reducible exact Bool.not_false) ?_; conv => whnf) | (refine Br.ff (by first | assumption | with_reducible rfl | with_reducible exact Bool.not_true) ?_; conv => whnf) | fail)))
    rw [hA]
    refine CallsA.then (half_ok _) ?_
    ((conv => whnf); (repeat' (first | (refine Br.tt (by first | assumption | with_reducible rfl | with_reducible exact Bool.not_false) ?_; conv => whnf) | (refine Br.ff (by first | assumption | with_reducible rfl | with_reducible exact Bool.not_true) ?_; conv => whnf) | fail)))
    refine Need.of ⟨by rw [hw1]; omega, by rw [hw1]; simp; omega⟩ ?_
    ((conv => whnf); (repeat' (first | (refine Br.tt (by first | assumption | with_reducible rfl | with_reducible exact Bool.not_false) ?_; conv => whnf) | (refine Br.ff (by first | assumption | with_reducible rfl | with_reducible exact Bool.not_true) ?_; conv => whnf) | fail)))
    rw [hB]
    refine CallsA.then (half_ok _) ?_
    ((conv => whnf); (repeat' (first | (refine Br.tt (by first | assumption | with_reducible rfl | with_reducible exact Bool.not_false) ?_; conv => whnf) | (refine Br.ff (by first | assumption | with_reducible rfl | with_reducible exact Bool.not_true) ?_; conv => whnf) | fail)))
    ((repeat' (first | (refine Br.tt (by first | assumption | with_reducible rfl | with_reducible exact Bool.not_false) ?_; conv => whnf) | (refine Br.ff (by first | assumption | with_reducible rfl | with_reducible exact Bool.not_true) ?_; conv => whnf) | fail)); (refine Br.mk (fun g1 => ?_) (fun g1 => ?_) <;> ((conv => whnf); (repeat' (first | (refine Br.tt (by first | assumption | with_reducible rfl | with_reducible exact Bool.not_false) ?_; conv => whnf) | (refine Br.ff (by first | assumption | with_reducible rfl | with_reducible exact Bool.not_true) ?_; conv => whnf) | fail)))))
    · have hb : hexLoop (w[i] :: w[i+1] :: w.drop (i + 2)) = none := if_pos (by left; simpa using g1)
      rw [hb] at he
      rw [hO, he]; exact ⟨rfl, by trivial⟩
    ((repeat' (first | (refine Br.tt (by first | assumption | with_reducible rfl | with_reducible exact Bool.not_false) ?_; conv => whnf) | (refine Br.ff (by first | assumption | with_reducible rfl | with_reducible exact Bool.not_true) ?_; conv => whnf) | fail)); (refine Br.mk (fun g2 => ?_) (fun g2 => ?_) <;> ((conv => whnf); (repeat' (first | (refine Br.tt (by first | assumption | with_reducible rfl | with_reducible exact Bool.not_false) ?_; conv => whnf) | (refine Br.ff (by first | assumption | with_reducible rfl | with_reducible exact Bool.not_true) ?_; conv => whnf) | fail)))))
    · have hb : hexLoop (w[i] :: w[i+1] :: w.drop (i + 2)) = none := if_pos (by right; simpa using g2)
      rw [hb] at he
      rw [hO, he]; exact ⟨rfl, by trivial⟩
    have q1 : ¬ nib w[i].toNat < 0 := by simpa using g1
    have q2 : ¬ nib w[i+1].toNat < 0 := by simpa using g2
    have hb : hexLoop (w[i] :: w[i+1] :: w.drop (i + 2)) = (hexLoop (w.drop (i + 2))).map fun l => (16 * nib w[i].toNat + nib w[i+1].toNat) :: l :=
      if_neg (by omega)
    rw [hb] at he
    refine Need.of (by omega) ?_
    ((conv => whnf); (repeat' (first | (refine Br.tt (by first | assumption | with_reducible rfl | with_reducible exact Bool.not_false) ?_; conv => whnf) | (refine Br.ff (by first | assumption | with_reducible rfl | with_reducible exact Bool.not_true) ?_; conv => whnf) | fail)))
    refine Need.of (by intro y hy; simp at hy; subst hy; rfl) ?_
    ((conv => whnf); (repeat' (first | (refine Br.tt (by first | assumption | with_reducible rfl | with_reducible exact Bool.not_false) ?_; conv => whnf) | (refine Br.ff (by first | assumption | with_reducible rfl | with_reducible exact Bool.not_true) ?_; conv => whnf) | fail)))
    refine Need.of ⟨trivial, by simp; omega⟩ ?_
    ((conv => whnf); (repeat' (first | (refine Br.tt (by first | assumption | with_reducible rfl | with_reducible exact Bool.not_false) ?_; conv => whnf) | (refine Br.ff (by first | assumption | with_reducible rfl | with_reducible exact Bool.not_true) ?_; conv => whnf) | fail)))
    refine ⟨i + 2, acc ++ [16 * nib w[i].toNat + nib w[i+1].toNat], ⟨⟨by omega, by simp; omega, ?_, by omega⟩, by omega⟩, Weak.of [(6, some 52)] rfl rfl ⟨⟨_, rfl, rfl⟩, ⟨_, rfl, rfl⟩, ⟨_, rfl, ?_⟩, trivial⟩ ⟨?_, trivial⟩⟩
    · rw [he]; simp [Function.comp_def]
    · simp only [Pre]; rw [wrap_i64 (by omega) (by omega)]; rfl
    · have e16 : IntKind.u8.wrap (BitVec.ofInt IntKind.u8.bits (IntKind.u8.wrap (nib w[i].toNat * 2 ^ min (Int.toNat 4) IntKind.u8.bits)) ||| BitVec.ofInt IntKind.u8.bits (nib w[i+1].toNat)).toNat = 16 * nib w[i].toNat + nib w[i+1].toNat := by
        have : (2 : Int) ^ min (Int.toNat 4) IntKind.u8.bits = 16 := rfl
        rw [this, wrap_u8 (n := nib w[i].toNat * 16) (by omega) (by omega)]
        exact or16 _ _ (by omega) (by omega)
      refine (show some (Ob.list 1 (acc.map (DV.int .u8) ++ [DV.int .u8 (IntKind.u8.wrap (BitVec.ofInt IntKind.u8.bits (IntKind.u8.wrap ((if nib w[i].toNat < 0 then 0 else nib w[i].toNat) * 2 ^ min (Int.toNat 4) IntKind.u8.bits)) ||| BitVec.ofInt IntKind.u8.bits (if nib w[i+1].toNat < 0 then 0 else nib w[i+1].toNat)).toNat)]) true) = some (Ob.list 1 ((acc ++ [16 * nib w[i].toNat + nib w[i+1].toNat]).map (DV.int .u8)) true) from ?_)
      rw [if_neg q1, if_neg q2, e16]
      simp
  · have hge : i = w.length := by simp at h; omega
    rw [hge, List.drop_length] at he
    rw [hO, he]; simp [hexLoop]
end Go.Proofs.L24

namespace Go.Proofs
open Go.Shelf
end Go.Proofs
namespace Go.Proofs.L24
open Go Aw Go.Proofs Go.Shelf Go.RowKit
variable {W0 : World}
/-- What the start-up code has laid, of the variables that are read. -/
structure NumW (W0 : World) : Prop where
  syn : ∃ te pe, W0.cell? ⟨3, 0, none⟩ = some (.iface te pe)
  rng : ∃ te pe, W0.cell? ⟨4, 0, none⟩ = some (.iface te pe)
  tab : Lib.TabIs Tryd.prog W0 "internal/strconv.uint64pow10" .u64 Lib.pow10Tab
theorem cell_stays {W w : World} {b : Nat} {v : Value} (h : W.cell? ⟨b, 0, none⟩ = some v) (hb : Below W.heap.size W w) : w.cell? ⟨b, 0, none⟩ = some v := by
  have hlt := World.block_lt_of_cell? _ _ h
  have : w.heap[b]? = W.heap[b]? := hb.block b hlt
  unfold World.cell? at h ⊢
  simp only [this] at h ⊢
  exact h
theorem NumW.below {W w : World} (h : NumW W) (hb : Below W.heap.size W w) : NumW w := by
  obtain ⟨⟨te, pe, h1⟩, ⟨te2, pe2, h2⟩, h3⟩ := h
  refine ⟨⟨te, pe, cell_stays h1 hb⟩, ⟨te2, pe2, cell_stays h2 hb⟩, ?_⟩
  unfold Lib.TabIs World.var? at h3 ⊢
  have hg : ∃ g, Tryd.prog.globalNamed "internal/strconv.uint64pow10" = some g := by
    cases h : Tryd.prog.globalNamed "internal/strconv.uint64pow10" with
    | none => rw [h] at h3; cases h3
    | some g => exact ⟨g, rfl⟩
  obtain ⟨g, hg⟩ := hg
  rw [hg] at h3 ⊢
  simp only [Option.bind_some] at h3 ⊢
  have hlt : g < W.heap.size := by
    rcases Nat.lt_or_ge g W.heap.size with q | q
    · exact q
    · rw [Array.getElem?_eq_none q] at h3; cases h3
  rw [hb.block g hlt]; exact h3
def progNumber (w : List UInt8) : Int × Bool := match Lib.parseIntB 64 w with
  | .ok v => (v, Lib.itoa v == w)
  | .range => (Lib.intSat 64 w, false)
  | _ => (0, false)
theorem below_grow' (w : World) (k : Nat) (os : Array Obj) : Below w.heap.size w (Sort.grow (w.drewN k) os) :=
  ⟨rfl, rfl, rfl, by simp [Sort.grow], fun i hi => by
    show ((w.drewN k).heap ++ os)[i]? = _
    rw [Array.getElem?_append_left (by show i < w.heap.size; omega)]
    rfl⟩
theorem parse64_range {w : List UInt8} {v : Int} (h : Lib.parseIntB 64 w = .ok v) : -9223372036854775808 ≤ v ∧ v ≤ 9223372036854775807 := by
  unfold Lib.parseIntB at h
  split at h
  · cases h
  · simp only at h
    split at h
    · cases h
    · cases h
    · rename_i u _
      split at h
      · cases h
      · split at h
        · cases h
        · rename_i h1 h2
          cases h
          split
          · rename_i hn; simp only [hn, true_and] at h2; omega
          · rename_i hn; simp only [hn, not_false_eq_true, true_and] at h1; omega
set_option maxRecDepth 100000 in
set_option maxHeartbeats 4000000 in
theorem number_walk (s : List UInt8) (hs : s.length < 1000000000000) (w : World) (hw : NumW w) : Calls Tryd.prog 35 #[.string ⟨s.toArray⟩] w fun e w' => e = .returned (.tuple #[.int .i64 (progNumber s).1, .bool (progNumber s).2]) ∧ Below w.heap.size w w' := by
  have hsz : (⟨s.toArray⟩ : ByteArray).size = s.length := by simp [ByteArray.size]
  obtain ⟨te, pe, hsyn⟩ := hw.syn
  obtain ⟨te2, pe2, hrng⟩ := hw.rng
  rcases hp : Lib.parseIntB 64 s with v | _ | _
  ·
    have hP : Calls Tryd.prog 54 #[.string ⟨s.toArray⟩, .int .i64 10, .int .i64 64] w fun e w' => e = .returned (.tuple #[.int .i64 v, .nilIface]) ∧ Below w.heap.size w w' :=
      (Any.strconv_ParseInt_10_at64_ok Tryd.lays174 ⟨s.toArray⟩ (by rw [hsz]; omega) v hp w).mono fun e w' ⟨h1, h2⟩ => by
        refine ⟨h1, ?_⟩
        rcases h2 with rfl | ⟨t, rfl⟩
        · exact Below.refl _ _
        · exact Lib.bytesWorld_below _ _ _
    obtain ⟨v1, v2⟩ := parse64_range hp
    have hF : ∀ w1, Below w.heap.size w w1 → Calls Tryd.prog 55 #[.int .i64 v, .int .i64 10] w1 fun e w' => e = .returned (.string ⟨(Lib.itoa v).toArray⟩) ∧ Below w1.heap.size w1 w' := fun w1 hb =>
      (Any.strconv_FormatInt_10 Tryd.lays173 v v1 v2 w1 (hw.below hb).tab).mono fun e w' ⟨h1, k, os, h2⟩ => ⟨h1, h2 ▸ below_grow' w1 k os⟩
    have hn : progNumber s = (v, Lib.itoa v == s) := by unfold progNumber; rw [hp]
    rw [hn]
    generalize Lib.itoa v = it at *
    go_enter Tryd.func35, Tryd.ntmps35
    go_wp2_with (first
      | (go_at_call 54; refine hP.mono ?_; rintro e w' ⟨rfl, hB1⟩)
      | (go_at_call 55; refine (hF _ hB1).mono ?_; rintro e w'' ⟨rfl, hB2⟩))
    go_ret2
    exact ⟨rfl, hB1.trans (hB2.mono hB1.size)⟩
  ·
    have hP := Any.strconv_ParseInt_10_at64_syntax Tryd.lays174 ⟨s.toArray⟩ (by rw [hsz]; omega) hp (.iface te pe) w hsyn (.inr ⟨_, _, rfl⟩)
    change Calls Tryd.prog 54 _ _ _ at hP
    have hn : progNumber s = (0, false) := by unfold progNumber; rw [hp]
    rw [hn]
    go_enter Tryd.func35, Tryd.ntmps35
    go_wp2_with (first
      | (go_at_call 54; refine hP.mono ?_; rintro e w' ⟨N, rfl, -, -, hB⟩))
    go_ret2
    exact ⟨rfl, hB⟩
  ·
    have hP := Any.strconv_ParseInt_10_at64_range Tryd.lays174 ⟨s.toArray⟩ (by rw [hsz]; omega) hp (.iface te2 pe2) w hrng (.inr ⟨_, _, rfl⟩)
    change Calls Tryd.prog 54 _ _ _ at hP
    have hn : progNumber s = (Lib.intSat 64 s, false) := by unfold progNumber; rw [hp]
    rw [hn]
    go_enter Tryd.func35, Tryd.ntmps35
    go_wp2_with (first
      | (go_at_call 54; refine hP.mono ?_; rintro e w' ⟨N, rfl, -, -, hB⟩))
    go_ret2
    exact ⟨rfl, hB⟩
theorem number_ok (hW : NumW W0) (s : List UInt8) (hs : s.length < 1000000000000) : CallsA Tryd.prog W0 35 [] [.d (.str s)] fun rs os => rs = [.d (.int .i64 (progNumber s).1), .d (.bool (progNumber s).2)] ∧ os = [] := by
  refine CallsA.of_below (xs := [.str s]) (ys := [.int .i64 (progNumber s).1, .bool (progNumber s).2]) («as» := [.string ⟨s.toArray⟩]) (vs := [.int .i64 (progNumber s).1, .bool (progNumber s).2]) (known_of Tryd.func35 rfl rfl) rfl ?_ rfl ?_
    (fun w hb => number_walk s hs w (hW.below hb))
  · intro i x a hx ha
    match i with
    | 0 => cases hx; cases ha; exact .str s
  · intro i x a hx ha
    match i with
    | 0 => cases hx; cases ha; exact .int _ _
    | 1 => cases hx; cases ha; exact .bool _
end Go.Proofs.L24

namespace Go.Proofs.L24
open Go Aw Go.Proofs
variable {W0 : World}
def hexP (w : List UInt8) : Option (List Int) := if w.length = 0 ∨ w.length % 2 ≠ 0 then none else hexLoop w
def takeCmd (c : Cmd) (kind : Int) (w : List UInt8) : Cmd × Bool :=
  if kind = 110 then ({c with names := c.names ++ [w]}, nameOk w)
  else if kind = 107 then ({c with values := c.values ++ [(progNumber w).1]}, (progNumber w).2)
  else if kind = 120 then ({c with frm := c.frm ++ [w.take (cutIx w)], to_ := c.to_ ++ [w.drop (cutIx w + 1)]}, nameOk (w.take (cutIx w)) && nameOk (w.drop (cutIx w + 1)))
  else if kind = 104 then (match hexP w with
    | none => ({c with bytes := [], bk := 0}, false)
    | some l => ({c with bytes := l, bk := 1}, true))
  else (c, w == [61])
theorem hexOutP_eq (w : List UInt8) : hexOutP w = match hexP w with
    | none => [.own 0 [] true, .d (.bool false)]
    | some l => [.own 1 (l.map (DV.int .u8)) true, .d (.bool true)] := by
  unfold hexOutP hexP
  split
  · rfl
  · rfl
set_option linter.unusedSimpArgs false in
set_option maxRecDepth 100000 in
set_option maxHeartbeats 4000000 in
theorem take_ok (hW : NumW W0) (c : Cmd) (kind : Int) (w : List UInt8) (hw : w.length < 1000000000000) (hc : c.Ok 1000000000000) : CallsA Tryd.prog W0 24 [c.ps] [.ptr 0 0, .d (.int .u8 kind), .d (.str w)]
    fun rs os => rs = [.d (.bool (takeCmd c kind w).2)] ∧ os = [(takeCmd c kind w).1.ps] := by
  unfold Cmd.ps
  refine calls_of_awp1 tok [.tmp 6] Tryd.func24 rfl rfl rfl rfl rfl rfl ?_
  ((conv => whnf); (repeat' (first | (refine Br.tt (by first | assumption | with_reducible rfl | with_reducible exact Bool.not_false) ?_; conv => whnf) | (refine Br.ff (by first | assumption | with_reducible rfl | with_reducible exact Bool.not_true) ?_; conv => whnf) | fail)))
  have hcl := cutIx_le w
  ((repeat' (first | (refine Br.tt (by first | assumption | with_reducible rfl | with_reducible exact Bool.not_false) ?_; conv => whnf) | (refine Br.ff (by first | assumption | with_reducible rfl | with_reducible exact Bool.not_true) ?_; conv => whnf) | fail)); (refine Br.mk (fun h1 => ?_) (fun h1 => ?_) <;> ((conv => whnf); (repeat' (first | (refine Br.tt (by first | assumption | with_reducible rfl | with_reducible exact Bool.not_false) ?_; conv => whnf) | (refine Br.ff (by first | assumption | with_reducible rfl | with_reducible exact Bool.not_true) ?_; conv => whnf) | fail)))))
  · have k1 : kind = 110 := by simpa using h1
    refine Need.of (by intro y hy; simp at hy; subst hy; rfl) ?_
    ((conv => whnf); (repeat' (first | (refine Br.tt (by first | assumption | with_reducible rfl | with_reducible exact Bool.not_false) ?_; conv => whnf) | (refine Br.ff (by first | assumption | with_reducible rfl | with_reducible exact Bool.not_true) ?_; conv => whnf) | fail)))
    refine Need.of ⟨trivial, by have := hc.names; simp; omega⟩ ?_
    ((conv => whnf); (repeat' (first | (refine Br.tt (by first | assumption | with_reducible rfl | with_reducible exact Bool.not_false) ?_; conv => whnf) | (refine Br.ff (by first | assumption | with_reducible rfl | with_reducible exact Bool.not_true) ?_; conv => whnf) | fail)))
    refine CallsA.then (name_ok w (by omega)) ?_
    ((conv => whnf); (repeat' (first | (refine Br.tt (by first | assumption | with_reducible rfl | with_reducible exact Bool.not_false) ?_; conv => whnf) | (refine Br.ff (by first | assumption | with_reducible rfl | with_reducible exact Bool.not_true) ?_; conv => whnf) | fail)))
    unfold takeCmd; rw [if_pos k1]
    simp
  have k1 : ¬ kind = 110 := by simpa using h1
  unfold takeCmd; rw [if_neg k1]
  by_cases k107 : kind = 107
  · rw [if_pos (by omega)]
    have f107 : (kind == 107) = true := by simp; omega
    repeat' (first | (refine Br.tt (by first | assumption | with_reducible rfl | with_reducible exact Bool.not_false) ?_; conv => whnf) | (refine Br.ff (by first | assumption | with_reducible rfl | with_reducible exact Bool.not_true) ?_; conv => whnf) | fail)
    refine CallsA.then (number_ok hW w hw) ?_
    ((conv => whnf); (repeat' (first | (refine Br.tt (by first | assumption | with_reducible rfl | with_reducible exact Bool.not_false) ?_; conv => whnf) | (refine Br.ff (by first | assumption | with_reducible rfl | with_reducible exact Bool.not_true) ?_; conv => whnf) | fail)))
    refine Need.of (by intro y hy; simp at hy; subst hy; rfl) ?_
    ((conv => whnf); (repeat' (first | (refine Br.tt (by first | assumption | with_reducible rfl | with_reducible exact Bool.not_false) ?_; conv => whnf) | (refine Br.ff (by first | assumption | with_reducible rfl | with_reducible exact Bool.not_true) ?_; conv => whnf) | fail)))
    refine Need.of ⟨trivial, by have := hc.values; simp; omega⟩ ?_
    ((conv => whnf); (repeat' (first | (refine Br.tt (by first | assumption | with_reducible rfl | with_reducible exact Bool.not_false) ?_; conv => whnf) | (refine Br.ff (by first | assumption | with_reducible rfl | with_reducible exact Bool.not_true) ?_; conv => whnf) | fail)))
    simp
  have f107 : (kind == 107) = false := by simp; omega
  rw [if_neg (by omega)]
  by_cases k120 : kind = 120
  · rw [if_pos (by omega)]
    have f120 : (kind == 120) = true := by simp; omega
    have hap : ∀ (n m : Nat), n ≤ 1000000000000 → m ≤ 1 → (n + m) * 16 ≤ 70368744177664 := fun n m h1 h2 => by omega
    repeat' (first | (refine Br.tt (by first | assumption | with_reducible rfl | with_reducible exact Bool.not_false) ?_; conv => whnf) | (refine Br.ff (by first | assumption | with_reducible rfl | with_reducible exact Bool.not_true) ?_; conv => whnf) | fail)
    refine CallsA.then (cut_ok w hw) ?_
    ((conv => whnf); (repeat' (first | (refine Br.tt (by first | assumption | with_reducible rfl | with_reducible exact Bool.not_false) ?_; conv => whnf) | (refine Br.ff (by first | assumption | with_reducible rfl | with_reducible exact Bool.not_true) ?_; conv => whnf) | fail)))
    refine ⟨by kernel_rfl, ?_⟩
    ((conv => whnf); (repeat' (first | (refine Br.tt (by first | assumption | with_reducible rfl | with_reducible exact Bool.not_false) ?_; conv => whnf) | (refine Br.ff (by first | assumption | with_reducible rfl | with_reducible exact Bool.not_true) ?_; conv => whnf) | fail)))
    refine Need.of (by intro y hy; simp at hy; subst hy; rfl) ?_
    ((conv => whnf); (repeat' (first | (refine Br.tt (by first | assumption | with_reducible rfl | with_reducible exact Bool.not_false) ?_; conv => whnf) | (refine Br.ff (by first | assumption | with_reducible rfl | with_reducible exact Bool.not_true) ?_; conv => whnf) | fail)))
    refine Need.of ⟨trivial, by simpa using hap _ _ hc.frm (Nat.le_refl 1)⟩ ?_
    ((conv => whnf); (repeat' (first | (refine Br.tt (by first | assumption | with_reducible rfl | with_reducible exact Bool.not_false) ?_; conv => whnf) | (refine Br.ff (by first | assumption | with_reducible rfl | with_reducible exact Bool.not_true) ?_; conv => whnf) | fail)))
    refine Need.of (by intro y hy; simp at hy; subst hy; rfl) ?_
    ((conv => whnf); (repeat' (first | (refine Br.tt (by first | assumption | with_reducible rfl | with_reducible exact Bool.not_false) ?_; conv => whnf) | (refine Br.ff (by first | assumption | with_reducible rfl | with_reducible exact Bool.not_true) ?_; conv => whnf) | fail)))
    refine Need.of ⟨trivial, by simpa using hap _ _ hc.to_ (Nat.le_refl 1)⟩ ?_
    ((conv => whnf); (repeat' (first | (refine Br.tt (by first | assumption | with_reducible rfl | with_reducible exact Bool.not_false) ?_; conv => whnf) | (refine Br.ff (by first | assumption | with_reducible rfl | with_reducible exact Bool.not_true) ?_; conv => whnf) | fail)))
    refine CallsA.then (name_ok _ (by simp; omega)) ?_
    ((conv => whnf); (repeat' (first | (refine Br.tt (by first | assumption | with_reducible rfl | with_reducible exact Bool.not_false) ?_; conv => whnf) | (refine Br.ff (by first | assumption | with_reducible rfl | with_reducible exact Bool.not_true) ?_; conv => whnf) | fail)))
    ((repeat' (first | (refine Br.tt (by first | assumption | with_reducible rfl | with_reducible exact Bool.not_false) ?_; conv => whnf) | (refine Br.ff (by first | assumption | with_reducible rfl | with_reducible exact Bool.not_true) ?_; conv => whnf) | fail)); (refine Br.mk (fun n1 => ?_) (fun n1 => ?_) <;> ((conv => whnf); (repeat' (first | (refine Br.tt (by first | assumption | with_reducible rfl | with_reducible exact Bool.not_false) ?_; conv => whnf) | (refine Br.ff (by first | assumption | with_reducible rfl | with_reducible exact Bool.not_true) ?_; conv => whnf) | fail)))))
    · refine CallsA.then (name_ok _ (by simp; omega)) ?_
      ((conv => whnf); (repeat' (first | (refine Br.tt (by first | assumption | with_reducible rfl | with_reducible exact Bool.not_false) ?_; conv => whnf) | (refine Br.ff (by first | assumption | with_reducible rfl | with_reducible exact Bool.not_true) ?_; conv => whnf) | fail)))
      simp [n1]
    · simp [n1]
  have f120 : (kind == 120) = false := by simp; omega
  rw [if_neg (by omega)]
  by_cases k104 : kind = 104
  · rw [if_pos (by omega)]
    have f104 : (kind == 104) = true := by simp; omega
    repeat' (first | (refine Br.tt (by first | assumption | with_reducible rfl | with_reducible exact Bool.not_false) ?_; conv => whnf) | (refine Br.ff (by first | assumption | with_reducible rfl | with_reducible exact Bool.not_true) ?_; conv => whnf) | fail)
    refine CallsA.then (hex_ok w (by omega)) ?_
    rw [hexOutP_eq]
    cases hexP w with
    | none =>
      ((conv => whnf); (repeat' (first | (refine Br.tt (by first | assumption | with_reducible rfl | with_reducible exact Bool.not_false) ?_; conv => whnf) | (refine Br.ff (by first | assumption | with_reducible rfl | with_reducible exact Bool.not_true) ?_; conv => whnf) | fail)))
      simp
    | some l =>
      ((conv => whnf); (repeat' (first | (refine Br.tt (by first | assumption | with_reducible rfl | with_reducible exact Bool.not_false) ?_; conv => whnf) | (refine Br.ff (by first | assumption | with_reducible rfl | with_reducible exact Bool.not_true) ?_; conv => whnf) | fail)))
      simp
  have f104 : (kind == 104) = false := by simp; omega
  rw [if_neg (by omega)]
  repeat' (first | (refine Br.tt (by first | assumption | with_reducible rfl | with_reducible exact Bool.not_false) ?_; conv => whnf) | (refine Br.ff (by first | assumption | with_reducible rfl | with_reducible exact Bool.not_true) ?_; conv => whnf) | fail)
  exact ⟨rfl, rfl⟩
end Go.Proofs.L24

namespace Go.Proofs.L24
open Go Aw Go.Proofs
variable {W0 : World}
def manyGo (k : Int) : Nat → Cmd → List UInt8 → Cmd × List UInt8
  | 0, c, s => (c, s)
  | f + 1, c, s => if (nextW s).1 = [] then (c, s) else if (takeCmd c k (nextW s).1).2 = true then manyGo k f (takeCmd c k (nextW s).1).1 (nextW s).2 else ((takeCmd c k (nextW s).1).1, s)
def readGo : Nat → List UInt8 → Cmd → List UInt8 → Cmd × Bool
  | _, [], c, s => (c, decide ((nextW s).1 = []))
  | 0, _, c, _ => (c, false)
  | f + 1, k :: ks, c, s => if k = 102 then ({ c with text := s }, true)
    else if ks.head? = some 42 then readGo f ks.tail (manyGo k.toNat s.length c s).1 (manyGo k.toNat s.length c s).2
    else if (nextW s).1 = [] then (c, false) else if (takeCmd c k.toNat (nextW s).1).2 = true then readGo f ks (takeCmd c k.toNat (nextW s).1).1 (nextW s).2 else ((takeCmd c k.toNat (nextW s).1).1, false)
theorem nextW_len (s : List UInt8) : (nextW s).1.length + (nextW s).2.length ≤ s.length := by
  have := @dropWhile_len s
  unfold nextW
  simp; omega
theorem Cmd.Ok.take {c : Cmd} {n : Nat} (h : c.Ok n) (k : Int) (w : List UInt8) : (takeCmd c k w).1.Ok (n + 1) := by
  have h1 := h.names; have h2 := h.values; have h3 := h.frm; have h4 := h.to_
  unfold takeCmd
  split
  · exact ⟨by simp; omega, by simp; omega, by simp; omega, by simp; omega⟩
  split
  · exact ⟨by simp; omega, by simp; omega, by simp; omega, by simp; omega⟩
  split
  · exact ⟨by simp; omega, by simp; omega, by simp; omega, by simp; omega⟩
  split
  · split <;> exact ⟨by simp; omega, by simp; omega, by simp; omega, by simp; omega⟩
  · exact ⟨by simp; omega, by simp; omega, by simp; omega, by simp; omega⟩
theorem manyGo_stop {k : Int} {f : Nat} {c : Cmd} {s : List UInt8} (h : (nextW s).1 = []) : manyGo k f c s = (c, s) := by
  cases f with
  | zero => rfl
  | succ f => exact if_pos h
theorem manyGo_bad {k : Int} {f : Nat} {c : Cmd} {s : List UInt8} (h : (nextW s).1 ≠ []) (hb : (takeCmd c k (nextW s).1).2 = false) : manyGo k (f + 1) c s = ((takeCmd c k (nextW s).1).1, s) := by
  rw [manyGo, if_neg h, hb]; rfl
theorem manyGo_go {k : Int} {f : Nat} {c : Cmd} {s : List UInt8} (h : (nextW s).1 ≠ []) (hb : (takeCmd c k (nextW s).1).2 = true) : manyGo k (f + 1) c s = manyGo k f (takeCmd c k (nextW s).1).1 (nextW s).2 := by
  rw [manyGo, if_neg h, if_pos hb]
def unbox (c : Cmd) : List (Nat × Ob) := cmdObs c
set_option linter.unusedSimpArgs false in
set_option maxRecDepth 100000 in
set_option maxHeartbeats 4000000 in
theorem read_ok (hW : NumW W0) (c0 : Cmd) (K s0 : List UInt8) (hK : K.length ≤ 100) (m0 : Nat) (hs : m0 + s0.length < 100000000000) (hc0 : c0.Ok m0) : CallsA Tryd.prog W0 16 [c0.ps] [.ptr 0 0, .d (.str K), .d (.str s0)]
    fun rs os => rs = [.d (.bool (readGo K.length K c0 s0).2)] ∧ os = [(readGo K.length K c0 s0).1.ps] := by
  unfold Cmd.ps
  refine calls_of_awp1 tok [.tmp 6] Tryd.func16 rfl rfl rfl rfl rfl rfl ?_
  ((conv => whnf); (repeat' (first | (refine Br.tt (by first | assumption | with_reducible rfl | with_reducible exact Bool.not_false) ?_; conv => whnf) | (refine Br.ff (by first | assumption | with_reducible rfl | with_reducible exact Bool.not_true) ?_; conv => whnf) | fail)))
  refine loop_by5 (fun (f i m : Nat) (c : Cmd) (s : List UInt8) => i ≤ K.length ∧ K.length ≤ i + f ∧ c.Ok m ∧ m + s.length < 100000000000 + i ∧ readGo K.length K c0 s0 = readGo f (K.drop i) c s)
    (fun _ i _ _ s => mkT [(0, .ptr 50000 0), (1, .d (.str K)), (2, .d (.str s)), (7, .d (.int .i64 i))]) (fun _ _ _ c _ => mkT (cmdObs c)) (fun _ i _ _ _ => K.length - i) K.length 0 m0 c0 s0
    ⟨by omega, by omega, hc0, by omega, rfl⟩
    (Weak.of [] rfl rfl ⟨⟨_, rfl, rfl⟩, ⟨_, rfl, rfl⟩, ⟨_, rfl, rfl⟩, ⟨_, rfl, rfl⟩, trivial⟩ ⟨⟨_, rfl, rfl, rfl, rfl, rfl, rfl, rfl, rfl, trivial⟩, rfl, rfl, rfl, rfl, rfl, trivial⟩) ?_
  unfold cmdObs
  intro f i m c s ⟨hi, hf, hc, hm, hgo⟩
  ((conv => whnf); (repeat' (first | (refine Br.tt (by first | assumption | with_reducible rfl | with_reducible exact Bool.not_false) ?_; conv => whnf) | (refine Br.ff (by first | assumption | with_reducible rfl | with_reducible exact Bool.not_true) ?_; conv => whnf) | fail)))
  have hw1 : IntKind.i64.wrap ((i : Int) + 1) = ((i + 1 : Nat) : Int) := by rw [wrap_i64 (by omega) (by omega)]; rfl
  ((repeat' (first | (refine Br.tt (by first | assumption | with_reducible rfl | with_reducible exact Bool.not_false) ?_; conv => whnf) | (refine Br.ff (by first | assumption | with_reducible rfl | with_reducible exact Bool.not_true) ?_; conv => whnf) | fail)); (refine Br.mk (fun h1 => ?_) (fun h1 => ?_) <;> ((conv => whnf); (repeat' (first | (refine Br.tt (by first | assumption | with_reducible rfl | with_reducible exact Bool.not_false) ?_; conv => whnf) | (refine Br.ff (by first | assumption | with_reducible rfl | with_reducible exact Bool.not_true) ?_; conv => whnf) | fail)))))
  · have hlt : i < K.length := by simpa using h1
    have hX : K.getD (Int.toNat (i : Int)) 0 = K[i] := by simp [hlt]
    have hd := List.drop_eq_getElem_cons hlt
    obtain ⟨f', rfl⟩ : ∃ f', f = f' + 1 := ⟨f - 1, by omega⟩
    rw [hd] at hgo
    refine Need.of ⟨by omega, by simpa using hlt⟩ ?_
    ((conv => whnf); (repeat' (first | (refine Br.tt (by first | assumption | with_reducible rfl | with_reducible exact Bool.not_false) ?_; conv => whnf) | (refine Br.ff (by first | assumption | with_reducible rfl | with_reducible exact Bool.not_true) ?_; conv => whnf) | fail)))
    ((repeat' (first | (refine Br.tt (by first | assumption | with_reducible rfl | with_reducible exact Bool.not_false) ?_; conv => whnf) | (refine Br.ff (by first | assumption | with_reducible rfl | with_reducible exact Bool.not_true) ?_; conv => whnf) | fail)); (refine Br.mk (fun hf2 => ?_) (fun hf2 => ?_) <;> ((conv => whnf); (repeat' (first | (refine Br.tt (by first | assumption | with_reducible rfl | with_reducible exact Bool.not_false) ?_; conv => whnf) | (refine Br.ff (by first | assumption | with_reducible rfl | with_reducible exact Bool.not_true) ?_; conv => whnf) | fail)))))
    · have k102 : K[i] = 102 := by
        rw [hX] at hf2
        simp at hf2
        refine UInt8.toNat_inj.1 ?_
        show K[i].toNat = 102
        omega
      rw [hgo, readGo, if_pos k102]
      simp
    have n102 : K[i] ≠ 102 := by
      rintro e
      rw [hX, e] at hf2
      simp at hf2
    rw [readGo, if_neg n102] at hgo
    have hnl := nextW_len s
    by_cases hmany : (K.drop (i + 1)).head? = some 42
    · rw [if_pos hmany] at hgo
      have hlt1 : i + 1 < K.length := by
        rcases Nat.lt_or_ge (i + 1) K.length with q | q
        · exact q
        · rw [List.drop_eq_nil_of_le q] at hmany; cases hmany
      have h42 : K[i+1] = 42 := by rw [List.drop_eq_getElem_cons hlt1, List.head?_cons] at hmany; exact Option.some.inj hmany
      have hq1 : decide (IntKind.i64.wrap ((i : Int) + 1) < (K.length : Int)) = true := by rw [hw1]; simp; omega
      have hY : K.getD (Int.toNat (IntKind.i64.wrap ((i : Int) + 1))) 0 = K[i+1] := by rw [hw1]; simp [List.getElem?_eq_getElem hlt1]
      have hq2 : (((K.getD (Int.toNat (IntKind.i64.wrap ((i : Int) + 1))) 0).toNat : Int) == 42) = true := by rw [hY, h42]; rfl
      repeat' (first | (refine Br.tt (by first | assumption | with_reducible rfl | with_reducible exact Bool.not_false) ?_; conv => whnf) | (refine Br.ff (by first | assumption | with_reducible rfl | with_reducible exact Bool.not_true) ?_; conv => whnf) | fail)
      refine Need.of ⟨by rw [hw1]; omega, by rw [hw1]; simp; omega⟩ ?_
      ((conv => whnf); (repeat' (first | (refine Br.tt (by first | assumption | with_reducible rfl | with_reducible exact Bool.not_false) ?_; conv => whnf) | (refine Br.ff (by first | assumption | with_reducible rfl | with_reducible exact Bool.not_true) ?_; conv => whnf) | fail)))
      refine CallsA.then (next_ok s (by omega)) ?_
      ((conv => whnf); (repeat' (first | (refine Br.tt (by first | assumption | with_reducible rfl | with_reducible exact Bool.not_false) ?_; conv => whnf) | (refine Br.ff (by first | assumption | with_reducible rfl | with_reducible exact Bool.not_true) ?_; conv => whnf) | fail)))
      have htl : (K.drop (i + 1)).tail = K.drop (i + 2) := by rw [List.drop_eq_getElem_cons hlt1]; rfl
      rw [htl] at hgo
      have hkX : ((K[i].toNat : Nat) : Int) = ((K.getD (Int.toNat (i : Int)) 0).toNat : Int) := by rw [hX]
      obtain ⟨kk, hkk⟩ : ∃ kk : Int, kk = ((K[i].toNat : Nat) : Int) := ⟨_, rfl⟩
      rw [← hkk] at hgo hkX
      refine loop_by4 (fun (g m2 : Nat) (c2 : Cmd) (s2 : List UInt8) => manyGo kk s.length c s = manyGo kk g c2 s2 ∧ s2.length ≤ g ∧ c2.Ok m2 ∧ m2 + s2.length < 100000000000 + i)
        (fun _ _ _ s2 => mkT [(0, .ptr 50000 0), (1, .d (.str K)), (2, .d (.str s2)), (7, .d (.int .i64 i)), (8, .d (.bool true)), (9, .d (.str (nextW s2).1)), (10, .d (.str (nextW s2).2))]) (fun _ _ c2 _ => mkT (cmdObs c2)) (fun g _ _ _ => g) s.length m c s
        ⟨rfl, by omega, hc, hm⟩
        (Weak.of [] rfl rfl ⟨⟨_, rfl, rfl⟩, ⟨_, rfl, rfl⟩, ⟨_, rfl, rfl⟩, ⟨_, rfl, rfl⟩, ⟨_, rfl, by simp only [Pre, hq2]⟩, ⟨_, rfl, rfl⟩, ⟨_, rfl, rfl⟩, trivial⟩ ⟨⟨_, rfl, rfl, rfl, rfl, rfl, rfl, rfl, rfl, trivial⟩, rfl, rfl, rfl, rfl, rfl, trivial⟩) ?_
      unfold cmdObs
      intro g m2 c2 s2 ⟨hmg, hg, hc2, hm2⟩
      have hnl2 := nextW_len s2
      ((conv => whnf); (repeat' (first | (refine Br.tt (by first | assumption | with_reducible rfl | with_reducible exact Bool.not_false) ?_; conv => whnf) | (refine Br.ff (by first | assumption | with_reducible rfl | with_reducible exact Bool.not_true) ?_; conv => whnf) | fail)))
      ((repeat' (first | (refine Br.tt (by first | assumption | with_reducible rfl | with_reducible exact Bool.not_false) ?_; conv => whnf) | (refine Br.ff (by first | assumption | with_reducible rfl | with_reducible exact Bool.not_true) ?_; conv => whnf) | fail)); (refine Br.mk (fun q1 => ?_) (fun q1 => ?_) <;> ((conv => whnf); (repeat' (first | (refine Br.tt (by first | assumption | with_reducible rfl | with_reducible exact Bool.not_false) ?_; conv => whnf) | (refine Br.ff (by first | assumption | with_reducible rfl | with_reducible exact Bool.not_true) ?_; conv => whnf) | fail)))))
      · have hne : (nextW s2).1 ≠ [] := by simpa using q1
        have hpos : 1 ≤ (nextW s2).1.length := by
          rcases Nat.eq_zero_or_pos (nextW s2).1.length with h | h
          · exact absurd (List.eq_nil_of_length_eq_zero h) hne
          · exact h
        obtain ⟨g', rfl⟩ : ∃ g', g = g' + 1 := ⟨g - 1, by omega⟩
        have hgg := @manyGo_go kk g' c2 s2 hne
        have hgb := @manyGo_bad kk g' c2 s2 hne
        refine Need.of ⟨by omega, by simpa using hlt⟩ ?_
        ((conv => whnf); (repeat' (first | (refine Br.tt (by first | assumption | with_reducible rfl | with_reducible exact Bool.not_false) ?_; conv => whnf) | (refine Br.ff (by first | assumption | with_reducible rfl | with_reducible exact Bool.not_true) ?_; conv => whnf) | fail)))
        rw [← hkX]
        have htake := take_ok hW c2 kk (nextW s2).1 (by omega) (hc2.le (by omega))
        have hok3 := hc2.take kk (nextW s2).1
        generalize (takeCmd c2 kk (nextW s2).1).1 = c3 at htake hok3 hgg hgb
        generalize (takeCmd c2 kk (nextW s2).1).2 = b3 at htake hgg hgb
        unfold Cmd.ps at htake
        refine CallsA.then1 htake ?_
        ((conv => whnf); (repeat' (first | (refine Br.tt (by first | assumption | with_reducible rfl | with_reducible exact Bool.not_false) ?_; conv => whnf) | (refine Br.ff (by first | assumption | with_reducible rfl | with_reducible exact Bool.not_true) ?_; conv => whnf) | fail)))
        cases b3 with
        | true =>
          repeat' (first | (refine Br.tt (by first | assumption | with_reducible rfl | with_reducible exact Bool.not_false) ?_; conv => whnf) | (refine Br.ff (by first | assumption | with_reducible rfl | with_reducible exact Bool.not_true) ?_; conv => whnf) | (refine Br.tt rfl ?_; conv => whnf) | (refine Br.ff rfl ?_; conv => whnf) | fail)
          refine CallsA.then (next_ok (nextW s2).2 (by omega)) ?_
          ((conv => whnf); (repeat' (first | (refine Br.tt (by first | assumption | with_reducible rfl | with_reducible exact Bool.not_false) ?_; conv => whnf) | (refine Br.ff (by first | assumption | with_reducible rfl | with_reducible exact Bool.not_true) ?_; conv => whnf) | fail)))
          refine ⟨g', m2 + 1, c3, (nextW s2).2, ⟨⟨by rw [hmg, hgg rfl], by omega, hok3, by omega⟩, by omega⟩,
            Weak.of [(50002, some 155001), (50004, some 155003), (50005, some 155004), (50006, some 155005), (50007, some 155006)] rfl rfl ⟨⟨_, rfl, rfl⟩, ⟨_, rfl, rfl⟩, ⟨_, rfl, rfl⟩, ⟨_, rfl, rfl⟩, ⟨_, rfl, rfl⟩, ⟨_, rfl, rfl⟩, ⟨_, rfl, rfl⟩, trivial⟩ ⟨⟨_, rfl, rfl, rfl, rfl, rfl, rfl, rfl, rfl, trivial⟩, rfl, rfl, rfl, rfl, rfl, trivial⟩⟩
        | false =>
          repeat' (first | (refine Br.tt (by first | assumption | with_reducible rfl | with_reducible exact Bool.not_false) ?_; conv => whnf) | (refine Br.ff (by first | assumption | with_reducible rfl | with_reducible exact Bool.not_true) ?_; conv => whnf) | (refine Br.tt rfl ?_; conv => whnf) | (refine Br.ff rfl ?_; conv => whnf) | fail)
          have hwi : IntKind.i64.wrap (IntKind.i64.wrap ((i : Int) + 1) + 1) = ((i + 2 : Nat) : Int) := by rw [hw1, wrap_i64 (by omega) (by omega)]; omega
          refine ⟨f', i + 2, m2 + 1, c3, s2, ⟨⟨by omega, by omega, hok3, by omega, ?_⟩, by omega⟩,
            Weak.of [(50002, some 155001), (50004, some 155003), (50005, some 155004), (50006, some 155005), (50007, some 155006)] rfl rfl ⟨⟨_, rfl, rfl⟩, ⟨_, rfl, rfl⟩, ⟨_, rfl, rfl⟩, ⟨_, rfl, by simp only [Pre, hwi]⟩, trivial⟩ ⟨⟨_, rfl, rfl, rfl, rfl, rfl, rfl, rfl, rfl, trivial⟩, rfl, rfl, rfl, rfl, rfl, trivial⟩⟩
          rw [hgo, hmg, hgb rfl]
      · have hne : (nextW s2).1 = [] := by simpa using q1
        have hwi : IntKind.i64.wrap (IntKind.i64.wrap ((i : Int) + 1) + 1) = ((i + 2 : Nat) : Int) := by rw [hw1, wrap_i64 (by omega) (by omega)]; omega
        refine ⟨f', i + 2, m2, c2, s2, ⟨⟨by omega, by omega, hc2, by omega, ?_⟩, by omega⟩,
          Weak.of [] rfl rfl ⟨⟨_, rfl, rfl⟩, ⟨_, rfl, rfl⟩, ⟨_, rfl, rfl⟩, ⟨_, rfl, by simp only [Pre, hwi]⟩, trivial⟩ ⟨⟨_, rfl, rfl, rfl, rfl, rfl, rfl, rfl, rfl, trivial⟩, rfl, rfl, rfl, rfl, rfl, trivial⟩⟩
        rw [hgo, hmg, manyGo_stop hne]
    · rw [if_neg hmany] at hgo
      rcases Decidable.em (i + 1 < K.length) with hlt1 | hlt1
      all_goals first
        | (have h42 : K[i+1] ≠ 42 := by
             intro h
             rw [List.drop_eq_getElem_cons hlt1, List.head?_cons, h] at hmany
             exact hmany rfl
           have hq1 : decide (IntKind.i64.wrap ((i : Int) + 1) < (K.length : Int)) = true := by rw [hw1]; simp; omega
           have hY : K.getD (Int.toNat (IntKind.i64.wrap ((i : Int) + 1))) 0 = K[i+1] := by rw [hw1]; simp [List.getElem?_eq_getElem hlt1]
           have hq2 : (((K.getD (Int.toNat (IntKind.i64.wrap ((i : Int) + 1))) 0).toNat : Int) == 42) = false := by
             rw [hY, beq_eq_false_iff_ne]
             intro h
             exact h42 (UInt8.toNat_inj.1 (by show K[i+1].toNat = 42; omega))
           repeat' (first | (refine Br.tt (by first | assumption | with_reducible rfl | with_reducible exact Bool.not_false) ?_; conv => whnf) | (refine Br.ff (by first | assumption | with_reducible rfl | with_reducible exact Bool.not_true) ?_; conv => whnf) | fail)
           refine Need.of ⟨by rw [hw1]; omega, by rw [hw1]; simp; omega⟩ ?_
           ((conv => whnf); (repeat' (first | (refine Br.tt (by first | assumption | with_reducible rfl | with_reducible exact Bool.not_false) ?_; conv => whnf) | (refine Br.ff (by first | assumption | with_reducible rfl | with_reducible exact Bool.not_true) ?_; conv => whnf) | fail)))
           refine CallsA.then (next_ok s (by omega)) ?_
           ((conv => whnf); (repeat' (first | (refine Br.tt (by first | assumption | with_reducible rfl | with_reducible exact Bool.not_false) ?_; conv => whnf) | (refine Br.ff (by first | assumption | with_reducible rfl | with_reducible exact Bool.not_true) ?_; conv => whnf) | fail))))
        | (have hq1 : decide (IntKind.i64.wrap ((i : Int) + 1) < (K.length : Int)) = false := by rw [hw1]; simp; omega
           repeat' (first | (refine Br.tt (by first | assumption | with_reducible rfl | with_reducible exact Bool.not_false) ?_; conv => whnf) | (refine Br.ff (by first | assumption | with_reducible rfl | with_reducible exact Bool.not_true) ?_; conv => whnf) | fail)
           refine CallsA.then (next_ok s (by omega)) ?_
           ((conv => whnf); (repeat' (first | (refine Br.tt (by first | assumption | with_reducible rfl | with_reducible exact Bool.not_false) ?_; conv => whnf) | (refine Br.ff (by first | assumption | with_reducible rfl | with_reducible exact Bool.not_true) ?_; conv => whnf) | fail))))
      all_goals (
        refine loop_by1 (fun (_ : Nat) => True) (fun _ => mkT [(0, .ptr 50000 0), (1, .d (.str K)), (2, .d (.str s)), (7, .d (.int .i64 i)), (8, .d (.bool false)), (9, .d (.str (nextW s).1)), (10, .d (.str (nextW s).2))]) (fun _ => mkT (cmdObs c)) (fun _ => 0) 0 trivial
          (Weak.of [] rfl rfl ⟨⟨_, rfl, rfl⟩, ⟨_, rfl, rfl⟩, ⟨_, rfl, rfl⟩, ⟨_, rfl, rfl⟩, ⟨_, rfl, by first | rfl | simp only [Pre, hq2] | simp only [Pre, hq1]⟩, ⟨_, rfl, rfl⟩, ⟨_, rfl, rfl⟩, trivial⟩ ⟨⟨_, rfl, rfl, rfl, rfl, rfl, rfl, rfl, rfl, trivial⟩, rfl, rfl, rfl, rfl, rfl, trivial⟩) ?_
        unfold cmdObs
        intro _ _
        ((conv => whnf); (repeat' (first | (refine Br.tt (by first | assumption | with_reducible rfl | with_reducible exact Bool.not_false) ?_; conv => whnf) | (refine Br.ff (by first | assumption | with_reducible rfl | with_reducible exact Bool.not_true) ?_; conv => whnf) | fail)))
        ((repeat' (first | (refine Br.tt (by first | assumption | with_reducible rfl | with_reducible exact Bool.not_false) ?_; conv => whnf) | (refine Br.ff (by first | assumption | with_reducible rfl | with_reducible exact Bool.not_true) ?_; conv => whnf) | fail)); (refine Br.mk (fun q1 => ?_) (fun q1 => ?_) <;> ((conv => whnf); (repeat' (first | (refine Br.tt (by first | assumption | with_reducible rfl | with_reducible exact Bool.not_false) ?_; conv => whnf) | (refine Br.ff (by first | assumption | with_reducible rfl | with_reducible exact Bool.not_true) ?_; conv => whnf) | fail)))))
        · have hne : (nextW s).1 = [] := by simpa using q1
          rw [if_pos hne] at hgo
          rw [hgo]; exact ⟨rfl, by trivial⟩
        have hne : (nextW s).1 ≠ [] := by simpa using q1
        have hpos : 1 ≤ (nextW s).1.length := by
          rcases Nat.eq_zero_or_pos (nextW s).1.length with h | h
          · exact absurd (List.eq_nil_of_length_eq_zero h) hne
          · exact h
        rw [if_neg hne] at hgo
        refine Need.of ⟨by omega, by simpa using hlt⟩ ?_
        ((conv => whnf); (repeat' (first | (refine Br.tt (by first | assumption | with_reducible rfl | with_reducible exact Bool.not_false) ?_; conv => whnf) | (refine Br.ff (by first | assumption | with_reducible rfl | with_reducible exact Bool.not_true) ?_; conv => whnf) | fail)))
        rw [hX]
        have htake := take_ok hW c (K[i].toNat : Nat) (nextW s).1 (by omega) (hc.le (by omega))
        have hok3 := hc.take (K[i].toNat : Nat) (nextW s).1
        generalize (takeCmd c (K[i].toNat : Nat) (nextW s).1).1 = c3 at htake hok3 hgo
        generalize (takeCmd c (K[i].toNat : Nat) (nextW s).1).2 = b3 at htake hgo
        unfold Cmd.ps at htake
        refine CallsA.then1 htake ?_
        ((conv => whnf); (repeat' (first | (refine Br.tt (by first | assumption | with_reducible rfl | with_reducible exact Bool.not_false) ?_; conv => whnf) | (refine Br.ff (by first | assumption | with_reducible rfl | with_reducible exact Bool.not_true) ?_; conv => whnf) | fail)))
        cases b3 with
        | true =>
          repeat' (first | (refine Br.tt (by first | assumption | with_reducible rfl | with_reducible exact Bool.not_false) ?_; conv => whnf) | (refine Br.ff (by first | assumption | with_reducible rfl | with_reducible exact Bool.not_true) ?_; conv => whnf) | (refine Br.tt rfl ?_; conv => whnf) | (refine Br.ff rfl ?_; conv => whnf) | fail)
          rw [if_pos rfl] at hgo
          refine ⟨f', i + 1, m + 1, c3, (nextW s).2, ⟨⟨by omega, by omega, hok3, by omega, hgo⟩, by omega⟩,
            Weak.of [(50002, some 174001), (50004, some 174003), (50005, some 174004), (50006, some 174005), (50007, some 174006)] rfl rfl ⟨⟨_, rfl, rfl⟩, ⟨_, rfl, rfl⟩, ⟨_, rfl, rfl⟩, ⟨_, rfl, by simp only [Pre, hw1]⟩, trivial⟩ ⟨⟨_, rfl, rfl, rfl, rfl, rfl, rfl, rfl, rfl, trivial⟩, rfl, rfl, rfl, rfl, rfl, trivial⟩⟩
        | false =>
          repeat' (first | (refine Br.tt (by first | assumption | with_reducible rfl | with_reducible exact Bool.not_false) ?_; conv => whnf) | (refine Br.ff (by first | assumption | with_reducible rfl | with_reducible exact Bool.not_true) ?_; conv => whnf) | (refine Br.tt rfl ?_; conv => whnf) | (refine Br.ff rfl ?_; conv => whnf) | fail)
          rw [if_neg (by simp)] at hgo
          rw [hgo]; exact ⟨rfl, by trivial⟩)
  · have hge : i = K.length := by simp at h1; omega
    rw [hge, List.drop_length] at hgo
    have hgo2 : readGo K.length K c0 s0 = (c, decide ((nextW s).1 = [])) := by rw [hgo]; cases f <;> rfl
    refine CallsA.then (next_ok s (by omega)) ?_
    ((conv => whnf); (repeat' (first | (refine Br.tt (by first | assumption | with_reducible rfl | with_reducible exact Bool.not_false) ?_; conv => whnf) | (refine Br.ff (by first | assumption | with_reducible rfl | with_reducible exact Bool.not_true) ?_; conv => whnf) | fail)))
    rw [hgo2]
    have : ((nextW s).1 == ([] : List UInt8)) = decide ((nextW s).1 = []) := by cases (nextW s).1 <;> rfl
    refine ⟨?_, by trivial⟩
    show [PV.d (DV.bool ((nextW s).1 == []))] = _
    rw [this]
end Go.Proofs.L24

namespace Go.Proofs.L24
open Go Aw Go.Proofs
variable {W0 : World}
def progParse (s : List UInt8) : Cmd × Int :=
  if 10 ∈ s then (cmd0 [], 240)
  else if (nextW s).1 = [] ∨ (nextW s).1.head? = some 35 then (cmd0 [], 0)
  else if (progForm (nextW s).1).2 = true ∧ (readGo (progForm (nextW s).1).1.length (progForm (nextW s).1).1 (cmd0 (nextW s).1) (nextW s).2).2 = true then
    ((readGo (progForm (nextW s).1).1.length (progForm (nextW s).1).1 (cmd0 (nextW s).1) (nextW s).2).1, 0)
  else (cmd0 [], 240)
theorem progForm_len (v : List UInt8) : (progForm v).1.length ≤ 100 := by
  unfold progForm
  split
  · rename_i i _
    have : ∀ x ∈ kinds, x.length ≤ 100 := by decide
    rw [List.getD_eq_getElem?_getD]
    cases h : kinds[i]? with
    | none => simp
    | some x => exact this x (List.mem_of_getElem? h)
  · simp
set_option linter.unusedSimpArgs false in
set_option maxRecDepth 100000 in
set_option maxHeartbeats 4000000 in
theorem parse_ok (hW : NumW W0) (s : List UInt8) (hs : s.length < 10000000000) : CallsA Tryd.prog W0 6 [] [.d (.str s)] fun rs os => rs = [.d (progParse s).1.dv, .d (.int .i64 (progParse s).2)] ∧ os = [] := by
  refine calls_of_awpC tok [.cell 2 26, .tmp 3] Tryd.func6 rfl rfl rfl rfl rfl ?_
  ((conv => whnf); (repeat' (first | (refine Br.tt (by first | assumption | with_reducible rfl | with_reducible exact Bool.not_false) ?_; conv => whnf) | (refine Br.ff (by first | assumption | with_reducible rfl | with_reducible exact Bool.not_true) ?_; conv => whnf) | fail)))
  refine CallsA.then (contains_ok s 10) ?_
  ((conv => whnf); (repeat' (first | (refine Br.tt (by first | assumption | with_reducible rfl | with_reducible exact Bool.not_false) ?_; conv => whnf) | (refine Br.ff (by first | assumption | with_reducible rfl | with_reducible exact Bool.not_true) ?_; conv => whnf) | fail)))
  ((repeat' (first | (refine Br.tt (by first | assumption | with_reducible rfl | with_reducible exact Bool.not_false) ?_; conv => whnf) | (refine Br.ff (by first | assumption | with_reducible rfl | with_reducible exact Bool.not_true) ?_; conv => whnf) | fail)); (refine Br.mk (fun h10 => ?_) (fun h10 => ?_) <;> ((conv => whnf); (repeat' (first | (refine Br.tt (by first | assumption | with_reducible rfl | with_reducible exact Bool.not_false) ?_; conv => whnf) | (refine Br.ff (by first | assumption | with_reducible rfl | with_reducible exact Bool.not_true) ?_; conv => whnf) | fail)))))
  · have : progParse s = (cmd0 [], 240) := if_pos (by simpa using h10)
    rw [this]; exact ⟨rfl, by trivial⟩
  have hP1 : progParse s = if (nextW s).1 = [] ∨ (nextW s).1.head? = some 35 then (cmd0 [], 0)
    else if (progForm (nextW s).1).2 = true ∧ (readGo (progForm (nextW s).1).1.length (progForm (nextW s).1).1 (cmd0 (nextW s).1) (nextW s).2).2 = true then
      ((readGo (progForm (nextW s).1).1.length (progForm (nextW s).1).1 (cmd0 (nextW s).1) (nextW s).2).1, 0)
    else (cmd0 [], 240) := if_neg (by simpa using h10)
  refine CallsA.then (next_ok s (by omega)) ?_
  have hnl := nextW_len s
  generalize hv : (nextW s).1 = v at *
  generalize hr : (nextW s).2 = r at *
  ((conv => whnf); (repeat' (first | (refine Br.tt (by first | assumption | with_reducible rfl | with_reducible exact Bool.not_false) ?_; conv => whnf) | (refine Br.ff (by first | assumption | with_reducible rfl | with_reducible exact Bool.not_true) ?_; conv => whnf) | fail)))
  ((repeat' (first | (refine Br.tt (by first | assumption | with_reducible rfl | with_reducible exact Bool.not_false) ?_; conv => whnf) | (refine Br.ff (by first | assumption | with_reducible rfl | with_reducible exact Bool.not_true) ?_; conv => whnf) | fail)); (refine Br.mk (fun g1 => ?_) (fun g1 => ?_) <;> ((conv => whnf); (repeat' (first | (refine Br.tt (by first | assumption | with_reducible rfl | with_reducible exact Bool.not_false) ?_; conv => whnf) | (refine Br.ff (by first | assumption | with_reducible rfl | with_reducible exact Bool.not_true) ?_; conv => whnf) | fail)))))
  · have hv0 : v = [] := by simpa using g1
    rw [if_pos (.inl hv0)] at hP1
    rw [hP1]; exact ⟨rfl, by trivial⟩
  have hv0 : v ≠ [] := by simpa using g1
  cases v with
  | nil => exact absurd rfl hv0
  | cons y v' =>
  refine Need.of ⟨by omega, by simp⟩ ?_
  ((conv => whnf); (repeat' (first | (refine Br.tt (by first | assumption | with_reducible rfl | with_reducible exact Bool.not_false) ?_; conv => whnf) | (refine Br.ff (by first | assumption | with_reducible rfl | with_reducible exact Bool.not_true) ?_; conv => whnf) | fail)))
  ((repeat' (first | (refine Br.tt (by first | assumption | with_reducible rfl | with_reducible exact Bool.not_false) ?_; conv => whnf) | (refine Br.ff (by first | assumption | with_reducible rfl | with_reducible exact Bool.not_true) ?_; conv => whnf) | fail)); (refine Br.mk (fun g2 => ?_) (fun g2 => ?_) <;> ((conv => whnf); (repeat' (first | (refine Br.tt (by first | assumption | with_reducible rfl | with_reducible exact Bool.not_false) ?_; conv => whnf) | (refine Br.ff (by first | assumption | with_reducible rfl | with_reducible exact Bool.not_true) ?_; conv => whnf) | fail)))))
  · have : ((y :: v').head? = some 35) := by
      simp at g2
      simp only [List.head?_cons, Option.some.injEq]
      refine UInt8.toNat_inj.1 ?_
      show y.toNat = 35
      omega
    rw [if_pos (.inr this)] at hP1
    rw [hP1]; exact ⟨rfl, by trivial⟩
  have hy : ¬ ((y :: v').head? = some 35) := by
    simp only [List.head?_cons, Option.some.injEq]
    rintro rfl
    simp at g2
  rw [if_neg (by simp only [not_or]; exact ⟨hv0, hy⟩)] at hP1
  generalize hvv : y :: v' = v at *
  refine CallsA.then (form_ok v) ?_
  have hread := read_ok hW (cmd0 v) (progForm v).1 r (progForm_len v) 0 (by omega) ⟨by simp [cmd0], by simp [cmd0], by simp [cmd0], by simp [cmd0]⟩
  generalize (progForm v).1 = K at *
  generalize (progForm v).2 = ok at *
  ((conv => whnf); (repeat' (first | (refine Br.tt (by first | assumption | with_reducible rfl | with_reducible exact Bool.not_false) ?_; conv => whnf) | (refine Br.ff (by first | assumption | with_reducible rfl | with_reducible exact Bool.not_true) ?_; conv => whnf) | fail)))
  cases ok with
  | false =>
    repeat' (first | (refine Br.tt (by first | assumption | with_reducible rfl | with_reducible exact Bool.not_false) ?_; conv => whnf) | (refine Br.ff (by first | assumption | with_reducible rfl | with_reducible exact Bool.not_true) ?_; conv => whnf) | (refine Br.tt rfl ?_; conv => whnf) | (refine Br.ff rfl ?_; conv => whnf) | fail)
    rw [if_neg (by simp)] at hP1
    rw [hP1]; exact ⟨rfl, by trivial⟩
  | true =>
    repeat' (first | (refine Br.tt (by first | assumption | with_reducible rfl | with_reducible exact Bool.not_false) ?_; conv => whnf) | (refine Br.ff (by first | assumption | with_reducible rfl | with_reducible exact Bool.not_true) ?_; conv => whnf) | (refine Br.tt rfl ?_; conv => whnf) | (refine Br.ff rfl ?_; conv => whnf) | fail)
    generalize (readGo K.length K (cmd0 v) r).1 = c3 at hread hP1
    generalize (readGo K.length K (cmd0 v) r).2 = b3 at hread hP1
    unfold Cmd.ps cmd0 at hread
    refine CallsA.then1 hread ?_
    ((conv => whnf); (repeat' (first | (refine Br.tt (by first | assumption | with_reducible rfl | with_reducible exact Bool.not_false) ?_; conv => whnf) | (refine Br.ff (by first | assumption | with_reducible rfl | with_reducible exact Bool.not_true) ?_; conv => whnf) | fail)))
    cases b3 with
    | true =>
      repeat' (first | (refine Br.tt (by first | assumption | with_reducible rfl | with_reducible exact Bool.not_false) ?_; conv => whnf) | (refine Br.ff (by first | assumption | with_reducible rfl | with_reducible exact Bool.not_true) ?_; conv => whnf) | (refine Br.tt rfl ?_; conv => whnf) | (refine Br.ff rfl ?_; conv => whnf) | fail)
      rw [if_pos (by simp)] at hP1
      rw [hP1]; exact ⟨rfl, by trivial⟩
    | false =>
      repeat' (first | (refine Br.tt (by first | assumption | with_reducible rfl | with_reducible exact Bool.not_false) ?_; conv => whnf) | (refine Br.ff (by first | assumption | with_reducible rfl | with_reducible exact Bool.not_true) ?_; conv => whnf) | (refine Br.tt rfl ?_; conv => whnf) | (refine Br.ff rfl ?_; conv => whnf) | fail)
      rw [if_neg (by simp)] at hP1
      rw [hP1]; exact ⟨rfl, by trivial⟩
end Go.Proofs.L24
