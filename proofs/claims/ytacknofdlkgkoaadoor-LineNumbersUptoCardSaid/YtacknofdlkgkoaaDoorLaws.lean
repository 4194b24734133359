/-
  The program and the document answer alike at every line; plain laws, and the contracts of the law functions; no condition but the bounds that stand in each.
-/
import Derived.Test.YtacknofdlkgkoaaDoorWalks
set_option linter.unusedSectionVars false
set_option linter.unusedSimpArgs false
set_option linter.unusedVariables false
namespace Go.Proofs.L24
open Go Aw Go.Proofs
/-! Numbers: plain laws. -/
/-- A run of digits behind a, where no number passes the bound. -/
def digitsVal (lim : Nat) : Nat → List UInt8 → Option Nat
  | a, [] => some a
  | a, x :: t => if (48 ≤ x.toNat ∧ x.toNat ≤ 57) ∧ 10 * a + (x.toNat - 48) ≤ lim then digitsVal lim (10 * a + (x.toNat - 48)) t else none
theorem digitsVal_snoc {lim : Nat} {d : List UInt8} {x : UInt8} {a : Nat} : digitsVal lim a (d ++ [x]) = (digitsVal lim a d).bind fun b => if (48 ≤ x.toNat ∧ x.toNat ≤ 57) ∧ 10 * b + (x.toNat - 48) ≤ lim then some (10 * b + (x.toNat - 48)) else none := by
  induction d generalizing a with
  | nil => simp [digitsVal]
  | cons y t ih =>
    simp only [List.cons_append, digitsVal]
    split
    · exact ih
    · rfl
theorem digitsVal_ge {lim : Nat} {d : List UInt8} {a u : Nat} (h : digitsVal lim a d = some u) : a ≤ u := by
  induction d generalizing a with
  | nil => simp [digitsVal] at h; omega
  | cons y t ih =>
    simp only [digitsVal] at h
    split at h
    · have := ih h; omega
    · cases h
theorem digitsVal_lim {lim lim' : Nat} {d : List UInt8} {a u : Nat} (h : digitsVal lim a d = some u) (hu : u ≤ lim') : digitsVal lim' a d = some u := by
  induction d generalizing a with
  | nil => exact h
  | cons y t ih =>
    simp only [digitsVal] at h ⊢
    split at h
    · rename_i hc
      have := digitsVal_ge h
      rw [if_pos ⟨hc.1, by omega⟩]
      exact ih h
    · cases h
theorem digitsVal_le {lim : Nat} {d : List UInt8} {a u : Nat} (h : digitsVal lim a d = some u) (ha : a ≤ lim) : u ≤ lim := by
  induction d generalizing a with
  | nil => simp [digitsVal] at h; omega
  | cons y t ih =>
    simp only [digitsVal] at h
    split at h
    · rename_i hc; exact ih h hc.2
    · cases h
theorem numLoop_digits {L : Int} (h0 : 0 ≤ L) (h9 : L ≤ 9) {d : List UInt8} {a : Nat} (lim : Nat) (hlim : (lim : Int) = 9223372036854775800 + L) : numLoop L d (-(a : Int)) = (digitsVal lim a d).map fun u => -(u : Int) := by
  induction d generalizing a with
  | nil => rfl
  | cons x t ih =>
    by_cases hd : 48 ≤ x.toNat ∧ x.toNat ≤ 57
    · by_cases hb : -(a : Int) < -922337203685477580 ∨ (-(a : Int) = -922337203685477580 ∧ L < (x.toNat : Int) - 48)
      · rw [numLoop_big hd hb, digitsVal, if_neg (by omega)]; rfl
      · rw [numLoop_go hd hb, digitsVal, if_pos (by omega), ← ih]
        congr 1
        omega
    · rw [numLoop_bad hd, digitsVal, if_neg (by omega)]; rfl
theorem parseUintM_digits {d : List UInt8} {a u : Nat} : Lib.parseUintM 18446744073709551615 a d = .ok u ↔ digitsVal 18446744073709551615 a d = some u := by
  induction d generalizing a with
  | nil => simp [Lib.parseUintM, digitsVal]
  | cons x t ih =>
    simp only [Lib.parseUintM, digitsVal]
    split
    · rename_i hd
      split
      · rename_i h1
        rw [if_neg (by omega)]
        simp
      · split
        · rw [if_neg (by omega)]
          simp
        · rename_i h1 h2
          rw [if_pos (by omega), show 10 * a + (x.toNat - 48) = a * 10 + (x.toNat - 48) from by omega]
          exact ih
    · rename_i hd
      rw [if_neg (by omega)]
      simp
theorem decDigits_big {u : Nat} (h : ¬ u < 10) : Lib.decDigits u = Lib.decDigits (u / 10) ++ [UInt8.ofNat (48 + u % 10)] := by rw [Lib.decDigits, dif_neg h]
theorem ofNat_digit {n : Nat} (h : n < 10) : (UInt8.ofNat (48 + n)).toNat = 48 + n := by
  rw [UInt8.toNat_ofNat']; omega
/-- What the numeral spells. -/
theorem decDigits_val (lim : Nat) : ∀ u, u ≤ lim → digitsVal lim 0 (Lib.decDigits u) = some u ∧ Lib.decDigits u ≠ [] ∧ (∀ x, (Lib.decDigits u).head? = some x → 48 ≤ x.toNat ∧ x.toNat ≤ 57 ∧ (x.toNat = 48 → u = 0)) := by
  intro u
  induction u using Nat.strongRecOn with
  | _ u ih =>
    intro hu
    by_cases h : u < 10
    · rw [Lib.decDigits_one h]
      refine ⟨?_, by simp, ?_⟩
      · simp only [digitsVal, ofNat_digit h]
        rw [if_pos (by omega)]; congr 1; omega
      · intro x hx
        simp only [List.head?_cons, Option.some.injEq] at hx
        subst hx
        rw [ofNat_digit h]; omega
    · obtain ⟨h1, h2, h3⟩ := ih (u / 10) (by omega) (by omega)
      rw [decDigits_big h]
      refine ⟨?_, by simp, ?_⟩
      · rw [digitsVal_snoc, h1]
        simp only [Option.bind_some, ofNat_digit (show u % 10 < 10 from Nat.mod_lt _ (by omega))]
        rw [if_pos (by omega)]; congr 1; omega
      · intro x hx
        rw [List.head?_append, Option.or_of_isSome (by cases hh : Lib.decDigits (u / 10) with | nil => exact absurd hh h2 | cons => rfl)] at hx
        have := h3 x hx
        exact ⟨this.1, this.2.1, fun e => by have := this.2.2 e; omega⟩
theorem eq_ofNat {x : UInt8} {n : Nat} (h : x.toNat = 48 + n) (hn : n < 10) : x = UInt8.ofNat (48 + n) := UInt8.toNat_inj.1 (by rw [h, ofNat_digit hn])
/-- A run of digits without a nought ahead is the numeral. -/
theorem digits_dec {lim : Nat} : ∀ (n : Nat) (d : List UInt8) (u : Nat), d.length = n → d ≠ [] → digitsVal lim 0 d = some u → (d.length = 1 ∨ ∃ x, d.head? = some x ∧ x.toNat ≠ 48) → Lib.decDigits u = d ∧ (d.length = 1 ∨ 1 ≤ u) := by
  intro n
  induction n with
  | zero => intro d u hl hd; exact absurd (List.eq_nil_of_length_eq_zero hl) hd
  | succ n ih =>
    intro d u hl hd hv hh
    obtain ⟨d', x, rfl⟩ : ∃ d' x, d = d' ++ [x] := ⟨d.dropLast, d.getLast hd, (List.dropLast_concat_getLast hd).symm⟩
    rw [digitsVal_snoc] at hv
    cases hv' : digitsVal lim 0 d' with
    | none => rw [hv'] at hv; cases hv
    | some b =>
      rw [hv'] at hv
      simp only [Option.bind_some] at hv
      split at hv
      · rename_i hc
        have hu : u = 10 * b + (x.toNat - 48) := by cases hv; rfl
        cases d' with
        | nil =>
          simp [digitsVal] at hv'
          subst hv'
          refine ⟨?_, .inl rfl⟩
          rw [Lib.decDigits_one (by omega), List.nil_append]
          exact congrArg (fun y => [y]) (eq_ofNat (by omega) (by omega)).symm
        | cons y t =>
          have hhd : y.toNat ≠ 48 := by
            rcases hh with h | ⟨z, hz, hz2⟩
            · simp at h
            · simp at hz; subst hz; exact hz2
          obtain ⟨e1, e2⟩ := ih (y :: t) b (by simp at hl ⊢; omega) (by simp) hv' (.inr ⟨y, rfl, hhd⟩)
          have hb1 : 1 ≤ b := by
            rcases e2 with e2 | e2
            · have : t = [] := List.eq_nil_of_length_eq_zero (by simpa using e2)
              subst this
              simp only [digitsVal] at hv'
              split at hv'
              · rename_i hc2; cases hv'; omega
              · cases hv'
            · exact e2
          clear hh ih e2
          refine ⟨?_, .inr (by omega)⟩
          rw [decDigits_big (by omega), show u / 10 = b from by omega, e1, show u % 10 = x.toNat - 48 from by omega]
          exact congrArg (fun z => (y :: t) ++ [z]) (eq_ofNat (by omega) (by omega)).symm
      · cases hv
theorem numTail_of {b : Bool} {d : List UInt8} {u : Nat} (hd : d ≠ []) (hv : digitsVal (if b then 9223372036854775808 else 9223372036854775807) 0 d = some u) (hh : d.length = 1 ∨ ∃ x, d.head? = some x ∧ x.toNat ≠ 48) (hz : b = true → u ≠ 0) :
    numTail b d = some (if b then -(u : Int) else u) := by
  have hg : ¬ (d = [] ∨ (1 < d.length ∧ (d.getD 0 0).toNat = 48) ∨ (b = true ∧ d = [48])) := by
    rintro (h | ⟨h1, h2⟩ | ⟨h1, h2⟩)
    · exact hd h
    · rcases hh with h | ⟨x, hx, hx2⟩
      · omega
      · cases d with
        | nil => cases hx
        | cons y t => simp at hx h2; subst hx; exact hx2 h2
    · subst h2
      have : digitsVal (if b then 9223372036854775808 else 9223372036854775807) 0 [48] = some 0 := by simp [digitsVal]
      rw [this] at hv
      cases hv
      exact hz h1 rfl
  rw [numTail_good hg]
  have key := numLoop_digits (L := if b then 8 else 7) (by split <;> omega) (by split <;> omega) (d := d) (a := 0) (if b then 9223372036854775808 else 9223372036854775807) (by cases b <;> rfl)
  rw [show (-((0 : Nat) : Int)) = 0 from rfl] at key
  rw [key, hv]
  cases b <;> simp
theorem numTail_inv {b : Bool} {d : List UInt8} {v : Int} (h : numTail b d = some v) : ∃ u : Nat, v = (if b then -(u : Int) else u) ∧ digitsVal (if b then 9223372036854775808 else 9223372036854775807) 0 d = some u ∧ d ≠ [] ∧
    (d.length = 1 ∨ ∃ x, d.head? = some x ∧ x.toNat ≠ 48) ∧ (b = true → d ≠ [48]) := by
  unfold numTail at h
  split at h
  · cases h
  · rename_i hg
    simp only [not_or] at hg
    have key := numLoop_digits (L := if b then 8 else 7) (by split <;> omega) (by split <;> omega) (d := d) (a := 0) (if b then 9223372036854775808 else 9223372036854775807) (by cases b <;> rfl)
    rw [show (-((0 : Nat) : Int)) = 0 from rfl] at key
    rw [key] at h
    cases hv : digitsVal (if b then 9223372036854775808 else 9223372036854775807) 0 d with
    | none => rw [hv] at h; cases h
    | some u =>
      rw [hv] at h
      refine ⟨u, ?_, rfl, hg.1, ?_, fun hb he => hg.2.2 ⟨hb, he⟩⟩
      · have h2 : (if b = true then -(u : Int) else - -(u : Int)) = v := Option.some.inj h
        rw [← h2]; cases b <;> simp
      · cases d with
        | nil => exact absurd rfl hg.1
        | cons y t =>
          by_cases hl : (y :: t).length = 1
          · exact .inl hl
          · refine .inr ⟨y, rfl, fun e => hg.2.1 ⟨by simp at hl ⊢; exact List.length_pos_iff.2 hl, by simpa using e⟩⟩
theorem dec_head {u : Nat} (lim : Nat) (hu : u ≤ lim) : (Lib.decDigits u).length = 1 ∨ ∃ x, (Lib.decDigits u).head? = some x ∧ x.toNat ≠ 48 := by
  obtain ⟨-, h2, h3⟩ := decDigits_val lim u hu
  by_cases h : u < 10
  · rw [Lib.decDigits_one h]; exact .inl rfl
  · cases hd : Lib.decDigits u with
    | nil => exact absurd hd h2
    | cons x t =>
      rw [hd] at h3
      exact .inr ⟨x, rfl, fun e => h (by have := (h3 x rfl).2.2 e; omega)⟩
theorem numOf_itoa {v : Int} (h0 : -9223372036854775808 ≤ v) (h1 : v ≤ 9223372036854775807) : numOf (Lib.itoa v) = some v := by
  unfold Lib.itoa
  split
  · rename_i hv
    have hn : v.natAbs ≤ 9223372036854775808 := by omega
    obtain ⟨k1, k2, k3⟩ := decDigits_val 9223372036854775808 v.natAbs hn
    show numTail true _ = _
    rw [numTail_of (b := true) (u := v.natAbs) k2 k1 (dec_head _ hn) (fun _ => by omega)]
    simp; omega
  · rename_i hv
    have hn : v.toNat ≤ 9223372036854775807 := by omega
    obtain ⟨k1, k2, k3⟩ := decDigits_val 9223372036854775807 v.toNat hn
    have : numOf (Lib.decDigits v.toNat) = numTail false (Lib.decDigits v.toNat) := by
      unfold numOf
      split
      · rename_i d hd
        rw [hd] at k3
        have := (k3 45 rfl).1
        simp at this
      · rfl
    rw [this, numTail_of (b := false) (u := v.toNat) k2 k1 (dec_head _ hn) (fun h => by cases h)]
    simp; omega
theorem numOf_inv {w : List UInt8} {v : Int} (h : numOf w = some v) : w = Lib.itoa v ∧ -9223372036854775808 ≤ v ∧ v ≤ 9223372036854775807 := by
  unfold numOf at h
  split at h
  · rename_i d
    obtain ⟨u, rfl, hv, hd, hh, hz⟩ := numTail_inv h
    obtain ⟨e1, -⟩ := digits_dec d.length d u rfl hd hv hh
    clear hh
    have hle := digitsVal_le hv (Nat.zero_le _)
    simp only [if_true] at hle
    have hu : u ≠ 0 := by
      rintro rfl
      rw [Lib.decDigits_one (by omega)] at e1
      exact hz rfl e1.symm
    refine ⟨?_, by simp only [if_true]; omega, by simp only [if_true]; omega⟩
    unfold Lib.itoa
    rw [if_pos (by simp only [if_true]; omega)]
    simp [e1]
  · obtain ⟨u, rfl, hv, hd, hh, hz⟩ := numTail_inv h
    obtain ⟨e1, -⟩ := digits_dec w.length w u rfl hd hv hh
    clear hh
    have hle := digitsVal_le hv (Nat.zero_le _)
    simp only [Bool.false_eq_true, if_false] at hle
    refine ⟨?_, by simp only [Bool.false_eq_true, if_false]; omega, by simp only [Bool.false_eq_true, if_false]; omega⟩
    unfold Lib.itoa
    rw [if_neg (by simp only [Bool.false_eq_true, if_false]; omega)]
    simp [e1]
theorem parse_itoa {v : Int} (h0 : -9223372036854775808 ≤ v) (h1 : v ≤ 9223372036854775807) : Lib.parseIntB 64 (Lib.itoa v) = .ok v := by
  unfold Lib.itoa
  split
  · rename_i hv
    have hn : v.natAbs ≤ 18446744073709551615 := by omega
    obtain ⟨k1, k2, k3⟩ := decDigits_val 18446744073709551615 v.natAbs hn
    rw [Lib.parseIntB_minus]
    have : Lib.parseUintB 64 (Lib.decDigits v.natAbs) = .ok v.natAbs := by
      unfold Lib.parseUintB
      rw [if_neg k2]
      exact parseUintM_digits.2 k1
    rw [this]
    simp only [Lib.signedC]
    rw [if_neg (by simp; omega)]
    congr 1; omega
  · rename_i hv
    have hn : v.toNat ≤ 18446744073709551615 := by omega
    obtain ⟨k1, k2, k3⟩ := decDigits_val 18446744073709551615 v.toNat hn
    have : Lib.parseUintB 64 (Lib.decDigits v.toNat) = .ok v.toNat := by
      unfold Lib.parseUintB
      rw [if_neg k2]
      exact parseUintM_digits.2 k1
    cases hd : Lib.decDigits v.toNat with
    | nil => exact absurd hd k2
    | cons x t =>
      rw [hd] at k3 this
      have := k3 x rfl
      rw [Lib.parseIntB_plain 64 x t (by omega) (by omega), ‹Lib.parseUintB 64 (x :: t) = _›]
      simp only [Lib.signlessC]
      rw [if_neg (by simp; omega)]
      congr 1; omega
/-- The program's numbers and the document's. -/
theorem number_some {w : List UInt8} {v : Int} (h : numOf w = some v) : progNumber w = (v, true) := by
  obtain ⟨rfl, h0, h1⟩ := numOf_inv h
  unfold progNumber
  rw [parse_itoa h0 h1]
  simp
theorem number_true {w : List UInt8} (h : (progNumber w).2 = true) : numOf w = some (progNumber w).1 := by
  unfold progNumber at h ⊢
  rcases hp : Lib.parseIntB 64 w with v | _ | _
  · rw [hp] at h
    simp only at h ⊢
    obtain ⟨h0, h1⟩ := parse64_range hp
    have : Lib.itoa v = w := by simpa using h
    rw [← this]
    exact numOf_itoa h0 h1
  · rw [hp] at h; cases h
  · rw [hp] at h; cases h
end Go.Proofs.L24

namespace Go.Proofs.L24
open Go Aw Go.Proofs
/-! Parse: plain laws. -/
theorem nextW_nil : nextW [] = ([], []) := rfl
theorem nextW_blank {x : UInt8} {t : List UInt8} (h : isBlank x = true) : nextW (x :: t) = nextW t := by
  unfold nextW; rw [List.dropWhile_cons, if_pos h]
theorem nextW_word {x : UInt8} {t : List UInt8} (h : ¬ isBlank x = true) : nextW (x :: t) = (x :: t.take (t.findIdx isBlank), t.drop (t.findIdx isBlank)) := by
  have hx : isBlank x = false := by simpa using h
  unfold nextW; rw [List.dropWhile_cons, if_neg h, List.findIdx_cons, hx]; rfl
theorem wordsFrom_word {cur : List UInt8} {p : Nat} {r : List UInt8} (hc : cur ≠ []) : wordsFrom cur p r = (cur ++ r.take (r.findIdx isBlank), p + r.findIdx isBlank) :: wordsFrom [] (p + r.findIdx isBlank) (r.drop (r.findIdx isBlank)) := by
  induction r generalizing cur p with
  | nil => simp [wordsFrom, hc]
  | cons x t ih =>
    by_cases hb : isBlank x = true
    · rw [List.findIdx_cons, hb]
      simp only [wordsFrom, if_pos hb, if_neg hc, cond_true, List.take_zero, List.append_nil, Nat.add_zero, List.drop_zero, if_true, List.nil_append, List.cons_append]
    · have hx : isBlank x = false := by simpa using hb
      rw [List.findIdx_cons, hx, wordsFrom, if_neg hb, ih (by simp)]
      simp [Nat.add_assoc, Nat.add_comm 1]
theorem nextW_suffix (r : List UInt8) : (nextW r).2 = r.drop (r.length - (nextW r).2.length) := by
  induction r with
  | nil => rfl
  | cons x t ih =>
    by_cases hb : isBlank x = true
    · rw [nextW_blank hb]
      have := nextW_len t
      rw [List.length_cons, show t.length + 1 - (nextW t).2.length = (t.length - (nextW t).2.length) + 1 from by omega, List.drop_succ_cons]
      exact ih
    · rw [nextW_word hb]
      simp only [List.length_drop, List.length_cons]
      have := @List.findIdx_le_length _ isBlank t
      rw [show t.length + 1 - (t.length - t.findIdx isBlank) = t.findIdx isBlank + 1 from by omega, List.drop_succ_cons]
theorem wordsFrom_next {p : Nat} {r : List UInt8} : wordsFrom [] p r = if (nextW r).1 = [] then [] else ((nextW r).1, p + (r.length - (nextW r).2.length)) :: wordsFrom [] (p + (r.length - (nextW r).2.length)) (nextW r).2 := by
  induction r generalizing p with
  | nil => rfl
  | cons x t ih =>
    by_cases hb : isBlank x = true
    · have := nextW_len t
      rw [nextW_blank hb, wordsFrom, if_pos hb, if_pos rfl, List.nil_append, ih, List.length_cons, show p + (t.length + 1 - (nextW t).2.length) = p + 1 + (t.length - (nextW t).2.length) from by omega]
    · rw [nextW_word hb, wordsFrom, if_neg hb, List.nil_append, wordsFrom_word (by simp), if_neg (by simp)]
      have := @List.findIdx_le_length _ isBlank t
      simp only [List.length_drop, List.length_cons]
      rw [show p + (t.length + 1 - (t.length - t.findIdx isBlank)) = p + 1 + t.findIdx isBlank from by omega]
      rfl
theorem nameOk_nil : nameOk [] = false := rfl
/-- The program's word of a form, and the document's. -/
def KRel (k k' : Int) : Prop := (k = 75 ∧ k' = 107) ∨ (k = 88 ∧ k' = 120) ∨ (k = k' ∧ k ≠ 75 ∧ k ≠ 88 ∧ k ≠ 120)
theorem take_one {c : Cmd} {k k' : Int} (h : KRel k k') (w : List UInt8) : ((oneCmd c k w).2 = true → takeCmd c k' w = oneCmd c k w) ∧ ((oneCmd c k w).2 = false → (takeCmd c k' w).2 = false) := by
  unfold oneCmd takeCmd
  by_cases k1 : k = 110
  · have : k' = 110 := by rcases h with ⟨h1, h2⟩ | ⟨h1, h2⟩ | ⟨h1, h2⟩ <;> omega
    rw [if_pos k1, if_pos this]
    exact ⟨fun _ => rfl, fun h => h⟩
  have n1 : k' ≠ 110 := by rcases h with ⟨h1, h2⟩ | ⟨h1, h2⟩ | ⟨h1, h2⟩ <;> omega
  rw [if_neg k1, if_neg n1]
  by_cases k2 : k = 107 ∨ k = 75
  · have : k' = 107 := by rcases h with ⟨h1, h2⟩ | ⟨h1, h2⟩ | ⟨h1, h2⟩ <;> omega
    rw [if_pos k2, if_pos this]
    cases hn : numOf w with
    | some v =>
      rw [number_some hn]
      exact ⟨fun _ => rfl, fun h => h⟩
    | none =>
      refine ⟨fun h => by simp at h, fun _ => ?_⟩
      cases hp : (progNumber w).2 with
      | false => rfl
      | true => rw [number_true hp] at hn; cases hn
  have n2 : k' ≠ 107 := by rcases h with ⟨h1, h2⟩ | ⟨h1, h2⟩ | ⟨h1, h2⟩ <;> omega
  rw [if_neg k2, if_neg n2]
  by_cases k3 : k = 88
  · have : k' = 120 := by rcases h with ⟨h1, h2⟩ | ⟨h1, h2⟩ | ⟨h1, h2⟩ <;> omega
    rw [if_pos k3, if_pos this]
    by_cases hc : cutIx w < w.length
    · rw [if_pos hc]
      exact ⟨fun _ => rfl, fun h => h⟩
    · rw [if_neg hc]
      refine ⟨fun h => by simp at h, fun _ => ?_⟩
      have : w.drop (cutIx w + 1) = [] := List.drop_eq_nil_of_le (by omega)
      simp [this, nameOk_nil]
  have n3 : k' ≠ 120 := by rcases h with ⟨h1, h2⟩ | ⟨h1, h2⟩ | ⟨h1, h2⟩ <;> omega
  rw [if_neg k3, if_neg n3]
  by_cases k4 : k = 104
  · have : k' = 104 := by rcases h with ⟨h1, h2⟩ | ⟨h1, h2⟩ | ⟨h1, h2⟩ <;> omega
    rw [if_pos k4, if_pos this]
    unfold hexP
    by_cases hl : w.length = 0 ∨ w.length % 2 ≠ 0
    · rw [if_pos hl]
      refine ⟨fun h => ?_, fun _ => rfl⟩
      cases hh : hexLoop w with
      | none => exact absurd h (by rw [hh]; simp)
      | some l => rw [hh] at h; simp at h; omega
    · rw [if_neg hl]
      cases hh : hexLoop w with
      | none => exact ⟨fun h => (by cases h), fun _ => rfl⟩
      | some l =>
        have : (0 < w.length ∧ w.length % 2 = 0) := by omega
        simp [this]
  have n4 : k' ≠ 104 := by rcases h with ⟨h1, h2⟩ | ⟨h1, h2⟩ | ⟨h1, h2⟩ <;> omega
  rw [if_neg k4, if_neg n4]
  exact ⟨fun _ => rfl, fun h => h⟩
theorem oneO_some {c : Cmd} {k : Int} {w : List UInt8} (h : (oneCmd c k w).2 = true) : oneO c k w = some (oneCmd c k w).1 := if_pos h
theorem oneO_none {c : Cmd} {k : Int} {w : List UInt8} (h : (oneCmd c k w).2 = false) : oneO c k w = none := if_neg (by simp [h])
theorem many_law {k k' : Int} (hk : KRel k k') : ∀ (f : Nat) (c : Cmd) (p : Nat) (r : List UInt8), r.length ≤ f → match oneAll k c (wordsFrom [] p r) with
    | some c' => (manyGo k' f c r).1 = c' ∧ (nextW (manyGo k' f c r).2).1 = []
    | none => (nextW (manyGo k' f c r).2).1 ≠ [] := by
  intro f
  induction f with
  | zero =>
    intro c p r hr
    have : r = [] := List.eq_nil_of_length_eq_zero (by omega)
    subst this
    exact ⟨rfl, rfl⟩
  | succ f ih =>
    intro c p r hr
    rw [wordsFrom_next]
    by_cases hw : (nextW r).1 = []
    · rw [if_pos hw, manyGo_stop hw]
      exact ⟨rfl, hw⟩
    · rw [if_neg hw, oneAll]
      have hl := nextW_len r
      have hpos : 1 ≤ (nextW r).1.length := by
        rcases Nat.eq_zero_or_pos (nextW r).1.length with h | h
        · exact absurd (List.eq_nil_of_length_eq_zero h) hw
        · exact h
      cases ho : (oneCmd c k (nextW r).1).2 with
      | true =>
        have e := (take_one (c := c) hk (nextW r).1).1 ho
        rw [oneO_some ho, manyGo_go hw (by rw [e]; exact ho), e]
        exact ih _ _ _ (by omega)
      | false =>
        have e := (take_one (c := c) hk (nextW r).1).2 ho
        rw [oneO_none ho, manyGo_bad hw e]
        exact hw
def tr (F : List UInt8) : List UInt8 := F.flatMap fun k => if k = 75 then [107, 42] else if k = 88 then [120, 42] else [k]
def okF : List UInt8 → Bool
  | [] => true
  | k :: ks => if k = 75 ∨ k = 88 then ks.isEmpty else (k != 42 && k != 120 && okF ks)
theorem tr_head {F : List UInt8} (h : okF F = true) : ¬ (tr F).head? = some 42 := by
  cases F with
  | nil => simp [tr]
  | cons k ks =>
    unfold okF at h
    unfold tr
    rw [List.flatMap_cons]
    by_cases h75 : k = 75
    · simp [h75]
    · by_cases h88 : k = 88
      · simp [h88]
      · rw [if_neg (by simp [h75, h88])] at h
        rw [if_neg h75, if_neg h88]
        simp at h
        simp [h.1.1]
theorem toNat_int_ne {k : UInt8} {n : UInt8} (h : k ≠ n) : ((k.toNat : Nat) : Int) ≠ ((n.toNat : Nat) : Int) := fun e => h (UInt8.toNat_inj.1 (by omega))
theorem go_law (S : List UInt8) : ∀ (F : List UInt8) (f : Nat) (c : Cmd) (p : Nat), okF F = true → (tr F).length ≤ f → p ≤ S.length → match refGo S F c p (wordsFrom [] p (S.drop p)) with
    | some c' => readGo f (tr F) c (S.drop p) = (c', true)
    | none => (readGo f (tr F) c (S.drop p)).2 = false := by
  intro F
  induction F with
  | nil =>
    intro f c p _ _ hp
    rw [refGo_nil, wordsFrom_next]
    have : readGo f (tr []) c (S.drop p) = (c, decide ((nextW (S.drop p)).1 = [])) := by cases f <;> rfl
    rw [this]
    by_cases hw : (nextW (S.drop p)).1 = []
    · rw [if_pos hw, if_pos rfl]; simp [hw]
    · rw [if_neg hw, if_neg (by simp)]; simp [hw]
  | cons k ks ih =>
    intro f c p hok hf hp
    rw [refGo_cons]
    by_cases h102 : k = 102
    · rw [if_pos h102]
      subst h102
      obtain ⟨f', rfl⟩ : ∃ f', f = f' + 1 := ⟨f - 1, by simp [tr] at hf; omega⟩
      show readGo (f' + 1) (102 :: tr ks) c (S.drop p) = _
      rw [readGo, if_pos rfl]
    rw [if_neg h102]
    by_cases hKX : k = 75 ∨ k = 88
    · rw [if_pos hKX]
      have hks : ks = [] := by unfold okF at hok; rw [if_pos hKX] at hok; simpa using hok
      subst hks
      have key : ∀ k' : UInt8, tr [k] = [k', 42] → KRel k.toNat k'.toNat → k' ≠ 102 → match (match oneAll k.toNat c (wordsFrom [] p (S.drop p)) with
          | none => none
          | some c => refGo S [] c (((wordsFrom [] p (S.drop p)).getLast?.map (·.2)).getD p) []) with
        | some c' => readGo f (tr [k]) c (S.drop p) = (c', true)
        | none => (readGo f (tr [k]) c (S.drop p)).2 = false := by
        intro k' htr hrel hne
        have hm := many_law hrel (S.drop p).length c p (S.drop p) (Nat.le_refl _)
        rw [htr] at hf ⊢
        obtain ⟨f', rfl⟩ : ∃ f', f = f' + 1 := ⟨f - 1, by simp at hf; omega⟩
        have e2 : ∀ c s, readGo f' [] c s = (c, decide ((nextW s).1 = [])) := by intro c s; cases f' <;> rfl
        rw [readGo, if_neg hne, if_pos (show ([42] : List UInt8).head? = some 42 from rfl)]
        rw [show ([42] : List UInt8).tail = [] from rfl, e2]
        cases ho : oneAll k.toNat c (wordsFrom [] p (S.drop p)) with
        | none =>
          rw [ho] at hm
          simp only at hm ⊢
          exact decide_eq_false hm
        | some c' =>
          rw [ho] at hm
          simp only at hm ⊢
          rw [refGo_nil, if_pos rfl]
          simp only
          rw [hm.1, decide_eq_true hm.2]
      rcases hKX with rfl | rfl
      · exact key 107 rfl (.inl ⟨rfl, rfl⟩) (by decide)
      · exact key 120 rfl (.inr (.inl ⟨rfl, rfl⟩)) (by decide)
    rw [if_neg hKX]
    have h75 : k ≠ 75 := fun e => hKX (.inl e)
    have h88 : k ≠ 88 := fun e => hKX (.inr e)
    have htr : tr (k :: ks) = k :: tr ks := by
      unfold tr
      rw [List.flatMap_cons, if_neg h75, if_neg h88]; rfl
    have hok2 : k ≠ 42 ∧ k ≠ 120 ∧ okF ks = true := by
      unfold okF at hok
      rw [if_neg hKX] at hok
      simpa [and_assoc] using hok
    rw [htr] at hf ⊢
    obtain ⟨f', rfl⟩ : ∃ f', f = f' + 1 := ⟨f - 1, by simp at hf; omega⟩
    rw [readGo, if_neg h102, if_neg (tr_head hok2.2.2), wordsFrom_next]
    have hrel : KRel k.toNat k.toNat := .inr (.inr ⟨rfl, toNat_int_ne h75, toNat_int_ne h88, toNat_int_ne hok2.2.1⟩)
    by_cases hw : (nextW (S.drop p)).1 = []
    · rw [if_pos hw, if_pos hw]
    · rw [if_neg hw, if_neg hw]
      have hs := nextW_suffix (S.drop p)
      have hl := nextW_len (S.drop p)
      rw [List.drop_drop] at hs
      simp only
      cases ho : (oneCmd c k.toNat (nextW (S.drop p)).1).2 with
      | true =>
        have e := (take_one (c := c) hrel (nextW (S.drop p)).1).1 ho
        rw [oneO_some ho, e, if_pos ho]
        have hle : p + ((S.drop p).length - (nextW (S.drop p)).2.length) ≤ S.length := by simp; omega
        have := ih f' (oneCmd c k.toNat (nextW (S.drop p)).1).1 _ hok2.2.2 (by simp at hf; omega) hle
        rw [← hs] at this
        exact this
      | false =>
        have e := (take_one (c := c) hrel (nextW (S.drop p)).1).2 ho
        rw [oneO_none ho, if_neg (by simp [e])]
theorem forms_tr : ∀ i, i < 24 → kinds.getD i [] = tr (forms.getD i []) ∧ okF (forms.getD i []) = true ∧ forms.getD i [] ≠ [63] := by decide
theorem verbAt_lt {v : List UInt8} {i : Nat} (h : verbAt v = some i) : i < 24 := by
  unfold verbAt at h
  have := (List.findIdx?_eq_some_iff_getElem.1 h).1
  simpa [verbs] using this
theorem parse_law (s : List UInt8) : progParse s = refParse s := by
  unfold progParse refParse
  by_cases h10 : 10 ∈ s
  · rw [if_pos h10, if_pos h10]
  rw [if_neg h10, if_neg h10]
  unfold words
  rw [wordsFrom_next]
  by_cases hw : (nextW s).1 = []
  · rw [if_pos (.inl hw), if_pos hw]
  rw [if_neg hw]
  simp only
  by_cases h35 : (nextW s).1.head? = some 35
  · rw [if_pos (.inr h35), if_pos h35]
  rw [if_neg (by simp only [not_or]; exact ⟨hw, h35⟩), if_neg h35]
  have hs := nextW_suffix s
  have hl := nextW_len s
  generalize (nextW s).1 = v at *
  unfold progForm refForm
  cases hv : verbAt v with
  | none => simp
  | some i =>
    obtain ⟨t1, t2, t3⟩ := forms_tr i (verbAt_lt hv)
    simp only
    rw [if_neg t3]
    have key := go_law s (forms.getD i []) (kinds.getD i []).length (cmd0 v) (0 + (s.length - (nextW s).2.length)) t2 (by rw [t1]; exact Nat.le_refl _) (by omega)
    rw [← t1] at key
    have e : s.drop (0 + (s.length - (nextW s).2.length)) = (nextW s).2 := by rw [Nat.zero_add]; exact hs.symm
    rw [e] at key
    cases hg : refGo s (forms.getD i []) (cmd0 v) (0 + (s.length - (nextW s).2.length)) (wordsFrom [] (0 + (s.length - (nextW s).2.length)) (nextW s).2) with
    | none =>
      rw [hg] at key
      simp only at key
      rw [if_neg (by rw [key]; simp)]
    | some c' =>
      rw [hg] at key
      simp only at key
      rw [key, if_pos ⟨trivial, rfl⟩]
end Go.Proofs.L24

namespace Go.Proofs.L24
open Go Aw Go.Proofs
variable {W0 : World}
theorem eq_of_all {α : Type} {xs ys : List α} (hl : xs.length = ys.length) (h : ∀ j, j < xs.length → xs[j]? = ys[j]?) : xs = ys := by
  refine List.ext_getElem? fun j => ?_
  rcases Nat.lt_or_ge j xs.length with q | q
  · exact h j q
  · rw [List.getElem?_eq_none q, List.getElem?_eq_none (by omega)]
set_option linter.unusedSimpArgs false in
set_option maxRecDepth 100000 in
set_option maxHeartbeats 4000000 in
theorem texts_ok (xs ys : List (List UInt8)) (hx : xs.length < 1000000000000) (hy : ys.length < 1000000000000) : CallsA Tryd.prog W0 12 [] [.d (.sl (xs.map DV.str)), .d (.sl (ys.map DV.str))] fun rs os => rs = [.d (.bool (decide (xs = ys)))] ∧ os = [] := by
  refine calls_of_awpC tok [.tmp 4] Tryd.func12 rfl rfl rfl rfl rfl ?_
  ((conv => whnf); (repeat' (first | (refine Br.tt (by first | assumption | with_reducible rfl | with_reducible exact Bool.not_false) ?_; conv => whnf) | (refine Br.ff (by first | assumption | with_reducible rfl | with_reducible exact Bool.not_true) ?_; conv => whnf) | fail)))
  ((repeat' (first | (refine Br.tt (by first | assumption | with_reducible rfl | with_reducible exact Bool.not_false) ?_; conv => whnf) | (refine Br.ff (by first | assumption | with_reducible rfl | with_reducible exact Bool.not_true) ?_; conv => whnf) | fail)); (refine Br.mk (fun h => ?_) (fun h => ?_) <;> ((conv => whnf); (repeat' (first | (refine Br.tt (by first | assumption | with_reducible rfl | with_reducible exact Bool.not_false) ?_; conv => whnf) | (refine Br.ff (by first | assumption | with_reducible rfl | with_reducible exact Bool.not_true) ?_; conv => whnf) | fail)))))
  · have : ¬ xs = ys := by rintro rfl; simp at h
    simp [this]
  have hl : xs.length = ys.length := by simp at h; omega
  refine loop_by1 (fun (i : Nat) => i ≤ xs.length ∧ ∀ j, j < i → xs[j]? = ys[j]?) (fun i => mkT [(0, .d (.sl (xs.map DV.str))), (1, .d (.sl (ys.map DV.str))), (12, .d (.int .i64 xs.length)), (13, .d (.int .i64 i))]) (fun _ => mkT [])
    (fun i => xs.length - i) 0 ⟨by omega, by omega⟩ (Weak.of [] rfl rfl ⟨⟨_, rfl, rfl⟩, ⟨_, rfl, rfl⟩, ⟨_, rfl, by simp [Pre]⟩, ⟨_, rfl, rfl⟩, trivial⟩ trivial) ?_
  intro i ⟨hi, hj⟩
  ((conv => whnf); (repeat' (first | (refine Br.tt (by first | assumption | with_reducible rfl | with_reducible exact Bool.not_false) ?_; conv => whnf) | (refine Br.ff (by first | assumption | with_reducible rfl | with_reducible exact Bool.not_true) ?_; conv => whnf) | fail)))
  ((repeat' (first | (refine Br.tt (by first | assumption | with_reducible rfl | with_reducible exact Bool.not_false) ?_; conv => whnf) | (refine Br.ff (by first | assumption | with_reducible rfl | with_reducible exact Bool.not_true) ?_; conv => whnf) | fail)); (refine Br.mk (fun h1 => ?_) (fun h1 => ?_) <;> ((conv => whnf); (repeat' (first | (refine Br.tt (by first | assumption | with_reducible rfl | with_reducible exact Bool.not_false) ?_; conv => whnf) | (refine Br.ff (by first | assumption | with_reducible rfl | with_reducible exact Bool.not_true) ?_; conv => whnf) | fail)))))
  · have hlt : i < xs.length := by simpa using h1
    have hlt2 : i < ys.length := by omega
    refine ⟨by kernel_rfl, ?_⟩
    ((conv => whnf); (repeat' (first | (refine Br.tt (by first | assumption | with_reducible rfl | with_reducible exact Bool.not_false) ?_; conv => whnf) | (refine Br.ff (by first | assumption | with_reducible rfl | with_reducible exact Bool.not_true) ?_; conv => whnf) | fail)))
    refine Idx.of (DV.str xs[i]) (by omega) (by simp [hlt]) rfl ?_
    ((conv => whnf); (repeat' (first | (refine Br.tt (by first | assumption | with_reducible rfl | with_reducible exact Bool.not_false) ?_; conv => whnf) | (refine Br.ff (by first | assumption | with_reducible rfl | with_reducible exact Bool.not_true) ?_; conv => whnf) | fail)))
    refine Idx.of (DV.str ys[i]) (by omega) (by simp [hlt2]) rfl ?_
    ((conv => whnf); (repeat' (first | (refine Br.tt (by first | assumption | with_reducible rfl | with_reducible exact Bool.not_false) ?_; conv => whnf) | (refine Br.ff (by first | assumption | with_reducible rfl | with_reducible exact Bool.not_true) ?_; conv => whnf) | fail)))
    ((repeat' (first | (refine Br.tt (by first | assumption | with_reducible rfl | with_reducible exact Bool.not_false) ?_; conv => whnf) | (refine Br.ff (by first | assumption | with_reducible rfl | with_reducible exact Bool.not_true) ?_; conv => whnf) | fail)); (refine Br.mk (fun g => ?_) (fun g => ?_) <;> ((conv => whnf); (repeat' (first | (refine Br.tt (by first | assumption | with_reducible rfl | with_reducible exact Bool.not_false) ?_; conv => whnf) | (refine Br.ff (by first | assumption | with_reducible rfl | with_reducible exact Bool.not_true) ?_; conv => whnf) | fail)))))
    · have : ¬ xs = ys := by
        rintro rfl
        simp at g
      simp [this]
    · have ge : xs[i] = ys[i] := by simpa using g
      refine ⟨i + 1, ⟨⟨by omega, fun j hj2 => ?_⟩, by omega⟩, Weak.of [] rfl rfl ⟨⟨_, rfl, rfl⟩, ⟨_, rfl, rfl⟩, ⟨_, rfl, rfl⟩, ⟨_, rfl, by simp only [Pre]; rw [wrap_i64 (by omega) (by omega)]; rfl⟩, trivial⟩ trivial⟩
      rcases Nat.lt_or_ge j i with q | q
      · exact hj j q
      · have : j = i := by omega
        subst this
        rw [List.getElem?_eq_getElem hlt, List.getElem?_eq_getElem hlt2, ge]
  · have : xs = ys := eq_of_all hl fun j hjl => hj j (by simp at h1; omega)
    simp [this]
set_option linter.unusedSimpArgs false in
set_option maxRecDepth 100000 in
set_option maxHeartbeats 4000000 in
theorem values_ok (xs ys : List Int) (hx : xs.length < 1000000000000) (hy : ys.length < 1000000000000) : CallsA Tryd.prog W0 11 [] [.d (.sl (xs.map (DV.int .i64))), .d (.sl (ys.map (DV.int .i64)))] fun rs os => rs = [.d (.bool (decide (xs = ys)))] ∧ os = [] := by
  refine calls_of_awpC tok [.tmp 4] Tryd.func11 rfl rfl rfl rfl rfl ?_
  ((conv => whnf); (repeat' (first | (refine Br.tt (by first | assumption | with_reducible rfl | with_reducible exact Bool.not_false) ?_; conv => whnf) | (refine Br.ff (by first | assumption | with_reducible rfl | with_reducible exact Bool.not_true) ?_; conv => whnf) | fail)))
  ((repeat' (first | (refine Br.tt (by first | assumption | with_reducible rfl | with_reducible exact Bool.not_false) ?_; conv => whnf) | (refine Br.ff (by first | assumption | with_reducible rfl | with_reducible exact Bool.not_true) ?_; conv => whnf) | fail)); (refine Br.mk (fun h => ?_) (fun h => ?_) <;> ((conv => whnf); (repeat' (first | (refine Br.tt (by first | assumption | with_reducible rfl | with_reducible exact Bool.not_false) ?_; conv => whnf) | (refine Br.ff (by first | assumption | with_reducible rfl | with_reducible exact Bool.not_true) ?_; conv => whnf) | fail)))))
  · have : ¬ xs = ys := by rintro rfl; simp at h
    simp [this]
  have hl : xs.length = ys.length := by simp at h; omega
  refine loop_by1 (fun (i : Nat) => i ≤ xs.length ∧ ∀ j, j < i → xs[j]? = ys[j]?) (fun i => mkT [(0, .d (.sl (xs.map (DV.int .i64)))), (1, .d (.sl (ys.map (DV.int .i64)))), (12, .d (.int .i64 xs.length)), (13, .d (.int .i64 i))]) (fun _ => mkT [])
    (fun i => xs.length - i) 0 ⟨by omega, by omega⟩ (Weak.of [] rfl rfl ⟨⟨_, rfl, rfl⟩, ⟨_, rfl, rfl⟩, ⟨_, rfl, by simp [Pre]⟩, ⟨_, rfl, rfl⟩, trivial⟩ trivial) ?_
  intro i ⟨hi, hj⟩
  ((conv => whnf); (repeat' (first | (refine Br.tt (by first | assumption | with_reducible rfl | with_reducible exact Bool.not_false) ?_; conv => whnf) | (refine Br.ff (by first | assumption | with_reducible rfl | with_reducible exact Bool.not_true) ?_; conv => whnf) | fail)))
  ((repeat' (first | (refine Br.tt (by first | assumption | with_reducible rfl | with_reducible exact Bool.not_false) ?_; conv => whnf) | (refine Br.ff (by first | assumption | with_reducible rfl | with_reducible exact Bool.not_true) ?_; conv => whnf) | fail)); (refine Br.mk (fun h1 => ?_) (fun h1 => ?_) <;> ((conv => whnf); (repeat' (first | (refine Br.tt (by first | assumption | with_reducible rfl | with_reducible exact Bool.not_false) ?_; conv => whnf) | (refine Br.ff (by first | assumption | with_reducible rfl | with_reducible exact Bool.not_true) ?_; conv => whnf) | fail)))))
  · have hlt : i < xs.length := by simpa using h1
    have hlt2 : i < ys.length := by omega
    refine ⟨by kernel_rfl, ?_⟩
    ((conv => whnf); (repeat' (first | (refine Br.tt (by first | assumption | with_reducible rfl | with_reducible exact Bool.not_false) ?_; conv => whnf) | (refine Br.ff (by first | assumption | with_reducible rfl | with_reducible exact Bool.not_true) ?_; conv => whnf) | fail)))
    refine Idx.of ((DV.int .i64) xs[i]) (by omega) (by simp [hlt]) rfl ?_
    ((conv => whnf); (repeat' (first | (refine Br.tt (by first | assumption | with_reducible rfl | with_reducible exact Bool.not_false) ?_; conv => whnf) | (refine Br.ff (by first | assumption | with_reducible rfl | with_reducible exact Bool.not_true) ?_; conv => whnf) | fail)))
    refine Idx.of ((DV.int .i64) ys[i]) (by omega) (by simp [hlt2]) rfl ?_
    ((conv => whnf); (repeat' (first | (refine Br.tt (by first | assumption | with_reducible rfl | with_reducible exact Bool.not_false) ?_; conv => whnf) | (refine Br.ff (by first | assumption | with_reducible rfl | with_reducible exact Bool.not_true) ?_; conv => whnf) | fail)))
    ((repeat' (first | (refine Br.tt (by first | assumption | with_reducible rfl | with_reducible exact Bool.not_false) ?_; conv => whnf) | (refine Br.ff (by first | assumption | with_reducible rfl | with_reducible exact Bool.not_true) ?_; conv => whnf) | fail)); (refine Br.mk (fun g => ?_) (fun g => ?_) <;> ((conv => whnf); (repeat' (first | (refine Br.tt (by first | assumption | with_reducible rfl | with_reducible exact Bool.not_false) ?_; conv => whnf) | (refine Br.ff (by first | assumption | with_reducible rfl | with_reducible exact Bool.not_true) ?_; conv => whnf) | fail)))))
    · have : ¬ xs = ys := by
        rintro rfl
        simp at g
      simp [this]
    · have ge : xs[i] = ys[i] := by simpa using g
      refine ⟨i + 1, ⟨⟨by omega, fun j hj2 => ?_⟩, by omega⟩, Weak.of [] rfl rfl ⟨⟨_, rfl, rfl⟩, ⟨_, rfl, rfl⟩, ⟨_, rfl, rfl⟩, ⟨_, rfl, by simp only [Pre]; rw [wrap_i64 (by omega) (by omega)]; rfl⟩, trivial⟩ trivial⟩
      rcases Nat.lt_or_ge j i with q | q
      · exact hj j q
      · have : j = i := by omega
        subst this
        rw [List.getElem?_eq_getElem hlt, List.getElem?_eq_getElem hlt2, ge]
  · have : xs = ys := eq_of_all hl fun j hjl => hj j (by simp at h1; omega)
    simp [this]
theorem oneAll_ok {k : Int} : ∀ {ws : List (List UInt8 × Nat)} {c c' : Cmd} {n : Nat}, c.Ok n → oneAll k c ws = some c' → c'.Ok (n + ws.length)
  | [], c, c', n, h, e => by simp [oneAll] at e; subst e; exact h.le (by omega)
  | (w, p) :: ws, c, c', n, h, e => by
    simp only [oneAll] at e
    unfold oneO at e
    by_cases hb : (oneCmd c k w).2 = true
    · rw [if_pos hb] at e
      exact (oneAll_ok (h.one k w) e).le (by simp; omega)
    · rw [if_neg hb] at e; cases e
theorem refGo_ok {S : List UInt8} : ∀ {F : List UInt8} {c c' : Cmd} {p n : Nat} {ws : List (List UInt8 × Nat)}, c.Ok n → refGo S F c p ws = some c' → c'.Ok (n + ws.length)
  | [], c, c', p, n, ws, h, e => by
    rw [refGo_nil] at e
    split at e
    · cases e; exact h.le (by omega)
    · cases e
  | k :: ks, c, c', p, n, ws, h, e => by
    rw [refGo_cons] at e
    split at e
    · cases e; exact ⟨Nat.le_trans h.names (by omega), Nat.le_trans h.values (by omega), Nat.le_trans h.frm (by omega), Nat.le_trans h.to_ (by omega)⟩
    · split at e
      · cases ha : oneAll (k.toNat : Nat) c ws with
        | none => rw [ha] at e; cases e
        | some c2 =>
          rw [ha] at e
          exact (refGo_ok (oneAll_ok h ha) e).le (by simp)
      · cases ws with
        | nil => cases e
        | cons w ws =>
          obtain ⟨w, p'⟩ := w
          simp only at e
          unfold oneO at e
          by_cases hb : (oneCmd c (k.toNat : Nat) w).2 = true
          · rw [if_pos hb] at e
            exact (refGo_ok (h.one _ w) e).le (by simp; omega)
          · rw [if_neg hb] at e; cases e
theorem cmd0_ok (v : List UInt8) (n : Nat) : (cmd0 v).Ok n := ⟨by simp [cmd0], by simp [cmd0], by simp [cmd0], by simp [cmd0]⟩
theorem refParse_small (s : List UInt8) : (refParse s).1.Ok (s.length + 1) := by
  unfold refParse
  split
  · exact cmd0_ok _ _
  · have hlen : (words s).length ≤ s.length + 1 := wordsFrom_len
    split
    · exact cmd0_ok _ _
    · rename_i w e ws hw
      rw [hw] at hlen
      split
      · exact cmd0_ok _ _
      · split
        · exact cmd0_ok _ _
        · split
          · exact cmd0_ok _ _
          · rename_i c hc
            exact (refGo_ok (cmd0_ok w 0) hc).le (by simp at hlen; omega)
set_option linter.unusedSimpArgs false in
set_option maxRecDepth 100000 in
set_option maxHeartbeats 4000000 in
theorem same_ok (c : Cmd) (hc : c.Ok 100000000000) : CallsA Tryd.prog W0 9 [] [.d c.dv, .d c.dv] fun rs os => rs = [.d (.bool true)] ∧ os = [] := by
  unfold Cmd.dv
  refine calls_of_awpC tok [.tmp 4] Tryd.func9 rfl rfl rfl rfl rfl ?_
  ((conv => whnf); (repeat' (first | (refine Br.tt (by first | assumption | with_reducible rfl | with_reducible exact Bool.not_false) ?_; conv => whnf) | (refine Br.ff (by first | assumption | with_reducible rfl | with_reducible exact Bool.not_true) ?_; conv => whnf) | fail)))
  have h1 := hc.names; have h2 := hc.values; have h3 := hc.frm; have h4 := hc.to_
  have e1 : (c.verb == c.verb) = true := by simp
  have e2 : (c.text == c.text) = true := by simp
  repeat' (first | (refine Br.tt (by first | assumption | with_reducible rfl | with_reducible exact Bool.not_false) ?_; conv => whnf) | (refine Br.ff (by first | assumption | with_reducible rfl | with_reducible exact Bool.not_true) ?_; conv => whnf) | fail)
  refine CallsA.then (texts_ok _ _ (by omega) (by omega)) ?_
  rw [decide_eq_true rfl]
  ((conv => whnf); (repeat' (first | (refine Br.tt (by first | assumption | with_reducible rfl | with_reducible exact Bool.not_false) ?_; conv => whnf) | (refine Br.ff (by first | assumption | with_reducible rfl | with_reducible exact Bool.not_true) ?_; conv => whnf) | fail)))
  refine CallsA.then (values_ok _ _ (by omega) (by omega)) ?_
  rw [decide_eq_true rfl]
  ((conv => whnf); (repeat' (first | (refine Br.tt (by first | assumption | with_reducible rfl | with_reducible exact Bool.not_false) ?_; conv => whnf) | (refine Br.ff (by first | assumption | with_reducible rfl | with_reducible exact Bool.not_true) ?_; conv => whnf) | fail)))
  refine CallsA.then (texts_ok _ _ (by omega) (by omega)) ?_
  rw [decide_eq_true rfl]
  ((conv => whnf); (repeat' (first | (refine Br.tt (by first | assumption | with_reducible rfl | with_reducible exact Bool.not_false) ?_; conv => whnf) | (refine Br.ff (by first | assumption | with_reducible rfl | with_reducible exact Bool.not_true) ?_; conv => whnf) | fail)))
  refine CallsA.then (texts_ok _ _ (by omega) (by omega)) ?_
  rw [decide_eq_true rfl]
  ((conv => whnf); (repeat' (first | (refine Br.tt (by first | assumption | with_reducible rfl | with_reducible exact Bool.not_false) ?_; conv => whnf) | (refine Br.ff (by first | assumption | with_reducible rfl | with_reducible exact Bool.not_true) ?_; conv => whnf) | fail)))
  have hw : ∀ (y : DV), y ∈ c.bytes.map (DV.int .u8) → y.width = 1 := fun y hy => by
    obtain ⟨n, -, rfl⟩ := List.mem_map.1 hy
    rfl
  have hn : ∀ (y : DV), y ∈ c.bytes.map (DV.int .u8) → ∃ n, y = DV.int IntKind.u8 n := fun y hy => by
    obtain ⟨n, -, rfl⟩ := List.mem_map.1 hy
    exact ⟨n, rfl⟩
  refine Need.of ⟨hw, hn⟩ ?_
  ((conv => whnf); (repeat' (first | (refine Br.tt (by first | assumption | with_reducible rfl | with_reducible exact Bool.not_false) ?_; conv => whnf) | (refine Br.ff (by first | assumption | with_reducible rfl | with_reducible exact Bool.not_true) ?_; conv => whnf) | fail)))
  refine Need.of ⟨hw, hn⟩ ?_
  ((conv => whnf); (repeat' (first | (refine Br.tt (by first | assumption | with_reducible rfl | with_reducible exact Bool.not_false) ?_; conv => whnf) | (refine Br.ff (by first | assumption | with_reducible rfl | with_reducible exact Bool.not_true) ?_; conv => whnf) | fail)))
  refine ⟨?_, rfl⟩
  simp
theorem parse_ok' (hW : NumW W0) (s : List UInt8) (hs : s.length < 10000000000) : CallsA Tryd.prog W0 6 [] [.d (.str s)] fun rs os => rs = [.d (refParse s).1.dv, .d (.int .i64 (refParse s).2)] ∧ os = [] := by
  rw [← parse_law]; exact parse_ok hW s hs
def even1 : List UInt8 := [108, 101, 116, 32, 101, 118, 101, 110, 32, 61, 32, 120, 32, 126, 32, 48, 32, 109, 111, 100, 32, 50]
def even2 : List UInt8 := [97, 116, 32, 101, 118, 101, 110, 32, 48, 52]
theorem even1_parse : refParse even1 = (⟨[108, 101, 116], [[101, 118, 101, 110]], [32, 120, 32, 126, 32, 48, 32, 109, 111, 100, 32, 50], [], [], [], [], 1⟩, 0) := by rfl
theorem even2_parse : refParse even2 = (cmd0 [], 240) := by rfl
set_option linter.unusedSimpArgs false in
set_option maxRecDepth 100000 in
set_option maxHeartbeats 4000000 in
theorem fixed_ok (hW : NumW W0) : CallsA Tryd.prog W0 8 [] [] fun rs os => rs = [.d (.bool true)] ∧ os = [] := by
  have p1 := parse_ok' hW even1 (by decide)
  have p2 := parse_ok' hW even2 (by decide)
  rw [even1_parse] at p1
  rw [even2_parse] at p2
  simp only [Cmd.dv, List.map_cons, List.map_nil] at p1
  simp only [Cmd.dv, cmd0, List.map_cons, List.map_nil] at p2
  unfold even1 at p1
  unfold even2 at p2
  refine calls_of_awpC tok [.tmp 0] Tryd.func8 rfl rfl rfl rfl rfl ?_
  ((conv => whnf); (repeat' (first | (refine Br.tt (by first | assumption | with_reducible rfl | with_reducible exact Bool.not_false) ?_; conv => whnf) | (refine Br.ff (by first | assumption | with_reducible rfl | with_reducible exact Bool.not_true) ?_; conv => whnf) | fail)))
  refine CallsA.then p1 ?_
  ((conv => whnf); (repeat' (first | (refine Br.tt (by first | assumption | with_reducible rfl | with_reducible exact Bool.not_false) ?_; conv => whnf) | (refine Br.ff (by first | assumption | with_reducible rfl | with_reducible exact Bool.not_true) ?_; conv => whnf) | fail)))
  refine CallsA.then p2 ?_
  ((conv => whnf); (repeat' (first | (refine Br.tt (by first | assumption | with_reducible rfl | with_reducible exact Bool.not_false) ?_; conv => whnf) | (refine Br.ff (by first | assumption | with_reducible rfl | with_reducible exact Bool.not_true) ?_; conv => whnf) | fail)))
  repeat' (first | (refine Br.tt rfl ?_; conv => whnf) | (refine Br.ff rfl ?_; conv => whnf) | fail)
  refine Need.of (by intro y hy; simp at hy; subst hy; rfl) ?_
  ((conv => whnf); (repeat' (first | (refine Br.tt (by first | assumption | with_reducible rfl | with_reducible exact Bool.not_false) ?_; conv => whnf) | (refine Br.ff (by first | assumption | with_reducible rfl | with_reducible exact Bool.not_true) ?_; conv => whnf) | fail)))
  repeat' (first | (refine Br.tt rfl ?_; conv => whnf) | (refine Br.ff rfl ?_; conv => whnf) | fail)
  refine CallsA.then (texts_ok [[101, 118, 101, 110]] [[101, 118, 101, 110]] (by decide) (by decide)) ?_
  ((conv => whnf); (repeat' (first | (refine Br.tt (by first | assumption | with_reducible rfl | with_reducible exact Bool.not_false) ?_; conv => whnf) | (refine Br.ff (by first | assumption | with_reducible rfl | with_reducible exact Bool.not_true) ?_; conv => whnf) | fail)))
  repeat' (first | (refine Br.tt rfl ?_; conv => whnf) | (refine Br.ff rfl ?_; conv => whnf) | fail)
  exact ⟨rfl, rfl⟩
set_option linter.unusedSimpArgs false in
set_option maxRecDepth 100000 in
set_option maxHeartbeats 4000000 in
theorem lineParses_ok (hW : NumW W0) (s : List UInt8) (hs : s.length < 10000000000) : CallsA Tryd.prog W0 3 [] [.d (.str s)] fun rs os => rs = [.d (.bool true)] ∧ os = [] := by
  have p1 := parse_ok' hW s hs
  have p2 := refParse_ok (W0 := W0) s (by omega)
  have hsm := same_ok (W0 := W0) _ ((refParse_small s).le (by omega))
  generalize (refParse s).1 = c at *
  generalize (refParse s).2 = why at *
  unfold Cmd.dv at *
  refine calls_of_awpC tok [.tmp 2] Tryd.func3 rfl rfl rfl rfl rfl ?_
  ((conv => whnf); (repeat' (first | (refine Br.tt (by first | assumption | with_reducible rfl | with_reducible exact Bool.not_false) ?_; conv => whnf) | (refine Br.ff (by first | assumption | with_reducible rfl | with_reducible exact Bool.not_true) ?_; conv => whnf) | fail)))
  refine CallsA.then p1 ?_
  ((conv => whnf); (repeat' (first | (refine Br.tt (by first | assumption | with_reducible rfl | with_reducible exact Bool.not_false) ?_; conv => whnf) | (refine Br.ff (by first | assumption | with_reducible rfl | with_reducible exact Bool.not_true) ?_; conv => whnf) | fail)))
  refine CallsA.then p2 ?_
  ((conv => whnf); (repeat' (first | (refine Br.tt (by first | assumption | with_reducible rfl | with_reducible exact Bool.not_false) ?_; conv => whnf) | (refine Br.ff (by first | assumption | with_reducible rfl | with_reducible exact Bool.not_true) ?_; conv => whnf) | fail)))
  refine CallsA.then (fixed_ok hW) ?_
  ((conv => whnf); (repeat' (first | (refine Br.tt (by first | assumption | with_reducible rfl | with_reducible exact Bool.not_false) ?_; conv => whnf) | (refine Br.ff (by first | assumption | with_reducible rfl | with_reducible exact Bool.not_true) ?_; conv => whnf) | fail)))
  have hq : (why == why) = true := by simp
  repeat' (first | (refine Br.tt (by first | assumption | with_reducible rfl | with_reducible exact Bool.not_false) ?_; conv => whnf) | (refine Br.ff (by first | assumption | with_reducible rfl | with_reducible exact Bool.not_true) ?_; conv => whnf) | fail)
  refine CallsA.then hsm ?_
  ((conv => whnf); (repeat' (first | (refine Br.tt (by first | assumption | with_reducible rfl | with_reducible exact Bool.not_false) ?_; conv => whnf) | (refine Br.ff (by first | assumption | with_reducible rfl | with_reducible exact Bool.not_true) ?_; conv => whnf) | fail)))
  repeat' (first | (refine Br.tt rfl ?_; conv => whnf) | (refine Br.ff rfl ?_; conv => whnf) | (refine Br.tt (by simp) ?_; conv => whnf) | fail)
  exact ⟨rfl, rfl⟩
end Go.Proofs.L24
