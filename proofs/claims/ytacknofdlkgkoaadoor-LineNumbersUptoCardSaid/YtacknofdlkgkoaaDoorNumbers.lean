/-
  LineNumbers holds: every number is read as it is written, of any list, where what it reads is of bulk at most 1048576.
-/
import Derived.Test.YtacknofdlkgkoaaDoorStart
import Derived.Lib.ItoaLen
import Derived.ChangeSlices
set_option linter.unusedSectionVars false
set_option linter.unusedSimpArgs false
set_option linter.unusedVariables false
namespace Go.Proofs.L24
open Go Aw Go.Proofs
variable {W0 : World}
theorem decDigits_len20 {u : Nat} (h : u ≤ 9223372036854775808) : (Lib.decDigits u).length ≤ 21 := by
  rcases Nat.lt_or_ge u 9223372036854775808 with q | q
  · have := Lib.itoa_length_le (u : Int) (by omega) (by omega)
    rw [Lib.itoa_nonneg] at this; exact this
  · have e : u = 9223372036854775808 := by omega
    have := Lib.itoa_length_le (-(u : Int)) (by omega) (by omega)
    rw [Lib.itoa_neg u (by omega)] at this
    simp at this; omega
set_option linter.unusedSimpArgs false in
set_option maxRecDepth 100000 in
set_option maxHeartbeats 4000000 in
theorem written_ok (v : Int) (h0 : -9223372036854775808 ≤ v) (h1 : v ≤ 9223372036854775807) : CallsA Tryd.prog W0 10 [] [.d (.int .i64 v)] fun rs os => rs = [.d (.str (Lib.itoa v))] ∧ os = [] := by
  refine calls_of_awpC tok [.tmp 2] Tryd.func10 rfl rfl rfl rfl rfl ?_
  ((conv => whnf); (repeat' (first | (refine Br.tt (by first | assumption | with_reducible rfl | with_reducible exact Bool.not_false) ?_; conv => whnf) | (refine Br.ff (by first | assumption | with_reducible rfl | with_reducible exact Bool.not_true) ?_; conv => whnf) | fail)))
  have hN : v.natAbs ≤ 9223372036854775808 := by omega
  have hlen := decDigits_len20 hN
  have hu : IntKind.u64.wrap v = if v < 0 then v + 18446744073709551616 else v := by
    rw [show IntKind.u64.wrap v = v % 18446744073709551616 from rfl]; split <;> omega
  have fin : ∀ (sg : List UInt8) (n : Nat) (t : List UInt8), Lib.itoa v = sg ++ Lib.decDigits v.natAbs → Lib.decDigits v.natAbs = Lib.decDigits n ++ t → n ≤ 9 → sg ++ [UInt8.ofNat (IntKind.u8.wrap (IntKind.u64.wrap (48 + (n : Int)))).toNat] ++ t = Lib.itoa v := by
    intro sg n t e1 e2 hn
    have hr : ∀ x, IntKind.u64.wrap x = x % 18446744073709551616 := fun _ => rfl
    rw [e1, e2, Lib.decDigits_one (by omega), wrap_u8 (by rw [hr]; omega) (by rw [hr]; omega), hr, show (((48 + (n : Int)) % 18446744073709551616).toNat) = 48 + n from by omega, List.append_assoc]
  ((repeat' (first | (refine Br.tt (by first | assumption | with_reducible rfl | with_reducible exact Bool.not_false) ?_; conv => whnf) | (refine Br.ff (by first | assumption | with_reducible rfl | with_reducible exact Bool.not_true) ?_; conv => whnf) | fail)); (refine Br.mk (fun hneg => ?_) (fun hneg => ?_) <;> ((conv => whnf); (repeat' (first | (refine Br.tt (by first | assumption | with_reducible rfl | with_reducible exact Bool.not_false) ?_; conv => whnf) | (refine Br.ff (by first | assumption | with_reducible rfl | with_reducible exact Bool.not_true) ?_; conv => whnf) | fail)))))
  all_goals first
    | (have hv : v < 0 := by simpa using hneg
       have hn : IntKind.u64.wrap (0 - IntKind.u64.wrap v) = (v.natAbs : Int) := by rw [hu, if_pos hv]; rw [show ∀ x, IntKind.u64.wrap x = x % 18446744073709551616 from fun _ => rfl]; omega
       have hi : Lib.itoa v = [45] ++ Lib.decDigits v.natAbs := by unfold Lib.itoa; rw [if_pos hv]; rfl
       obtain ⟨sg, hsg, hsl⟩ : ∃ sg : List UInt8, sg = [45] ∧ sg.length ≤ 1 := ⟨_, rfl, by decide⟩)
    | (have hv : ¬ v < 0 := by simpa using hneg
       have hn : IntKind.u64.wrap v = (v.natAbs : Int) := by rw [hu, if_neg hv]; omega
       have hi : Lib.itoa v = [] ++ Lib.decDigits v.natAbs := by unfold Lib.itoa; rw [if_neg hv, List.nil_append]; congr 1; omega
       obtain ⟨sg, hsg, hsl⟩ : ∃ sg : List UInt8, sg = [] ∧ sg.length ≤ 1 := ⟨_, rfl, by decide⟩)
  all_goals (
    rw [← hsg] at hi
    refine loop_by2 (fun (n : Nat) (t : List UInt8) => n ≤ 9223372036854775808 ∧ Lib.decDigits v.natAbs = Lib.decDigits n ++ t) (fun n t => mkT [(3, .d (.int .u64 n)), (4, .d (.str t)), (5, .d (.str sg))]) (fun _ _ => mkT []) (fun n _ => n) v.natAbs []
      ⟨hN, by simp⟩ (Weak.of [] rfl rfl ⟨⟨_, rfl, by simp only [Pre, hn]⟩, ⟨_, rfl, rfl⟩, ⟨_, rfl, by rw [hsg]; rfl⟩, trivial⟩ trivial) ?_
    intro n t ⟨hn2, ht⟩
    have htl : t.length ≤ 21 := by have := congrArg List.length ht; rw [List.length_append] at this; omega
    ((conv => whnf); (repeat' (first | (refine Br.tt (by first | assumption | with_reducible rfl | with_reducible exact Bool.not_false) ?_; conv => whnf) | (refine Br.ff (by first | assumption | with_reducible rfl | with_reducible exact Bool.not_true) ?_; conv => whnf) | fail)))
    ((repeat' (first | (refine Br.tt (by first | assumption | with_reducible rfl | with_reducible exact Bool.not_false) ?_; conv => whnf) | (refine Br.ff (by first | assumption | with_reducible rfl | with_reducible exact Bool.not_true) ?_; conv => whnf) | fail)); (refine Br.mk (fun h => ?_) (fun h => ?_) <;> ((conv => whnf); (repeat' (first | (refine Br.tt (by first | assumption | with_reducible rfl | with_reducible exact Bool.not_false) ?_; conv => whnf) | (refine Br.ff (by first | assumption | with_reducible rfl | with_reducible exact Bool.not_true) ?_; conv => whnf) | fail)))))
    · have hbig : ¬ n < 10 := by simp at h; omega
      refine Need.of (by omega) ?_
      ((conv => whnf); (repeat' (first | (refine Br.tt (by first | assumption | with_reducible rfl | with_reducible exact Bool.not_false) ?_; conv => whnf) | (refine Br.ff (by first | assumption | with_reducible rfl | with_reducible exact Bool.not_true) ?_; conv => whnf) | fail)))
      refine Need.of (by intro y hy; simp at hy; subst hy; rfl) ?_
      ((conv => whnf); (repeat' (first | (refine Br.tt (by first | assumption | with_reducible rfl | with_reducible exact Bool.not_false) ?_; conv => whnf) | (refine Br.ff (by first | assumption | with_reducible rfl | with_reducible exact Bool.not_true) ?_; conv => whnf) | fail)))
      refine Need.of ⟨trivial, by intro y hy; simp at hy; subst hy; exact ⟨_, rfl⟩⟩ ?_
      ((conv => whnf); (repeat' (first | (refine Br.tt (by first | assumption | with_reducible rfl | with_reducible exact Bool.not_false) ?_; conv => whnf) | (refine Br.ff (by first | assumption | with_reducible rfl | with_reducible exact Bool.not_true) ?_; conv => whnf) | fail)))
      refine Need.of (by simp; omega) ?_
      ((conv => whnf); (repeat' (first | (refine Br.tt (by first | assumption | with_reducible rfl | with_reducible exact Bool.not_false) ?_; conv => whnf) | (refine Br.ff (by first | assumption | with_reducible rfl | with_reducible exact Bool.not_true) ?_; conv => whnf) | fail)))
      refine Need.of (by omega) ?_
      ((conv => whnf); (repeat' (first | (refine Br.tt (by first | assumption | with_reducible rfl | with_reducible exact Bool.not_false) ?_; conv => whnf) | (refine Br.ff (by first | assumption | with_reducible rfl | with_reducible exact Bool.not_true) ?_; conv => whnf) | fail)))
      have hr : ∀ x, IntKind.u64.wrap x = x % 18446744073709551616 := fun _ => rfl
      have htm : ((n : Int)).tmod 10 = ((n % 10 : Nat) : Int) := by rw [Int.tmod_eq_emod_of_nonneg (by omega)]; omega
      have htd : ((n : Int)).tdiv 10 = ((n / 10 : Nat) : Int) := by rw [Int.tdiv_eq_ediv_of_nonneg (by omega)]; omega
      refine ⟨n / 10, UInt8.ofNat (48 + n % 10) :: t, ⟨⟨by omega, ?_⟩, by omega⟩, Weak.of [] rfl rfl ⟨⟨_, rfl, ?_⟩, ⟨_, rfl, ?_⟩, ⟨_, rfl, rfl⟩, trivial⟩ trivial⟩
      · rw [ht, decDigits_big hbig]; simp
      · simp only [Pre, htd]; rw [hr]; congr 3; omega
      · simp only [Pre, htm, List.map_cons, List.map_nil, Aw.byteOf]
        rw [wrap_u8 (by rw [hr]; omega) (by rw [hr]; omega), hr, show (((48 + ((n % 10 : Nat) : Int)) % 18446744073709551616).toNat) = 48 + n % 10 from by omega]
        rfl
    · have hle : n ≤ 9 := by simp at h; omega
      refine Need.of (by intro y hy; simp at hy; subst hy; rfl) ?_
      ((conv => whnf); (repeat' (first | (refine Br.tt (by first | assumption | with_reducible rfl | with_reducible exact Bool.not_false) ?_; conv => whnf) | (refine Br.ff (by first | assumption | with_reducible rfl | with_reducible exact Bool.not_true) ?_; conv => whnf) | fail)))
      refine Need.of ⟨trivial, by intro y hy; simp at hy; subst hy; exact ⟨_, rfl⟩⟩ ?_
      ((conv => whnf); (repeat' (first | (refine Br.tt (by first | assumption | with_reducible rfl | with_reducible exact Bool.not_false) ?_; conv => whnf) | (refine Br.ff (by first | assumption | with_reducible rfl | with_reducible exact Bool.not_true) ?_; conv => whnf) | fail)))
      refine Need.of (by simp; omega) ?_
      ((conv => whnf); (repeat' (first | (refine Br.tt (by first | assumption | with_reducible rfl | with_reducible exact Bool.not_false) ?_; conv => whnf) | (refine Br.ff (by first | assumption | with_reducible rfl | with_reducible exact Bool.not_true) ?_; conv => whnf) | fail)))
      refine Need.of (by simp; omega) ?_
      ((conv => whnf); (repeat' (first | (refine Br.tt (by first | assumption | with_reducible rfl | with_reducible exact Bool.not_false) ?_; conv => whnf) | (refine Br.ff (by first | assumption | with_reducible rfl | with_reducible exact Bool.not_true) ?_; conv => whnf) | fail)))
      rw [← fin sg n t hi ht hle]
      exact ⟨rfl, by trivial⟩)
end Go.Proofs.L24

namespace Go.Proofs.L24
open Go Aw Go.Proofs
variable {W0 : World}
theorem itoa_bytes (v : Int) : ∀ x ∈ Lib.itoa v, x.toNat = 45 ∨ (48 ≤ x.toNat ∧ x.toNat ≤ 57) := by
  have hd : ∀ u, ∀ x ∈ Lib.decDigits u, 48 ≤ x.toNat ∧ x.toNat ≤ 57 := by
    intro u
    induction u using Nat.strongRecOn with
    | _ u ih =>
      intro x hx
      by_cases h : u < 10
      · rw [Lib.decDigits_one h] at hx
        simp only [List.mem_singleton] at hx
        rw [hx, ofNat_digit h]; omega
      · rw [decDigits_big h] at hx
        rcases List.mem_append.1 hx with hx | hx
        · exact ih _ (by omega) x hx
        · simp only [List.mem_singleton] at hx
          rw [hx, ofNat_digit (Nat.mod_lt _ (by omega))]; omega
  intro x hx
  unfold Lib.itoa at hx
  split at hx
  · rcases List.mem_cons.1 hx with rfl | hx
    · exact .inl rfl
    · exact .inr (hd _ x hx)
  · exact .inr (hd _ x hx)
theorem decDigits_ne (u : Nat) : Lib.decDigits u ≠ [] := by
  by_cases h : u < 10
  · rw [Lib.decDigits_one h]; simp
  · rw [decDigits_big h]; simp
theorem itoa_ne (v : Int) : Lib.itoa v ≠ [] := by
  unfold Lib.itoa
  split
  · simp
  · exact decDigits_ne _
/-- A word behind a blank. -/
theorem nextW_one {w r : List UInt8} (hw : w ≠ []) (hb : ∀ x ∈ w, isBlank x = false) (hr : r = [] ∨ ∃ b t, r = b :: t ∧ isBlank b = true) : nextW (32 :: (w ++ r)) = (w, r) := by
  rw [nextW_blank (by decide)]
  cases w with
  | nil => exact absurd rfl hw
  | cons x t =>
    have hx : ¬ isBlank x = true := by rw [hb x (List.mem_cons_self ..)]; simp
    rw [List.cons_append, nextW_word hx]
    have hix : (t ++ r).findIdx isBlank = t.length := by
      rw [List.findIdx_append]
      have h1 : t.findIdx isBlank = t.length := by
        rw [List.findIdx_eq_length]
        intro y hy
        simpa using hb y (List.mem_cons_of_mem _ hy)
      rw [h1, if_neg (by omega)]
      rcases hr with rfl | ⟨b, u, rfl, hbb⟩
      · simp
      · rw [List.findIdx_cons, hbb]; simp
    rw [hix]
    simp
def flat32 (l : List Int) : List UInt8 := l.flatMap fun v => 32 :: Lib.itoa v
def lineOf (l : List Int) : List UInt8 := [97, 116, 32, 120] ++ flat32 l
def In64 (l : List Int) : Prop := ∀ v ∈ l, -9223372036854775808 ≤ v ∧ v ≤ 9223372036854775807
theorem flat_head (l : List Int) (t : List UInt8) (ht : t = [] ∨ ∃ b u, t = b :: u ∧ isBlank b = true) : flat32 l ++ t = [] ∨ ∃ b u, flat32 l ++ t = b :: u ∧ isBlank b = true := by
  cases l with
  | nil => exact ht
  | cons v l => exact .inr ⟨32, Lib.itoa v ++ flat32 l ++ t, by simp [flat32], by decide⟩
theorem itoa_noblank (v : Int) : ∀ x ∈ Lib.itoa v, isBlank x = false := by
  intro x hx
  rw [Bool.eq_false_iff, Ne, toNat_blank]
  have := itoa_bytes v x hx
  omega
theorem many_numbers : ∀ (l : List Int) (f : Nat) (c : Cmd) (t : List UInt8), In64 l → l.length ≤ f → (t = [] ∨ ∃ b u, t = b :: u ∧ isBlank b = true) →
    manyGo 107 f c (flat32 l ++ t) = manyGo 107 (f - l.length) { c with values := c.values ++ l } t := by
  intro l
  induction l with
  | nil => intro f c t _ _ _; simp [flat32]
  | cons v l ih =>
    intro f c t hl hf ht
    obtain ⟨f', rfl⟩ : ∃ f', f = f' + 1 := ⟨f - 1, by simp at hf; omega⟩
    have e : flat32 (v :: l) ++ t = 32 :: (Lib.itoa v ++ (flat32 l ++ t)) := by simp [flat32]
    have hn := nextW_one (itoa_ne v) (itoa_noblank v) (flat_head l t ht)
    obtain ⟨r1, r2⟩ := hl v (List.mem_cons_self ..)
    have hnum := number_some (numOf_itoa r1 r2)
    have htk : takeCmd c 107 (Lib.itoa v) = ({ c with values := c.values ++ [v] }, true) := by
      unfold takeCmd
      rw [if_neg (by decide), if_pos rfl, hnum]
    rw [e, manyGo_go (by rw [hn]; exact itoa_ne v) (by rw [hn, htk])]
    rw [hn, htk, ih f' _ t (fun x hx => hl x (List.mem_cons_of_mem _ hx)) (by simp at hf; omega) ht]
    simp
theorem line_no10 (l : List Int) (t : List UInt8) (ht : 10 ∉ t) : 10 ∉ lineOf l ++ t := by
  unfold lineOf flat32
  simp only [List.mem_append, List.mem_flatMap, not_or, not_exists, not_and]
  refine ⟨⟨by decide, fun v _ h => ?_⟩, ht⟩
  rcases List.mem_cons.1 h with h | h
  · exact absurd h (by decide)
  · have := itoa_bytes v 10 h
    simp at this
theorem numbers_start (l : List Int) (t : List UInt8) (hl : In64 l) (ht : t = [] ∨ ∃ b u, t = b :: u ∧ isBlank b = true) (h10 : 10 ∉ t) :
    progParse (lineOf l ++ t) = if (nextW (manyGo 107 ((flat32 l ++ t).length - l.length) ⟨[97, 116], [[120]], [], l, [], [], [], 1⟩ t).2).1 = [] then
      ((manyGo 107 ((flat32 l ++ t).length - l.length) ⟨[97, 116], [[120]], [], l, [], [], [], 1⟩ t).1, 0) else (cmd0 [], 240) := by
  have hfl : l.length ≤ (flat32 l ++ t).length := by
    have : ∀ l : List Int, l.length ≤ (flat32 l).length := by
      intro l
      induction l with
      | nil => simp
      | cons v l ih => simp only [flat32, List.flatMap_cons, List.length_append, List.length_cons] at ih ⊢; omega
    have := this l
    rw [List.length_append]; omega
  have n1 : nextW (lineOf l ++ t) = ([97, 116], 32 :: ([120] ++ (flat32 l ++ t))) := by
    have : lineOf l ++ t = 97 :: 116 :: 32 :: 120 :: (flat32 l ++ t) := by simp [lineOf]
    rw [this, nextW_word (by decide)]
    have hix : (116 :: 32 :: 120 :: (flat32 l ++ t)).findIdx isBlank = 1 := by
      rw [List.findIdx_cons, show isBlank 116 = false from by decide, List.findIdx_cons, show isBlank 32 = true from by decide]; rfl
    rw [hix]; rfl
  have n2 : nextW (32 :: ([120] ++ (flat32 l ++ t))) = ([120], flat32 l ++ t) := nextW_one (by simp) (by decide) (flat_head l t ht)
  have hpf : progForm [97, 116] = ([110, 107, 42], true) := by rfl
  unfold progParse
  rw [if_neg (line_no10 l t h10), n1]
  simp only
  rw [if_neg (by simp), hpf]
  have htk : takeCmd (cmd0 [97, 116]) 110 [120] = (⟨[97, 116], [[120]], [], [], [], [], [], 1⟩, true) := by rfl
  have hr : readGo ([110, 107, 42] : List UInt8).length [110, 107, 42] (cmd0 [97, 116]) (32 :: ([120] ++ (flat32 l ++ t))) = ((manyGo 107 (flat32 l ++ t).length ⟨[97, 116], [[120]], [], [], [], [], [], 1⟩ (flat32 l ++ t)).1,
      decide ((nextW (manyGo 107 (flat32 l ++ t).length ⟨[97, 116], [[120]], [], [], [], [], [], 1⟩ (flat32 l ++ t)).2).1 = [])) := by
    show readGo 3 _ _ _ = _
    rw [readGo, if_neg (by decide), if_neg (by decide), n2, if_neg (by simp)]
    rw [show (((110 : UInt8).toNat : Nat) : Int) = 110 from rfl, htk, if_pos rfl, readGo, if_neg (by decide), if_pos (by decide)]
    rfl
  simp only
  rw [hr, many_numbers l _ _ t hl hfl ht]
  simp only [List.nil_append, decide_eq_true_eq, true_and]
theorem numbers_law (l : List Int) (hl : In64 l) : refParse (lineOf l) = (⟨[97, 116], [[120]], [], l, [], [], [], 1⟩, 0) := by
  have h := numbers_start l [] hl (.inl rfl) (by simp)
  rw [List.append_nil] at h
  rw [← parse_law, h, manyGo_stop rfl]
  exact if_pos rfl
def bads : List (List UInt8) := [[32, 48, 48], [32, 45, 48], [32, 43, 49], [32, 57, 50, 50, 51, 51, 55, 50, 48, 51, 54, 56, 53, 52, 55, 55, 53, 56, 48, 56], [32, 45, 57, 50, 50, 51, 51, 55, 50, 48, 51, 54, 56, 53, 52, 55, 55, 53, 56, 48, 57], [32, 49, 120], [32, 45], [32, 48, 120, 49]]
theorem bads_are : ∀ b ∈ bads, ∃ w, b = 32 :: w ∧ w ≠ [] ∧ (∀ x ∈ w, isBlank x = false) ∧ numOf w = none ∧ 10 ∉ b := by
  intro b hb
  simp only [bads, List.mem_cons, List.mem_nil_iff, or_false] at hb
  rcases hb with rfl | rfl | rfl | rfl | rfl | rfl | rfl | rfl
  all_goals exact ⟨_, rfl, by simp, by decide, by rfl, by decide⟩
theorem bads_law (l : List Int) (hl : In64 l) : ∀ b ∈ bads, refParse (lineOf l ++ b) = (cmd0 [], 240) := by
  intro b hb
  obtain ⟨w, rfl, hw, hnb, hnum, h10⟩ := bads_are b hb
  have h := numbers_start l (32 :: w) hl (.inr ⟨32, w, rfl, by decide⟩) h10
  have hn : nextW (32 :: w) = (w, []) := by
    have := nextW_one (r := []) hw hnb (.inl rfl)
    rwa [List.append_nil] at this
  have hf : ∀ c : Cmd, (takeCmd c 107 (nextW (32 :: w)).1).2 = false := by
    intro c
    rw [hn]
    unfold takeCmd
    rw [if_neg (by decide), if_pos rfl]
    simp only
    cases hp : (progNumber w).2 with
    | false => rfl
    | true => rw [number_true hp] at hnum; cases hnum
  rw [← parse_law, h]
  generalize (flat32 l ++ 32 :: w).length - l.length = f
  cases f with
  | zero => rw [show ∀ c s, manyGo 107 0 c s = (c, s) from fun _ _ => rfl, hn, if_neg hw]
  | succ f =>
    rw [manyGo_bad (by rw [hn]; exact hw) (hf _), hn, if_neg hw]
end Go.Proofs.L24

namespace Go.Proofs.L24
open Go Aw Go.Proofs
variable {W0 : World}
theorem itoa_len {v : Int} (h0 : -9223372036854775808 ≤ v) (h1 : v ≤ 9223372036854775807) : (Lib.itoa v).length ≤ 21 := Lib.itoa_length_le v h0 h1
theorem lineOf_snoc (l : List Int) (v : Int) : lineOf (l ++ [v]) = lineOf l ++ ([32] ++ Lib.itoa v) := by simp [lineOf, flat32]
theorem lineOf_len {l : List Int} (hl : In64 l) : (lineOf l).length ≤ 4 + 22 * l.length := by
  unfold lineOf
  have : (flat32 l).length ≤ 22 * l.length := by
    induction l with
    | nil => simp [flat32]
    | cons v l ih =>
      have h1 := ih (fun x hx => hl x (List.mem_cons_of_mem _ hx))
      have h2 := hl v (List.mem_cons_self ..)
      have h3 := itoa_len h2.1 h2.2
      simp only [flat32, List.flatMap_cons, List.length_append, List.length_cons] at h1 ⊢
      omega
  rw [List.length_append]
  have h4 : ([97, 116, 32, 120] : List UInt8).length = 4 := rfl
  omega
set_option linter.unusedSimpArgs false in
set_option maxRecDepth 100000 in
set_option maxHeartbeats 4000000 in
theorem lineNumbers_ok (hW : NumW W0) (xs : List Int) (hx : In64 xs) (hl : xs.length < 100000000) : CallsA Tryd.prog W0 4 [] [.d (.sl (xs.map (DV.int .i64)))] fun rs os => rs = [.d (.bool true)] ∧ os = [] := by
  refine calls_of_awpC tok [.tmp 2] Tryd.func4 rfl rfl rfl rfl rfl ?_
  ((conv => whnf); (repeat' (first | (refine Br.tt (by first | assumption | with_reducible rfl | with_reducible exact Bool.not_false) ?_; conv => whnf) | (refine Br.ff (by first | assumption | with_reducible rfl | with_reducible exact Bool.not_true) ?_; conv => whnf) | fail)))
  refine CallsA.then (fixed_ok hW) ?_
  ((conv => whnf); (repeat' (first | (refine Br.tt (by first | assumption | with_reducible rfl | with_reducible exact Bool.not_false) ?_; conv => whnf) | (refine Br.ff (by first | assumption | with_reducible rfl | with_reducible exact Bool.not_true) ?_; conv => whnf) | fail)))
  obtain ⟨L, hL⟩ : ∃ L, L = xs.take 100 := ⟨_, rfl⟩
  have hLx : In64 L := by rw [hL]; exact fun v hv => hx v (List.mem_of_mem_take hv)
  have hLl : L.length ≤ 100 := by rw [hL, List.length_take]; omega
  have hLen := lineOf_len hLx
  have p1 := parse_ok' hW (lineOf L) (by omega)
  rw [numbers_law L hLx] at p1
  simp only [Cmd.dv, List.map_cons, List.map_nil] at p1
  have tv := values_ok (W0 := W0) L L (by omega) (by omega)
  rw [decide_eq_true rfl] at tv
  have hmin : Int.toNat (if (100 : Int) < ((xs.map (DV.int .i64)).length : Int) then 100 else ((xs.map (DV.int .i64)).length : Int)) = min 100 xs.length := by
    rw [List.length_map]; split <;> omega
  have hsl : (xs.map (DV.int .i64)).take (Int.toNat (if (100 : Int) < ((xs.map (DV.int .i64)).length : Int) then 100 else ((xs.map (DV.int .i64)).length : Int))) = L.map (DV.int .i64) := by
    rw [hmin, hL, ← List.map_take]
    congr 1
    rcases Nat.lt_or_ge 100 xs.length with q | q
    · rw [Nat.min_eq_left (by omega)]
    · rw [Nat.min_eq_right q, List.take_length, List.take_of_length_le q]
  refine loop_by1 (fun (i : Nat) => i ≤ xs.length ∧ i ≤ 100) (fun i => mkT [(0, .d (.sl (xs.map (DV.int .i64)))), (3, .d (.str (lineOf (xs.take i)))), (14, .d (.sl (xs.map (DV.int .i64)))), (15, .d (.int .i64 xs.length)), (16, .d (.int .i64 i))]) (fun _ => mkT [])
    (fun i => xs.length - i) 0 ⟨by omega, by omega⟩ (Weak.of [] rfl rfl ⟨⟨_, rfl, rfl⟩, ⟨_, rfl, rfl⟩, ⟨_, rfl, rfl⟩, ⟨_, rfl, by simp [Pre]⟩, ⟨_, rfl, rfl⟩, trivial⟩ trivial) ?_
  intro i ⟨hi, hi2⟩
  ((conv => whnf); (repeat' (first | (refine Br.tt (by first | assumption | with_reducible rfl | with_reducible exact Bool.not_false) ?_; conv => whnf) | (refine Br.ff (by first | assumption | with_reducible rfl | with_reducible exact Bool.not_true) ?_; conv => whnf) | fail)))
  by_cases hcont : i < xs.length ∧ i < 100
  · obtain ⟨hlt, hlt2⟩ := hcont
    have f1 : decide ((i : Int) < (xs.length : Int)) = true := decide_eq_true (by omega)
    have f2 : decide ((i : Int) ≥ 100) = false := decide_eq_false (by omega)
    have hv := hx xs[i] (List.getElem_mem hlt)
    have hvl := itoa_len hv.1 hv.2
    have htx : In64 (xs.take i) := fun v hv => hx v (List.mem_of_mem_take hv)
    have htl := lineOf_len htx
    rw [List.length_take] at htl
    repeat' (first | (refine Br.tt (by first | assumption | with_reducible rfl | with_reducible exact Bool.not_false) ?_; conv => whnf) | (refine Br.ff (by first | assumption | with_reducible rfl | with_reducible exact Bool.not_true) ?_; conv => whnf) | fail)
    refine Idx.of (.int .i64 xs[i]) (by omega) (by simp [hlt]) rfl ?_
    ((conv => whnf); (repeat' (first | (refine Br.tt (by first | assumption | with_reducible rfl | with_reducible exact Bool.not_false) ?_; conv => whnf) | (refine Br.ff (by first | assumption | with_reducible rfl | with_reducible exact Bool.not_true) ?_; conv => whnf) | fail)))
    refine CallsA.then (written_ok _ hv.1 hv.2) ?_
    ((conv => whnf); (repeat' (first | (refine Br.tt (by first | assumption | with_reducible rfl | with_reducible exact Bool.not_false) ?_; conv => whnf) | (refine Br.ff (by first | assumption | with_reducible rfl | with_reducible exact Bool.not_true) ?_; conv => whnf) | fail)))
    refine Need.of (by simp; omega) ?_
    ((conv => whnf); (repeat' (first | (refine Br.tt (by first | assumption | with_reducible rfl | with_reducible exact Bool.not_false) ?_; conv => whnf) | (refine Br.ff (by first | assumption | with_reducible rfl | with_reducible exact Bool.not_true) ?_; conv => whnf) | fail)))
    refine Need.of (by simp; omega) ?_
    ((conv => whnf); (repeat' (first | (refine Br.tt (by first | assumption | with_reducible rfl | with_reducible exact Bool.not_false) ?_; conv => whnf) | (refine Br.ff (by first | assumption | with_reducible rfl | with_reducible exact Bool.not_true) ?_; conv => whnf) | fail)))
    refine ⟨i + 1, ⟨⟨by omega, by omega⟩, by omega⟩, Weak.of [] rfl rfl ⟨⟨_, rfl, rfl⟩, ⟨_, rfl, ?_⟩, ⟨_, rfl, rfl⟩, ⟨_, rfl, rfl⟩, ⟨_, rfl, by simp only [Pre]; rw [wrap_i64 (by omega) (by omega)]; rfl⟩, trivial⟩ trivial⟩
    simp only [Pre]
    rw [List.take_succ_eq_append_getElem hlt, lineOf_snoc]
  have hLi : xs.take i = L := by
    rw [hL]
    rcases Nat.lt_or_ge i xs.length with q | q
    · rw [show i = 100 from by omega]
    · rw [List.take_of_length_le q, List.take_of_length_le (by omega)]
  rw [hLi]
  rcases Decidable.em (i < xs.length) with hlt | hlt
  all_goals first
    | (have f1 : decide ((i : Int) < (xs.length : Int)) = true := decide_eq_true (by omega)
       have f2 : decide ((i : Int) ≥ 100) = true := decide_eq_true (by omega)
       repeat' (first | (refine Br.tt (by first | assumption | with_reducible rfl | with_reducible exact Bool.not_false) ?_; conv => whnf) | (refine Br.ff (by first | assumption | with_reducible rfl | with_reducible exact Bool.not_true) ?_; conv => whnf) | fail)
       refine Idx.of (.int .i64 xs[i]) (by omega) (by simp [hlt]) rfl ?_
       ((conv => whnf); (repeat' (first | (refine Br.tt (by first | assumption | with_reducible rfl | with_reducible exact Bool.not_false) ?_; conv => whnf) | (refine Br.ff (by first | assumption | with_reducible rfl | with_reducible exact Bool.not_true) ?_; conv => whnf) | fail))))
    | (have f1 : decide ((i : Int) < (xs.length : Int)) = false := decide_eq_false (by omega)
       repeat' (first | (refine Br.tt (by first | assumption | with_reducible rfl | with_reducible exact Bool.not_false) ?_; conv => whnf) | (refine Br.ff (by first | assumption | with_reducible rfl | with_reducible exact Bool.not_true) ?_; conv => whnf) | fail))
  all_goals (
    refine CallsA.then p1 ?_
    ((conv => whnf); (repeat' (first | (refine Br.tt (by first | assumption | with_reducible rfl | with_reducible exact Bool.not_false) ?_; conv => whnf) | (refine Br.ff (by first | assumption | with_reducible rfl | with_reducible exact Bool.not_true) ?_; conv => whnf) | fail)))
    refine ⟨by kernel_rfl, ?_⟩
    ((conv => whnf); (repeat' (first | (refine Br.tt (by first | assumption | with_reducible rfl | with_reducible exact Bool.not_false) ?_; conv => whnf) | (refine Br.ff (by first | assumption | with_reducible rfl | with_reducible exact Bool.not_true) ?_; conv => whnf) | fail)))
    repeat' (first | (refine Br.tt rfl ?_; conv => whnf) | (refine Br.ff rfl ?_; conv => whnf) | fail)
    refine Need.of (by constructor <;> split <;> omega) ?_
    ((conv => whnf); (repeat' (first | (refine Br.tt (by first | assumption | with_reducible rfl | with_reducible exact Bool.not_false) ?_; conv => whnf) | (refine Br.ff (by first | assumption | with_reducible rfl | with_reducible exact Bool.not_true) ?_; conv => whnf) | fail)))
    repeat' (first | (refine Br.tt rfl ?_; conv => whnf) | (refine Br.ff rfl ?_; conv => whnf) | fail)
    rw [hsl]
    refine CallD.of tv ?_
    ((conv => whnf); (repeat' (first | (refine Br.tt (by first | assumption | with_reducible rfl | with_reducible exact Bool.not_false) ?_; conv => whnf) | (refine Br.ff (by first | assumption | with_reducible rfl | with_reducible exact Bool.not_true) ?_; conv => whnf) | fail)))
    repeat' (first | (refine Br.tt rfl ?_; conv => whnf) | (refine Br.ff rfl ?_; conv => whnf) | fail)
    refine Need.of (by simp [DV.width, DV.cells]) ?_
    ((conv => whnf); (repeat' (first | (refine Br.tt (by first | assumption | with_reducible rfl | with_reducible exact Bool.not_false) ?_; conv => whnf) | (refine Br.ff (by first | assumption | with_reducible rfl | with_reducible exact Bool.not_true) ?_; conv => whnf) | fail)))
    refine loop_by1 (fun (j : Nat) => j ≤ 8) (fun j => mkT [(3, .d (.str (lineOf L))), (52, .lst 52), (53, .d (.int .i64 8)), (54, .d (.int .i64 j))]) (fun _ => mkT [(52, .list 1 (bads.map DV.str) true)]) (fun j => 8 - j) 0 (by omega)
      (Weak.of [] rfl rfl ⟨⟨_, rfl, rfl⟩, ⟨_, rfl, rfl⟩, ⟨_, rfl, rfl⟩, ⟨_, rfl, rfl⟩, trivial⟩ ⟨rfl, trivial⟩) ?_
    intro j hj8
    ((conv => whnf); (repeat' (first | (refine Br.tt (by first | assumption | with_reducible rfl | with_reducible exact Bool.not_false) ?_; conv => whnf) | (refine Br.ff (by first | assumption | with_reducible rfl | with_reducible exact Bool.not_true) ?_; conv => whnf) | fail)))
    ((repeat' (first | (refine Br.tt (by first | assumption | with_reducible rfl | with_reducible exact Bool.not_false) ?_; conv => whnf) | (refine Br.ff (by first | assumption | with_reducible rfl | with_reducible exact Bool.not_true) ?_; conv => whnf) | fail)); (refine Br.mk (fun h => ?_) (fun h => ?_) <;> ((conv => whnf); (repeat' (first | (refine Br.tt (by first | assumption | with_reducible rfl | with_reducible exact Bool.not_false) ?_; conv => whnf) | (refine Br.ff (by first | assumption | with_reducible rfl | with_reducible exact Bool.not_true) ?_; conv => whnf) | fail)))))
    · have hb8 : bads.length = 8 := rfl
      have hlt8 : j < bads.length := by simp at h; omega
      have hbm := bads_law L hLx bads[j] (List.getElem_mem hlt8)
      have hbl : bads[j].length ≤ 30 := (by decide : ∀ b ∈ bads, b.length ≤ 30) _ (List.getElem_mem hlt8)
      have p3 := parse_ok' hW (lineOf L ++ bads[j]) (by rw [List.length_append]; omega)
      rw [hbm] at p3
      simp only [Cmd.dv, cmd0, List.map_nil] at p3
      refine Need.of ⟨by omega, by simpa using hlt8⟩ ?_
      ((conv => whnf); (repeat' (first | (refine Br.tt (by first | assumption | with_reducible rfl | with_reducible exact Bool.not_false) ?_; conv => whnf) | (refine Br.ff (by first | assumption | with_reducible rfl | with_reducible exact Bool.not_true) ?_; conv => whnf) | fail)))
      refine Get.of (DV.str bads[j]) (by simp [hlt8]) ?_
      ((conv => whnf); (repeat' (first | (refine Br.tt (by first | assumption | with_reducible rfl | with_reducible exact Bool.not_false) ?_; conv => whnf) | (refine Br.ff (by first | assumption | with_reducible rfl | with_reducible exact Bool.not_true) ?_; conv => whnf) | fail)))
      refine Need.of (by omega) ?_
      ((conv => whnf); (repeat' (first | (refine Br.tt (by first | assumption | with_reducible rfl | with_reducible exact Bool.not_false) ?_; conv => whnf) | (refine Br.ff (by first | assumption | with_reducible rfl | with_reducible exact Bool.not_true) ?_; conv => whnf) | fail)))
      refine CallsA.then p3 ?_
      ((conv => whnf); (repeat' (first | (refine Br.tt (by first | assumption | with_reducible rfl | with_reducible exact Bool.not_false) ?_; conv => whnf) | (refine Br.ff (by first | assumption | with_reducible rfl | with_reducible exact Bool.not_true) ?_; conv => whnf) | fail)))
      repeat' (first | (refine Br.tt rfl ?_; conv => whnf) | (refine Br.ff rfl ?_; conv => whnf) | fail)
      refine ⟨j + 1, ⟨by omega, by omega⟩, Weak.of [] rfl rfl ⟨⟨_, rfl, rfl⟩, ⟨_, rfl, rfl⟩, ⟨_, rfl, rfl⟩, ⟨_, rfl, by simp only [Pre]; rw [wrap_i64 (by omega) (by omega)]; rfl⟩, trivial⟩ ⟨rfl, trivial⟩⟩
    · exact ⟨rfl, by trivial⟩)
end Go.Proofs.L24

namespace Go.Proofs.L24
open Go Aw Go.Proofs Go.RowKit Go.Proofs.YtacknofdlkgkoaaDoor Go.ChangeShapes Go.WideShapes Go.ChangeAt Go.ChangeMaps
theorem laid_metN (os : Os) (args : Array Value) : laidMetH Tryd.prog Rows.lineNumbersUptoRow.laid ((World.laidAll Tryd.prog os Rows.lineNumbersUptoRow.laid).forCall (fun _ _ => 0) ⟨#[], args, []⟩).memory := by
  rw [MakeChecks.laidMetH_plain _ _ _ (by kernel_rfl)]; exact laidMet_laidAll _ (by kernel_rfl) (by kernel_rfl)
theorem lits_len {H : Type} (k : IntKind) (zs : List Int) : (lits (H := H) k zs).length = zs.length := by simp [lits]
theorem bulk_len {H : Type} (l : List (DataW H)) : l.length ≤ Rows.uptoBulkAll l := by
  induction l with
  | nil => simp [Rows.uptoBulkAll]
  | cons x r ih =>
    have : 1 ≤ Rows.uptoBulk x := by
      cases x with
      | lit l => cases l <;> simp [Rows.uptoBulk]
      | _ => simp [Rows.uptoBulk]
    simp only [Rows.uptoBulkAll, List.length_cons]; omega
theorem sl_bulk {H : Type} {es sp : List (DataW H)} (h : Rows.uptoSmall H [DataW.slice es sp] = true) : es.length ≤ 1048576 := by
  have h := of_decide_eq_true h
  simp only [Rows.uptoBulkAll, Rows.uptoBulk] at h
  have := bulk_len es
  omega
theorem flat_ints (k : IntKind) (xs : List Int) : flat (xs.map (DV.int k)) = xs.map (DV.int k) := by
  induction xs with
  | nil => rfl
  | cons x xs ih => rw [List.map_cons, flat_cons, ih]; rfl
theorem okWide_spot {P : Program} {W : World} {base : Nat} {t e : TypeId} {a : Addr} {len cap : Nat} (ht : P.underlying t = some (.slice e)) (h : Value.okWide P W .any base t (.slice (some a) len cap)) : a.spot = none := by
  simp only [Value.okWide, ht, Cell.okWide, Cell.ok] at h
  exact h.2.2.2.1
theorem cells2 : Tryd.prog.cellsOf 2 = 1 := by kernel_rfl
theorem wf_in {n : Int} (h : (Lit.int .i64 n).wf = true) : -9223372036854775808 ≤ n ∧ n ≤ 9223372036854775807 := by
  simpa [Lit.wf, IntKind.min, IntKind.max, IntKind.signed, IntKind.bits] using h
set_option maxRecDepth 100000 in
/-- What the walk gives, for every list. -/
theorem numbers_contract (H : Type) (enc : TypeId × Value → H) (W : World) (base : Nat) (args : Array Value) (ds gs : List (DataW H)) (before : List MemPlace)
    (hval : ∀ (j : Nat) t v, Tryd.f4.params[j]? = some t → args[j]? = some v → Value.okWide Tryd.prog W .any base t v)
    (hW : DataW.Whole enc Tryd.prog Tryd.f4.params.toList Rows.lineNumbersSpec.vars false W args.toList ds gs before) (hL : laidMetH Tryd.prog Rows.lineNumbersUptoRow.laid W) (hk : Rows.uptoSmall H (ds ++ gs) = true) :
    Calls Tryd.prog 4 args W fun e W' => ∃ v, e = .returned v ∧ Rows.lineNumbersSpec.post enc Tryd.prog Tryd.f4 false true false false W args v W' := by
  have hW' := hW
  obtain ⟨p, q, hA0, hV, rfl, hfz, hnd⟩ := hW
  have hA : DataW.TrodAll enc Tryd.prog W 0 (fun _ => true) true Tryd.f4.params.toList args.toList ds p := hA0
  rw [Tryd.params4] at hA hval
  obtain ⟨v0, vs0, d0, ds0, p0, q0, hargs, rfl, rfl, h0, r0⟩ := trodAll_cons hA
  obtain ⟨rfl, rfl, rfl⟩ := trodAll_nil r0
  obtain rfl : args = #[v0] := Array.toList_inj.1 hargs
  obtain ⟨rfl, rfl⟩ := trodVars_none hV
  have hv0 := hval 0 23 v0 rfl rfl
  obtain ⟨a0, len, cap, rfl⟩ := okWide_slice Tryd.underlying23 hv0
  obtain ⟨fuel, hf⟩ := h0
  have key : ∀ (xs : List Int), In64 xs → xs.length ≤ 1048576 → DRel (fun b _ => b < W.heap.size) W (.sl (xs.map (DV.int .i64))) (.slice a0 len cap) → Calls Tryd.prog 4 #[.slice a0 len cap] W fun e w' => e = .returned (.bool true) ∧ Below W.heap.size W w' := by
    intro xs h1 h2 h3
    refine CallsA.law (xs := [.sl (xs.map (DV.int .i64))]) (vs0 := [.slice a0 len cap]) (lineNumbers_ok (numW_of_laid hL) xs h1 (by omega)) rfl ?_
    intro i x a hx ha
    match i with
    | 0 => cases hx; cases ha; exact h3
  rcases open_ints Tryd.underlying23 Tryd.underlying2 cells2 hf with ⟨hcs, hx⟩ | ⟨a, len', cap', zs, hcs, -, hle, hmax, hall, hx, hcell, hwf⟩
  · simp [Value.cells] at hcs
    obtain ⟨rfl, rfl, rfl⟩ := hcs
    simp only [Prod.mk.injEq] at hx
    obtain ⟨rfl, rfl⟩ := hx
    refine (key [] (fun _ h => by cases h) (by simp) .nilsl).mono fun e W' ⟨he, hg⟩ => ?_
    subst he
    exact ⟨_, rfl, _, _, _, [], [], [], hW', trodAll_mk1 (shut_bool Tryd.underlying4 _), trodAll_mk1 (shut_slice_nil Tryd.underlying23), rfl, hg.frame _, fun h => by cases h⟩
  · simp [Value.cells] at hcs
    obtain ⟨rfl, rfl, rfl⟩ := hcs
    simp only [Prod.mk.injEq] at hx
    obtain ⟨rfl, rfl⟩ := hx
    obtain ⟨b, off, spot⟩ := a
    have hsp := okWide_spot Tryd.underlying23 hv0
    simp only at hsp
    subst hsp
    simp only [if_true] at hall
    simp only [List.append_nil] at hW' hk
    have hb := sl_bulk hk
    rw [lits_len] at hb
    have hlen : (zs.take len).length = len := by rw [List.length_take]; omega
    have hcell' : ∀ i, i < zs.length → W.cell? ⟨b, off + i, none⟩ = some (.int .i64 (zs.getD i 0)) := fun i hi => by rw [← Go.WideShapes.add_plain]; exact hcell i hi
    have hblk : ∀ i, i < zs.length → b < W.heap.size := fun i hi => World.block_lt_of_cell? _ _ (hcell' i hi)
    have hget : ∀ (i : Nat) (c : DV), (flat ((zs.take len).map (DV.int .i64)))[i]? = some c → i < len ∧ c = .int .i64 (zs.getD i 0) := by
      intro i c hc
      rw [flat_ints, List.getElem?_map] at hc
      obtain ⟨x, hx, rfl⟩ := Option.map_eq_some_iff.1 hc
      have hi : i < len := by have := (List.getElem?_eq_some_iff.1 hx).1; omega
      rw [List.getElem?_take_of_lt hi] at hx
      exact ⟨hi, by rw [List.getD_eq_getElem?_getD, hx]; rfl⟩
    have hrel : DRel (fun b _ => b < W.heap.size) W (.sl ((zs.take len).map (DV.int .i64))) (.slice (some ⟨b, off, none⟩) len cap) := by
      have := DRel.sl (S := fun b _ => b < W.heap.size) (w := W) ((zs.take len).map (DV.int .i64)) b off cap 1 (fun i => .int .i64 (zs.getD i 0))
        (fun x hx => by obtain ⟨n, -, rfl⟩ := List.mem_map.1 hx; rfl) (by rw [List.length_map]; omega)
        (fun i c hc => hblk i (by have := (hget i c hc).1; omega)) (fun i c hc => hcell' i (by have := (hget i c hc).1; omega))
        (fun i c hc => by rw [(hget i c hc).2]; exact .int _ _) (fun c hc => by
          obtain ⟨i, hi⟩ := List.getElem?_of_mem hc
          rw [(hget i c hi).2]; rfl)
      rw [List.length_map, hlen] at this
      exact this
    refine (key (zs.take len) (fun v hv => wf_in (hwf v (List.mem_of_mem_take hv))) (by omega) hrel).mono fun e W' ⟨he, hg⟩ => ?_
    subst he
    have hshut : DataW.Trod enc Tryd.prog W' 0 (fun b => decide (b < W.heap.size)) true 23 (.slice (some ⟨b, off, none⟩) len cap) (.slice (lits .i64 (zs.take len)) (lits .i64 (zs.drop len))) (MemPlace.row ⟨b, off, none⟩ zs.length) := by
      rcases Nat.eq_zero_or_pos zs.length with hz | hz
      · have e0 : cap = 0 := by omega
        have hz0 : zs = [] := List.eq_nil_of_length_eq_zero hz
        refine ⟨2, shut_ints' 0 Tryd.underlying23 Tryd.underlying2 cells2 (Nat.zero_le _) hle hmax ?_ (fun i hi => by omega) hwf⟩
        rw [hz]; split <;> omega
      · refine ⟨2, shut_ints' 0 Tryd.underlying23 Tryd.underlying2 cells2 (Nat.zero_le _) hle hmax ?_ (fun i hi => ?_) hwf⟩
        · have := hblk 0 hz
          rw [if_pos (by simpa using this)]; exact hall
        · rw [hg.cell (hblk i hi)]; exact hcell' i hi
    exact ⟨_, rfl, _, _, _, [], _, [], hW', trodAll_mk1 (shut_bool Tryd.underlying4 _), trodAll_mk1 hshut, rfl, hg.frame _, fun h => by cases h⟩
theorem numbers_reads (os : Os) {H : Type} (enc : TypeId × Value → H) : ∃ places, DataW.whole enc Tryd.prog ((World.laidAll Tryd.prog os Rows.lineNumbersUptoRow.laid).forCall (fun _ _ => 0) ⟨#[], #[.slice none 0 0], []⟩).memory Tryd.f4.params.toList Rows.lineNumbersSpec.vars false #[Value.slice none 0 0].toList 8 = some ([.nil], [], places) :=
  ⟨[], by kernel_rfl⟩
set_option maxRecDepth 100000 in
theorem numbers_lifted (os : Os) (started : os.Started) (H : Type) (enc : TypeId × Value → H) (F : Stop.Interp) :
    ReturnsInHanded {} Tryd.checked os 4 .any ((Rows.OpenSpec.upto Rows.lineNumbersSpec).preRow enc Tryd.prog Tryd.f4 Rows.lineNumbersUptoRow.domain false Rows.lineNumbersUptoRow.laid) (((Rows.OpenSpec.upto Rows.lineNumbersSpec).at F).post enc Tryd.prog Tryd.f4 false true false false) := by
  obtain ⟨places, hx⟩ := numbers_reads os enc
  refine returnsInHanded_of_row (C := Tryd.checked) (s := Rows.OpenSpec.upto Rows.lineNumbersSpec) own started (by kernel_rfl) Tryd.func4
    ⟨World.laidAll Tryd.prog os Rows.lineNumbersUptoRow.laid, fun _ _ => 0, ⟨#[], #[.slice none 0 0], []⟩, World.laidAll_os _ _ _, World.shaped_of_ZipB (by kernel_rfl) (by kernel_rfl), rfl, (Input.okWide_of_okWideB (by kernel_rfl)).2,
      OpenSpec.preRow_of_cond 8 hx (by kernel_rfl) (fun k hk => by cases hk; kernel_rfl) (by kernel_rfl) (laid_metN os _), by
        simp only [Assume.holds]
        exact ⟨by simp, by simp, fun _ => Modest.zero, by simp, by simp⟩⟩ ?_
  intro W base args ds gs before hval hW _ hcond _ hL _ _
  exact numbers_contract H enc W base args ds gs before hval hW hL (hcond _ rfl)
theorem numbers_said : Rows.LineNumbersUptoSaid :=
  OpenClaim.holds_of_cond 4 Tryd.f4 rfl rfl rfl rfl rfl rfl rfl ⟨rfl, rfl, rfl, rfl, rfl⟩ rfl rfl rfl rfl rfl (by kernel_rfl) Tryd.func4 (by kernel_rfl)
    (of_decide_eq_true (by kernel_rfl)) (by unfold Func.isWrapper; first | (rw [if_pos (by decide +kernel)]; kernel_rfl) | (rw [if_neg (by decide +kernel)]; exact ⟨rfl, rfl⟩))
    (fun os started H enc _ F => by rw [OpenClaim.pre_eq_preRow]; exact numbers_lifted os started H enc F)
theorem numbers_plain (f : FuncId) (fn : Func) (hf : Tryd.pinned.checked.prog.funcNamed "tabard/tabardlaw24.LineNumbers" = some f) (hfn : Tryd.pinned.checked.prog.funcs[f]? = some fn) :
    true = Tryd.pinned.checked.prog.looks [] ∧ ∀ (j : Nat) t, fn.params[j]? = some t → Tryd.pinned.checked.prog.wantsStandIn t = false := by
  obtain rfl : f = 4 := Option.some.inj ((show Tryd.prog.funcNamed "tabard/tabardlaw24.LineNumbers" = some 4 by kernel_rfl).symm.trans hf) |>.symm
  obtain rfl : fn = Tryd.f4 := (Option.some.inj (Tryd.func4.symm.trans hfn)).symm
  refine ⟨by kernel_rfl, fun j t ht => ?_⟩
  rw [Tryd.params4] at ht
  obtain rfl : t = 23 := by simpa using Array.mem_of_getElem? ht
  exact (show Tryd.prog.wantsStandIn 23 = false by kernel_rfl)
theorem lineNumbers_holds : Rows.LineNumbersUptoCardSaid :=
  Claim7.holds_tied_plain_at .later [] _ _ _ _ numbers_said (fun _ h => by cases h) (by kernel_rfl) (fun _ h => by cases h) lineNumbersUpto_row_tie rfl ⟨rfl, rfl⟩ (by kernel_rfl) rfl numbers_plain (by kernel_rfl)
end Go.Proofs.L24
namespace Go.Proofs.YtacknofdlkgkoaaDoor
theorem lineNumbers_holds : Rows.LineNumbersUptoCardSaid := L24.lineNumbers_holds
end Go.Proofs.YtacknofdlkgkoaaDoor
