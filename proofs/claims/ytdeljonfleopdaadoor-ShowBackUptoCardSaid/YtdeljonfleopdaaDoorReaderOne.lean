/-
  Contracts of the reader of words and of its grammar, of any words, fewer than a bound.
-/
import Derived.Test.YtdeljonfleopdaaDoorShown
set_option linter.unusedSectionVars false
set_option linter.unusedSimpArgs false
set_option linter.unusedVariables false
namespace Go.Proofs.L08
open Go Aw Go.Proofs
variable {W0 : World}
/-- A word of a text. -/
structure Wd where
  kind : Int
  text : List UInt8
  num : Int
  b : Int
  c : Int
def Wd.dv (w : Wd) : DV := .agg [.int .i64 w.kind, .str w.text, .int .i64 w.num, .int .i64 w.b, .int .i64 w.c]
def zeroWd : Wd := ⟨0, [], 0, 0, 0⟩
/-- The reader: the words that are left; the end; the fault. -/
structure R where
  ws : List Wd
  eb : Int
  ec : Int
  why : Int
  fb : Int
  fc : Int
def R.cells (r : R) : List DV := [.sl (r.ws.map Wd.dv), .int .i64 r.eb, .int .i64 r.ec, .int .i64 r.why, .int .i64 r.fb, .int .i64 r.fc]
def R.ps (r : R) : List PV := [.d (.sl (r.ws.map Wd.dv)), .d (.int .i64 r.eb), .d (.int .i64 r.ec), .d (.int .i64 r.why), .d (.int .i64 r.fb), .d (.int .i64 r.fc)]
def R.bad (r : R) : Bool := r.why != 0
def R.sgnOf (r : R) : List UInt8 := match r.ws with
  | w :: _ => if w.kind = 2 then w.text else []
  | [] => []
def R.wrong (r : R) (e : Int) : R :=
  if r.why ≠ 0 then r else match r.ws with
    | w :: _ => ⟨r.ws, r.eb, r.ec, e, w.b, w.c⟩
    | [] => ⟨[], r.eb, r.ec, e, r.eb, r.ec⟩
def R.next (r : R) : R := ⟨r.ws.drop 1, r.eb, r.ec, r.why, r.fb, r.fc⟩
def takeL (r : R) : List (List UInt8) → List UInt8
  | [] => []
  | s :: l => if r.sgnOf = s then s else takeL r l
def takeR (r : R) : List (List UInt8) → R
  | [] => r
  | s :: l => if r.sgnOf = s then r.next else takeR r l
def R.take (r : R) (l : List (List UInt8)) : List UInt8 × R := if r.why ≠ 0 then ([], r) else (takeL r l, takeR r l)
def R.need (r : R) (s : List UInt8) : R := if (r.take [s]).1 = [] then (r.take [s]).2.wrong 71 else (r.take [s]).2
def R.word (r : R) (k : Int) : Wd × R :=
  if r.why ≠ 0 then (zeroWd, r.wrong 71) else match r.ws with
    | w :: _ => if w.kind = k then (w, r.next) else (zeroWd, r.wrong 71)
    | [] => (zeroWd, r.wrong 71)
set_option linter.unusedSimpArgs false in
set_option maxRecDepth 100000 in
set_option maxHeartbeats 4000000 in
theorem bad_ok (r : R) : CallsA Tryd.prog W0 15 [r.ps] [.ptr 0 0] fun rs os => rs = [.d (.bool r.bad)] ∧ os = [r.ps] := by
  unfold R.ps
  refine calls_of_awp1 tok [.tmp 2] Tryd.func15 rfl rfl rfl rfl rfl rfl ?_
  ((conv => whnf); (repeat' (first | (refine Br.tt (by first | assumption | with_reducible rfl | with_reducible exact Bool.not_false) ?_; conv => whnf) | (refine Br.ff (by first | assumption | with_reducible rfl | with_reducible exact Bool.not_true) ?_; conv => whnf) | fail)))
  exact ⟨rfl, rfl⟩
set_option linter.unusedSimpArgs false in
set_option maxRecDepth 100000 in
set_option maxHeartbeats 4000000 in
theorem sign_of_ok (r : R) (hl : r.ws.length < 1000000000000) : CallsA Tryd.prog W0 37 [r.ps] [.ptr 0 0] fun rs os => rs = [.d (.str r.sgnOf)] ∧ os = [r.ps] := by
  rcases r with ⟨ws, eb, ec, why, fb, fc⟩
  unfold R.ps R.sgnOf
  refine calls_of_awp1 tok [.tmp 2] Tryd.func37 rfl rfl rfl rfl rfl rfl ?_
  cases ws with
  | nil =>
    ((conv => whnf); (repeat' (first | (refine Br.tt (by first | assumption | with_reducible rfl | with_reducible exact Bool.not_false) ?_; conv => whnf) | (refine Br.ff (by first | assumption | with_reducible rfl | with_reducible exact Bool.not_true) ?_; conv => whnf) | (refine Br.tt rfl ?_; conv => whnf) | (refine Br.ff rfl ?_; conv => whnf) | fail)))
    exact ⟨rfl, rfl⟩
  | cons w l =>
    rcases w with ⟨k, t, n, b, c⟩
    have h1 : decide (((((⟨k, t, n, b, c⟩ : Wd) :: l).map Wd.dv).length : Int) > 0) = true := by simp
    ((conv => whnf); (repeat' (first | (refine Br.tt (by first | assumption | with_reducible rfl | with_reducible exact Bool.not_false) ?_; conv => whnf) | (refine Br.ff (by first | assumption | with_reducible rfl | with_reducible exact Bool.not_true) ?_; conv => whnf) | fail)))
    refine Idx.of _ (by decide) rfl rfl ?_
    ((conv => whnf); (repeat' (first | (refine Br.tt (by first | assumption | with_reducible rfl | with_reducible exact Bool.not_false) ?_; conv => whnf) | (refine Br.ff (by first | assumption | with_reducible rfl | with_reducible exact Bool.not_true) ?_; conv => whnf) | fail)))
    by_cases hk : k = 2
    · have e : (k == 2) = true := by simpa using hk
      ((conv => whnf); (repeat' (first | (refine Br.tt (by first | assumption | with_reducible rfl | with_reducible exact Bool.not_false) ?_; conv => whnf) | (refine Br.ff (by first | assumption | with_reducible rfl | with_reducible exact Bool.not_true) ?_; conv => whnf) | fail)))
      refine Idx.of _ (by decide) rfl rfl ?_
      ((conv => whnf); (repeat' (first | (refine Br.tt (by first | assumption | with_reducible rfl | with_reducible exact Bool.not_false) ?_; conv => whnf) | (refine Br.ff (by first | assumption | with_reducible rfl | with_reducible exact Bool.not_true) ?_; conv => whnf) | fail)))
      simp only [if_pos hk]
      (first | exact ⟨rfl, rfl⟩ | exact ⟨trivial, rfl⟩ | exact ⟨rfl, trivial⟩ | exact ⟨trivial, trivial⟩)
    · have e : (k == 2) = false := by simpa using hk
      ((conv => whnf); (repeat' (first | (refine Br.tt (by first | assumption | with_reducible rfl | with_reducible exact Bool.not_false) ?_; conv => whnf) | (refine Br.ff (by first | assumption | with_reducible rfl | with_reducible exact Bool.not_true) ?_; conv => whnf) | fail)))
      simp only [if_neg hk]
      (first | exact ⟨rfl, rfl⟩ | exact ⟨trivial, rfl⟩ | exact ⟨rfl, trivial⟩ | exact ⟨trivial, trivial⟩)
set_option linter.unusedSimpArgs false in
set_option maxRecDepth 100000 in
set_option maxHeartbeats 4000000 in
theorem wrong_ok (r : R) (e : Int) : CallsA Tryd.prog W0 27 [r.ps] [.ptr 0 0, .d (.int .i64 e)] fun rs os => rs = [] ∧ os = [(r.wrong e).ps] := by
  rcases r with ⟨ws, eb, ec, why, fb, fc⟩
  unfold R.ps R.wrong
  refine calls_of_awp1 tok [] Tryd.func27 rfl rfl rfl rfl rfl rfl ?_
  by_cases hy : why = 0
  · have h0 : (why != 0) = false := by simpa using hy
    cases ws with
    | nil =>
      ((conv => whnf); (repeat' (first | (refine Br.tt (by first | assumption | with_reducible rfl | with_reducible exact Bool.not_false) ?_; conv => whnf) | (refine Br.ff (by first | assumption | with_reducible rfl | with_reducible exact Bool.not_true) ?_; conv => whnf) | (refine Br.tt rfl ?_; conv => whnf) | (refine Br.ff rfl ?_; conv => whnf) | fail)))
      simp only [hy, ne_eq, not_true, if_false]
      (first | exact ⟨rfl, rfl⟩ | exact ⟨trivial, rfl⟩ | exact ⟨rfl, trivial⟩ | exact ⟨trivial, trivial⟩)
    | cons w l =>
      rcases w with ⟨k, t, n, b, c⟩
      have h1 : decide (((((⟨k, t, n, b, c⟩ : Wd) :: l).map Wd.dv).length : Int) > 0) = true := by simp
      ((conv => whnf); (repeat' (first | (refine Br.tt (by first | assumption | with_reducible rfl | with_reducible exact Bool.not_false) ?_; conv => whnf) | (refine Br.ff (by first | assumption | with_reducible rfl | with_reducible exact Bool.not_true) ?_; conv => whnf) | fail)))
      refine Idx.of _ (by decide) rfl rfl ?_
      ((conv => whnf); (repeat' (first | (refine Br.tt (by first | assumption | with_reducible rfl | with_reducible exact Bool.not_false) ?_; conv => whnf) | (refine Br.ff (by first | assumption | with_reducible rfl | with_reducible exact Bool.not_true) ?_; conv => whnf) | fail)))
      simp only [hy, ne_eq, not_true, if_false]
      (first | exact ⟨rfl, rfl⟩ | exact ⟨trivial, rfl⟩ | exact ⟨rfl, trivial⟩ | exact ⟨trivial, trivial⟩)
  · have h0 : (why != 0) = true := by simpa using hy
    ((conv => whnf); (repeat' (first | (refine Br.tt (by first | assumption | with_reducible rfl | with_reducible exact Bool.not_false) ?_; conv => whnf) | (refine Br.ff (by first | assumption | with_reducible rfl | with_reducible exact Bool.not_true) ?_; conv => whnf) | fail)))
    simp only [ne_eq, hy, not_false_eq_true, if_true]
    (first | exact ⟨rfl, rfl⟩ | exact ⟨trivial, rfl⟩ | exact ⟨rfl, trivial⟩ | exact ⟨trivial, trivial⟩)
end Go.Proofs.L08

namespace Go.Proofs.L08
open Go Aw Go.Proofs
variable {W0 : World}
theorem R.sgnOf_ne {r : R} (h : r.sgnOf ≠ []) : 0 < r.ws.length := by
  unfold R.sgnOf at h
  cases hw : r.ws with
  | nil => rw [hw] at h; exact absurd rfl h
  | cons w l => simp
theorem wd_width (ws : List Wd) : ∀ x ∈ ws.map Wd.dv, x.width = 5 := by
  intro x hx; obtain ⟨w, -, rfl⟩ := List.mem_map.1 hx; rfl
set_option linter.unusedSimpArgs false in
set_option maxRecDepth 100000 in
set_option maxHeartbeats 4000000 in
theorem take_ok (r : R) (l : List (List UInt8)) (hr : r.ws.length < 1000000000000) (hl : l.length < 1000) (hne : ∀ s ∈ l, s ≠ []) : CallsA Tryd.prog W0 25 [r.ps] [.ptr 0 0, .d (.sl (l.map .str))]
    fun rs os => rs = [.d (.str (r.take l).1)] ∧ os = [(r.take l).2.ps] := by
  have hb := bad_ok (W0 := W0) r
  have hs := sign_of_ok (W0 := W0) r hr
  have hsn := @R.sgnOf_ne r
  unfold R.take
  generalize hsg : r.sgnOf = sg at *
  rcases r with ⟨ws, eb, ec, why, fb, fc⟩
  unfold R.bad at hb
  unfold R.ps at *
  refine calls_of_awp1 tok [.tmp 4] Tryd.func25 rfl rfl rfl rfl rfl rfl ?_
  ((conv => whnf); (repeat' (first | (refine Br.tt (by first | assumption | with_reducible rfl | with_reducible exact Bool.not_false) ?_; conv => whnf) | (refine Br.ff (by first | assumption | with_reducible rfl | with_reducible exact Bool.not_true) ?_; conv => whnf) | fail)))
  refine CallsA.then1 hb ?_
  by_cases hy : why = 0
  case neg =>
    have h0 : (why != 0) = true := by simpa using hy
    simp only [h0, ne_eq, hy, not_false_eq_true, if_true]
    ((conv => whnf); (repeat' (first | (refine Br.tt (by first | assumption | with_reducible rfl | with_reducible exact Bool.not_false) ?_; conv => whnf) | (refine Br.ff (by first | assumption | with_reducible rfl | with_reducible exact Bool.not_true) ?_; conv => whnf) | (refine Br.tt rfl ?_; conv => whnf) | (refine Br.ff rfl ?_; conv => whnf) | fail)))
    (first | exact ⟨rfl, rfl⟩ | exact ⟨trivial, rfl⟩ | exact ⟨rfl, trivial⟩ | exact ⟨trivial, trivial⟩)
  subst hy
  have h0 : ((0 : Int) != 0) = false := rfl
  have hi0 : ∀ {α : Type} (a b : α), (if (0 : Int) ≠ 0 then a else b) = b := fun a b => if_neg (by simp)
  simp only [h0, hi0]
  ((conv => whnf); (repeat' (first | (refine Br.tt (by first | assumption | with_reducible rfl | with_reducible exact Bool.not_false) ?_; conv => whnf) | (refine Br.ff (by first | assumption | with_reducible rfl | with_reducible exact Bool.not_true) ?_; conv => whnf) | (refine Br.tt rfl ?_; conv => whnf) | (refine Br.ff rfl ?_; conv => whnf) | fail)))
  refine loop_by1 (fun (i : Nat) => i ≤ l.length ∧ takeL ⟨ws, eb, ec, 0, fb, fc⟩ l = takeL ⟨ws, eb, ec, 0, fb, fc⟩ (l.drop i) ∧ takeR ⟨ws, eb, ec, 0, fb, fc⟩ l = takeR ⟨ws, eb, ec, 0, fb, fc⟩ (l.drop i))
    (fun i => mkT [(0, .ptr 50000 0), (9, .d (.sl (l.map .str))), (10, .d (.int .i64 (l.map DV.str).length)), (11, .d (.int .i64 i))])
    (fun i => mkT [(50000, .box [.d (.sl (ws.map Wd.dv)), .d (.int .i64 eb), .d (.int .i64 ec), .d (.int .i64 0), .d (.int .i64 fb), .d (.int .i64 fc)])])
    (fun i => l.length - i) 0 ⟨by omega, rfl, rfl⟩
    (Weak.of [] rfl rfl ⟨⟨_, rfl, rfl⟩, ⟨_, rfl, rfl⟩, ⟨_, rfl, rfl⟩, ⟨_, rfl, rfl⟩, trivial⟩ ⟨⟨_, rfl, ⟨rfl, rfl, rfl, rfl, rfl, rfl, trivial⟩⟩, trivial⟩) ?_
  intro i ⟨hi, e1, e2⟩
  conv => whnf
  ((repeat' (first | (refine Br.tt (by first | assumption | with_reducible rfl | with_reducible exact Bool.not_false) ?_; conv => whnf) | (refine Br.ff (by first | assumption | with_reducible rfl | with_reducible exact Bool.not_true) ?_; conv => whnf) | fail)); (refine Br.mk (fun hlt => ?_) (fun hlt => ?_) <;> ((conv => whnf); (repeat' (first | (refine Br.tt (by first | assumption | with_reducible rfl | with_reducible exact Bool.not_false) ?_; conv => whnf) | (refine Br.ff (by first | assumption | with_reducible rfl | with_reducible exact Bool.not_true) ?_; conv => whnf) | fail)))))
  · have hlt : i < l.length := by simpa using hlt
    refine Idx.of (.str l[i]) (by omega) (by simp [hlt]) rfl ?_
    ((conv => whnf); (repeat' (first | (refine Br.tt (by first | assumption | with_reducible rfl | with_reducible exact Bool.not_false) ?_; conv => whnf) | (refine Br.ff (by first | assumption | with_reducible rfl | with_reducible exact Bool.not_true) ?_; conv => whnf) | fail)))
    refine CallsA.then1 hs ?_
    have hd := List.drop_eq_getElem_cons hlt
    rw [hd, takeL] at e1
    rw [hd, takeR] at e2
    rw [hsg] at e1 e2
    ((conv => whnf); (repeat' (first | (refine Br.tt (by first | assumption | with_reducible rfl | with_reducible exact Bool.not_false) ?_; conv => whnf) | (refine Br.ff (by first | assumption | with_reducible rfl | with_reducible exact Bool.not_true) ?_; conv => whnf) | fail)))
    by_cases hq : sg = l[i]
    · have hq2 : (sg == l[i]) = true := by simpa using hq
      rw [if_pos hq] at e1 e2
      have hpos := hsn (by rw [hq]; exact hne _ (List.getElem_mem hlt))
      ((conv => whnf); (repeat' (first | (refine Br.tt (by first | assumption | with_reducible rfl | with_reducible exact Bool.not_false) ?_; conv => whnf) | (refine Br.ff (by first | assumption | with_reducible rfl | with_reducible exact Bool.not_true) ?_; conv => whnf) | fail)))
      refine Need.of ⟨⟨by decide, by simp at hpos ⊢; omega⟩, wd_width ws⟩ ?_
      ((conv => whnf); (repeat' (first | (refine Br.tt (by first | assumption | with_reducible rfl | with_reducible exact Bool.not_false) ?_; conv => whnf) | (refine Br.ff (by first | assumption | with_reducible rfl | with_reducible exact Bool.not_true) ?_; conv => whnf) | fail)))
      rw [e1, e2]
      simp only [R.next, List.map_drop]
      (first | exact ⟨rfl, rfl⟩ | exact ⟨trivial, rfl⟩ | exact ⟨rfl, trivial⟩ | exact ⟨trivial, trivial⟩)
    · have hq2 : (sg == l[i]) = false := by simpa using hq
      rw [if_neg hq] at e1 e2
      ((conv => whnf); (repeat' (first | (refine Br.tt (by first | assumption | with_reducible rfl | with_reducible exact Bool.not_false) ?_; conv => whnf) | (refine Br.ff (by first | assumption | with_reducible rfl | with_reducible exact Bool.not_true) ?_; conv => whnf) | fail)))
      refine ⟨i + 1, ⟨⟨by omega, e1, e2⟩, by omega⟩,
        Weak.of [] rfl rfl ⟨⟨_, rfl, rfl⟩, ⟨_, rfl, rfl⟩, ⟨_, rfl, rfl⟩, ⟨_, rfl, by simp only [Pre]; rw [wrap_i64 (by omega) (by omega)]; rfl⟩, trivial⟩ ⟨⟨_, rfl, ⟨rfl, rfl, rfl, rfl, rfl, rfl, trivial⟩⟩, trivial⟩⟩
  · have hie : i = l.length := by simp at hlt; omega
    rw [hie, List.drop_length, takeL] at e1
    rw [hie, List.drop_length, takeR] at e2
    rw [e1, e2]
    (first | exact ⟨rfl, rfl⟩ | exact ⟨trivial, rfl⟩ | exact ⟨rfl, trivial⟩ | exact ⟨trivial, trivial⟩)
theorem takeR_ws (r : R) (l : List (List UInt8)) : (takeR r l).ws.length ≤ r.ws.length := by
  induction l with
  | nil => exact Nat.le_refl _
  | cons s l ih => rw [takeR]; split; simp [R.next]; exact ih
theorem R.take_ws (r : R) (l : List (List UInt8)) : (r.take l).2.ws.length ≤ r.ws.length := by
  unfold R.take; split; exact Nat.le_refl _; exact takeR_ws r l
theorem R.wrong_ws (r : R) (e : Int) : (r.wrong e).ws = r.ws := by
  rcases r with ⟨ws, eb, ec, why, fb, fc⟩
  unfold R.wrong
  split
  · rfl
  · cases ws <;> rfl
set_option linter.unusedSimpArgs false in
set_option maxRecDepth 100000 in
set_option maxHeartbeats 4000000 in
theorem need_ok (r : R) (s : List UInt8) (hr : r.ws.length < 1000000000000) (hne : s ≠ []) : CallsA Tryd.prog W0 82 [r.ps] [.ptr 0 0, .d (.str s)] fun rs os => rs = [] ∧ os = [(r.need s).ps] := by
  have ht := take_ok (W0 := W0) r [s] hr (by simp) (by simpa using hne)
  unfold R.need
  have hw := wrong_ok (W0 := W0) (r.take [s]).2 71
  generalize (r.take [s]).1 = t at *
  generalize (r.take [s]).2 = r2 at *
  generalize hr3 : r2.wrong 71 = r3 at *
  unfold R.ps at *
  refine calls_of_awp1 tok [] Tryd.func82 rfl rfl rfl rfl rfl rfl ?_
  ((conv => whnf); (repeat' (first | (refine Br.tt (by first | assumption | with_reducible rfl | with_reducible exact Bool.not_false) ?_; conv => whnf) | (refine Br.ff (by first | assumption | with_reducible rfl | with_reducible exact Bool.not_true) ?_; conv => whnf) | fail)))
  refine Need.of (by intro y hy; simp at hy; subst hy; rfl) ?_
  ((conv => whnf); (repeat' (first | (refine Br.tt (by first | assumption | with_reducible rfl | with_reducible exact Bool.not_false) ?_; conv => whnf) | (refine Br.ff (by first | assumption | with_reducible rfl | with_reducible exact Bool.not_true) ?_; conv => whnf) | fail)))
  refine CallsA.then1 ht ?_
  by_cases hq : t = []
  · have hq2 : (t == []) = true := by simpa using hq
    rw [if_pos hq]
    subst hq
    ((conv => whnf); (repeat' (first | (refine Br.tt (by first | assumption | with_reducible rfl | with_reducible exact Bool.not_false) ?_; conv => whnf) | (refine Br.ff (by first | assumption | with_reducible rfl | with_reducible exact Bool.not_true) ?_; conv => whnf) | (refine Br.tt rfl ?_; conv => whnf) | (refine Br.ff rfl ?_; conv => whnf) | fail)))
    refine CallsA.then1 hw ?_
    ((conv => whnf); (repeat' (first | (refine Br.tt (by first | assumption | with_reducible rfl | with_reducible exact Bool.not_false) ?_; conv => whnf) | (refine Br.ff (by first | assumption | with_reducible rfl | with_reducible exact Bool.not_true) ?_; conv => whnf) | fail)))
    (first | exact ⟨rfl, rfl⟩ | exact ⟨trivial, rfl⟩ | exact ⟨rfl, trivial⟩ | exact ⟨trivial, trivial⟩)
  · have hq2 : (t == []) = false := by simpa using hq
    rw [if_neg hq]
    ((conv => whnf); (repeat' (first | (refine Br.tt (by first | assumption | with_reducible rfl | with_reducible exact Bool.not_false) ?_; conv => whnf) | (refine Br.ff (by first | assumption | with_reducible rfl | with_reducible exact Bool.not_true) ?_; conv => whnf) | fail)))
    (first | exact ⟨rfl, rfl⟩ | exact ⟨trivial, rfl⟩ | exact ⟨rfl, trivial⟩ | exact ⟨trivial, trivial⟩)
end Go.Proofs.L08

namespace Go.Proofs.L08
open Go Aw Go.Proofs
variable {W0 : World}
set_option linter.unusedSimpArgs false in
set_option maxRecDepth 100000 in
set_option maxHeartbeats 4000000 in
theorem word_ok (r : R) (k : Int) (hr : r.ws.length < 1000000000000) : CallsA Tryd.prog W0 87 [r.ps] [.ptr 0 0, .d (.int .i64 k)] fun rs os => rs = [.d (r.word k).1.dv] ∧ os = [(r.word k).2.ps] := by
  have hb := bad_ok (W0 := W0) r
  have hw := wrong_ok (W0 := W0) r 71
  unfold R.word
  generalize r.wrong 71 = r3 at *
  rcases r with ⟨ws, eb, ec, why, fb, fc⟩
  unfold R.bad at hb
  unfold R.ps at *
  refine calls_of_awp1 tok [.cell 4 79] Tryd.func87 rfl rfl rfl rfl rfl rfl ?_
  ((conv => whnf); (repeat' (first | (refine Br.tt (by first | assumption | with_reducible rfl | with_reducible exact Bool.not_false) ?_; conv => whnf) | (refine Br.ff (by first | assumption | with_reducible rfl | with_reducible exact Bool.not_true) ?_; conv => whnf) | fail)))
  refine CallsA.then1 hb ?_
  by_cases hy : why = 0
  case neg =>
    have h0 : (why != 0) = true := by simpa using hy
    have hi0 : ∀ {α : Type} (a b : α), (if why ≠ 0 then a else b) = a := fun a b => if_pos hy
    simp only [h0, hi0]
    ((conv => whnf); (repeat' (first | (refine Br.tt (by first | assumption | with_reducible rfl | with_reducible exact Bool.not_false) ?_; conv => whnf) | (refine Br.ff (by first | assumption | with_reducible rfl | with_reducible exact Bool.not_true) ?_; conv => whnf) | (refine Br.tt rfl ?_; conv => whnf) | (refine Br.ff rfl ?_; conv => whnf) | fail)))
    refine CallsA.then1 hw ?_
    ((conv => whnf); (repeat' (first | (refine Br.tt (by first | assumption | with_reducible rfl | with_reducible exact Bool.not_false) ?_; conv => whnf) | (refine Br.ff (by first | assumption | with_reducible rfl | with_reducible exact Bool.not_true) ?_; conv => whnf) | fail)))
    (first | exact ⟨rfl, rfl⟩ | exact ⟨trivial, rfl⟩ | exact ⟨rfl, trivial⟩ | exact ⟨trivial, trivial⟩)
  subst hy
  have h0 : ((0 : Int) != 0) = false := rfl
  have hi0 : ∀ {α : Type} (a b : α), (if (0 : Int) ≠ 0 then a else b) = b := fun a b => if_neg (by simp)
  simp only [h0, hi0]
  cases ws with
  | nil =>
    ((conv => whnf); (repeat' (first | (refine Br.tt (by first | assumption | with_reducible rfl | with_reducible exact Bool.not_false) ?_; conv => whnf) | (refine Br.ff (by first | assumption | with_reducible rfl | with_reducible exact Bool.not_true) ?_; conv => whnf) | (refine Br.tt rfl ?_; conv => whnf) | (refine Br.ff rfl ?_; conv => whnf) | fail)))
    refine CallsA.then1 hw ?_
    ((conv => whnf); (repeat' (first | (refine Br.tt (by first | assumption | with_reducible rfl | with_reducible exact Bool.not_false) ?_; conv => whnf) | (refine Br.ff (by first | assumption | with_reducible rfl | with_reducible exact Bool.not_true) ?_; conv => whnf) | fail)))
    (first | exact ⟨rfl, rfl⟩ | exact ⟨trivial, rfl⟩ | exact ⟨rfl, trivial⟩ | exact ⟨trivial, trivial⟩)
  | cons w l =>
    rcases w with ⟨k', t, n, b, c⟩
    have h1 : (((((⟨k', t, n, b, c⟩ : Wd) :: l).map Wd.dv).length : Int) == 0) = false := by rw [beq_eq_false_iff_ne]; simp only [List.length_map, List.length_cons]; omega
    ((conv => whnf); (repeat' (first | (refine Br.tt (by first | assumption | with_reducible rfl | with_reducible exact Bool.not_false) ?_; conv => whnf) | (refine Br.ff (by first | assumption | with_reducible rfl | with_reducible exact Bool.not_true) ?_; conv => whnf) | (refine Br.tt rfl ?_; conv => whnf) | (refine Br.ff rfl ?_; conv => whnf) | fail)))
    refine Idx.of _ (by decide) rfl rfl ?_
    ((conv => whnf); (repeat' (first | (refine Br.tt (by first | assumption | with_reducible rfl | with_reducible exact Bool.not_false) ?_; conv => whnf) | (refine Br.ff (by first | assumption | with_reducible rfl | with_reducible exact Bool.not_true) ?_; conv => whnf) | fail)))
    by_cases hk : k' = k
    · have hk2 : (k' != k) = false := by simpa using hk
      simp only [if_pos hk]
      ((conv => whnf); (repeat' (first | (refine Br.tt (by first | assumption | with_reducible rfl | with_reducible exact Bool.not_false) ?_; conv => whnf) | (refine Br.ff (by first | assumption | with_reducible rfl | with_reducible exact Bool.not_true) ?_; conv => whnf) | fail)))
      refine Idx.of _ (by decide) rfl rfl ?_
      ((conv => whnf); (repeat' (first | (refine Br.tt (by first | assumption | with_reducible rfl | with_reducible exact Bool.not_false) ?_; conv => whnf) | (refine Br.ff (by first | assumption | with_reducible rfl | with_reducible exact Bool.not_true) ?_; conv => whnf) | fail)))
      refine Need.of ⟨⟨by decide, by simp; omega⟩, wd_width (⟨k', t, n, b, c⟩ :: l)⟩ ?_
      ((conv => whnf); (repeat' (first | (refine Br.tt (by first | assumption | with_reducible rfl | with_reducible exact Bool.not_false) ?_; conv => whnf) | (refine Br.ff (by first | assumption | with_reducible rfl | with_reducible exact Bool.not_true) ?_; conv => whnf) | fail)))
      (first | exact ⟨rfl, rfl⟩ | exact ⟨trivial, rfl⟩ | exact ⟨rfl, trivial⟩ | exact ⟨trivial, trivial⟩)
    · have hk2 : (k' != k) = true := by simpa using hk
      simp only [if_neg hk]
      ((conv => whnf); (repeat' (first | (refine Br.tt (by first | assumption | with_reducible rfl | with_reducible exact Bool.not_false) ?_; conv => whnf) | (refine Br.ff (by first | assumption | with_reducible rfl | with_reducible exact Bool.not_true) ?_; conv => whnf) | fail)))
      refine CallsA.then1 hw ?_
      ((conv => whnf); (repeat' (first | (refine Br.tt (by first | assumption | with_reducible rfl | with_reducible exact Bool.not_false) ?_; conv => whnf) | (refine Br.ff (by first | assumption | with_reducible rfl | with_reducible exact Bool.not_true) ?_; conv => whnf) | fail)))
      (first | exact ⟨rfl, rfl⟩ | exact ⟨trivial, rfl⟩ | exact ⟨rfl, trivial⟩ | exact ⟨trivial, trivial⟩)
theorem R.word_ws (r : R) (k : Int) : (r.word k).2.ws.length ≤ r.ws.length := by
  unfold R.word
  split
  · simp [R.wrong_ws]
  · split
    · split
      · simp [R.next]
      · simp [R.wrong_ws]
    · simp [R.wrong_ws]
theorem R.need_ws (r : R) (s : List UInt8) : (r.need s).ws.length ≤ r.ws.length := by
  unfold R.need
  split
  · rw [R.wrong_ws]; exact r.take_ws _
  · exact r.take_ws _
def R.fin (r : R) : R := if r.ws = [] then r else r.wrong 71
set_option linter.unusedSimpArgs false in
set_option maxRecDepth 100000 in
set_option maxHeartbeats 4000000 in
theorem done_ok (r : R) : CallsA Tryd.prog W0 14 [r.ps] [.ptr 0 0] fun rs os => rs = [] ∧ os = [r.fin.ps] := by
  have hw := wrong_ok (W0 := W0) r 71
  unfold R.fin
  generalize r.wrong 71 = r3 at *
  rcases r with ⟨ws, eb, ec, why, fb, fc⟩
  unfold R.ps at *
  refine calls_of_awp1 tok [] Tryd.func14 rfl rfl rfl rfl rfl rfl ?_
  cases ws with
  | nil =>
    ((conv => whnf); (repeat' (first | (refine Br.tt (by first | assumption | with_reducible rfl | with_reducible exact Bool.not_false) ?_; conv => whnf) | (refine Br.ff (by first | assumption | with_reducible rfl | with_reducible exact Bool.not_true) ?_; conv => whnf) | (refine Br.tt rfl ?_; conv => whnf) | (refine Br.ff rfl ?_; conv => whnf) | fail)))
    (first | exact ⟨rfl, rfl⟩ | exact ⟨trivial, rfl⟩ | exact ⟨rfl, trivial⟩ | exact ⟨trivial, trivial⟩)
  | cons w l =>
    have h1 : decide ((((w :: l).map Wd.dv).length : Int) > 0) = true := by simp only [List.length_map, List.length_cons, decide_eq_true_eq]; omega
    have hne : ¬ (w :: l = []) := by simp
    simp only [if_neg hne]
    ((conv => whnf); (repeat' (first | (refine Br.tt (by first | assumption | with_reducible rfl | with_reducible exact Bool.not_false) ?_; conv => whnf) | (refine Br.ff (by first | assumption | with_reducible rfl | with_reducible exact Bool.not_true) ?_; conv => whnf) | fail)))
    refine CallsA.then1 hw ?_
    ((conv => whnf); (repeat' (first | (refine Br.tt (by first | assumption | with_reducible rfl | with_reducible exact Bool.not_false) ?_; conv => whnf) | (refine Br.ff (by first | assumption | with_reducible rfl | with_reducible exact Bool.not_true) ?_; conv => whnf) | fail)))
    (first | exact ⟨rfl, rfl⟩ | exact ⟨trivial, rfl⟩ | exact ⟨rfl, trivial⟩ | exact ⟨trivial, trivial⟩)
set_option linter.unusedSimpArgs false in
set_option maxRecDepth 100000 in
set_option maxHeartbeats 4000000 in
theorem two_ok (k : Int) (a b : F) : CallsA Tryd.prog W0 26 [] [.d (.int .i64 k), .d a.dv, .d b.dv] fun rs os => rs = [.d (F.dv (.mk k [] 0 [] [a, b]))] ∧ os = [] := by
  rw [F.dv, F.dvs, F.dvs, F.dvs, T.dvs]
  rcases a with ⟨op, name, md, ts, fs⟩
  rcases b with ⟨op2, name2, md2, ts2, fs2⟩
  rw [F.dv, F.dv]
  refine calls_of_awpC tok [.cell 6 26] Tryd.func26 rfl rfl rfl rfl rfl ?_
  ((conv => whnf); (repeat' (first | (refine Br.tt (by first | assumption | with_reducible rfl | with_reducible exact Bool.not_false) ?_; conv => whnf) | (refine Br.ff (by first | assumption | with_reducible rfl | with_reducible exact Bool.not_true) ?_; conv => whnf) | fail)))
  refine Need.of (by intro x hx; simp at hx; rcases hx with rfl | rfl <;> rfl) ?_
  ((conv => whnf); (repeat' (first | (refine Br.tt (by first | assumption | with_reducible rfl | with_reducible exact Bool.not_false) ?_; conv => whnf) | (refine Br.ff (by first | assumption | with_reducible rfl | with_reducible exact Bool.not_true) ?_; conv => whnf) | fail)))
  (first | exact ⟨rfl, rfl⟩ | exact ⟨trivial, rfl⟩ | exact ⟨rfl, trivial⟩ | exact ⟨trivial, trivial⟩)
def relOf (s : List UInt8) : Int :=
  if s = [60, 61] then 9 else if s = [60] then 10 else if s = [62, 61] then 11 else if s = [62] then 12 else if s = [61] then 13 else if s = [33, 61] then 14 else 15
set_option linter.unusedSimpArgs false in
set_option maxRecDepth 100000 in
set_option maxHeartbeats 4000000 in
theorem relation_ok (s : List UInt8) : CallsA Tryd.prog W0 89 [] [.d (.str s)] fun rs os => rs = [.d (.int .i64 (relOf s))] ∧ os = [] := by
  refine calls_of_awpC tok [.tmp 2] Tryd.func89 rfl rfl rfl rfl rfl ?_
  ((conv => whnf); (repeat' (first | (refine Br.tt (by first | assumption | with_reducible rfl | with_reducible exact Bool.not_false) ?_; conv => whnf) | (refine Br.ff (by first | assumption | with_reducible rfl | with_reducible exact Bool.not_true) ?_; conv => whnf) | fail)))
  repeat' (first | (refine Br.tt (by first | assumption | with_reducible rfl | with_reducible exact Bool.not_false) ?_; conv => whnf) | (refine Br.ff (by first | assumption | with_reducible rfl | with_reducible exact Bool.not_true) ?_; conv => whnf) | (refine Need.of (by first | omega | (simp; done) | (simp; omega) | (simp at *; omega)) ?_; conv => whnf) | (refine Br.mk (fun _ => ?_) (fun _ => ?_) <;> (conv => whnf)) | fail)
  all_goals (
    refine ⟨?_, by trivial⟩
    simp only [beq_iff_eq, beq_eq_false_iff_ne] at *
    simp [relOf, *])
end Go.Proofs.L08

namespace Go.Proofs.L08
open Go Aw Go.Proofs
/-! The reader's grammar, level by level, by the number of words that are left. -/
structure Pz where
  fac : R → T × R
  prd : R → T × R
  trm : R → T × R
  una : R → F × R
  qua : Int → R → F × R
  nd : R → F × R
  orr : R → F × R
  imp : R → F × R
  frm : R → F × R
def T.bin (k : Int) (a b : T) : T := .mk k 0 [] [a, b]
def F.bin (k : Int) (a b : F) : F := .mk k [] 0 [] [a, b]
def F.un (k : Int) (s : List UInt8) (a : F) : F := .mk k s 0 [] [a]
def loopT (k : List UInt8 → Int) (l : List (List UInt8)) (nx : R → T × R) : Nat → T → R → T × R
  | 0, t, r => (t, r)
  | n + 1, t, r => if (r.take l).1 = [] then (t, (r.take l).2) else
      loopT k l nx n (T.bin (k (r.take l).1) t (nx (r.take l).2).1) (nx (r.take l).2).2
def loopF (s : List UInt8) (k : Int) (nx : R → F × R) : Nat → F → R → F × R
  | 0, t, r => (t, r)
  | n + 1, t, r => if (r.take [s]).1 = [] then (t, (r.take [s]).2) else
      loopF s k nx n (F.bin k t (nx (r.take [s]).2).1) (nx (r.take [s]).2).2
def R.isK (r : R) (k : Int) : Bool := !r.bad && (match r.ws with | w :: _ => w.kind == k | [] => false)
def pFac (p : Pz) (r : R) : T × R :=
  let t := (r.take [[91], [45]]).1
  let r := (r.take [[91], [45]]).2
  if t = [91] then ((p.trm r).1, (p.trm r).2.need [93])
  else if t = [45] then (.mk 2 0 [] [(p.fac r).1], (p.fac r).2)
  else if r.isK 0 = true then (.mk 1 0 (r.word 0).1.text [], (r.word 0).2)
  else (.mk 0 (r.word 1).1.num [] [], (r.word 1).2)
def sumK (s : List UInt8) : Int := if s = [43] then 3 else 4
def pPrd (p : Pz) (r : R) : T × R := loopT (fun _ => 5) [[42]] p.fac ((pFac p r).2.ws.length + 1) (pFac p r).1 (pFac p r).2
def pTrm (p : Pz) (r : R) : T × R := loopT sumK [[43], [45]] p.prd ((pPrd p r).2.ws.length + 1) (pPrd p r).1 (pPrd p r).2
def relSigns : List (List UInt8) := [[60, 61], [60], [62, 61], [62], [61], [33, 61], [126]]
/-- A nought comes next. -/
def R.nought (r : R) : Bool := r.isK 1 && (match r.ws with | w :: _ => w.num == 0 | [] => false)
/-- The modulus. -/
def pMod (r : R) : Int × R :=
  let r := r.need [109, 111, 100]
  let r := if r.nought = true then r.wrong 92 else r
  ((r.word 1).1.num, (r.word 1).2)
def pAtm (p : Pz) (r : R) : F × R :=
  let a := pTrm p r
  let s := a.2.take relSigns
  let r := if s.1 = [] then s.2.wrong 71 else s.2
  -- where the sign is there, a word has been taken; else there is a fault
  let b := pTrm p r
  if relOf s.1 = 15 then (.mk 15 [] (pMod b.2).1 [a.1, b.1] [], (pMod b.2).2)
  else (.mk (relOf s.1) [] 0 [a.1, b.1] [], b.2)
def unSigns : List (List UInt8) := [[110, 111, 116], [101, 120], [97, 108, 108], [40], [116, 114, 117, 101], [102, 97, 108, 115, 101]]
def pUna (p : Pz) (r : R) : F × R :=
  let t := (r.take unSigns).1
  let r := (r.take unSigns).2
  if t = [110, 111, 116] then (F.un 2 [] (p.una r).1, (p.una r).2)
  else if t = [101, 120] then p.qua 7 r
  else if t = [97, 108, 108] then p.qua 8 r
  else if t = [40] then ((p.frm r).1, (p.frm r).2.need [41])
  else if t = [116, 114, 117, 101] then (.mk 0 [] 0 [] [], r)
  else if t = [102, 97, 108, 115, 101] then (.mk 1 [] 0 [] [], r)
  else pAtm p r
def pQua (p : Pz) (k : Int) (r : R) : F × R :=
  let w := r.word 0
  let c := w.2.take [[44]]
  if c.1 = [] then (F.un k w.1.text (pUna p (c.2.need [46])).1, (pUna p (c.2.need [46])).2)
  else (F.un k w.1.text (p.qua k c.2).1, (p.qua k c.2).2)
def pNd (p : Pz) (r : R) : F × R := loopF [97, 110, 100] 3 p.una ((pUna p r).2.ws.length + 1) (pUna p r).1 (pUna p r).2
def pOrr (p : Pz) (r : R) : F × R := loopF [111, 114] 4 p.nd ((pNd p r).2.ws.length + 1) (pNd p r).1 (pNd p r).2
def pImp (p : Pz) (r : R) : F × R :=
  let f := pOrr p r
  let c := f.2.take [[45, 62]]
  if c.1 = [] then (f.1, c.2) else (F.bin 5 f.1 (p.imp c.2).1, (p.imp c.2).2)
def pFrm (p : Pz) (r : R) : F × R := loopF [60, 45, 62] 6 p.imp ((pImp p r).2.ws.length + 1) (pImp p r).1 (pImp p r).2
def Pz.next (p : Pz) : Pz := ⟨pFac p, pPrd p, pTrm p, pUna p, pQua p, pNd p, pOrr p, pImp p, pFrm p⟩
def Pz.zero : Pz := ⟨fun r => (.mk 0 0 [] [], r), fun r => (.mk 0 0 [] [], r), fun r => (.mk 0 0 [] [], r), fun r => (.mk 0 [] 0 [] [], r), fun _ r => (.mk 0 [] 0 [] [], r), fun r => (.mk 0 [] 0 [] [], r), fun r => (.mk 0 [] 0 [] [], r), fun r => (.mk 0 [] 0 [] [], r), fun r => (.mk 0 [] 0 [] [], r)⟩
def pz : Nat → Pz
  | 0 => .zero
  | n + 1 => (pz n).next
/-! The words grow fewer. -/
theorem R.take_none {r : R} {l : List (List UInt8)} (hne : ∀ s ∈ l, s ≠ []) (h : (r.take l).1 = []) : (r.take l).2 = r := by
  unfold R.take at *
  split
  · rfl
  · rename_i h0
    rw [if_neg h0] at h
    simp only at h
    clear h0
    induction l with
    | nil => rfl
    | cons s l ih =>
      rw [takeL] at h
      rw [takeR]
      by_cases h1 : r.sgnOf = s
      · rw [if_pos h1] at h
        exact absurd h (hne s (List.mem_cons_self ..))
      · rw [if_neg h1] at h ⊢
        exact ih (fun t ht => hne t (List.mem_cons_of_mem _ ht)) h
theorem R.take_some {r : R} {l : List (List UInt8)} (hne : ∀ s ∈ l, s ≠ []) (h : (r.take l).1 ≠ []) : (r.take l).2.ws.length + 1 = r.ws.length ∧ r.why = 0 ∧ (r.take l).1 ∈ l := by
  unfold R.take at *
  split at h
  · exact absurd rfl h
  · rename_i h0
    rw [if_neg h0]
    simp only at h ⊢
    refine ⟨?_, by simpa using h0, ?_⟩
    · clear h0
      induction l with
      | nil => exact absurd rfl h
      | cons s l ih =>
        rw [takeL] at h
        rw [takeR]
        by_cases h1 : r.sgnOf = s
        · rw [if_pos h1]
          have := R.sgnOf_ne (r := r) (by rw [h1]; exact hne s (List.mem_cons_self ..))
          simp only [R.next, List.length_drop]
          omega
        · rw [if_neg h1] at h ⊢
          exact ih (fun t ht => hne t (List.mem_cons_of_mem _ ht)) h
    · clear h0
      induction l with
      | nil => exact absurd rfl h
      | cons s l ih =>
        rw [takeL] at h ⊢
        by_cases h1 : r.sgnOf = s
        · rw [if_pos h1]; exact List.mem_cons_self ..
        · rw [if_neg h1] at h ⊢
          exact List.mem_cons_of_mem _ (ih (fun t ht => hne t (List.mem_cons_of_mem _ ht)) h)
structure Pz.Le (p : Pz) : Prop where
  fac : ∀ r, (p.fac r).2.ws.length ≤ r.ws.length
  prd : ∀ r, (p.prd r).2.ws.length ≤ r.ws.length
  trm : ∀ r, (p.trm r).2.ws.length ≤ r.ws.length
  una : ∀ r, (p.una r).2.ws.length ≤ r.ws.length
  qua : ∀ k r, (p.qua k r).2.ws.length ≤ r.ws.length
  nd : ∀ r, (p.nd r).2.ws.length ≤ r.ws.length
  orr : ∀ r, (p.orr r).2.ws.length ≤ r.ws.length
  imp : ∀ r, (p.imp r).2.ws.length ≤ r.ws.length
  frm : ∀ r, (p.frm r).2.ws.length ≤ r.ws.length
theorem loopT_ws {k : List UInt8 → Int} {l : List (List UInt8)} {nx : R → T × R} (h : ∀ r, (nx r).2.ws.length ≤ r.ws.length) : ∀ (n : Nat) (t : T) (r : R), (loopT k l nx n t r).2.ws.length ≤ r.ws.length := by
  intro n
  induction n with
  | zero => intro t r; exact Nat.le_refl _
  | succ n ih =>
    intro t r
    rw [loopT]
    split
    · exact r.take_ws l
    · exact Nat.le_trans (ih _ _) (Nat.le_trans (h _) (r.take_ws l))
theorem loopF_ws {s : List UInt8} {k : Int} {nx : R → F × R} (h : ∀ r, (nx r).2.ws.length ≤ r.ws.length) : ∀ (n : Nat) (t : F) (r : R), (loopF s k nx n t r).2.ws.length ≤ r.ws.length := by
  intro n
  induction n with
  | zero => intro t r; exact Nat.le_refl _
  | succ n ih =>
    intro t r
    rw [loopF]
    split
    · exact r.take_ws _
    · exact Nat.le_trans (ih _ _) (Nat.le_trans (h _) (r.take_ws _))
theorem pMod_ws (r : R) : (pMod r).2.ws.length ≤ r.ws.length := by
  unfold pMod
  simp only
  refine Nat.le_trans (R.word_ws _ _) ?_
  split
  · rw [R.wrong_ws]; exact r.need_ws _
  · exact r.need_ws _
theorem pFac_ws {p : Pz} (h : p.Le) (r : R) : (pFac p r).2.ws.length ≤ r.ws.length := by
  unfold pFac
  simp only
  have ht := r.take_ws [[91], [45]]
  split
  · exact Nat.le_trans (R.need_ws _ _) (Nat.le_trans (h.trm _) ht)
  · split
    · exact Nat.le_trans (h.fac _) ht
    · split
      · exact Nat.le_trans (R.word_ws _ _) ht
      · exact Nat.le_trans (R.word_ws _ _) ht
theorem pPrd_ws {p : Pz} (h : p.Le) (r : R) : (pPrd p r).2.ws.length ≤ r.ws.length :=
  Nat.le_trans (loopT_ws h.fac _ _ _) (pFac_ws h r)
theorem pTrm_ws {p : Pz} (h : p.Le) (r : R) : (pTrm p r).2.ws.length ≤ r.ws.length :=
  Nat.le_trans (loopT_ws h.prd _ _ _) (pPrd_ws h r)
theorem pAtm_ws {p : Pz} (h : p.Le) (r : R) : (pAtm p r).2.ws.length ≤ r.ws.length := by
  unfold pAtm
  simp only
  have h1 := pTrm_ws h r
  have h2 := (pTrm p r).2.take_ws relSigns
  have h3 : (if ((pTrm p r).2.take relSigns).1 = [] then ((pTrm p r).2.take relSigns).2.wrong 71 else ((pTrm p r).2.take relSigns).2).ws.length ≤ ((pTrm p r).2.take relSigns).2.ws.length := by
    split
    · rw [R.wrong_ws]; exact Nat.le_refl _
    · exact Nat.le_refl _
  generalize (if ((pTrm p r).2.take relSigns).1 = [] then ((pTrm p r).2.take relSigns).2.wrong 71 else ((pTrm p r).2.take relSigns).2) = q at *
  have h4 := pTrm_ws h q
  split
  · have := pMod_ws (pTrm p q).2
    simp only; omega
  · simp only; omega
theorem pUna_ws {p : Pz} (h : p.Le) (r : R) : (pUna p r).2.ws.length ≤ r.ws.length := by
  unfold pUna
  simp only
  have ht := r.take_ws unSigns
  split
  · exact Nat.le_trans (h.una _) ht
  · split
    · exact Nat.le_trans (h.qua _ _) ht
    · split
      · exact Nat.le_trans (h.qua _ _) ht
      · split
        · exact Nat.le_trans (R.need_ws _ _) (Nat.le_trans (h.frm _) ht)
        · split
          · exact ht
          · split
            · exact ht
            · exact Nat.le_trans (pAtm_ws h _) ht
theorem pQua_ws {p : Pz} (h : p.Le) (k : Int) (r : R) : (pQua p k r).2.ws.length ≤ r.ws.length := by
  unfold pQua
  simp only
  have h1 := r.word_ws 0
  have h2 := (r.word 0).2.take_ws [[44]]
  split
  · have h3 := ((r.word 0).2.take [[44]]).2.need_ws [46]
    have h4 := pUna_ws h (((r.word 0).2.take [[44]]).2.need [46])
    simp only; omega
  · have := h.qua k ((r.word 0).2.take [[44]]).2
    simp only; omega
theorem pNd_ws {p : Pz} (h : p.Le) (r : R) : (pNd p r).2.ws.length ≤ r.ws.length :=
  Nat.le_trans (loopF_ws h.una _ _ _) (pUna_ws h r)
theorem pOrr_ws {p : Pz} (h : p.Le) (r : R) : (pOrr p r).2.ws.length ≤ r.ws.length :=
  Nat.le_trans (loopF_ws h.nd _ _ _) (pNd_ws h r)
theorem pImp_ws {p : Pz} (h : p.Le) (r : R) : (pImp p r).2.ws.length ≤ r.ws.length := by
  unfold pImp
  simp only
  have h1 := pOrr_ws h r
  have h2 := (pOrr p r).2.take_ws [[45, 62]]
  split
  · simp only; omega
  · have := h.imp ((pOrr p r).2.take [[45, 62]]).2
    simp only; omega
theorem pFrm_ws {p : Pz} (h : p.Le) (r : R) : (pFrm p r).2.ws.length ≤ r.ws.length :=
  Nat.le_trans (loopF_ws h.imp _ _ _) (pImp_ws h r)
theorem Pz.Le.next {p : Pz} (h : p.Le) : p.next.Le :=
  ⟨pFac_ws h, pPrd_ws h, pTrm_ws h, pUna_ws h, pQua_ws h, pNd_ws h, pOrr_ws h, pImp_ws h, pFrm_ws h⟩
theorem pz_le : ∀ n, (pz n).Le
  | 0 => ⟨fun _ => Nat.le_refl _, fun _ => Nat.le_refl _, fun _ => Nat.le_refl _, fun _ => Nat.le_refl _, fun _ _ => Nat.le_refl _, fun _ => Nat.le_refl _, fun _ => Nat.le_refl _, fun _ => Nat.le_refl _, fun _ => Nat.le_refl _⟩
  | n + 1 => (pz_le n).next
end Go.Proofs.L08

namespace Go.Proofs.L08
open Go Aw Go.Proofs
variable {W0 : World}
abbrev CT (W0 : World) (f : Nat) (g : R → T × R) (r : R) : Prop := CallsA Tryd.prog W0 f [r.ps] [.ptr 0 0] fun rs os => rs = [.d (g r).1.dv] ∧ os = [(g r).2.ps]
abbrev CF (W0 : World) (f : Nat) (g : R → F × R) (r : R) : Prop := CallsA Tryd.prog W0 f [r.ps] [.ptr 0 0] fun rs os => rs = [.d (g r).1.dv] ∧ os = [(g r).2.ps]
structure PzOk (W0 : World) (n : Nat) (p : Pz) : Prop where
  fac : ∀ r, r.ws.length < n → CT W0 91 p.fac r
  prd : ∀ r, r.ws.length < n → CT W0 90 p.prd r
  trm : ∀ r, r.ws.length < n → CT W0 88 p.trm r
  una : ∀ r, r.ws.length < n → CF W0 73 p.una r
  qua : ∀ k r, r.ws.length < n → CallsA Tryd.prog W0 81 [r.ps] [.ptr 0 0, .d (.int .i64 k)] fun rs os => rs = [.d (p.qua k r).1.dv] ∧ os = [(p.qua k r).2.ps]
  nd : ∀ r, r.ws.length < n → CF W0 58 p.nd r
  orr : ∀ r, r.ws.length < n → CF W0 36 p.orr r
  imp : ∀ r, r.ws.length < n → CF W0 24 p.imp r
  frm : ∀ r, r.ws.length < n → CF W0 13 p.frm r
theorem R.isK_eq (r : R) (k : Int) : r.isK k = (!r.bad && (match r.ws with | w :: _ => w.kind == k | [] => false)) := rfl
set_option linter.unusedSimpArgs false in
set_option maxRecDepth 100000 in
set_option maxHeartbeats 4000000 in
theorem fac_ok {n : Nat} {p : Pz} (h : PzOk W0 n p) (hp : p.Le) (hn : n < 1000000000) (r : R) (hr : r.ws.length ≤ n) : CT W0 91 (pFac p) r := by
  have ht := take_ok (W0 := W0) r [[91], [45]] (by omega) (by decide) (by decide)
  have hl := R.take_ws r [[91], [45]]
  have hs := R.take_some (r := r) (l := [[91], [45]]) (by decide)
  unfold CT pFac
  simp only
  generalize (r.take [[91], [45]]).1 = t at *
  generalize (r.take [[91], [45]]).2 = r1 at *
  by_cases h1 : t = [91]
  · have e1 : (t == [91]) = true := by simpa using h1
    have hlt := (hs (by rw [h1]; decide)).1
    have hx := h.trm r1 (by omega)
    have hle := hp.trm r1
    simp only [if_pos h1]
    have hq := need_ok (W0 := W0) (p.trm r1).2 [93] (by omega) (by decide)
    unfold CT at hx
    generalize (p.trm r1).1 = a at *
    generalize (p.trm r1).2 = r2 at *
    generalize r2.need [93] = r3 at *
    rcases a with ⟨op, num, name, args⟩
    rw [T.dv] at *
    unfold R.ps at *
    refine calls_of_awp1 tok [.cell 2 45] Tryd.func91 rfl rfl rfl rfl rfl rfl ?_
    ((conv => whnf); (repeat' (first | (refine Br.tt (by first | assumption | with_reducible rfl | with_reducible exact Bool.not_false) ?_; conv => whnf) | (refine Br.ff (by first | assumption | with_reducible rfl | with_reducible exact Bool.not_true) ?_; conv => whnf) | fail)))
    refine Need.of (by decide) ?_
    ((conv => whnf); (repeat' (first | (refine Br.tt (by first | assumption | with_reducible rfl | with_reducible exact Bool.not_false) ?_; conv => whnf) | (refine Br.ff (by first | assumption | with_reducible rfl | with_reducible exact Bool.not_true) ?_; conv => whnf) | fail)))
    refine CallsA.then1 ht ?_
    ((conv => whnf); (repeat' (first | (refine Br.tt (by first | assumption | with_reducible rfl | with_reducible exact Bool.not_false) ?_; conv => whnf) | (refine Br.ff (by first | assumption | with_reducible rfl | with_reducible exact Bool.not_true) ?_; conv => whnf) | fail)))
    refine CallsA.then1 hx ?_
    ((conv => whnf); (repeat' (first | (refine Br.tt (by first | assumption | with_reducible rfl | with_reducible exact Bool.not_false) ?_; conv => whnf) | (refine Br.ff (by first | assumption | with_reducible rfl | with_reducible exact Bool.not_true) ?_; conv => whnf) | fail)))
    refine CallsA.then1 hq ?_
    ((conv => whnf); (repeat' (first | (refine Br.tt (by first | assumption | with_reducible rfl | with_reducible exact Bool.not_false) ?_; conv => whnf) | (refine Br.ff (by first | assumption | with_reducible rfl | with_reducible exact Bool.not_true) ?_; conv => whnf) | fail)))
    (first | exact ⟨rfl, rfl⟩ | exact ⟨trivial, rfl⟩ | exact ⟨rfl, trivial⟩ | exact ⟨trivial, trivial⟩)
  have e1 : (t == [91]) = false := by simpa using h1
  simp only [if_neg h1]
  by_cases h2 : t = [45]
  · have e2 : (t == [45]) = true := by simpa using h2
    have hlt := (hs (by rw [h2]; decide)).1
    have hx := h.fac r1 (by omega)
    simp only [if_pos h2]
    unfold CT at hx
    rw [T.dv, T.dvs, T.dvs]
    generalize (p.fac r1).1 = a at *
    generalize (p.fac r1).2 = r2 at *
    rcases a with ⟨op, num, name, args⟩
    rw [T.dv] at *
    unfold R.ps at *
    refine calls_of_awp1 tok [.cell 2 45] Tryd.func91 rfl rfl rfl rfl rfl rfl ?_
    ((conv => whnf); (repeat' (first | (refine Br.tt (by first | assumption | with_reducible rfl | with_reducible exact Bool.not_false) ?_; conv => whnf) | (refine Br.ff (by first | assumption | with_reducible rfl | with_reducible exact Bool.not_true) ?_; conv => whnf) | fail)))
    refine Need.of (by decide) ?_
    ((conv => whnf); (repeat' (first | (refine Br.tt (by first | assumption | with_reducible rfl | with_reducible exact Bool.not_false) ?_; conv => whnf) | (refine Br.ff (by first | assumption | with_reducible rfl | with_reducible exact Bool.not_true) ?_; conv => whnf) | fail)))
    refine CallsA.then1 ht ?_
    ((conv => whnf); (repeat' (first | (refine Br.tt (by first | assumption | with_reducible rfl | with_reducible exact Bool.not_false) ?_; conv => whnf) | (refine Br.ff (by first | assumption | with_reducible rfl | with_reducible exact Bool.not_true) ?_; conv => whnf) | fail)))
    refine CallsA.then1 hx ?_
    ((conv => whnf); (repeat' (first | (refine Br.tt (by first | assumption | with_reducible rfl | with_reducible exact Bool.not_false) ?_; conv => whnf) | (refine Br.ff (by first | assumption | with_reducible rfl | with_reducible exact Bool.not_true) ?_; conv => whnf) | fail)))
    refine Need.of (by intro y hy; simp at hy; subst hy; rfl) ?_
    ((conv => whnf); (repeat' (first | (refine Br.tt (by first | assumption | with_reducible rfl | with_reducible exact Bool.not_false) ?_; conv => whnf) | (refine Br.ff (by first | assumption | with_reducible rfl | with_reducible exact Bool.not_true) ?_; conv => whnf) | fail)))
    (first | exact ⟨rfl, rfl⟩ | exact ⟨trivial, rfl⟩ | exact ⟨rfl, trivial⟩ | exact ⟨trivial, trivial⟩)
  have e2 : (t == [45]) = false := by simpa using h2
  simp only [if_neg h2]
  have hb := bad_ok (W0 := W0) r1
  have hw0 := word_ok (W0 := W0) r1 0 (by omega)
  have hw1 := word_ok (W0 := W0) r1 1 (by omega)
  have hk := R.isK_eq r1 0
  by_cases h3 : r1.isK 0 = true
  · simp only [if_pos h3]
    rw [T.dv, T.dvs]
    rw [h3] at hk
    generalize (r1.word 0).1 = a at *
    generalize (r1.word 0).2 = r2 at *
    have hbf : r1.bad = false := by cases hq : r1.bad with | false => rfl | true => rw [hq] at hk; cases hk
    rw [hbf] at hb
    rw [hbf] at hk
    rcases r1 with ⟨ws, eb, ec, why, fb, fc⟩
    cases ws with
    | nil => cases hk
    | cons w l =>
      rcases a with ⟨k1, tx, nm, b1, c1⟩
      rcases w with ⟨k', t', n', b', c'⟩
      have hk' : (k' == 0) = true := by simpa using hk.symm
      have hg0 : decide ((((⟨k', t', n', b', c'⟩ : Wd) :: l).map Wd.dv).length > (0 : Int)) = true := by simp only [List.length_map, List.length_cons, decide_eq_true_eq]; omega
      unfold R.ps at *
      unfold Wd.dv at hw0
      refine calls_of_awp1 tok [.cell 2 45] Tryd.func91 rfl rfl rfl rfl rfl rfl ?_
      ((conv => whnf); (repeat' (first | (refine Br.tt (by first | assumption | with_reducible rfl | with_reducible exact Bool.not_false) ?_; conv => whnf) | (refine Br.ff (by first | assumption | with_reducible rfl | with_reducible exact Bool.not_true) ?_; conv => whnf) | fail)))
      refine Need.of (by decide) ?_
      ((conv => whnf); (repeat' (first | (refine Br.tt (by first | assumption | with_reducible rfl | with_reducible exact Bool.not_false) ?_; conv => whnf) | (refine Br.ff (by first | assumption | with_reducible rfl | with_reducible exact Bool.not_true) ?_; conv => whnf) | fail)))
      refine CallsA.then1 ht ?_
      ((conv => whnf); (repeat' (first | (refine Br.tt (by first | assumption | with_reducible rfl | with_reducible exact Bool.not_false) ?_; conv => whnf) | (refine Br.ff (by first | assumption | with_reducible rfl | with_reducible exact Bool.not_true) ?_; conv => whnf) | fail)))
      refine CallsA.then1 hb ?_
      ((conv => whnf); (repeat' (first | (refine Br.tt (by first | assumption | with_reducible rfl | with_reducible exact Bool.not_false) ?_; conv => whnf) | (refine Br.ff (by first | assumption | with_reducible rfl | with_reducible exact Bool.not_true) ?_; conv => whnf) | (refine Br.tt rfl ?_; conv => whnf) | (refine Br.ff rfl ?_; conv => whnf) | fail)))
      refine Idx.of _ (by decide) rfl rfl ?_
      ((conv => whnf); (repeat' (first | (refine Br.tt (by first | assumption | with_reducible rfl | with_reducible exact Bool.not_false) ?_; conv => whnf) | (refine Br.ff (by first | assumption | with_reducible rfl | with_reducible exact Bool.not_true) ?_; conv => whnf) | fail)))
      refine CallsA.then1 hw0 ?_
      ((conv => whnf); (repeat' (first | (refine Br.tt (by first | assumption | with_reducible rfl | with_reducible exact Bool.not_false) ?_; conv => whnf) | (refine Br.ff (by first | assumption | with_reducible rfl | with_reducible exact Bool.not_true) ?_; conv => whnf) | fail)))
      (first | exact ⟨rfl, rfl⟩ | exact ⟨trivial, rfl⟩ | exact ⟨rfl, trivial⟩ | exact ⟨trivial, trivial⟩)
  have h3' : r1.isK 0 = false := by simpa using h3
  simp only [if_neg h3]
  rw [T.dv, T.dvs]
  rw [h3'] at hk
  generalize (r1.word 1).1 = a at *
  generalize (r1.word 1).2 = r2 at *
  clear h3 h3' hw0
  rcases a with ⟨k1, tx, nm, b1, c1⟩
  by_cases hbd : r1.bad = true
  · rw [hbd] at hb
    unfold R.ps at *
    unfold Wd.dv at hw1
    refine calls_of_awp1 tok [.cell 2 45] Tryd.func91 rfl rfl rfl rfl rfl rfl ?_
    ((conv => whnf); (repeat' (first | (refine Br.tt (by first | assumption | with_reducible rfl | with_reducible exact Bool.not_false) ?_; conv => whnf) | (refine Br.ff (by first | assumption | with_reducible rfl | with_reducible exact Bool.not_true) ?_; conv => whnf) | fail)))
    refine Need.of (by decide) ?_
    ((conv => whnf); (repeat' (first | (refine Br.tt (by first | assumption | with_reducible rfl | with_reducible exact Bool.not_false) ?_; conv => whnf) | (refine Br.ff (by first | assumption | with_reducible rfl | with_reducible exact Bool.not_true) ?_; conv => whnf) | fail)))
    refine CallsA.then1 ht ?_
    ((conv => whnf); (repeat' (first | (refine Br.tt (by first | assumption | with_reducible rfl | with_reducible exact Bool.not_false) ?_; conv => whnf) | (refine Br.ff (by first | assumption | with_reducible rfl | with_reducible exact Bool.not_true) ?_; conv => whnf) | fail)))
    refine CallsA.then1 hb ?_
    ((conv => whnf); (repeat' (first | (refine Br.tt (by first | assumption | with_reducible rfl | with_reducible exact Bool.not_false) ?_; conv => whnf) | (refine Br.ff (by first | assumption | with_reducible rfl | with_reducible exact Bool.not_true) ?_; conv => whnf) | (refine Br.tt rfl ?_; conv => whnf) | (refine Br.ff rfl ?_; conv => whnf) | fail)))
    refine CallsA.then1 hw1 ?_
    ((conv => whnf); (repeat' (first | (refine Br.tt (by first | assumption | with_reducible rfl | with_reducible exact Bool.not_false) ?_; conv => whnf) | (refine Br.ff (by first | assumption | with_reducible rfl | with_reducible exact Bool.not_true) ?_; conv => whnf) | fail)))
    (first | exact ⟨rfl, rfl⟩ | exact ⟨trivial, rfl⟩ | exact ⟨rfl, trivial⟩ | exact ⟨trivial, trivial⟩)
  have hbf : r1.bad = false := by simpa using hbd
  rw [hbf] at hb
  rw [hbf] at hk
  clear hbd hbf
  rcases r1 with ⟨ws, eb, ec, why, fb, fc⟩
  cases ws with
  | nil =>
    unfold R.ps at *
    unfold Wd.dv at hw1
    refine calls_of_awp1 tok [.cell 2 45] Tryd.func91 rfl rfl rfl rfl rfl rfl ?_
    ((conv => whnf); (repeat' (first | (refine Br.tt (by first | assumption | with_reducible rfl | with_reducible exact Bool.not_false) ?_; conv => whnf) | (refine Br.ff (by first | assumption | with_reducible rfl | with_reducible exact Bool.not_true) ?_; conv => whnf) | fail)))
    refine Need.of (by decide) ?_
    ((conv => whnf); (repeat' (first | (refine Br.tt (by first | assumption | with_reducible rfl | with_reducible exact Bool.not_false) ?_; conv => whnf) | (refine Br.ff (by first | assumption | with_reducible rfl | with_reducible exact Bool.not_true) ?_; conv => whnf) | fail)))
    refine CallsA.then1 ht ?_
    ((conv => whnf); (repeat' (first | (refine Br.tt (by first | assumption | with_reducible rfl | with_reducible exact Bool.not_false) ?_; conv => whnf) | (refine Br.ff (by first | assumption | with_reducible rfl | with_reducible exact Bool.not_true) ?_; conv => whnf) | fail)))
    refine CallsA.then1 hb ?_
    ((conv => whnf); (repeat' (first | (refine Br.tt (by first | assumption | with_reducible rfl | with_reducible exact Bool.not_false) ?_; conv => whnf) | (refine Br.ff (by first | assumption | with_reducible rfl | with_reducible exact Bool.not_true) ?_; conv => whnf) | (refine Br.tt rfl ?_; conv => whnf) | (refine Br.ff rfl ?_; conv => whnf) | fail)))
    refine CallsA.then1 hw1 ?_
    ((conv => whnf); (repeat' (first | (refine Br.tt (by first | assumption | with_reducible rfl | with_reducible exact Bool.not_false) ?_; conv => whnf) | (refine Br.ff (by first | assumption | with_reducible rfl | with_reducible exact Bool.not_true) ?_; conv => whnf) | fail)))
    (first | exact ⟨rfl, rfl⟩ | exact ⟨trivial, rfl⟩ | exact ⟨rfl, trivial⟩ | exact ⟨trivial, trivial⟩)
  | cons w l =>
    rcases w with ⟨k', t', n', b', c'⟩
    have hk' : (k' == 0) = false := by simpa using hk.symm
    have hg0 : decide ((((⟨k', t', n', b', c'⟩ : Wd) :: l).map Wd.dv).length > (0 : Int)) = true := by simp only [List.length_map, List.length_cons, decide_eq_true_eq]; omega
    unfold R.ps at *
    unfold Wd.dv at hw1
    refine calls_of_awp1 tok [.cell 2 45] Tryd.func91 rfl rfl rfl rfl rfl rfl ?_
    ((conv => whnf); (repeat' (first | (refine Br.tt (by first | assumption | with_reducible rfl | with_reducible exact Bool.not_false) ?_; conv => whnf) | (refine Br.ff (by first | assumption | with_reducible rfl | with_reducible exact Bool.not_true) ?_; conv => whnf) | fail)))
    refine Need.of (by decide) ?_
    ((conv => whnf); (repeat' (first | (refine Br.tt (by first | assumption | with_reducible rfl | with_reducible exact Bool.not_false) ?_; conv => whnf) | (refine Br.ff (by first | assumption | with_reducible rfl | with_reducible exact Bool.not_true) ?_; conv => whnf) | fail)))
    refine CallsA.then1 ht ?_
    ((conv => whnf); (repeat' (first | (refine Br.tt (by first | assumption | with_reducible rfl | with_reducible exact Bool.not_false) ?_; conv => whnf) | (refine Br.ff (by first | assumption | with_reducible rfl | with_reducible exact Bool.not_true) ?_; conv => whnf) | fail)))
    refine CallsA.then1 hb ?_
    ((conv => whnf); (repeat' (first | (refine Br.tt (by first | assumption | with_reducible rfl | with_reducible exact Bool.not_false) ?_; conv => whnf) | (refine Br.ff (by first | assumption | with_reducible rfl | with_reducible exact Bool.not_true) ?_; conv => whnf) | (refine Br.tt rfl ?_; conv => whnf) | (refine Br.ff rfl ?_; conv => whnf) | fail)))
    refine Idx.of _ (by decide) rfl rfl ?_
    ((conv => whnf); (repeat' (first | (refine Br.tt (by first | assumption | with_reducible rfl | with_reducible exact Bool.not_false) ?_; conv => whnf) | (refine Br.ff (by first | assumption | with_reducible rfl | with_reducible exact Bool.not_true) ?_; conv => whnf) | fail)))
    refine CallsA.then1 hw1 ?_
    ((conv => whnf); (repeat' (first | (refine Br.tt (by first | assumption | with_reducible rfl | with_reducible exact Bool.not_false) ?_; conv => whnf) | (refine Br.ff (by first | assumption | with_reducible rfl | with_reducible exact Bool.not_true) ?_; conv => whnf) | fail)))
    (first | exact ⟨rfl, rfl⟩ | exact ⟨trivial, rfl⟩ | exact ⟨rfl, trivial⟩ | exact ⟨trivial, trivial⟩)
end Go.Proofs.L08

namespace Go.Proofs.L08
open Go Aw Go.Proofs
variable {W0 : World}
def T.op : T → Int | .mk o _ _ _ => o
def T.num : T → Int | .mk _ n _ _ => n
def T.nam : T → List UInt8 | .mk _ _ s _ => s
def T.args : T → List T | .mk _ _ _ l => l
theorem T.dv_eq (t : T) : t.dv = .agg [.int .i64 t.op, .int .i64 t.num, .str t.nam, .sl (T.dvs t.args)] := by
  rcases t with ⟨op, num, name, args⟩; rw [T.dv]; rfl
def F.op : F → Int | .mk o _ _ _ _ => o
def F.nam : F → List UInt8 | .mk _ s _ _ _ => s
def F.md : F → Int | .mk _ _ m _ _ => m
def F.ts : F → List T | .mk _ _ _ l _ => l
def F.fs : F → List F | .mk _ _ _ _ l => l
theorem F.dv_eq (t : F) : t.dv = .agg [.int .i64 t.op, .str t.nam, .int .i64 t.md, .sl (T.dvs t.ts), .sl (F.dvs t.fs)] := by
  rcases t with ⟨op, name, md, ts, fs⟩; rw [F.dv]; rfl
theorem T.bin_args (k : Int) (t x : T) : T.dvs (T.bin k t x).args = [.agg [.int .i64 t.op, .int .i64 t.num, .str t.nam, .sl (T.dvs t.args)], .agg [.int .i64 x.op, .int .i64 x.num, .str x.nam, .sl (T.dvs x.args)]] := by
  show T.dvs [t, x] = _
  rw [T.dvs, T.dvs, T.dvs, T.dv_eq t, T.dv_eq x]
theorem T.bin_dv (k : Int) (t x : T) : (T.bin k t x).dv = .agg [.int .i64 k, .int .i64 0, .str [], .sl [.agg [.int .i64 t.op, .int .i64 t.num, .str t.nam, .sl (T.dvs t.args)], .agg [.int .i64 x.op, .int .i64 x.num, .str x.nam, .sl (T.dvs x.args)]]] := by
  rw [T.dv_eq, T.bin_args]; rfl
set_option linter.unusedSimpArgs false in
set_option maxRecDepth 100000 in
set_option maxHeartbeats 4000000 in
theorem prd_ok {n : Nat} {p : Pz} (h : PzOk W0 n p) (hp : p.Le) (hn : n < 1000000000) (r : R) (hr : r.ws.length ≤ n) : CT W0 90 (pPrd p) r := by
  have hf := fac_ok h hp hn r hr
  have hfw := pFac_ws hp r
  unfold CT pPrd at *
  generalize (pFac p r).1 = a0 at *
  generalize (pFac p r).2 = r0 at *
  generalize hK : loopT (fun _ => 5) [[42]] p.fac (r0.ws.length + 1) a0 r0 = K
  rw [T.dv_eq] at hf ⊢
  unfold R.ps at hf ⊢
  refine calls_of_awp1 tok [.cell 2 45] Tryd.func90 rfl rfl rfl rfl rfl rfl ?_
  ((conv => whnf); (repeat' (first | (refine Br.tt (by first | assumption | with_reducible rfl | with_reducible exact Bool.not_false) ?_; conv => whnf) | (refine Br.ff (by first | assumption | with_reducible rfl | with_reducible exact Bool.not_true) ?_; conv => whnf) | fail)))
  refine CallsA.then1 hf ?_
  ((conv => whnf); (repeat' (first | (refine Br.tt (by first | assumption | with_reducible rfl | with_reducible exact Bool.not_false) ?_; conv => whnf) | (refine Br.ff (by first | assumption | with_reducible rfl | with_reducible exact Bool.not_true) ?_; conv => whnf) | fail)))
  refine loop_by3 (fun (k : Nat) (t : T) (q : R) => q.ws.length < k ∧ q.ws.length ≤ n ∧ loopT (fun _ => 5) [[42]] p.fac k t q = K)
    (fun _ _ _ => mkT [(0, .ptr 50000 0), (2, .ptr 2 0), (3, .ptr 3 0)])
    (fun _ t q => mkT [(50000, .box [.d (.sl (q.ws.map Wd.dv)), .d (.int .i64 q.eb), .d (.int .i64 q.ec), .d (.int .i64 q.why), .d (.int .i64 q.fb), .d (.int .i64 q.fc)]),
      (2, .box [.d (.int .i64 0), .d (.int .i64 0), .d (.str []), .nil 4]), (3, .box [.d (.int .i64 t.op), .d (.int .i64 t.num), .d (.str t.nam), .d (.sl (T.dvs t.args))])])
    (fun k _ _ => k) (r0.ws.length + 1) a0 r0 ⟨by omega, by omega, hK⟩
    (Weak.of [] rfl rfl ⟨⟨_, rfl, rfl⟩, ⟨_, rfl, rfl⟩, ⟨_, rfl, rfl⟩, trivial⟩ ⟨⟨_, rfl, ⟨rfl, rfl, rfl, rfl, rfl, rfl, trivial⟩⟩, ⟨_, rfl, ⟨rfl, rfl, rfl, rfl, trivial⟩⟩, ⟨_, rfl, ⟨rfl, rfl, rfl, rfl, trivial⟩⟩, trivial⟩) ?_
  intro k t q ⟨hk, hq, e⟩
  obtain ⟨k', rfl⟩ : ∃ k', k = k' + 1 := ⟨k - 1, by omega⟩
  have ht := take_ok (W0 := W0) q [[42]] (by omega) (by decide) (by decide)
  have hl := R.take_ws q [[42]]
  have hs := R.take_some (r := q) (l := [[42]]) (by decide)
  rw [loopT] at e
  generalize (q.take [[42]]).1 = s at *
  generalize (q.take [[42]]).2 = q1 at *
  unfold R.ps at ht
  ((conv => whnf); (repeat' (first | (refine Br.tt (by first | assumption | with_reducible rfl | with_reducible exact Bool.not_false) ?_; conv => whnf) | (refine Br.ff (by first | assumption | with_reducible rfl | with_reducible exact Bool.not_true) ?_; conv => whnf) | fail)))
  refine Need.of (by decide) ?_
  ((conv => whnf); (repeat' (first | (refine Br.tt (by first | assumption | with_reducible rfl | with_reducible exact Bool.not_false) ?_; conv => whnf) | (refine Br.ff (by first | assumption | with_reducible rfl | with_reducible exact Bool.not_true) ?_; conv => whnf) | fail)))
  refine CallsA.then1 ht ?_
  ((conv => whnf); (repeat' (first | (refine Br.tt (by first | assumption | with_reducible rfl | with_reducible exact Bool.not_false) ?_; conv => whnf) | (refine Br.ff (by first | assumption | with_reducible rfl | with_reducible exact Bool.not_true) ?_; conv => whnf) | fail)))
  by_cases h1 : s = []
  · have e1 : (s != []) = false := by simpa using h1
    rw [if_pos h1] at e
    subst e
    ((conv => whnf); (repeat' (first | (refine Br.tt (by first | assumption | with_reducible rfl | with_reducible exact Bool.not_false) ?_; conv => whnf) | (refine Br.ff (by first | assumption | with_reducible rfl | with_reducible exact Bool.not_true) ?_; conv => whnf) | fail)))
    exact ⟨rfl, rfl⟩
  · have e1 : (s != []) = true := by simpa using h1
    rw [if_neg h1] at e
    have hlt := (hs h1).1
    have hx := h.fac q1 (by omega)
    have hxw := hp.fac q1
    unfold CT at hx
    generalize (p.fac q1).1 = b at *
    generalize (p.fac q1).2 = q2 at *
    rw [T.dv_eq] at hx
    unfold R.ps at hx
    ((conv => whnf); (repeat' (first | (refine Br.tt (by first | assumption | with_reducible rfl | with_reducible exact Bool.not_false) ?_; conv => whnf) | (refine Br.ff (by first | assumption | with_reducible rfl | with_reducible exact Bool.not_true) ?_; conv => whnf) | fail)))
    refine ⟨by kernel_rfl, ?_⟩
    ((conv => whnf); (repeat' (first | (refine Br.tt (by first | assumption | with_reducible rfl | with_reducible exact Bool.not_false) ?_; conv => whnf) | (refine Br.ff (by first | assumption | with_reducible rfl | with_reducible exact Bool.not_true) ?_; conv => whnf) | fail)))
    refine CallD.of1 hx ?_
    ((conv => whnf); (repeat' (first | (refine Br.tt (by first | assumption | with_reducible rfl | with_reducible exact Bool.not_false) ?_; conv => whnf) | (refine Br.ff (by first | assumption | with_reducible rfl | with_reducible exact Bool.not_true) ?_; conv => whnf) | fail)))
    refine Need.of (by intro y hy; simp at hy; rcases hy with rfl | rfl <;> rfl) ?_
    ((conv => whnf); (repeat' (first | (refine Br.tt (by first | assumption | with_reducible rfl | with_reducible exact Bool.not_false) ?_; conv => whnf) | (refine Br.ff (by first | assumption | with_reducible rfl | with_reducible exact Bool.not_true) ?_; conv => whnf) | fail)))
    refine ⟨k', T.bin 5 t b, q2, ⟨⟨by omega, by omega, e⟩, by omega⟩, (Weak.sealed 13 rfl rfl).trans
      (Weak.of [] rfl rfl ⟨⟨_, rfl, rfl⟩, ⟨_, rfl, rfl⟩, ⟨_, rfl, rfl⟩, trivial⟩ ⟨⟨_, rfl, ⟨rfl, rfl, rfl, rfl, rfl, rfl, trivial⟩⟩, ⟨_, rfl, ⟨rfl, rfl, rfl, rfl, trivial⟩⟩, ⟨_, rfl, ⟨rfl, rfl, rfl, by rw [T.bin_args]; rfl, trivial⟩⟩, trivial⟩)⟩
end Go.Proofs.L08

namespace Go.Proofs.L08
open Go Aw Go.Proofs
variable {W0 : World}
set_option linter.unusedSimpArgs false in
set_option maxRecDepth 100000 in
set_option maxHeartbeats 4000000 in
theorem trm_ok {n : Nat} {p : Pz} (h : PzOk W0 n p) (hp : p.Le) (hn : n < 1000000000) (r : R) (hr : r.ws.length ≤ n) : CT W0 88 (pTrm p) r := by
  have hf := prd_ok h hp hn r hr
  have hfw := pPrd_ws hp r
  unfold CT pTrm at *
  generalize (pPrd p r).1 = a0 at *
  generalize (pPrd p r).2 = r0 at *
  generalize hK : loopT sumK [[43], [45]] p.prd (r0.ws.length + 1) a0 r0 = K
  rw [T.dv_eq] at hf ⊢
  unfold R.ps at hf ⊢
  refine calls_of_awp1 tok [.cell 2 45] Tryd.func88 rfl rfl rfl rfl rfl rfl ?_
  ((conv => whnf); (repeat' (first | (refine Br.tt (by first | assumption | with_reducible rfl | with_reducible exact Bool.not_false) ?_; conv => whnf) | (refine Br.ff (by first | assumption | with_reducible rfl | with_reducible exact Bool.not_true) ?_; conv => whnf) | fail)))
  refine CallsA.then1 hf ?_
  ((conv => whnf); (repeat' (first | (refine Br.tt (by first | assumption | with_reducible rfl | with_reducible exact Bool.not_false) ?_; conv => whnf) | (refine Br.ff (by first | assumption | with_reducible rfl | with_reducible exact Bool.not_true) ?_; conv => whnf) | fail)))
  refine loop_by3 (fun (k : Nat) (t : T) (q : R) => q.ws.length < k ∧ q.ws.length ≤ n ∧ loopT sumK [[43], [45]] p.prd k t q = K)
    (fun _ _ _ => mkT [(0, .ptr 50000 0), (2, .ptr 2 0), (3, .ptr 3 0)])
    (fun _ t q => mkT [(50000, .box [.d (.sl (q.ws.map Wd.dv)), .d (.int .i64 q.eb), .d (.int .i64 q.ec), .d (.int .i64 q.why), .d (.int .i64 q.fb), .d (.int .i64 q.fc)]),
      (2, .box [.d (.int .i64 0), .d (.int .i64 0), .d (.str []), .nil 4]), (3, .box [.d (.int .i64 t.op), .d (.int .i64 t.num), .d (.str t.nam), .d (.sl (T.dvs t.args))])])
    (fun k _ _ => k) (r0.ws.length + 1) a0 r0 ⟨by omega, by omega, hK⟩
    (Weak.of [] rfl rfl ⟨⟨_, rfl, rfl⟩, ⟨_, rfl, rfl⟩, ⟨_, rfl, rfl⟩, trivial⟩ ⟨⟨_, rfl, ⟨rfl, rfl, rfl, rfl, rfl, rfl, trivial⟩⟩, ⟨_, rfl, ⟨rfl, rfl, rfl, rfl, trivial⟩⟩, ⟨_, rfl, ⟨rfl, rfl, rfl, rfl, trivial⟩⟩, trivial⟩) ?_
  intro k t q ⟨hk, hq, e⟩
  obtain ⟨k', rfl⟩ : ∃ k', k = k' + 1 := ⟨k - 1, by omega⟩
  have ht := take_ok (W0 := W0) q [[43], [45]] (by omega) (by decide) (by decide)
  have hl := R.take_ws q [[43], [45]]
  have hs := R.take_some (r := q) (l := [[43], [45]]) (by decide)
  rw [loopT] at e
  generalize (q.take [[43], [45]]).1 = s at *
  generalize (q.take [[43], [45]]).2 = q1 at *
  unfold R.ps at ht
  ((conv => whnf); (repeat' (first | (refine Br.tt (by first | assumption | with_reducible rfl | with_reducible exact Bool.not_false) ?_; conv => whnf) | (refine Br.ff (by first | assumption | with_reducible rfl | with_reducible exact Bool.not_true) ?_; conv => whnf) | fail)))
  refine Need.of (by decide) ?_
  ((conv => whnf); (repeat' (first | (refine Br.tt (by first | assumption | with_reducible rfl | with_reducible exact Bool.not_false) ?_; conv => whnf) | (refine Br.ff (by first | assumption | with_reducible rfl | with_reducible exact Bool.not_true) ?_; conv => whnf) | fail)))
  refine CallsA.then1 ht ?_
  ((conv => whnf); (repeat' (first | (refine Br.tt (by first | assumption | with_reducible rfl | with_reducible exact Bool.not_false) ?_; conv => whnf) | (refine Br.ff (by first | assumption | with_reducible rfl | with_reducible exact Bool.not_true) ?_; conv => whnf) | fail)))
  by_cases h1 : s = []
  · have e1 : (s == [43]) = false := by rw [h1]; rfl
    have e2 : (s == [45]) = false := by rw [h1]; rfl
    rw [if_pos h1] at e
    subst e
    ((conv => whnf); (repeat' (first | (refine Br.tt (by first | assumption | with_reducible rfl | with_reducible exact Bool.not_false) ?_; conv => whnf) | (refine Br.ff (by first | assumption | with_reducible rfl | with_reducible exact Bool.not_true) ?_; conv => whnf) | fail)))
    exact ⟨rfl, rfl⟩
  · rw [if_neg h1] at e
    have hlt := (hs h1).1
    have hmem := (hs h1).2.2
    have hx := h.prd q1 (by omega)
    have hxw := hp.prd q1
    unfold CT at hx
    generalize (p.prd q1).1 = b at *
    generalize (p.prd q1).2 = q2 at *
    rw [T.dv_eq] at hx
    unfold R.ps at hx
    have hcase : s = [43] ∨ s = [45] := by simpa using hmem
    rcases hcase with rfl | rfl
    · ((conv => whnf); (repeat' (first | (refine Br.tt (by first | assumption | with_reducible rfl | with_reducible exact Bool.not_false) ?_; conv => whnf) | (refine Br.ff (by first | assumption | with_reducible rfl | with_reducible exact Bool.not_true) ?_; conv => whnf) | (refine Br.tt rfl ?_; conv => whnf) | (refine Br.ff rfl ?_; conv => whnf) | fail)))
      refine ⟨by kernel_rfl, ?_⟩
      ((conv => whnf); (repeat' (first | (refine Br.tt (by first | assumption | with_reducible rfl | with_reducible exact Bool.not_false) ?_; conv => whnf) | (refine Br.ff (by first | assumption | with_reducible rfl | with_reducible exact Bool.not_true) ?_; conv => whnf) | fail)))
      refine CallD.of1 hx ?_
      ((conv => whnf); (repeat' (first | (refine Br.tt (by first | assumption | with_reducible rfl | with_reducible exact Bool.not_false) ?_; conv => whnf) | (refine Br.ff (by first | assumption | with_reducible rfl | with_reducible exact Bool.not_true) ?_; conv => whnf) | fail)))
      refine Need.of (by intro y hy; simp at hy; rcases hy with rfl | rfl <;> rfl) ?_
      ((conv => whnf); (repeat' (first | (refine Br.tt (by first | assumption | with_reducible rfl | with_reducible exact Bool.not_false) ?_; conv => whnf) | (refine Br.ff (by first | assumption | with_reducible rfl | with_reducible exact Bool.not_true) ?_; conv => whnf) | fail)))
      refine ⟨k', T.bin 3 t b, q2, ⟨⟨by omega, by omega, e⟩, by omega⟩, (Weak.sealed 15 rfl rfl).trans
        (Weak.of [] rfl rfl ⟨⟨_, rfl, rfl⟩, ⟨_, rfl, rfl⟩, ⟨_, rfl, rfl⟩, trivial⟩ ⟨⟨_, rfl, ⟨rfl, rfl, rfl, rfl, rfl, rfl, trivial⟩⟩, ⟨_, rfl, ⟨rfl, rfl, rfl, rfl, trivial⟩⟩, ⟨_, rfl, ⟨rfl, rfl, rfl, by rw [T.bin_args]; rfl, trivial⟩⟩, trivial⟩)⟩
    · ((conv => whnf); (repeat' (first | (refine Br.tt (by first | assumption | with_reducible rfl | with_reducible exact Bool.not_false) ?_; conv => whnf) | (refine Br.ff (by first | assumption | with_reducible rfl | with_reducible exact Bool.not_true) ?_; conv => whnf) | (refine Br.tt rfl ?_; conv => whnf) | (refine Br.ff rfl ?_; conv => whnf) | fail)))
      refine ⟨by kernel_rfl, ?_⟩
      ((conv => whnf); (repeat' (first | (refine Br.tt (by first | assumption | with_reducible rfl | with_reducible exact Bool.not_false) ?_; conv => whnf) | (refine Br.ff (by first | assumption | with_reducible rfl | with_reducible exact Bool.not_true) ?_; conv => whnf) | fail)))
      refine CallD.of1 hx ?_
      ((conv => whnf); (repeat' (first | (refine Br.tt (by first | assumption | with_reducible rfl | with_reducible exact Bool.not_false) ?_; conv => whnf) | (refine Br.ff (by first | assumption | with_reducible rfl | with_reducible exact Bool.not_true) ?_; conv => whnf) | fail)))
      refine Need.of (by intro y hy; simp at hy; rcases hy with rfl | rfl <;> rfl) ?_
      ((conv => whnf); (repeat' (first | (refine Br.tt (by first | assumption | with_reducible rfl | with_reducible exact Bool.not_false) ?_; conv => whnf) | (refine Br.ff (by first | assumption | with_reducible rfl | with_reducible exact Bool.not_true) ?_; conv => whnf) | fail)))
      refine ⟨k', T.bin 4 t b, q2, ⟨⟨by omega, by omega, e⟩, by omega⟩, (Weak.sealed 22 rfl rfl).trans
        (Weak.of [] rfl rfl ⟨⟨_, rfl, rfl⟩, ⟨_, rfl, rfl⟩, ⟨_, rfl, rfl⟩, trivial⟩ ⟨⟨_, rfl, ⟨rfl, rfl, rfl, rfl, rfl, rfl, trivial⟩⟩, ⟨_, rfl, ⟨rfl, rfl, rfl, rfl, trivial⟩⟩, ⟨_, rfl, ⟨rfl, rfl, rfl, by rw [T.bin_args]; rfl, trivial⟩⟩, trivial⟩)⟩
theorem T.two_dvs (t x : T) : T.dvs [t, x] = [.agg [.int .i64 t.op, .int .i64 t.num, .str t.nam, .sl (T.dvs t.args)], .agg [.int .i64 x.op, .int .i64 x.num, .str x.nam, .sl (T.dvs x.args)]] := T.bin_args 0 t x
theorem relOf_cases (s : List UInt8) : 9 ≤ relOf s ∧ relOf s ≤ 15 := by
  unfold relOf
  repeat' split
  all_goals decide
set_option linter.unusedSimpArgs false in
set_option maxRecDepth 100000 in
set_option maxHeartbeats 4000000 in
theorem atm_ok {n : Nat} {p : Pz} (h : PzOk W0 n p) (hp : p.Le) (hn : n < 1000000000) (r : R) (hr : r.ws.length ≤ n) : CF W0 83 (pAtm p) r := by
  have h1 := trm_ok h hp hn r hr
  have w1 := pTrm_ws hp r
  unfold CF pAtm
  unfold CT at h1
  simp only
  generalize (pTrm p r).1 = a at *
  generalize (pTrm p r).2 = r1 at *
  have h2 := take_ok (W0 := W0) r1 relSigns (by omega) (by decide) (by decide)
  have w2 := R.take_ws r1 relSigns
  generalize (r1.take relSigns).1 = s at *
  generalize (r1.take relSigns).2 = r2 at *
  have h3 := wrong_ok (W0 := W0) r2 71
  have w3 : (if s = [] then r2.wrong 71 else r2).ws.length ≤ n := by split; rw [R.wrong_ws]; omega; omega
  generalize hr3 : (if s = [] then r2.wrong 71 else r2) = r3 at *
  have h4 := relation_ok (W0 := W0) s
  have h5 := trm_ok h hp hn r3 w3
  have w5 := pTrm_ws hp r3
  unfold CT at h5
  generalize (pTrm p r3).1 = b at *
  generalize (pTrm p r3).2 = r5 at *
  have hrel := relOf_cases s
  generalize hk : relOf s = k at *
  rw [T.dv_eq] at h1 h5
  have h6 := need_ok (W0 := W0) r5 [109, 111, 100] (by omega) (by decide)
  have w6 := r5.need_ws [109, 111, 100]
  unfold pMod
  simp only
  generalize r5.need [109, 111, 100] = r6 at *
  have h7 := bad_ok (W0 := W0) r6
  have h8 := wrong_ok (W0 := W0) r6 92
  have w8 : (if r6.nought = true then r6.wrong 92 else r6).ws.length ≤ n := by split; rw [R.wrong_ws]; omega; omega
  generalize hr8 : (if r6.nought = true then r6.wrong 92 else r6) = r8 at *
  have h9 := word_ok (W0 := W0) r8 1 (by omega)
  generalize (r8.word 1).1 = wd at *
  generalize (r8.word 1).2 = r9 at *
  have hno : r6.nought = (!r6.bad && (match r6.ws with | w :: _ => w.kind == 1 && w.num == 0 | [] => false)) := by
    unfold R.nought R.isK
    cases r6.bad <;> cases r6.ws <;> simp
  -- from the second term on
  have tail : ∀ (rx : R), (s = [] → rx = r2.wrong 71) → (s ≠ [] → rx = r2) → rx = r3 := by
    intro rx e1 e2
    rw [← hr3]
    split
    · exact e1 (by assumption)
    · exact e2 (by assumption)
  rcases wd with ⟨k1, tx, nm, b1, c1⟩
  unfold Wd.dv at h9
  unfold R.ps at *
  refine calls_of_awp1 tok [.cell 2 26] Tryd.func83 rfl rfl rfl rfl rfl rfl ?_
  ((conv => whnf); (repeat' (first | (refine Br.tt (by first | assumption | with_reducible rfl | with_reducible exact Bool.not_false) ?_; conv => whnf) | (refine Br.ff (by first | assumption | with_reducible rfl | with_reducible exact Bool.not_true) ?_; conv => whnf) | fail)))
  refine CallsA.then1 h1 ?_
  ((conv => whnf); (repeat' (first | (refine Br.tt (by first | assumption | with_reducible rfl | with_reducible exact Bool.not_false) ?_; conv => whnf) | (refine Br.ff (by first | assumption | with_reducible rfl | with_reducible exact Bool.not_true) ?_; conv => whnf) | fail)))
  refine Need.of (by decide) ?_
  ((conv => whnf); (repeat' (first | (refine Br.tt (by first | assumption | with_reducible rfl | with_reducible exact Bool.not_false) ?_; conv => whnf) | (refine Br.ff (by first | assumption | with_reducible rfl | with_reducible exact Bool.not_true) ?_; conv => whnf) | fail)))
  refine CallsA.then1 h2 ?_
  ((conv => whnf); (repeat' (first | (refine Br.tt (by first | assumption | with_reducible rfl | with_reducible exact Bool.not_false) ?_; conv => whnf) | (refine Br.ff (by first | assumption | with_reducible rfl | with_reducible exact Bool.not_true) ?_; conv => whnf) | fail)))
  by_cases hs : s = []
  · have hsb : (s == []) = true := by simpa using hs
    have e3 := tail _ (fun _ => rfl) (fun h => absurd hs h)
    rw [← e3] at h5
    ((conv => whnf); (repeat' (first | (refine Br.tt (by first | assumption | with_reducible rfl | with_reducible exact Bool.not_false) ?_; conv => whnf) | (refine Br.ff (by first | assumption | with_reducible rfl | with_reducible exact Bool.not_true) ?_; conv => whnf) | fail)))
    refine CallsA.then1 h3 ?_
    ((conv => whnf); (repeat' (first | (refine Br.tt (by first | assumption | with_reducible rfl | with_reducible exact Bool.not_false) ?_; conv => whnf) | (refine Br.ff (by first | assumption | with_reducible rfl | with_reducible exact Bool.not_true) ?_; conv => whnf) | fail)))
    refine ⟨by kernel_rfl, ?_⟩
    ((conv => whnf); (repeat' (first | (refine Br.tt (by first | assumption | with_reducible rfl | with_reducible exact Bool.not_false) ?_; conv => whnf) | (refine Br.ff (by first | assumption | with_reducible rfl | with_reducible exact Bool.not_true) ?_; conv => whnf) | fail)))
    refine CallD.of h4 ?_
    ((conv => whnf); (repeat' (first | (refine Br.tt (by first | assumption | with_reducible rfl | with_reducible exact Bool.not_false) ?_; conv => whnf) | (refine Br.ff (by first | assumption | with_reducible rfl | with_reducible exact Bool.not_true) ?_; conv => whnf) | fail)))
    refine CallD.of1 h5 ?_
    ((conv => whnf); (repeat' (first | (refine Br.tt (by first | assumption | with_reducible rfl | with_reducible exact Bool.not_false) ?_; conv => whnf) | (refine Br.ff (by first | assumption | with_reducible rfl | with_reducible exact Bool.not_true) ?_; conv => whnf) | fail)))
    refine Need.of (by intro y hy; simp at hy; rcases hy with rfl | rfl <;> rfl) ?_
    ((conv => whnf); (repeat' (first | (refine Br.tt (by first | assumption | with_reducible rfl | with_reducible exact Bool.not_false) ?_; conv => whnf) | (refine Br.ff (by first | assumption | with_reducible rfl | with_reducible exact Bool.not_true) ?_; conv => whnf) | fail)))
    by_cases hk15 : k = 15
    · subst hk15
      ((conv => whnf); (repeat' (first | (refine Br.tt (by first | assumption | with_reducible rfl | with_reducible exact Bool.not_false) ?_; conv => whnf) | (refine Br.ff (by first | assumption | with_reducible rfl | with_reducible exact Bool.not_true) ?_; conv => whnf) | (refine Br.tt rfl ?_; conv => whnf) | (refine Br.ff rfl ?_; conv => whnf) | fail)))
      refine CallsA.then1 h6 ?_
      ((conv => whnf); (repeat' (first | (refine Br.tt (by first | assumption | with_reducible rfl | with_reducible exact Bool.not_false) ?_; conv => whnf) | (refine Br.ff (by first | assumption | with_reducible rfl | with_reducible exact Bool.not_true) ?_; conv => whnf) | fail)))
      have fdv : (F.mk 15 [] nm [a, b] []).dv = .agg [.int .i64 15, .str [], .int .i64 nm, .sl [.agg [.int .i64 a.op, .int .i64 a.num, .str a.nam, .sl (T.dvs a.args)], .agg [.int .i64 b.op, .int .i64 b.num, .str b.nam, .sl (T.dvs b.args)]], .sl []] := by
        rw [F.dv_eq, ← T.two_dvs]; rfl
      refine CallsA.then1 h7 ?_
      by_cases hb : r6.bad = true
      · rw [hb]
        rw [hb] at hno
        have e8 : r6 = r8 := by rw [← hr8, hno]; rfl
        rw [← e8] at h9
        ((conv => whnf); (repeat' (first | (refine Br.tt (by first | assumption | with_reducible rfl | with_reducible exact Bool.not_false) ?_; conv => whnf) | (refine Br.ff (by first | assumption | with_reducible rfl | with_reducible exact Bool.not_true) ?_; conv => whnf) | (refine Br.tt rfl ?_; conv => whnf) | (refine Br.ff rfl ?_; conv => whnf) | fail)))
        refine CallsA.then1 h9 ?_
        ((conv => whnf); (repeat' (first | (refine Br.tt (by first | assumption | with_reducible rfl | with_reducible exact Bool.not_false) ?_; conv => whnf) | (refine Br.ff (by first | assumption | with_reducible rfl | with_reducible exact Bool.not_true) ?_; conv => whnf) | fail)))
        first | (simp only [if_true, fdv]; (first | exact ⟨rfl, rfl⟩ | exact ⟨trivial, rfl⟩ | exact ⟨rfl, trivial⟩ | exact ⟨trivial, trivial⟩)) | (simp only [if_neg hk15, fdv]; (first | exact ⟨rfl, rfl⟩ | exact ⟨trivial, rfl⟩ | exact ⟨rfl, trivial⟩ | exact ⟨trivial, trivial⟩))
      have hb : r6.bad = false := by simpa using hb
      rw [hb]
      rw [hb] at hno
      clear h7 hb
      rcases r6 with ⟨ws, eb, ec, why, fb, fc⟩
      cases ws with
      | nil =>
        have e8 : (⟨[], eb, ec, why, fb, fc⟩ : R) = r8 := by rw [← hr8, hno]; rfl
        rw [← e8] at h9
        ((conv => whnf); (repeat' (first | (refine Br.tt (by first | assumption | with_reducible rfl | with_reducible exact Bool.not_false) ?_; conv => whnf) | (refine Br.ff (by first | assumption | with_reducible rfl | with_reducible exact Bool.not_true) ?_; conv => whnf) | (refine Br.tt rfl ?_; conv => whnf) | (refine Br.ff rfl ?_; conv => whnf) | fail)))
        refine CallsA.then1 h9 ?_
        ((conv => whnf); (repeat' (first | (refine Br.tt (by first | assumption | with_reducible rfl | with_reducible exact Bool.not_false) ?_; conv => whnf) | (refine Br.ff (by first | assumption | with_reducible rfl | with_reducible exact Bool.not_true) ?_; conv => whnf) | fail)))
        first | (simp only [if_true, fdv]; (first | exact ⟨rfl, rfl⟩ | exact ⟨trivial, rfl⟩ | exact ⟨rfl, trivial⟩ | exact ⟨trivial, trivial⟩)) | (simp only [if_neg hk15, fdv]; (first | exact ⟨rfl, rfl⟩ | exact ⟨trivial, rfl⟩ | exact ⟨rfl, trivial⟩ | exact ⟨trivial, trivial⟩))
      | cons w l =>
        rcases w with ⟨k', t', n', b', c'⟩
        have hg0 : decide ((((⟨k', t', n', b', c'⟩ : Wd) :: l).map Wd.dv).length > (0 : Int)) = true := by simp only [List.length_map, List.length_cons, decide_eq_true_eq]; omega
        ((conv => whnf); (repeat' (first | (refine Br.tt (by first | assumption | with_reducible rfl | with_reducible exact Bool.not_false) ?_; conv => whnf) | (refine Br.ff (by first | assumption | with_reducible rfl | with_reducible exact Bool.not_true) ?_; conv => whnf) | (refine Br.tt rfl ?_; conv => whnf) | (refine Br.ff rfl ?_; conv => whnf) | fail)))
        refine Idx.of _ (by decide) rfl rfl ?_
        ((conv => whnf); (repeat' (first | (refine Br.tt (by first | assumption | with_reducible rfl | with_reducible exact Bool.not_false) ?_; conv => whnf) | (refine Br.ff (by first | assumption | with_reducible rfl | with_reducible exact Bool.not_true) ?_; conv => whnf) | fail)))
        cases g1 : (k' == 1) with
        | false =>
          have e8 : (⟨⟨k', t', n', b', c'⟩ :: l, eb, ec, why, fb, fc⟩ : R) = r8 := by rw [← hr8, hno]; simp [g1]
          rw [← e8] at h9
          ((conv => whnf); (repeat' (first | (refine Br.tt (by first | assumption | with_reducible rfl | with_reducible exact Bool.not_false) ?_; conv => whnf) | (refine Br.ff (by first | assumption | with_reducible rfl | with_reducible exact Bool.not_true) ?_; conv => whnf) | (refine Br.tt rfl ?_; conv => whnf) | (refine Br.ff rfl ?_; conv => whnf) | fail)))
          refine CallsA.then1 h9 ?_
          ((conv => whnf); (repeat' (first | (refine Br.tt (by first | assumption | with_reducible rfl | with_reducible exact Bool.not_false) ?_; conv => whnf) | (refine Br.ff (by first | assumption | with_reducible rfl | with_reducible exact Bool.not_true) ?_; conv => whnf) | fail)))
          first | (simp only [if_true, fdv]; (first | exact ⟨rfl, rfl⟩ | exact ⟨trivial, rfl⟩ | exact ⟨rfl, trivial⟩ | exact ⟨trivial, trivial⟩)) | (simp only [if_neg hk15, fdv]; (first | exact ⟨rfl, rfl⟩ | exact ⟨trivial, rfl⟩ | exact ⟨rfl, trivial⟩ | exact ⟨trivial, trivial⟩))
        | true =>
          ((conv => whnf); (repeat' (first | (refine Br.tt (by first | assumption | with_reducible rfl | with_reducible exact Bool.not_false) ?_; conv => whnf) | (refine Br.ff (by first | assumption | with_reducible rfl | with_reducible exact Bool.not_true) ?_; conv => whnf) | (refine Br.tt rfl ?_; conv => whnf) | (refine Br.ff rfl ?_; conv => whnf) | fail)))
          refine Idx.of _ (by decide) rfl rfl ?_
          ((conv => whnf); (repeat' (first | (refine Br.tt (by first | assumption | with_reducible rfl | with_reducible exact Bool.not_false) ?_; conv => whnf) | (refine Br.ff (by first | assumption | with_reducible rfl | with_reducible exact Bool.not_true) ?_; conv => whnf) | fail)))
          cases g2 : (n' == 0) with
          | false =>
            have e8 : (⟨⟨k', t', n', b', c'⟩ :: l, eb, ec, why, fb, fc⟩ : R) = r8 := by rw [← hr8, hno]; simp [g1, g2]
            rw [← e8] at h9
            ((conv => whnf); (repeat' (first | (refine Br.tt (by first | assumption | with_reducible rfl | with_reducible exact Bool.not_false) ?_; conv => whnf) | (refine Br.ff (by first | assumption | with_reducible rfl | with_reducible exact Bool.not_true) ?_; conv => whnf) | (refine Br.tt rfl ?_; conv => whnf) | (refine Br.ff rfl ?_; conv => whnf) | fail)))
            refine CallsA.then1 h9 ?_
            ((conv => whnf); (repeat' (first | (refine Br.tt (by first | assumption | with_reducible rfl | with_reducible exact Bool.not_false) ?_; conv => whnf) | (refine Br.ff (by first | assumption | with_reducible rfl | with_reducible exact Bool.not_true) ?_; conv => whnf) | fail)))
            first | (simp only [if_true, fdv]; (first | exact ⟨rfl, rfl⟩ | exact ⟨trivial, rfl⟩ | exact ⟨rfl, trivial⟩ | exact ⟨trivial, trivial⟩)) | (simp only [if_neg hk15, fdv]; (first | exact ⟨rfl, rfl⟩ | exact ⟨trivial, rfl⟩ | exact ⟨rfl, trivial⟩ | exact ⟨trivial, trivial⟩))
          | true =>
            have e8 : (⟨⟨k', t', n', b', c'⟩ :: l, eb, ec, why, fb, fc⟩ : R).wrong 92 = r8 := by rw [← hr8, hno]; simp [g1, g2]
            rw [← e8] at h9
            ((conv => whnf); (repeat' (first | (refine Br.tt (by first | assumption | with_reducible rfl | with_reducible exact Bool.not_false) ?_; conv => whnf) | (refine Br.ff (by first | assumption | with_reducible rfl | with_reducible exact Bool.not_true) ?_; conv => whnf) | (refine Br.tt rfl ?_; conv => whnf) | (refine Br.ff rfl ?_; conv => whnf) | fail)))
            refine CallsA.then1 h8 ?_
            ((conv => whnf); (repeat' (first | (refine Br.tt (by first | assumption | with_reducible rfl | with_reducible exact Bool.not_false) ?_; conv => whnf) | (refine Br.ff (by first | assumption | with_reducible rfl | with_reducible exact Bool.not_true) ?_; conv => whnf) | fail)))
            refine CallsA.then1 h9 ?_
            ((conv => whnf); (repeat' (first | (refine Br.tt (by first | assumption | with_reducible rfl | with_reducible exact Bool.not_false) ?_; conv => whnf) | (refine Br.ff (by first | assumption | with_reducible rfl | with_reducible exact Bool.not_true) ?_; conv => whnf) | fail)))
            first | (simp only [if_true, fdv]; (first | exact ⟨rfl, rfl⟩ | exact ⟨trivial, rfl⟩ | exact ⟨rfl, trivial⟩ | exact ⟨trivial, trivial⟩)) | (simp only [if_neg hk15, fdv]; (first | exact ⟨rfl, rfl⟩ | exact ⟨trivial, rfl⟩ | exact ⟨rfl, trivial⟩ | exact ⟨trivial, trivial⟩))
    · have hkb : (k == 15) = false := by simpa using hk15
      ((conv => whnf); (repeat' (first | (refine Br.tt (by first | assumption | with_reducible rfl | with_reducible exact Bool.not_false) ?_; conv => whnf) | (refine Br.ff (by first | assumption | with_reducible rfl | with_reducible exact Bool.not_true) ?_; conv => whnf) | fail)))
      have fdv : (F.mk k [] 0 [a, b] []).dv = .agg [.int .i64 k, .str [], .int .i64 0, .sl [.agg [.int .i64 a.op, .int .i64 a.num, .str a.nam, .sl (T.dvs a.args)], .agg [.int .i64 b.op, .int .i64 b.num, .str b.nam, .sl (T.dvs b.args)]], .sl []] := by
        rw [F.dv_eq, ← T.two_dvs]; rfl
      first | (simp only [if_true, fdv]; (first | exact ⟨rfl, rfl⟩ | exact ⟨trivial, rfl⟩ | exact ⟨rfl, trivial⟩ | exact ⟨trivial, trivial⟩)) | (simp only [if_neg hk15, fdv]; (first | exact ⟨rfl, rfl⟩ | exact ⟨trivial, rfl⟩ | exact ⟨rfl, trivial⟩ | exact ⟨trivial, trivial⟩))
  · have hsb : (s == []) = false := by simpa using hs
    have e3 := tail _ (fun h => absurd h hs) (fun _ => rfl)
    rw [← e3] at h5
    ((conv => whnf); (repeat' (first | (refine Br.tt (by first | assumption | with_reducible rfl | with_reducible exact Bool.not_false) ?_; conv => whnf) | (refine Br.ff (by first | assumption | with_reducible rfl | with_reducible exact Bool.not_true) ?_; conv => whnf) | fail)))
    refine ⟨by kernel_rfl, ?_⟩
    ((conv => whnf); (repeat' (first | (refine Br.tt (by first | assumption | with_reducible rfl | with_reducible exact Bool.not_false) ?_; conv => whnf) | (refine Br.ff (by first | assumption | with_reducible rfl | with_reducible exact Bool.not_true) ?_; conv => whnf) | fail)))
    refine CallD.of h4 ?_
    ((conv => whnf); (repeat' (first | (refine Br.tt (by first | assumption | with_reducible rfl | with_reducible exact Bool.not_false) ?_; conv => whnf) | (refine Br.ff (by first | assumption | with_reducible rfl | with_reducible exact Bool.not_true) ?_; conv => whnf) | fail)))
    refine CallD.of1 h5 ?_
    ((conv => whnf); (repeat' (first | (refine Br.tt (by first | assumption | with_reducible rfl | with_reducible exact Bool.not_false) ?_; conv => whnf) | (refine Br.ff (by first | assumption | with_reducible rfl | with_reducible exact Bool.not_true) ?_; conv => whnf) | fail)))
    refine Need.of (by intro y hy; simp at hy; rcases hy with rfl | rfl <;> rfl) ?_
    ((conv => whnf); (repeat' (first | (refine Br.tt (by first | assumption | with_reducible rfl | with_reducible exact Bool.not_false) ?_; conv => whnf) | (refine Br.ff (by first | assumption | with_reducible rfl | with_reducible exact Bool.not_true) ?_; conv => whnf) | fail)))
    by_cases hk15 : k = 15
    · subst hk15
      ((conv => whnf); (repeat' (first | (refine Br.tt (by first | assumption | with_reducible rfl | with_reducible exact Bool.not_false) ?_; conv => whnf) | (refine Br.ff (by first | assumption | with_reducible rfl | with_reducible exact Bool.not_true) ?_; conv => whnf) | (refine Br.tt rfl ?_; conv => whnf) | (refine Br.ff rfl ?_; conv => whnf) | fail)))
      refine CallsA.then1 h6 ?_
      ((conv => whnf); (repeat' (first | (refine Br.tt (by first | assumption | with_reducible rfl | with_reducible exact Bool.not_false) ?_; conv => whnf) | (refine Br.ff (by first | assumption | with_reducible rfl | with_reducible exact Bool.not_true) ?_; conv => whnf) | fail)))
      have fdv : (F.mk 15 [] nm [a, b] []).dv = .agg [.int .i64 15, .str [], .int .i64 nm, .sl [.agg [.int .i64 a.op, .int .i64 a.num, .str a.nam, .sl (T.dvs a.args)], .agg [.int .i64 b.op, .int .i64 b.num, .str b.nam, .sl (T.dvs b.args)]], .sl []] := by
        rw [F.dv_eq, ← T.two_dvs]; rfl
      refine CallsA.then1 h7 ?_
      by_cases hb : r6.bad = true
      · rw [hb]
        rw [hb] at hno
        have e8 : r6 = r8 := by rw [← hr8, hno]; rfl
        rw [← e8] at h9
        ((conv => whnf); (repeat' (first | (refine Br.tt (by first | assumption | with_reducible rfl | with_reducible exact Bool.not_false) ?_; conv => whnf) | (refine Br.ff (by first | assumption | with_reducible rfl | with_reducible exact Bool.not_true) ?_; conv => whnf) | (refine Br.tt rfl ?_; conv => whnf) | (refine Br.ff rfl ?_; conv => whnf) | fail)))
        refine CallsA.then1 h9 ?_
        ((conv => whnf); (repeat' (first | (refine Br.tt (by first | assumption | with_reducible rfl | with_reducible exact Bool.not_false) ?_; conv => whnf) | (refine Br.ff (by first | assumption | with_reducible rfl | with_reducible exact Bool.not_true) ?_; conv => whnf) | fail)))
        first | (simp only [if_true, fdv]; (first | exact ⟨rfl, rfl⟩ | exact ⟨trivial, rfl⟩ | exact ⟨rfl, trivial⟩ | exact ⟨trivial, trivial⟩)) | (simp only [if_neg hk15, fdv]; (first | exact ⟨rfl, rfl⟩ | exact ⟨trivial, rfl⟩ | exact ⟨rfl, trivial⟩ | exact ⟨trivial, trivial⟩))
      have hb : r6.bad = false := by simpa using hb
      rw [hb]
      rw [hb] at hno
      clear h7 hb
      rcases r6 with ⟨ws, eb, ec, why, fb, fc⟩
      cases ws with
      | nil =>
        have e8 : (⟨[], eb, ec, why, fb, fc⟩ : R) = r8 := by rw [← hr8, hno]; rfl
        rw [← e8] at h9
        ((conv => whnf); (repeat' (first | (refine Br.tt (by first | assumption | with_reducible rfl | with_reducible exact Bool.not_false) ?_; conv => whnf) | (refine Br.ff (by first | assumption | with_reducible rfl | with_reducible exact Bool.not_true) ?_; conv => whnf) | (refine Br.tt rfl ?_; conv => whnf) | (refine Br.ff rfl ?_; conv => whnf) | fail)))
        refine CallsA.then1 h9 ?_
        ((conv => whnf); (repeat' (first | (refine Br.tt (by first | assumption | with_reducible rfl | with_reducible exact Bool.not_false) ?_; conv => whnf) | (refine Br.ff (by first | assumption | with_reducible rfl | with_reducible exact Bool.not_true) ?_; conv => whnf) | fail)))
        first | (simp only [if_true, fdv]; (first | exact ⟨rfl, rfl⟩ | exact ⟨trivial, rfl⟩ | exact ⟨rfl, trivial⟩ | exact ⟨trivial, trivial⟩)) | (simp only [if_neg hk15, fdv]; (first | exact ⟨rfl, rfl⟩ | exact ⟨trivial, rfl⟩ | exact ⟨rfl, trivial⟩ | exact ⟨trivial, trivial⟩))
      | cons w l =>
        rcases w with ⟨k', t', n', b', c'⟩
        have hg0 : decide ((((⟨k', t', n', b', c'⟩ : Wd) :: l).map Wd.dv).length > (0 : Int)) = true := by simp only [List.length_map, List.length_cons, decide_eq_true_eq]; omega
        ((conv => whnf); (repeat' (first | (refine Br.tt (by first | assumption | with_reducible rfl | with_reducible exact Bool.not_false) ?_; conv => whnf) | (refine Br.ff (by first | assumption | with_reducible rfl | with_reducible exact Bool.not_true) ?_; conv => whnf) | (refine Br.tt rfl ?_; conv => whnf) | (refine Br.ff rfl ?_; conv => whnf) | fail)))
        refine Idx.of _ (by decide) rfl rfl ?_
        ((conv => whnf); (repeat' (first | (refine Br.tt (by first | assumption | with_reducible rfl | with_reducible exact Bool.not_false) ?_; conv => whnf) | (refine Br.ff (by first | assumption | with_reducible rfl | with_reducible exact Bool.not_true) ?_; conv => whnf) | fail)))
        cases g1 : (k' == 1) with
        | false =>
          have e8 : (⟨⟨k', t', n', b', c'⟩ :: l, eb, ec, why, fb, fc⟩ : R) = r8 := by rw [← hr8, hno]; simp [g1]
          rw [← e8] at h9
          ((conv => whnf); (repeat' (first | (refine Br.tt (by first | assumption | with_reducible rfl | with_reducible exact Bool.not_false) ?_; conv => whnf) | (refine Br.ff (by first | assumption | with_reducible rfl | with_reducible exact Bool.not_true) ?_; conv => whnf) | (refine Br.tt rfl ?_; conv => whnf) | (refine Br.ff rfl ?_; conv => whnf) | fail)))
          refine CallsA.then1 h9 ?_
          ((conv => whnf); (repeat' (first | (refine Br.tt (by first | assumption | with_reducible rfl | with_reducible exact Bool.not_false) ?_; conv => whnf) | (refine Br.ff (by first | assumption | with_reducible rfl | with_reducible exact Bool.not_true) ?_; conv => whnf) | fail)))
          first | (simp only [if_true, fdv]; (first | exact ⟨rfl, rfl⟩ | exact ⟨trivial, rfl⟩ | exact ⟨rfl, trivial⟩ | exact ⟨trivial, trivial⟩)) | (simp only [if_neg hk15, fdv]; (first | exact ⟨rfl, rfl⟩ | exact ⟨trivial, rfl⟩ | exact ⟨rfl, trivial⟩ | exact ⟨trivial, trivial⟩))
        | true =>
          ((conv => whnf); (repeat' (first | (refine Br.tt (by first | assumption | with_reducible rfl | with_reducible exact Bool.not_false) ?_; conv => whnf) | (refine Br.ff (by first | assumption | with_reducible rfl | with_reducible exact Bool.not_true) ?_; conv => whnf) | (refine Br.tt rfl ?_; conv => whnf) | (refine Br.ff rfl ?_; conv => whnf) | fail)))
          refine Idx.of _ (by decide) rfl rfl ?_
          ((conv => whnf); (repeat' (first | (refine Br.tt (by first | assumption | with_reducible rfl | with_reducible exact Bool.not_false) ?_; conv => whnf) | (refine Br.ff (by first | assumption | with_reducible rfl | with_reducible exact Bool.not_true) ?_; conv => whnf) | fail)))
          cases g2 : (n' == 0) with
          | false =>
            have e8 : (⟨⟨k', t', n', b', c'⟩ :: l, eb, ec, why, fb, fc⟩ : R) = r8 := by rw [← hr8, hno]; simp [g1, g2]
            rw [← e8] at h9
            ((conv => whnf); (repeat' (first | (refine Br.tt (by first | assumption | with_reducible rfl | with_reducible exact Bool.not_false) ?_; conv => whnf) | (refine Br.ff (by first | assumption | with_reducible rfl | with_reducible exact Bool.not_true) ?_; conv => whnf) | (refine Br.tt rfl ?_; conv => whnf) | (refine Br.ff rfl ?_; conv => whnf) | fail)))
            refine CallsA.then1 h9 ?_
            ((conv => whnf); (repeat' (first | (refine Br.tt (by first | assumption | with_reducible rfl | with_reducible exact Bool.not_false) ?_; conv => whnf) | (refine Br.ff (by first | assumption | with_reducible rfl | with_reducible exact Bool.not_true) ?_; conv => whnf) | fail)))
            first | (simp only [if_true, fdv]; (first | exact ⟨rfl, rfl⟩ | exact ⟨trivial, rfl⟩ | exact ⟨rfl, trivial⟩ | exact ⟨trivial, trivial⟩)) | (simp only [if_neg hk15, fdv]; (first | exact ⟨rfl, rfl⟩ | exact ⟨trivial, rfl⟩ | exact ⟨rfl, trivial⟩ | exact ⟨trivial, trivial⟩))
          | true =>
            have e8 : (⟨⟨k', t', n', b', c'⟩ :: l, eb, ec, why, fb, fc⟩ : R).wrong 92 = r8 := by rw [← hr8, hno]; simp [g1, g2]
            rw [← e8] at h9
            ((conv => whnf); (repeat' (first | (refine Br.tt (by first | assumption | with_reducible rfl | with_reducible exact Bool.not_false) ?_; conv => whnf) | (refine Br.ff (by first | assumption | with_reducible rfl | with_reducible exact Bool.not_true) ?_; conv => whnf) | (refine Br.tt rfl ?_; conv => whnf) | (refine Br.ff rfl ?_; conv => whnf) | fail)))
            refine CallsA.then1 h8 ?_
            ((conv => whnf); (repeat' (first | (refine Br.tt (by first | assumption | with_reducible rfl | with_reducible exact Bool.not_false) ?_; conv => whnf) | (refine Br.ff (by first | assumption | with_reducible rfl | with_reducible exact Bool.not_true) ?_; conv => whnf) | fail)))
            refine CallsA.then1 h9 ?_
            ((conv => whnf); (repeat' (first | (refine Br.tt (by first | assumption | with_reducible rfl | with_reducible exact Bool.not_false) ?_; conv => whnf) | (refine Br.ff (by first | assumption | with_reducible rfl | with_reducible exact Bool.not_true) ?_; conv => whnf) | fail)))
            first | (simp only [if_true, fdv]; (first | exact ⟨rfl, rfl⟩ | exact ⟨trivial, rfl⟩ | exact ⟨rfl, trivial⟩ | exact ⟨trivial, trivial⟩)) | (simp only [if_neg hk15, fdv]; (first | exact ⟨rfl, rfl⟩ | exact ⟨trivial, rfl⟩ | exact ⟨rfl, trivial⟩ | exact ⟨trivial, trivial⟩))
    · have hkb : (k == 15) = false := by simpa using hk15
      ((conv => whnf); (repeat' (first | (refine Br.tt (by first | assumption | with_reducible rfl | with_reducible exact Bool.not_false) ?_; conv => whnf) | (refine Br.ff (by first | assumption | with_reducible rfl | with_reducible exact Bool.not_true) ?_; conv => whnf) | fail)))
      have fdv : (F.mk k [] 0 [a, b] []).dv = .agg [.int .i64 k, .str [], .int .i64 0, .sl [.agg [.int .i64 a.op, .int .i64 a.num, .str a.nam, .sl (T.dvs a.args)], .agg [.int .i64 b.op, .int .i64 b.num, .str b.nam, .sl (T.dvs b.args)]], .sl []] := by
        rw [F.dv_eq, ← T.two_dvs]; rfl
      first | (simp only [if_true, fdv]; (first | exact ⟨rfl, rfl⟩ | exact ⟨trivial, rfl⟩ | exact ⟨rfl, trivial⟩ | exact ⟨trivial, trivial⟩)) | (simp only [if_neg hk15, fdv]; (first | exact ⟨rfl, rfl⟩ | exact ⟨trivial, rfl⟩ | exact ⟨rfl, trivial⟩ | exact ⟨trivial, trivial⟩))
end Go.Proofs.L08

namespace Go.Proofs.L08
open Go Aw Go.Proofs
variable {W0 : World}
theorem F.dvs_one (t : F) : F.dvs [t] = [.agg [.int .i64 t.op, .str t.nam, .int .i64 t.md, .sl (T.dvs t.ts), .sl (F.dvs t.fs)]] := by
  rw [F.dvs, F.dvs, F.dv_eq]
theorem F.un_dv (k : Int) (s : List UInt8) (t : F) : (F.un k s t).dv = .agg [.int .i64 k, .str s, .int .i64 0, .sl [], .sl [.agg [.int .i64 t.op, .str t.nam, .int .i64 t.md, .sl (T.dvs t.ts), .sl (F.dvs t.fs)]]] := by
  rw [F.dv_eq, ← F.dvs_one]; rfl
set_option linter.unusedSimpArgs false in
set_option maxRecDepth 100000 in
set_option maxHeartbeats 4000000 in
theorem una_ok {n : Nat} {p : Pz} (h : PzOk W0 n p) (hp : p.Le) (hn : n < 1000000000) (r : R) (hr : r.ws.length ≤ n) : CF W0 73 (pUna p) r := by
  have ht := take_ok (W0 := W0) r unSigns (by omega) (by decide) (by decide)
  have hl := R.take_ws r unSigns
  have hs := R.take_some (r := r) (l := unSigns) (by decide)
  unfold CF pUna
  simp only
  generalize (r.take unSigns).1 = t at *
  generalize (r.take unSigns).2 = r1 at *
  have mem : t = [110, 111, 116] ∨ t = [101, 120] ∨ t = [97, 108, 108] ∨ t = [40] ∨ t = [116, 114, 117, 101] ∨ t = [102, 97, 108, 115, 101] ∨ t = [] := by
    by_cases h0 : t = []
    · simp [h0]
    · have := (hs h0).2.2
      simp [unSigns] at this
      rcases this with h | h | h | h | h | h <;> simp [h]
  rcases mem with rfl | rfl | rfl | rfl | rfl | rfl | rfl
  · have hlt := (hs (by decide)).1
    have hx := h.una r1 (by omega)
    unfold CF at hx
    simp only [if_true]
    rw [F.un_dv]
    generalize (p.una r1).1 = a at *
    generalize (p.una r1).2 = r2 at *
    rw [F.dv_eq] at hx
    unfold R.ps at *
    refine calls_of_awp1 tok [.cell 2 26] Tryd.func73 rfl rfl rfl rfl rfl rfl ?_
    ((conv => whnf); (repeat' (first | (refine Br.tt (by first | assumption | with_reducible rfl | with_reducible exact Bool.not_false) ?_; conv => whnf) | (refine Br.ff (by first | assumption | with_reducible rfl | with_reducible exact Bool.not_true) ?_; conv => whnf) | fail)))
    refine Need.of (by decide) ?_
    ((conv => whnf); (repeat' (first | (refine Br.tt (by first | assumption | with_reducible rfl | with_reducible exact Bool.not_false) ?_; conv => whnf) | (refine Br.ff (by first | assumption | with_reducible rfl | with_reducible exact Bool.not_true) ?_; conv => whnf) | fail)))
    refine CallsA.then1 ht ?_
    ((conv => whnf); (repeat' (first | (refine Br.tt (by first | assumption | with_reducible rfl | with_reducible exact Bool.not_false) ?_; conv => whnf) | (refine Br.ff (by first | assumption | with_reducible rfl | with_reducible exact Bool.not_true) ?_; conv => whnf) | (refine Br.tt rfl ?_; conv => whnf) | (refine Br.ff rfl ?_; conv => whnf) | fail)))
    refine CallsA.then1 hx ?_
    ((conv => whnf); (repeat' (first | (refine Br.tt (by first | assumption | with_reducible rfl | with_reducible exact Bool.not_false) ?_; conv => whnf) | (refine Br.ff (by first | assumption | with_reducible rfl | with_reducible exact Bool.not_true) ?_; conv => whnf) | fail)))
    refine Need.of (by intro y hy; simp at hy; subst hy; rfl) ?_
    ((conv => whnf); (repeat' (first | (refine Br.tt (by first | assumption | with_reducible rfl | with_reducible exact Bool.not_false) ?_; conv => whnf) | (refine Br.ff (by first | assumption | with_reducible rfl | with_reducible exact Bool.not_true) ?_; conv => whnf) | fail)))
    (first | exact ⟨rfl, rfl⟩ | exact ⟨trivial, rfl⟩ | exact ⟨rfl, trivial⟩ | exact ⟨trivial, trivial⟩)
  · have hlt := (hs (by decide)).1
    have hx := h.qua 7 r1 (by omega)
    rw [if_neg (by decide), if_pos rfl]
    generalize (p.qua 7 r1).1 = a at *
    generalize (p.qua 7 r1).2 = r2 at *
    rw [F.dv_eq] at hx ⊢
    unfold R.ps at *
    refine calls_of_awp1 tok [.cell 2 26] Tryd.func73 rfl rfl rfl rfl rfl rfl ?_
    ((conv => whnf); (repeat' (first | (refine Br.tt (by first | assumption | with_reducible rfl | with_reducible exact Bool.not_false) ?_; conv => whnf) | (refine Br.ff (by first | assumption | with_reducible rfl | with_reducible exact Bool.not_true) ?_; conv => whnf) | fail)))
    refine Need.of (by decide) ?_
    ((conv => whnf); (repeat' (first | (refine Br.tt (by first | assumption | with_reducible rfl | with_reducible exact Bool.not_false) ?_; conv => whnf) | (refine Br.ff (by first | assumption | with_reducible rfl | with_reducible exact Bool.not_true) ?_; conv => whnf) | fail)))
    refine CallsA.then1 ht ?_
    ((conv => whnf); (repeat' (first | (refine Br.tt (by first | assumption | with_reducible rfl | with_reducible exact Bool.not_false) ?_; conv => whnf) | (refine Br.ff (by first | assumption | with_reducible rfl | with_reducible exact Bool.not_true) ?_; conv => whnf) | (refine Br.tt rfl ?_; conv => whnf) | (refine Br.ff rfl ?_; conv => whnf) | fail)))
    refine CallsA.then1 hx ?_
    ((conv => whnf); (repeat' (first | (refine Br.tt (by first | assumption | with_reducible rfl | with_reducible exact Bool.not_false) ?_; conv => whnf) | (refine Br.ff (by first | assumption | with_reducible rfl | with_reducible exact Bool.not_true) ?_; conv => whnf) | fail)))
    (first | exact ⟨rfl, rfl⟩ | exact ⟨trivial, rfl⟩ | exact ⟨rfl, trivial⟩ | exact ⟨trivial, trivial⟩)
  · have hlt := (hs (by decide)).1
    have hx := h.qua 8 r1 (by omega)
    rw [if_neg (by decide), if_neg (by decide), if_pos rfl]
    generalize (p.qua 8 r1).1 = a at *
    generalize (p.qua 8 r1).2 = r2 at *
    rw [F.dv_eq] at hx ⊢
    unfold R.ps at *
    refine calls_of_awp1 tok [.cell 2 26] Tryd.func73 rfl rfl rfl rfl rfl rfl ?_
    ((conv => whnf); (repeat' (first | (refine Br.tt (by first | assumption | with_reducible rfl | with_reducible exact Bool.not_false) ?_; conv => whnf) | (refine Br.ff (by first | assumption | with_reducible rfl | with_reducible exact Bool.not_true) ?_; conv => whnf) | fail)))
    refine Need.of (by decide) ?_
    ((conv => whnf); (repeat' (first | (refine Br.tt (by first | assumption | with_reducible rfl | with_reducible exact Bool.not_false) ?_; conv => whnf) | (refine Br.ff (by first | assumption | with_reducible rfl | with_reducible exact Bool.not_true) ?_; conv => whnf) | fail)))
    refine CallsA.then1 ht ?_
    ((conv => whnf); (repeat' (first | (refine Br.tt (by first | assumption | with_reducible rfl | with_reducible exact Bool.not_false) ?_; conv => whnf) | (refine Br.ff (by first | assumption | with_reducible rfl | with_reducible exact Bool.not_true) ?_; conv => whnf) | (refine Br.tt rfl ?_; conv => whnf) | (refine Br.ff rfl ?_; conv => whnf) | fail)))
    refine CallsA.then1 hx ?_
    ((conv => whnf); (repeat' (first | (refine Br.tt (by first | assumption | with_reducible rfl | with_reducible exact Bool.not_false) ?_; conv => whnf) | (refine Br.ff (by first | assumption | with_reducible rfl | with_reducible exact Bool.not_true) ?_; conv => whnf) | fail)))
    (first | exact ⟨rfl, rfl⟩ | exact ⟨trivial, rfl⟩ | exact ⟨rfl, trivial⟩ | exact ⟨trivial, trivial⟩)
  · have hlt := (hs (by decide)).1
    have hx := h.frm r1 (by omega)
    have hxw := hp.frm r1
    unfold CF at hx
    rw [if_neg (by decide), if_neg (by decide), if_neg (by decide), if_pos rfl]
    generalize (p.frm r1).1 = a at *
    generalize (p.frm r1).2 = r2 at *
    have hq := need_ok (W0 := W0) r2 [41] (by omega) (by decide)
    rw [F.dv_eq] at hx ⊢
    unfold R.ps at *
    refine calls_of_awp1 tok [.cell 2 26] Tryd.func73 rfl rfl rfl rfl rfl rfl ?_
    ((conv => whnf); (repeat' (first | (refine Br.tt (by first | assumption | with_reducible rfl | with_reducible exact Bool.not_false) ?_; conv => whnf) | (refine Br.ff (by first | assumption | with_reducible rfl | with_reducible exact Bool.not_true) ?_; conv => whnf) | fail)))
    refine Need.of (by decide) ?_
    ((conv => whnf); (repeat' (first | (refine Br.tt (by first | assumption | with_reducible rfl | with_reducible exact Bool.not_false) ?_; conv => whnf) | (refine Br.ff (by first | assumption | with_reducible rfl | with_reducible exact Bool.not_true) ?_; conv => whnf) | fail)))
    refine CallsA.then1 ht ?_
    ((conv => whnf); (repeat' (first | (refine Br.tt (by first | assumption | with_reducible rfl | with_reducible exact Bool.not_false) ?_; conv => whnf) | (refine Br.ff (by first | assumption | with_reducible rfl | with_reducible exact Bool.not_true) ?_; conv => whnf) | (refine Br.tt rfl ?_; conv => whnf) | (refine Br.ff rfl ?_; conv => whnf) | fail)))
    refine CallsA.then1 hx ?_
    ((conv => whnf); (repeat' (first | (refine Br.tt (by first | assumption | with_reducible rfl | with_reducible exact Bool.not_false) ?_; conv => whnf) | (refine Br.ff (by first | assumption | with_reducible rfl | with_reducible exact Bool.not_true) ?_; conv => whnf) | fail)))
    refine CallsA.then1 hq ?_
    ((conv => whnf); (repeat' (first | (refine Br.tt (by first | assumption | with_reducible rfl | with_reducible exact Bool.not_false) ?_; conv => whnf) | (refine Br.ff (by first | assumption | with_reducible rfl | with_reducible exact Bool.not_true) ?_; conv => whnf) | fail)))
    (first | exact ⟨rfl, rfl⟩ | exact ⟨trivial, rfl⟩ | exact ⟨rfl, trivial⟩ | exact ⟨trivial, trivial⟩)
  · rw [if_neg (by decide), if_neg (by decide), if_neg (by decide), if_neg (by decide), if_pos rfl, F.dv_eq]
    unfold R.ps at *
    refine calls_of_awp1 tok [.cell 2 26] Tryd.func73 rfl rfl rfl rfl rfl rfl ?_
    ((conv => whnf); (repeat' (first | (refine Br.tt (by first | assumption | with_reducible rfl | with_reducible exact Bool.not_false) ?_; conv => whnf) | (refine Br.ff (by first | assumption | with_reducible rfl | with_reducible exact Bool.not_true) ?_; conv => whnf) | fail)))
    refine Need.of (by decide) ?_
    ((conv => whnf); (repeat' (first | (refine Br.tt (by first | assumption | with_reducible rfl | with_reducible exact Bool.not_false) ?_; conv => whnf) | (refine Br.ff (by first | assumption | with_reducible rfl | with_reducible exact Bool.not_true) ?_; conv => whnf) | fail)))
    refine CallsA.then1 ht ?_
    ((conv => whnf); (repeat' (first | (refine Br.tt (by first | assumption | with_reducible rfl | with_reducible exact Bool.not_false) ?_; conv => whnf) | (refine Br.ff (by first | assumption | with_reducible rfl | with_reducible exact Bool.not_true) ?_; conv => whnf) | (refine Br.tt rfl ?_; conv => whnf) | (refine Br.ff rfl ?_; conv => whnf) | fail)))
    (first | exact ⟨rfl, rfl⟩ | exact ⟨trivial, rfl⟩ | exact ⟨rfl, trivial⟩ | exact ⟨trivial, trivial⟩)
  · rw [if_neg (by decide), if_neg (by decide), if_neg (by decide), if_neg (by decide), if_neg (by decide), if_pos rfl, F.dv_eq]
    unfold R.ps at *
    refine calls_of_awp1 tok [.cell 2 26] Tryd.func73 rfl rfl rfl rfl rfl rfl ?_
    ((conv => whnf); (repeat' (first | (refine Br.tt (by first | assumption | with_reducible rfl | with_reducible exact Bool.not_false) ?_; conv => whnf) | (refine Br.ff (by first | assumption | with_reducible rfl | with_reducible exact Bool.not_true) ?_; conv => whnf) | fail)))
    refine Need.of (by decide) ?_
    ((conv => whnf); (repeat' (first | (refine Br.tt (by first | assumption | with_reducible rfl | with_reducible exact Bool.not_false) ?_; conv => whnf) | (refine Br.ff (by first | assumption | with_reducible rfl | with_reducible exact Bool.not_true) ?_; conv => whnf) | fail)))
    refine CallsA.then1 ht ?_
    ((conv => whnf); (repeat' (first | (refine Br.tt (by first | assumption | with_reducible rfl | with_reducible exact Bool.not_false) ?_; conv => whnf) | (refine Br.ff (by first | assumption | with_reducible rfl | with_reducible exact Bool.not_true) ?_; conv => whnf) | (refine Br.tt rfl ?_; conv => whnf) | (refine Br.ff rfl ?_; conv => whnf) | fail)))
    (first | exact ⟨rfl, rfl⟩ | exact ⟨trivial, rfl⟩ | exact ⟨rfl, trivial⟩ | exact ⟨trivial, trivial⟩)
  · have hx := atm_ok h hp hn r1 (by omega)
    unfold CF at hx
    rw [if_neg (by decide), if_neg (by decide), if_neg (by decide), if_neg (by decide), if_neg (by decide), if_neg (by decide)]
    generalize (pAtm p r1).1 = a at *
    generalize (pAtm p r1).2 = r2 at *
    rw [F.dv_eq] at hx ⊢
    unfold R.ps at *
    refine calls_of_awp1 tok [.cell 2 26] Tryd.func73 rfl rfl rfl rfl rfl rfl ?_
    ((conv => whnf); (repeat' (first | (refine Br.tt (by first | assumption | with_reducible rfl | with_reducible exact Bool.not_false) ?_; conv => whnf) | (refine Br.ff (by first | assumption | with_reducible rfl | with_reducible exact Bool.not_true) ?_; conv => whnf) | fail)))
    refine Need.of (by decide) ?_
    ((conv => whnf); (repeat' (first | (refine Br.tt (by first | assumption | with_reducible rfl | with_reducible exact Bool.not_false) ?_; conv => whnf) | (refine Br.ff (by first | assumption | with_reducible rfl | with_reducible exact Bool.not_true) ?_; conv => whnf) | fail)))
    refine CallsA.then1 ht ?_
    ((conv => whnf); (repeat' (first | (refine Br.tt (by first | assumption | with_reducible rfl | with_reducible exact Bool.not_false) ?_; conv => whnf) | (refine Br.ff (by first | assumption | with_reducible rfl | with_reducible exact Bool.not_true) ?_; conv => whnf) | (refine Br.tt rfl ?_; conv => whnf) | (refine Br.ff rfl ?_; conv => whnf) | fail)))
    refine CallsA.then1 hx ?_
    ((conv => whnf); (repeat' (first | (refine Br.tt (by first | assumption | with_reducible rfl | with_reducible exact Bool.not_false) ?_; conv => whnf) | (refine Br.ff (by first | assumption | with_reducible rfl | with_reducible exact Bool.not_true) ?_; conv => whnf) | fail)))
    (first | exact ⟨rfl, rfl⟩ | exact ⟨trivial, rfl⟩ | exact ⟨rfl, trivial⟩ | exact ⟨trivial, trivial⟩)
set_option linter.unusedSimpArgs false in
set_option maxRecDepth 100000 in
set_option maxHeartbeats 4000000 in
theorem qua_ok {n : Nat} {p : Pz} (h : PzOk W0 n p) (hp : p.Le) (hn : n < 1000000000) (k : Int) (r : R) (hr : r.ws.length ≤ n) :
    CallsA Tryd.prog W0 81 [r.ps] [.ptr 0 0, .d (.int .i64 k)] fun rs os => rs = [.d (pQua p k r).1.dv] ∧ os = [(pQua p k r).2.ps] := by
  have h1 := word_ok (W0 := W0) r 0 (by omega)
  have w1 := r.word_ws 0
  unfold pQua
  simp only
  generalize (r.word 0).1 = wd at *
  generalize (r.word 0).2 = r1 at *
  have ht := take_ok (W0 := W0) r1 [[44]] (by omega) (by decide) (by decide)
  have hl := R.take_ws r1 [[44]]
  have hs := R.take_some (r := r1) (l := [[44]]) (by decide)
  generalize (r1.take [[44]]).1 = t at *
  generalize (r1.take [[44]]).2 = r2 at *
  rcases wd with ⟨k1, tx, nm, b1, c1⟩
  unfold Wd.dv at h1
  by_cases h0 : t = []
  · have e0 : (t != []) = false := by simpa using h0
    rw [if_pos h0]
    have hq := need_ok (W0 := W0) r2 [46] (by omega) (by decide)
    have hqw := r2.need_ws [46]
    generalize r2.need [46] = r3 at *
    have hx := una_ok h hp hn r3 (by omega)
    unfold CF at hx
    rw [F.un_dv]
    generalize (pUna p r3).1 = a at *
    generalize (pUna p r3).2 = r4 at *
    rw [F.dv_eq] at hx
    unfold R.ps at *
    refine calls_of_awp1 tok [.cell 4 26] Tryd.func81 rfl rfl rfl rfl rfl rfl ?_
    ((conv => whnf); (repeat' (first | (refine Br.tt (by first | assumption | with_reducible rfl | with_reducible exact Bool.not_false) ?_; conv => whnf) | (refine Br.ff (by first | assumption | with_reducible rfl | with_reducible exact Bool.not_true) ?_; conv => whnf) | fail)))
    refine CallsA.then1 h1 ?_
    ((conv => whnf); (repeat' (first | (refine Br.tt (by first | assumption | with_reducible rfl | with_reducible exact Bool.not_false) ?_; conv => whnf) | (refine Br.ff (by first | assumption | with_reducible rfl | with_reducible exact Bool.not_true) ?_; conv => whnf) | fail)))
    refine Need.of (by decide) ?_
    ((conv => whnf); (repeat' (first | (refine Br.tt (by first | assumption | with_reducible rfl | with_reducible exact Bool.not_false) ?_; conv => whnf) | (refine Br.ff (by first | assumption | with_reducible rfl | with_reducible exact Bool.not_true) ?_; conv => whnf) | fail)))
    refine CallsA.then1 ht ?_
    ((conv => whnf); (repeat' (first | (refine Br.tt (by first | assumption | with_reducible rfl | with_reducible exact Bool.not_false) ?_; conv => whnf) | (refine Br.ff (by first | assumption | with_reducible rfl | with_reducible exact Bool.not_true) ?_; conv => whnf) | fail)))
    refine CallsA.then1 hq ?_
    ((conv => whnf); (repeat' (first | (refine Br.tt (by first | assumption | with_reducible rfl | with_reducible exact Bool.not_false) ?_; conv => whnf) | (refine Br.ff (by first | assumption | with_reducible rfl | with_reducible exact Bool.not_true) ?_; conv => whnf) | fail)))
    refine CallsA.then1 hx ?_
    ((conv => whnf); (repeat' (first | (refine Br.tt (by first | assumption | with_reducible rfl | with_reducible exact Bool.not_false) ?_; conv => whnf) | (refine Br.ff (by first | assumption | with_reducible rfl | with_reducible exact Bool.not_true) ?_; conv => whnf) | fail)))
    refine Need.of (by intro y hy; simp at hy; subst hy; rfl) ?_
    ((conv => whnf); (repeat' (first | (refine Br.tt (by first | assumption | with_reducible rfl | with_reducible exact Bool.not_false) ?_; conv => whnf) | (refine Br.ff (by first | assumption | with_reducible rfl | with_reducible exact Bool.not_true) ?_; conv => whnf) | fail)))
    (first | exact ⟨rfl, rfl⟩ | exact ⟨trivial, rfl⟩ | exact ⟨rfl, trivial⟩ | exact ⟨trivial, trivial⟩)
  · have e0 : (t != []) = true := by simpa using h0
    rw [if_neg h0]
    have hlt := (hs h0).1
    have hx := h.qua k r2 (by omega)
    rw [F.un_dv]
    generalize (p.qua k r2).1 = a at *
    generalize (p.qua k r2).2 = r4 at *
    rw [F.dv_eq] at hx
    unfold R.ps at *
    refine calls_of_awp1 tok [.cell 4 26] Tryd.func81 rfl rfl rfl rfl rfl rfl ?_
    ((conv => whnf); (repeat' (first | (refine Br.tt (by first | assumption | with_reducible rfl | with_reducible exact Bool.not_false) ?_; conv => whnf) | (refine Br.ff (by first | assumption | with_reducible rfl | with_reducible exact Bool.not_true) ?_; conv => whnf) | fail)))
    refine CallsA.then1 h1 ?_
    ((conv => whnf); (repeat' (first | (refine Br.tt (by first | assumption | with_reducible rfl | with_reducible exact Bool.not_false) ?_; conv => whnf) | (refine Br.ff (by first | assumption | with_reducible rfl | with_reducible exact Bool.not_true) ?_; conv => whnf) | fail)))
    refine Need.of (by decide) ?_
    ((conv => whnf); (repeat' (first | (refine Br.tt (by first | assumption | with_reducible rfl | with_reducible exact Bool.not_false) ?_; conv => whnf) | (refine Br.ff (by first | assumption | with_reducible rfl | with_reducible exact Bool.not_true) ?_; conv => whnf) | fail)))
    refine CallsA.then1 ht ?_
    ((conv => whnf); (repeat' (first | (refine Br.tt (by first | assumption | with_reducible rfl | with_reducible exact Bool.not_false) ?_; conv => whnf) | (refine Br.ff (by first | assumption | with_reducible rfl | with_reducible exact Bool.not_true) ?_; conv => whnf) | fail)))
    refine CallsA.then1 hx ?_
    ((conv => whnf); (repeat' (first | (refine Br.tt (by first | assumption | with_reducible rfl | with_reducible exact Bool.not_false) ?_; conv => whnf) | (refine Br.ff (by first | assumption | with_reducible rfl | with_reducible exact Bool.not_true) ?_; conv => whnf) | fail)))
    refine Need.of (by intro y hy; simp at hy; subst hy; rfl) ?_
    ((conv => whnf); (repeat' (first | (refine Br.tt (by first | assumption | with_reducible rfl | with_reducible exact Bool.not_false) ?_; conv => whnf) | (refine Br.ff (by first | assumption | with_reducible rfl | with_reducible exact Bool.not_true) ?_; conv => whnf) | fail)))
    (first | exact ⟨rfl, rfl⟩ | exact ⟨trivial, rfl⟩ | exact ⟨rfl, trivial⟩ | exact ⟨trivial, trivial⟩)
end Go.Proofs.L08

namespace Go.Proofs.L08
open Go Aw Go.Proofs
variable {W0 : World}
set_option linter.unusedSimpArgs false in
set_option maxRecDepth 100000 in
set_option maxHeartbeats 4000000 in
theorem nd_ok {n : Nat} {p : Pz} (h : PzOk W0 n p) (hp : p.Le) (hn : n < 1000000000) (r : R) (hr : r.ws.length ≤ n) : CF W0 58 (pNd p) r := by
  have hf := una_ok h hp hn r hr
  have hfw := pUna_ws hp r
  unfold CF pNd at *
  generalize (pUna p r).1 = a0 at *
  generalize (pUna p r).2 = r0 at *
  generalize hK : loopF [97, 110, 100] 3 p.una (r0.ws.length + 1) a0 r0 = K
  rw [F.dv_eq] at hf ⊢
  unfold R.ps at hf ⊢
  refine calls_of_awp1 tok [.cell 2 26] Tryd.func58 rfl rfl rfl rfl rfl rfl ?_
  ((conv => whnf); (repeat' (first | (refine Br.tt (by first | assumption | with_reducible rfl | with_reducible exact Bool.not_false) ?_; conv => whnf) | (refine Br.ff (by first | assumption | with_reducible rfl | with_reducible exact Bool.not_true) ?_; conv => whnf) | fail)))
  refine CallsA.then1 hf ?_
  ((conv => whnf); (repeat' (first | (refine Br.tt (by first | assumption | with_reducible rfl | with_reducible exact Bool.not_false) ?_; conv => whnf) | (refine Br.ff (by first | assumption | with_reducible rfl | with_reducible exact Bool.not_true) ?_; conv => whnf) | fail)))
  refine loop_by3 (fun (k : Nat) (t : F) (q : R) => q.ws.length < k ∧ q.ws.length ≤ n ∧ loopF [97, 110, 100] 3 p.una k t q = K)
    (fun _ _ _ => mkT [(0, .ptr 50000 0), (2, .ptr 2 0), (3, .ptr 3 0)])
    (fun _ t q => mkT [(50000, .box [.d (.sl (q.ws.map Wd.dv)), .d (.int .i64 q.eb), .d (.int .i64 q.ec), .d (.int .i64 q.why), .d (.int .i64 q.fb), .d (.int .i64 q.fc)]),
      (2, .box [.d (.int .i64 0), .d (.str []), .d (.int .i64 0), .nil 4, .nil 5]), (3, .box [.d (.int .i64 t.op), .d (.str t.nam), .d (.int .i64 t.md), .d (.sl (T.dvs t.ts)), .d (.sl (F.dvs t.fs))])])
    (fun k _ _ => k) (r0.ws.length + 1) a0 r0 ⟨by omega, by omega, hK⟩
    (Weak.of [] rfl rfl ⟨⟨_, rfl, rfl⟩, ⟨_, rfl, rfl⟩, ⟨_, rfl, rfl⟩, trivial⟩ ⟨⟨_, rfl, ⟨rfl, rfl, rfl, rfl, rfl, rfl, trivial⟩⟩, ⟨_, rfl, ⟨rfl, rfl, rfl, rfl, rfl, trivial⟩⟩, ⟨_, rfl, ⟨rfl, rfl, rfl, rfl, rfl, trivial⟩⟩, trivial⟩) ?_
  intro k t q ⟨hk, hq, e⟩
  obtain ⟨k', rfl⟩ : ∃ k', k = k' + 1 := ⟨k - 1, by omega⟩
  have ht := take_ok (W0 := W0) q [[97, 110, 100]] (by omega) (by decide) (by decide)
  have hl := R.take_ws q [[97, 110, 100]]
  have hs := R.take_some (r := q) (l := [[97, 110, 100]]) (by decide)
  rw [loopF] at e
  generalize (q.take [[97, 110, 100]]).1 = s at *
  generalize (q.take [[97, 110, 100]]).2 = q1 at *
  unfold R.ps at ht
  ((conv => whnf); (repeat' (first | (refine Br.tt (by first | assumption | with_reducible rfl | with_reducible exact Bool.not_false) ?_; conv => whnf) | (refine Br.ff (by first | assumption | with_reducible rfl | with_reducible exact Bool.not_true) ?_; conv => whnf) | fail)))
  refine Need.of (by decide) ?_
  ((conv => whnf); (repeat' (first | (refine Br.tt (by first | assumption | with_reducible rfl | with_reducible exact Bool.not_false) ?_; conv => whnf) | (refine Br.ff (by first | assumption | with_reducible rfl | with_reducible exact Bool.not_true) ?_; conv => whnf) | fail)))
  refine CallsA.then1 ht ?_
  ((conv => whnf); (repeat' (first | (refine Br.tt (by first | assumption | with_reducible rfl | with_reducible exact Bool.not_false) ?_; conv => whnf) | (refine Br.ff (by first | assumption | with_reducible rfl | with_reducible exact Bool.not_true) ?_; conv => whnf) | fail)))
  by_cases h1 : s = []
  · have e1 : (s != []) = false := by simpa using h1
    rw [if_pos h1] at e
    subst e
    ((conv => whnf); (repeat' (first | (refine Br.tt (by first | assumption | with_reducible rfl | with_reducible exact Bool.not_false) ?_; conv => whnf) | (refine Br.ff (by first | assumption | with_reducible rfl | with_reducible exact Bool.not_true) ?_; conv => whnf) | fail)))
    exact ⟨rfl, rfl⟩
  · have e1 : (s != []) = true := by simpa using h1
    rw [if_neg h1] at e
    have hlt := (hs h1).1
    have hx := h.una q1 (by omega)
    have hxw := hp.una q1
    unfold CF at hx
    generalize (p.una q1).1 = b at *
    generalize (p.una q1).2 = q2 at *
    have h2 := two_ok (W0 := W0) 3 t b
    rw [show (F.mk 3 [] 0 [] [t, b]).dv = (F.bin 3 t b).dv from rfl, F.dv_eq (F.bin 3 t b), F.dv_eq t, F.dv_eq b] at h2
    rw [F.dv_eq] at hx
    unfold R.ps at hx
    ((conv => whnf); (repeat' (first | (refine Br.tt (by first | assumption | with_reducible rfl | with_reducible exact Bool.not_false) ?_; conv => whnf) | (refine Br.ff (by first | assumption | with_reducible rfl | with_reducible exact Bool.not_true) ?_; conv => whnf) | fail)))
    refine ⟨by kernel_rfl, ?_⟩
    ((conv => whnf); (repeat' (first | (refine Br.tt (by first | assumption | with_reducible rfl | with_reducible exact Bool.not_false) ?_; conv => whnf) | (refine Br.ff (by first | assumption | with_reducible rfl | with_reducible exact Bool.not_true) ?_; conv => whnf) | fail)))
    refine CallD.of1 hx ?_
    ((conv => whnf); (repeat' (first | (refine Br.tt (by first | assumption | with_reducible rfl | with_reducible exact Bool.not_false) ?_; conv => whnf) | (refine Br.ff (by first | assumption | with_reducible rfl | with_reducible exact Bool.not_true) ?_; conv => whnf) | fail)))
    refine CallD.of h2 ?_
    ((conv => whnf); (repeat' (first | (refine Br.tt (by first | assumption | with_reducible rfl | with_reducible exact Bool.not_false) ?_; conv => whnf) | (refine Br.ff (by first | assumption | with_reducible rfl | with_reducible exact Bool.not_true) ?_; conv => whnf) | fail)))
    refine ⟨k', F.bin 3 t b, q2, ⟨⟨by omega, by omega, e⟩, by omega⟩,
      Weak.of [] rfl rfl ⟨⟨_, rfl, rfl⟩, ⟨_, rfl, rfl⟩, ⟨_, rfl, rfl⟩, trivial⟩ ⟨⟨_, rfl, ⟨rfl, rfl, rfl, rfl, rfl, rfl, trivial⟩⟩, ⟨_, rfl, ⟨rfl, rfl, rfl, rfl, rfl, trivial⟩⟩, ⟨_, rfl, ⟨rfl, rfl, rfl, rfl, rfl, trivial⟩⟩, trivial⟩⟩
set_option linter.unusedSimpArgs false in
set_option maxRecDepth 100000 in
set_option maxHeartbeats 4000000 in
theorem orr_ok {n : Nat} {p : Pz} (h : PzOk W0 n p) (hp : p.Le) (hn : n < 1000000000) (r : R) (hr : r.ws.length ≤ n) : CF W0 36 (pOrr p) r := by
  have hf := nd_ok h hp hn r hr
  have hfw := pNd_ws hp r
  unfold CF pOrr at *
  generalize (pNd p r).1 = a0 at *
  generalize (pNd p r).2 = r0 at *
  generalize hK : loopF [111, 114] 4 p.nd (r0.ws.length + 1) a0 r0 = K
  rw [F.dv_eq] at hf ⊢
  unfold R.ps at hf ⊢
  refine calls_of_awp1 tok [.cell 2 26] Tryd.func36 rfl rfl rfl rfl rfl rfl ?_
  ((conv => whnf); (repeat' (first | (refine Br.tt (by first | assumption | with_reducible rfl | with_reducible exact Bool.not_false) ?_; conv => whnf) | (refine Br.ff (by first | assumption | with_reducible rfl | with_reducible exact Bool.not_true) ?_; conv => whnf) | fail)))
  refine CallsA.then1 hf ?_
  ((conv => whnf); (repeat' (first | (refine Br.tt (by first | assumption | with_reducible rfl | with_reducible exact Bool.not_false) ?_; conv => whnf) | (refine Br.ff (by first | assumption | with_reducible rfl | with_reducible exact Bool.not_true) ?_; conv => whnf) | fail)))
  refine loop_by3 (fun (k : Nat) (t : F) (q : R) => q.ws.length < k ∧ q.ws.length ≤ n ∧ loopF [111, 114] 4 p.nd k t q = K)
    (fun _ _ _ => mkT [(0, .ptr 50000 0), (2, .ptr 2 0), (3, .ptr 3 0)])
    (fun _ t q => mkT [(50000, .box [.d (.sl (q.ws.map Wd.dv)), .d (.int .i64 q.eb), .d (.int .i64 q.ec), .d (.int .i64 q.why), .d (.int .i64 q.fb), .d (.int .i64 q.fc)]),
      (2, .box [.d (.int .i64 0), .d (.str []), .d (.int .i64 0), .nil 4, .nil 5]), (3, .box [.d (.int .i64 t.op), .d (.str t.nam), .d (.int .i64 t.md), .d (.sl (T.dvs t.ts)), .d (.sl (F.dvs t.fs))])])
    (fun k _ _ => k) (r0.ws.length + 1) a0 r0 ⟨by omega, by omega, hK⟩
    (Weak.of [] rfl rfl ⟨⟨_, rfl, rfl⟩, ⟨_, rfl, rfl⟩, ⟨_, rfl, rfl⟩, trivial⟩ ⟨⟨_, rfl, ⟨rfl, rfl, rfl, rfl, rfl, rfl, trivial⟩⟩, ⟨_, rfl, ⟨rfl, rfl, rfl, rfl, rfl, trivial⟩⟩, ⟨_, rfl, ⟨rfl, rfl, rfl, rfl, rfl, trivial⟩⟩, trivial⟩) ?_
  intro k t q ⟨hk, hq, e⟩
  obtain ⟨k', rfl⟩ : ∃ k', k = k' + 1 := ⟨k - 1, by omega⟩
  have ht := take_ok (W0 := W0) q [[111, 114]] (by omega) (by decide) (by decide)
  have hl := R.take_ws q [[111, 114]]
  have hs := R.take_some (r := q) (l := [[111, 114]]) (by decide)
  rw [loopF] at e
  generalize (q.take [[111, 114]]).1 = s at *
  generalize (q.take [[111, 114]]).2 = q1 at *
  unfold R.ps at ht
  ((conv => whnf); (repeat' (first | (refine Br.tt (by first | assumption | with_reducible rfl | with_reducible exact Bool.not_false) ?_; conv => whnf) | (refine Br.ff (by first | assumption | with_reducible rfl | with_reducible exact Bool.not_true) ?_; conv => whnf) | fail)))
  refine Need.of (by decide) ?_
  ((conv => whnf); (repeat' (first | (refine Br.tt (by first | assumption | with_reducible rfl | with_reducible exact Bool.not_false) ?_; conv => whnf) | (refine Br.ff (by first | assumption | with_reducible rfl | with_reducible exact Bool.not_true) ?_; conv => whnf) | fail)))
  refine CallsA.then1 ht ?_
  ((conv => whnf); (repeat' (first | (refine Br.tt (by first | assumption | with_reducible rfl | with_reducible exact Bool.not_false) ?_; conv => whnf) | (refine Br.ff (by first | assumption | with_reducible rfl | with_reducible exact Bool.not_true) ?_; conv => whnf) | fail)))
  by_cases h1 : s = []
  · have e1 : (s != []) = false := by simpa using h1
    rw [if_pos h1] at e
    subst e
    ((conv => whnf); (repeat' (first | (refine Br.tt (by first | assumption | with_reducible rfl | with_reducible exact Bool.not_false) ?_; conv => whnf) | (refine Br.ff (by first | assumption | with_reducible rfl | with_reducible exact Bool.not_true) ?_; conv => whnf) | fail)))
    exact ⟨rfl, rfl⟩
  · have e1 : (s != []) = true := by simpa using h1
    rw [if_neg h1] at e
    have hlt := (hs h1).1
    have hx := h.nd q1 (by omega)
    have hxw := hp.nd q1
    unfold CF at hx
    generalize (p.nd q1).1 = b at *
    generalize (p.nd q1).2 = q2 at *
    have h2 := two_ok (W0 := W0) 4 t b
    rw [show (F.mk 4 [] 0 [] [t, b]).dv = (F.bin 4 t b).dv from rfl, F.dv_eq (F.bin 4 t b), F.dv_eq t, F.dv_eq b] at h2
    rw [F.dv_eq] at hx
    unfold R.ps at hx
    ((conv => whnf); (repeat' (first | (refine Br.tt (by first | assumption | with_reducible rfl | with_reducible exact Bool.not_false) ?_; conv => whnf) | (refine Br.ff (by first | assumption | with_reducible rfl | with_reducible exact Bool.not_true) ?_; conv => whnf) | fail)))
    refine ⟨by kernel_rfl, ?_⟩
    ((conv => whnf); (repeat' (first | (refine Br.tt (by first | assumption | with_reducible rfl | with_reducible exact Bool.not_false) ?_; conv => whnf) | (refine Br.ff (by first | assumption | with_reducible rfl | with_reducible exact Bool.not_true) ?_; conv => whnf) | fail)))
    refine CallD.of1 hx ?_
    ((conv => whnf); (repeat' (first | (refine Br.tt (by first | assumption | with_reducible rfl | with_reducible exact Bool.not_false) ?_; conv => whnf) | (refine Br.ff (by first | assumption | with_reducible rfl | with_reducible exact Bool.not_true) ?_; conv => whnf) | fail)))
    refine CallD.of h2 ?_
    ((conv => whnf); (repeat' (first | (refine Br.tt (by first | assumption | with_reducible rfl | with_reducible exact Bool.not_false) ?_; conv => whnf) | (refine Br.ff (by first | assumption | with_reducible rfl | with_reducible exact Bool.not_true) ?_; conv => whnf) | fail)))
    refine ⟨k', F.bin 4 t b, q2, ⟨⟨by omega, by omega, e⟩, by omega⟩,
      Weak.of [] rfl rfl ⟨⟨_, rfl, rfl⟩, ⟨_, rfl, rfl⟩, ⟨_, rfl, rfl⟩, trivial⟩ ⟨⟨_, rfl, ⟨rfl, rfl, rfl, rfl, rfl, rfl, trivial⟩⟩, ⟨_, rfl, ⟨rfl, rfl, rfl, rfl, rfl, trivial⟩⟩, ⟨_, rfl, ⟨rfl, rfl, rfl, rfl, rfl, trivial⟩⟩, trivial⟩⟩
set_option linter.unusedSimpArgs false in
set_option maxRecDepth 100000 in
set_option maxHeartbeats 4000000 in
theorem imp_ok {n : Nat} {p : Pz} (h : PzOk W0 n p) (hp : p.Le) (hn : n < 1000000000) (r : R) (hr : r.ws.length ≤ n) : CF W0 24 (pImp p) r := by
  have hf := orr_ok h hp hn r hr
  have hfw := pOrr_ws hp r
  unfold CF pImp at *
  simp only
  generalize (pOrr p r).1 = t at *
  generalize (pOrr p r).2 = q at *
  have ht := take_ok (W0 := W0) q [[45, 62]] (by omega) (by decide) (by decide)
  have hl := R.take_ws q [[45, 62]]
  have hs := R.take_some (r := q) (l := [[45, 62]]) (by decide)
  generalize (q.take [[45, 62]]).1 = s at *
  generalize (q.take [[45, 62]]).2 = q1 at *
  by_cases h1 : s = []
  · have e1 : (s != []) = false := by simpa using h1
    rw [if_pos h1]
    rw [F.dv_eq] at hf ⊢
    unfold R.ps at *
    refine calls_of_awp1 tok [.cell 2 26] Tryd.func24 rfl rfl rfl rfl rfl rfl ?_
    ((conv => whnf); (repeat' (first | (refine Br.tt (by first | assumption | with_reducible rfl | with_reducible exact Bool.not_false) ?_; conv => whnf) | (refine Br.ff (by first | assumption | with_reducible rfl | with_reducible exact Bool.not_true) ?_; conv => whnf) | fail)))
    refine CallsA.then1 hf ?_
    ((conv => whnf); (repeat' (first | (refine Br.tt (by first | assumption | with_reducible rfl | with_reducible exact Bool.not_false) ?_; conv => whnf) | (refine Br.ff (by first | assumption | with_reducible rfl | with_reducible exact Bool.not_true) ?_; conv => whnf) | fail)))
    refine Need.of (by decide) ?_
    ((conv => whnf); (repeat' (first | (refine Br.tt (by first | assumption | with_reducible rfl | with_reducible exact Bool.not_false) ?_; conv => whnf) | (refine Br.ff (by first | assumption | with_reducible rfl | with_reducible exact Bool.not_true) ?_; conv => whnf) | fail)))
    refine CallsA.then1 ht ?_
    ((conv => whnf); (repeat' (first | (refine Br.tt (by first | assumption | with_reducible rfl | with_reducible exact Bool.not_false) ?_; conv => whnf) | (refine Br.ff (by first | assumption | with_reducible rfl | with_reducible exact Bool.not_true) ?_; conv => whnf) | fail)))
    (first | exact ⟨rfl, rfl⟩ | exact ⟨trivial, rfl⟩ | exact ⟨rfl, trivial⟩ | exact ⟨trivial, trivial⟩)
  · have e1 : (s != []) = true := by simpa using h1
    rw [if_neg h1]
    have hlt := (hs h1).1
    have hx := h.imp q1 (by omega)
    unfold CF at hx
    generalize (p.imp q1).1 = b at *
    generalize (p.imp q1).2 = q2 at *
    have h2 := two_ok (W0 := W0) 5 t b
    rw [show (F.mk 5 [] 0 [] [t, b]).dv = (F.bin 5 t b).dv from rfl, F.dv_eq (F.bin 5 t b), F.dv_eq t, F.dv_eq b] at h2
    rw [F.dv_eq] at hx hf ⊢
    unfold R.ps at *
    refine calls_of_awp1 tok [.cell 2 26] Tryd.func24 rfl rfl rfl rfl rfl rfl ?_
    ((conv => whnf); (repeat' (first | (refine Br.tt (by first | assumption | with_reducible rfl | with_reducible exact Bool.not_false) ?_; conv => whnf) | (refine Br.ff (by first | assumption | with_reducible rfl | with_reducible exact Bool.not_true) ?_; conv => whnf) | fail)))
    refine CallsA.then1 hf ?_
    ((conv => whnf); (repeat' (first | (refine Br.tt (by first | assumption | with_reducible rfl | with_reducible exact Bool.not_false) ?_; conv => whnf) | (refine Br.ff (by first | assumption | with_reducible rfl | with_reducible exact Bool.not_true) ?_; conv => whnf) | fail)))
    refine Need.of (by decide) ?_
    ((conv => whnf); (repeat' (first | (refine Br.tt (by first | assumption | with_reducible rfl | with_reducible exact Bool.not_false) ?_; conv => whnf) | (refine Br.ff (by first | assumption | with_reducible rfl | with_reducible exact Bool.not_true) ?_; conv => whnf) | fail)))
    refine CallsA.then1 ht ?_
    ((conv => whnf); (repeat' (first | (refine Br.tt (by first | assumption | with_reducible rfl | with_reducible exact Bool.not_false) ?_; conv => whnf) | (refine Br.ff (by first | assumption | with_reducible rfl | with_reducible exact Bool.not_true) ?_; conv => whnf) | fail)))
    refine ⟨by kernel_rfl, ?_⟩
    ((conv => whnf); (repeat' (first | (refine Br.tt (by first | assumption | with_reducible rfl | with_reducible exact Bool.not_false) ?_; conv => whnf) | (refine Br.ff (by first | assumption | with_reducible rfl | with_reducible exact Bool.not_true) ?_; conv => whnf) | fail)))
    refine CallD.of1 hx ?_
    ((conv => whnf); (repeat' (first | (refine Br.tt (by first | assumption | with_reducible rfl | with_reducible exact Bool.not_false) ?_; conv => whnf) | (refine Br.ff (by first | assumption | with_reducible rfl | with_reducible exact Bool.not_true) ?_; conv => whnf) | fail)))
    refine CallD.of h2 ?_
    ((conv => whnf); (repeat' (first | (refine Br.tt (by first | assumption | with_reducible rfl | with_reducible exact Bool.not_false) ?_; conv => whnf) | (refine Br.ff (by first | assumption | with_reducible rfl | with_reducible exact Bool.not_true) ?_; conv => whnf) | fail)))
    (first | exact ⟨rfl, rfl⟩ | exact ⟨trivial, rfl⟩ | exact ⟨rfl, trivial⟩ | exact ⟨trivial, trivial⟩)
set_option linter.unusedSimpArgs false in
set_option maxRecDepth 100000 in
set_option maxHeartbeats 4000000 in
theorem frm_ok {n : Nat} {p : Pz} (h : PzOk W0 n p) (hp : p.Le) (hn : n < 1000000000) (r : R) (hr : r.ws.length ≤ n) : CF W0 13 (pFrm p) r := by
  have hf := imp_ok h hp hn r hr
  have hfw := pImp_ws hp r
  unfold CF pFrm at *
  generalize (pImp p r).1 = a0 at *
  generalize (pImp p r).2 = r0 at *
  generalize hK : loopF [60, 45, 62] 6 p.imp (r0.ws.length + 1) a0 r0 = K
  rw [F.dv_eq] at hf ⊢
  unfold R.ps at hf ⊢
  refine calls_of_awp1 tok [.cell 2 26] Tryd.func13 rfl rfl rfl rfl rfl rfl ?_
  ((conv => whnf); (repeat' (first | (refine Br.tt (by first | assumption | with_reducible rfl | with_reducible exact Bool.not_false) ?_; conv => whnf) | (refine Br.ff (by first | assumption | with_reducible rfl | with_reducible exact Bool.not_true) ?_; conv => whnf) | fail)))
  refine CallsA.then1 hf ?_
  ((conv => whnf); (repeat' (first | (refine Br.tt (by first | assumption | with_reducible rfl | with_reducible exact Bool.not_false) ?_; conv => whnf) | (refine Br.ff (by first | assumption | with_reducible rfl | with_reducible exact Bool.not_true) ?_; conv => whnf) | fail)))
  refine loop_by3 (fun (k : Nat) (t : F) (q : R) => q.ws.length < k ∧ q.ws.length ≤ n ∧ loopF [60, 45, 62] 6 p.imp k t q = K)
    (fun _ _ _ => mkT [(0, .ptr 50000 0), (2, .ptr 2 0), (3, .ptr 3 0)])
    (fun _ t q => mkT [(50000, .box [.d (.sl (q.ws.map Wd.dv)), .d (.int .i64 q.eb), .d (.int .i64 q.ec), .d (.int .i64 q.why), .d (.int .i64 q.fb), .d (.int .i64 q.fc)]),
      (2, .box [.d (.int .i64 0), .d (.str []), .d (.int .i64 0), .nil 4, .nil 5]), (3, .box [.d (.int .i64 t.op), .d (.str t.nam), .d (.int .i64 t.md), .d (.sl (T.dvs t.ts)), .d (.sl (F.dvs t.fs))])])
    (fun k _ _ => k) (r0.ws.length + 1) a0 r0 ⟨by omega, by omega, hK⟩
    (Weak.of [] rfl rfl ⟨⟨_, rfl, rfl⟩, ⟨_, rfl, rfl⟩, ⟨_, rfl, rfl⟩, trivial⟩ ⟨⟨_, rfl, ⟨rfl, rfl, rfl, rfl, rfl, rfl, trivial⟩⟩, ⟨_, rfl, ⟨rfl, rfl, rfl, rfl, rfl, trivial⟩⟩, ⟨_, rfl, ⟨rfl, rfl, rfl, rfl, rfl, trivial⟩⟩, trivial⟩) ?_
  intro k t q ⟨hk, hq, e⟩
  obtain ⟨k', rfl⟩ : ∃ k', k = k' + 1 := ⟨k - 1, by omega⟩
  have ht := take_ok (W0 := W0) q [[60, 45, 62]] (by omega) (by decide) (by decide)
  have hl := R.take_ws q [[60, 45, 62]]
  have hs := R.take_some (r := q) (l := [[60, 45, 62]]) (by decide)
  rw [loopF] at e
  generalize (q.take [[60, 45, 62]]).1 = s at *
  generalize (q.take [[60, 45, 62]]).2 = q1 at *
  unfold R.ps at ht
  ((conv => whnf); (repeat' (first | (refine Br.tt (by first | assumption | with_reducible rfl | with_reducible exact Bool.not_false) ?_; conv => whnf) | (refine Br.ff (by first | assumption | with_reducible rfl | with_reducible exact Bool.not_true) ?_; conv => whnf) | fail)))
  refine Need.of (by decide) ?_
  ((conv => whnf); (repeat' (first | (refine Br.tt (by first | assumption | with_reducible rfl | with_reducible exact Bool.not_false) ?_; conv => whnf) | (refine Br.ff (by first | assumption | with_reducible rfl | with_reducible exact Bool.not_true) ?_; conv => whnf) | fail)))
  refine CallsA.then1 ht ?_
  ((conv => whnf); (repeat' (first | (refine Br.tt (by first | assumption | with_reducible rfl | with_reducible exact Bool.not_false) ?_; conv => whnf) | (refine Br.ff (by first | assumption | with_reducible rfl | with_reducible exact Bool.not_true) ?_; conv => whnf) | fail)))
  by_cases h1 : s = []
  · have e1 : (s != []) = false := by simpa using h1
    rw [if_pos h1] at e
    subst e
    ((conv => whnf); (repeat' (first | (refine Br.tt (by first | assumption | with_reducible rfl | with_reducible exact Bool.not_false) ?_; conv => whnf) | (refine Br.ff (by first | assumption | with_reducible rfl | with_reducible exact Bool.not_true) ?_; conv => whnf) | fail)))
    exact ⟨rfl, rfl⟩
  · have e1 : (s != []) = true := by simpa using h1
    rw [if_neg h1] at e
    have hlt := (hs h1).1
    have hx := h.imp q1 (by omega)
    have hxw := hp.imp q1
    unfold CF at hx
    generalize (p.imp q1).1 = b at *
    generalize (p.imp q1).2 = q2 at *
    have h2 := two_ok (W0 := W0) 6 t b
    rw [show (F.mk 6 [] 0 [] [t, b]).dv = (F.bin 6 t b).dv from rfl, F.dv_eq (F.bin 6 t b), F.dv_eq t, F.dv_eq b] at h2
    rw [F.dv_eq] at hx
    unfold R.ps at hx
    ((conv => whnf); (repeat' (first | (refine Br.tt (by first | assumption | with_reducible rfl | with_reducible exact Bool.not_false) ?_; conv => whnf) | (refine Br.ff (by first | assumption | with_reducible rfl | with_reducible exact Bool.not_true) ?_; conv => whnf) | fail)))
    refine ⟨by kernel_rfl, ?_⟩
    ((conv => whnf); (repeat' (first | (refine Br.tt (by first | assumption | with_reducible rfl | with_reducible exact Bool.not_false) ?_; conv => whnf) | (refine Br.ff (by first | assumption | with_reducible rfl | with_reducible exact Bool.not_true) ?_; conv => whnf) | fail)))
    refine CallD.of1 hx ?_
    ((conv => whnf); (repeat' (first | (refine Br.tt (by first | assumption | with_reducible rfl | with_reducible exact Bool.not_false) ?_; conv => whnf) | (refine Br.ff (by first | assumption | with_reducible rfl | with_reducible exact Bool.not_true) ?_; conv => whnf) | fail)))
    refine CallD.of h2 ?_
    ((conv => whnf); (repeat' (first | (refine Br.tt (by first | assumption | with_reducible rfl | with_reducible exact Bool.not_false) ?_; conv => whnf) | (refine Br.ff (by first | assumption | with_reducible rfl | with_reducible exact Bool.not_true) ?_; conv => whnf) | fail)))
    refine ⟨k', F.bin 6 t b, q2, ⟨⟨by omega, by omega, e⟩, by omega⟩,
      Weak.of [] rfl rfl ⟨⟨_, rfl, rfl⟩, ⟨_, rfl, rfl⟩, ⟨_, rfl, rfl⟩, trivial⟩ ⟨⟨_, rfl, ⟨rfl, rfl, rfl, rfl, rfl, rfl, trivial⟩⟩, ⟨_, rfl, ⟨rfl, rfl, rfl, rfl, rfl, trivial⟩⟩, ⟨_, rfl, ⟨rfl, rfl, rfl, rfl, rfl, trivial⟩⟩, trivial⟩⟩
theorem pz_ok : ∀ n : Nat, n < 1000000000 → PzOk W0 n (pz n)
  | 0, _ => ⟨fun _ h => absurd h (by omega), fun _ h => absurd h (by omega), fun _ h => absurd h (by omega), fun _ h => absurd h (by omega), fun _ _ h => absurd h (by omega), fun _ h => absurd h (by omega), fun _ h => absurd h (by omega), fun _ h => absurd h (by omega), fun _ h => absurd h (by omega)⟩
  | n + 1, hn =>
    have h := pz_ok n (by omega)
    have hp := pz_le n
    have hn' : n < 1000000000 := by omega
    ⟨fun r hr => fac_ok h hp hn' r (by omega), fun r hr => prd_ok h hp hn' r (by omega), fun r hr => trm_ok h hp hn' r (by omega), fun r hr => una_ok h hp hn' r (by omega), fun k r hr => qua_ok h hp hn' k r (by omega),
      fun r hr => nd_ok h hp hn' r (by omega), fun r hr => orr_ok h hp hn' r (by omega), fun r hr => imp_ok h hp hn' r (by omega), fun r hr => frm_ok h hp hn' r (by omega)⟩
/-- The whole grammar, of a reader. -/
def rdForm (r : R) : F × R := (pz (r.ws.length + 1)).frm r
theorem readForm_ok (r : R) (hr : r.ws.length < 100000000) : CF W0 13 rdForm r := (pz_ok (r.ws.length + 1) (by omega)).frm r (by omega)
end Go.Proofs.L08
