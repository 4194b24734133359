/-
  Contracts of printing, of a formula that is right; a formula that is checked is one; texts of less than the bounds that stand in each.
-/
import Derived.Test.YtdeljonfleopdaaDoorTreeTwo
import Derived.Lib.ItoaLen
set_option linter.unusedSectionVars false
set_option linter.unusedSimpArgs false
set_option linter.unusedVariables false
namespace Go.Proofs.L08
open Go Aw Go.Proofs
variable {W0 : World}
/-- Terms that are well made. -/
inductive RT where
  | num (n : Int)
  | name (s : List UInt8)
  | neg (a : RT)
  | bin (k : Int) (a b : RT)
inductive RF where
  | con (k : Int)
  | nt (a : RF)
  | bin (k : Int) (a b : RF)
  | qu (k : Int) (s : List UInt8) (a : RF)
  | rel (k : Int) (a b : RT)
  | cong (a b : RT) (m : Int)
def RT.t : RT → T
  | .num n => .mk 0 n [] []
  | .name s => .mk 1 0 s []
  | .neg a => .mk 2 0 [] [a.t]
  | .bin k a b => .mk k 0 [] [a.t, b.t]
def RF.f : RF → F
  | .con k => .mk k [] 0 [] []
  | .nt a => .mk 2 [] 0 [] [a.f]
  | .bin k a b => .mk k [] 0 [] [a.f, b.f]
  | .qu k s a => .mk k s 0 [] [a.f]
  | .rel k a b => .mk k [] 0 [a.t, b.t] []
  | .cong a b m => .mk 15 [] m [a.t, b.t] []
def RT.Good : RT → Prop
  | .num n => 0 ≤ n ∧ n ≤ 9223372036854775807
  | .name s => nameOk s = true ∧ s.length < 1000000000000
  | .neg a => a.Good
  | .bin k a b => (k = 3 ∨ k = 4 ∨ k = 5) ∧ a.Good ∧ b.Good
def RF.Good : RF → Prop
  | .con k => k = 0 ∨ k = 1
  | .nt a => a.Good
  | .bin k a b => (k = 3 ∨ k = 4 ∨ k = 5 ∨ k = 6) ∧ a.Good ∧ b.Good
  | .qu k s a => (k = 7 ∨ k = 8) ∧ nameOk s = true ∧ s.length < 1000000000000 ∧ a.Good
  | .rel k a b => (k = 9 ∨ k = 10 ∨ k = 11 ∨ k = 12 ∨ k = 13 ∨ k = 14) ∧ a.Good ∧ b.Good
  | .cong a b m => a.Good ∧ b.Good ∧ 1 ≤ m ∧ m ≤ 9223372036854775807
def RT.nodes : RT → Nat
  | .num _ => 1
  | .name _ => 1
  | .neg a => a.nodes + 1
  | .bin _ a b => a.nodes + b.nodes + 1
def RF.nodes : RF → Nat
  | .con _ => 1
  | .nt a => a.nodes + 1
  | .bin _ a b => a.nodes + b.nodes + 1
  | .qu _ _ a => a.nodes + 1
  | .rel _ a b => a.nodes + b.nodes + 1
  | .cong a b _ => a.nodes + b.nodes + 1
def RT.binds : RT → Nat
  | .bin k _ _ => if k = 5 then 1 else 0
  | _ => 2
def op2 (k : Int) : List UInt8 := if k = 3 then [32, 43, 32] else if k = 4 then [32, 45, 32] else [32, 42, 32]
/-- In brackets, if it holds together less than it must. -/
def wrapP (least binds : Nat) (s : List UInt8) : List UInt8 := if binds < least then [91] ++ s ++ [93] else s
def RT.show : RT → List UInt8
  | .num n => Lib.itoa n
  | .name s => s
  | .neg a => [45] ++ wrapP 2 a.binds a.show
  | .bin k a b => wrapP (if k = 5 then 1 else 0) a.binds a.show ++ op2 k ++ wrapP (if k = 5 then 2 else 1) b.binds b.show
def sgn (k : Int) : List UInt8 :=
  if k = 3 then [32, 97, 110, 100, 32] else if k = 4 then [32, 111, 114, 32] else if k = 5 then [32, 45, 62, 32] else if k = 6 then [32, 60, 45, 62, 32]
  else if k = 9 then [32, 60, 61, 32] else if k = 10 then [32, 60, 32] else if k = 11 then [32, 62, 61, 32] else if k = 12 then [32, 62, 32] else if k = 13 then [32, 61, 32]
  else if k = 14 then [32, 33, 61, 32] else [32, 126, 32]
def RF.show : RF → List UInt8
  | .con k => if k = 0 then [116, 114, 117, 101] else [102, 97, 108, 115, 101]
  | .nt a => [110, 111, 116, 32] ++ a.show
  | .bin k a b => [40] ++ a.show ++ sgn k ++ b.show ++ [41]
  | .qu k s a => (if k = 7 then [101, 120, 32] else [97, 108, 108, 32]) ++ s ++ [46, 32] ++ a.show
  | .rel k a b => a.show ++ sgn k ++ b.show
  | .cong a b m => a.show ++ [32, 126, 32] ++ b.show ++ [32, 109, 111, 100, 32] ++ Lib.itoa m
theorem itoa_short (n : Int) (h0 : 0 ≤ n) (h1 : n ≤ 9223372036854775807) : (Lib.itoa n).length ≤ 1000 := by
  have := Lib.itoa_length_le n (by omega) h1; omega
theorem wrapP_len (l b : Nat) (s : List UInt8) : (wrapP l b s).length ≤ s.length + 2 := by
  unfold wrapP; split <;> simp
theorem op2_len (k : Int) : (op2 k).length = 3 := by unfold op2; split; rfl; split <;> rfl
theorem sgn_len (k : Int) : (sgn k).length ≤ 5 := by unfold sgn; repeat' split
                                                     all_goals simp
theorem RT.show_len (a : RT) : a.Good → a.show.length ≤ a.nodes * 1000000010000 := by
  induction a with
  | num n => intro h; have := itoa_short n h.1 h.2; simp only [RT.show, RT.nodes]; omega
  | name s => intro h; have := h.2; simp only [RT.show, RT.nodes]; omega
  | neg a ih => intro h; have := ih h; have := wrapP_len 2 a.binds a.show; simp only [RT.show, RT.nodes, List.length_append, List.length_singleton]; omega
  | bin k a b iha ihb =>
    intro h
    have h1 := iha h.2.1; have h2 := ihb h.2.2
    have h3 := wrapP_len (if k = 5 then 1 else 0) a.binds a.show
    have h4 := wrapP_len (if k = 5 then 2 else 1) b.binds b.show
    have h5 := op2_len k
    simp only [RT.show, RT.nodes, List.length_append]
    omega
theorem RF.show_len (a : RF) : a.Good → a.show.length ≤ a.nodes * 1000000010000 := by
  induction a with
  | con k => intro _; simp only [RF.show, RF.nodes]; split <;> simp
  | nt a ih => intro h; have := ih h; simp only [RF.show, RF.nodes, List.length_append, List.length_cons, List.length_nil]; omega
  | bin k a b iha ihb =>
    intro h
    have h1 := iha h.2.1; have h2 := ihb h.2.2; have := sgn_len k
    simp only [RF.show, RF.nodes, List.length_append, List.length_cons, List.length_nil]; omega
  | qu k s a ih =>
    intro h
    have h1 := ih h.2.2.2; have h2 := h.2.2.1
    have h3 : (if k = 7 then [101, 120, 32] else [97, 108, 108, 32] : List UInt8).length ≤ 4 := by split <;> simp
    simp only [RF.show, RF.nodes, List.length_append, List.length_cons, List.length_nil]; omega
  | rel k a b =>
    intro h
    have h1 := a.show_len h.2.1; have h2 := b.show_len h.2.2; have := sgn_len k
    simp only [RF.show, RF.nodes, List.length_append]; omega
  | cong a b m =>
    intro h
    have h1 := a.show_len h.1; have h2 := b.show_len h.2.1; have := itoa_short m (by have := h.2.2.1; omega) h.2.2.2
    simp only [RF.show, RF.nodes, List.length_append, List.length_cons, List.length_nil]; omega
set_option linter.unusedSimpArgs false in
set_option maxRecDepth 100000 in
set_option maxHeartbeats 4000000 in
theorem binds_ok (a : RT) (h : a.Good) : CallsA Tryd.prog W0 44 [] [.d a.t.dv] fun rs os => rs = [.d (.int .i64 (a.binds : Int))] ∧ os = [] := by
  have hop : ∃ op num name args, a.t.dv = .agg [.int .i64 op, .int .i64 num, .str name, .sl args] ∧ (a.binds : Int) = if op = 3 ∨ op = 4 then 0 else if op = 5 then 1 else 2 := by
    cases a with
    | num n => exact ⟨_, _, _, _, rfl, rfl⟩
    | name n => exact ⟨_, _, _, _, rfl, rfl⟩
    | neg n => exact ⟨_, _, _, _, rfl, rfl⟩
    | bin k a b =>
      refine ⟨_, _, _, _, rfl, ?_⟩
      rcases h.1 with rfl | rfl | rfl <;> rfl
  obtain ⟨op, num, name, args, e, e2⟩ := hop
  rw [e, e2]
  refine calls_of_awpC tok [.tmp 2] Tryd.func44 rfl rfl rfl rfl rfl ?_
  ((conv => whnf); (repeat' (first | (refine Br.tt (by first | assumption | with_reducible rfl | with_reducible exact Bool.not_false) ?_; conv => whnf) | (refine Br.ff (by first | assumption | with_reducible rfl | with_reducible exact Bool.not_true) ?_; conv => whnf) | fail)))
  repeat' (first | (refine Br.tt (by first | assumption | with_reducible rfl | with_reducible exact Bool.not_false) ?_; conv => whnf) | (refine Br.ff (by first | assumption | with_reducible rfl | with_reducible exact Bool.not_true) ?_; conv => whnf) | (refine Need.of (by first | omega | (simp; done) | (simp; omega) | (simp at *; omega)) ?_; conv => whnf) | (refine Br.mk (fun _ => ?_) (fun _ => ?_) <;> (conv => whnf)) | fail)
  all_goals (
    refine ⟨?_, by trivial⟩
    simp_all)
end Go.Proofs.L08

namespace Go.Proofs.L08
open Go Aw Go.Proofs
variable {W0 : World}
theorem RT.form (a : RT) : ∃ op num name args, a.t.dv = .agg [.int .i64 op, .int .i64 num, .str name, .sl args] := by
  cases a <;> exact ⟨_, _, _, _, rfl⟩
theorem RF.form (a : RF) : ∃ op name md ts fs, a.f.dv = .agg [.int .i64 op, .str name, .int .i64 md, .sl ts, .sl fs] := by
  cases a <;> exact ⟨_, _, _, _, _, rfl⟩
set_option linter.unusedSimpArgs false in
set_option maxRecDepth 100000 in
set_option maxHeartbeats 4000000 in
theorem part_of (a : RT) (ha : a.Good) (hn : a.nodes ≤ 1000) (h : CallsA Tryd.prog W0 20 [] [.d a.t.dv] fun rs os => rs = [.d (.str a.show)] ∧ os = []) (least : Nat) :
    CallsA Tryd.prog W0 31 [] [.d a.t.dv, .d (.int .i64 least)] fun rs os => rs = [.d (.str (wrapP least a.binds a.show))] ∧ os = [] := by
  have hb := binds_ok (W0 := W0) a ha
  have hl := a.show_len ha
  obtain ⟨op, num, name, args, e⟩ := a.form
  rw [e] at hb h ⊢
  refine calls_of_awpC tok [.tmp 4] Tryd.func31 rfl rfl rfl rfl rfl ?_
  ((conv => whnf); (repeat' (first | (refine Br.tt (by first | assumption | with_reducible rfl | with_reducible exact Bool.not_false) ?_; conv => whnf) | (refine Br.ff (by first | assumption | with_reducible rfl | with_reducible exact Bool.not_true) ?_; conv => whnf) | fail)))
  refine CallsA.then hb ?_
  ((conv => whnf); (repeat' (first | (refine Br.tt (by first | assumption | with_reducible rfl | with_reducible exact Bool.not_false) ?_; conv => whnf) | (refine Br.ff (by first | assumption | with_reducible rfl | with_reducible exact Bool.not_true) ?_; conv => whnf) | fail)))
  ((repeat' (first | (refine Br.tt (by first | assumption | with_reducible rfl | with_reducible exact Bool.not_false) ?_; conv => whnf) | (refine Br.ff (by first | assumption | with_reducible rfl | with_reducible exact Bool.not_true) ?_; conv => whnf) | fail)); (refine Br.mk (fun hlt => ?_) (fun hlt => ?_) <;> ((conv => whnf); (repeat' (first | (refine Br.tt (by first | assumption | with_reducible rfl | with_reducible exact Bool.not_false) ?_; conv => whnf) | (refine Br.ff (by first | assumption | with_reducible rfl | with_reducible exact Bool.not_true) ?_; conv => whnf) | fail)))))
  · have hlt : a.binds < least := by simpa using hlt
    refine CallsA.then h ?_
    ((conv => whnf); (repeat' (first | (refine Br.tt (by first | assumption | with_reducible rfl | with_reducible exact Bool.not_false) ?_; conv => whnf) | (refine Br.ff (by first | assumption | with_reducible rfl | with_reducible exact Bool.not_true) ?_; conv => whnf) | fail)))
    refine Need.of (by simp; omega) ?_
    ((conv => whnf); (repeat' (first | (refine Br.tt (by first | assumption | with_reducible rfl | with_reducible exact Bool.not_false) ?_; conv => whnf) | (refine Br.ff (by first | assumption | with_reducible rfl | with_reducible exact Bool.not_true) ?_; conv => whnf) | fail)))
    refine Need.of (by simp; omega) ?_
    ((conv => whnf); (repeat' (first | (refine Br.tt (by first | assumption | with_reducible rfl | with_reducible exact Bool.not_false) ?_; conv => whnf) | (refine Br.ff (by first | assumption | with_reducible rfl | with_reducible exact Bool.not_true) ?_; conv => whnf) | fail)))
    unfold wrapP
    rw [if_pos hlt]
    exact ⟨rfl, rfl⟩
  · have hlt : ¬ a.binds < least := by simpa using hlt
    refine CallsA.then h ?_
    ((conv => whnf); (repeat' (first | (refine Br.tt (by first | assumption | with_reducible rfl | with_reducible exact Bool.not_false) ?_; conv => whnf) | (refine Br.ff (by first | assumption | with_reducible rfl | with_reducible exact Bool.not_true) ?_; conv => whnf) | fail)))
    unfold wrapP
    rw [if_neg hlt]
    exact ⟨rfl, rfl⟩
set_option linter.unusedSimpArgs false in
set_option maxRecDepth 100000 in
set_option maxHeartbeats 4000000 in
theorem showTerm_ok (hW : LibW W0) (a : RT) : a.Good → a.nodes ≤ 1000 → CallsA Tryd.prog W0 20 [] [.d a.t.dv] fun rs os => rs = [.d (.str a.show)] ∧ os = [] := by
  induction a with
  | num n =>
    intro h hn
    show CallsA Tryd.prog W0 20 [] [.d (.agg [.int .i64 0, .int .i64 n, .str [], .sl []])] _
    refine calls_of_awpC tok [.tmp 2] Tryd.func20 rfl rfl rfl rfl rfl ?_
    ((conv => whnf); (repeat' (first | (refine Br.tt (by first | assumption | with_reducible rfl | with_reducible exact Bool.not_false) ?_; conv => whnf) | (refine Br.ff (by first | assumption | with_reducible rfl | with_reducible exact Bool.not_true) ?_; conv => whnf) | (refine Br.tt rfl ?_; conv => whnf) | (refine Br.ff rfl ?_; conv => whnf) | fail)))
    refine CallsA.then (format_ok hW n (by have := h.1; omega) h.2) ?_
    ((conv => whnf); (repeat' (first | (refine Br.tt (by first | assumption | with_reducible rfl | with_reducible exact Bool.not_false) ?_; conv => whnf) | (refine Br.ff (by first | assumption | with_reducible rfl | with_reducible exact Bool.not_true) ?_; conv => whnf) | fail)))
    exact ⟨rfl, rfl⟩
  | name s =>
    intro h hn
    show CallsA Tryd.prog W0 20 [] [.d (.agg [.int .i64 1, .int .i64 0, .str s, .sl []])] _
    refine calls_of_awpC tok [.tmp 2] Tryd.func20 rfl rfl rfl rfl rfl ?_
    ((conv => whnf); (repeat' (first | (refine Br.tt (by first | assumption | with_reducible rfl | with_reducible exact Bool.not_false) ?_; conv => whnf) | (refine Br.ff (by first | assumption | with_reducible rfl | with_reducible exact Bool.not_true) ?_; conv => whnf) | (refine Br.tt rfl ?_; conv => whnf) | (refine Br.ff rfl ?_; conv => whnf) | fail)))
    exact ⟨rfl, rfl⟩
  | neg a ih =>
    intro h hn
    simp only [RT.nodes] at hn
    have hp := part_of a h (by omega) (ih h (by omega)) 2
    have hl := a.show_len h
    have hl2 := wrapP_len 2 a.binds a.show
    show CallsA Tryd.prog W0 20 [] [.d (.agg [.int .i64 2, .int .i64 0, .str [], .sl [a.t.dv]])] _
    obtain ⟨op, num, name, args, e⟩ := a.form
    rw [e] at hp ⊢
    refine calls_of_awpC tok [.tmp 2] Tryd.func20 rfl rfl rfl rfl rfl ?_
    ((conv => whnf); (repeat' (first | (refine Br.tt (by first | assumption | with_reducible rfl | with_reducible exact Bool.not_false) ?_; conv => whnf) | (refine Br.ff (by first | assumption | with_reducible rfl | with_reducible exact Bool.not_true) ?_; conv => whnf) | (refine Br.tt rfl ?_; conv => whnf) | (refine Br.ff rfl ?_; conv => whnf) | fail)))
    refine Idx.of _ (by decide) rfl rfl ?_
    ((conv => whnf); (repeat' (first | (refine Br.tt (by first | assumption | with_reducible rfl | with_reducible exact Bool.not_false) ?_; conv => whnf) | (refine Br.ff (by first | assumption | with_reducible rfl | with_reducible exact Bool.not_true) ?_; conv => whnf) | (refine Br.tt rfl ?_; conv => whnf) | (refine Br.ff rfl ?_; conv => whnf) | fail)))
    refine CallsA.then hp ?_
    ((conv => whnf); (repeat' (first | (refine Br.tt (by first | assumption | with_reducible rfl | with_reducible exact Bool.not_false) ?_; conv => whnf) | (refine Br.ff (by first | assumption | with_reducible rfl | with_reducible exact Bool.not_true) ?_; conv => whnf) | fail)))
    refine Need.of (by simp; omega) ?_
    ((conv => whnf); (repeat' (first | (refine Br.tt (by first | assumption | with_reducible rfl | with_reducible exact Bool.not_false) ?_; conv => whnf) | (refine Br.ff (by first | assumption | with_reducible rfl | with_reducible exact Bool.not_true) ?_; conv => whnf) | fail)))
    exact ⟨rfl, rfl⟩
  | bin k a b iha ihb =>
    intro h hn
    simp only [RT.nodes] at hn
    have ga := h.2.1
    have gb := h.2.2
    have hpa := part_of a ga (by omega) (iha ga (by omega)) (if k = 5 then 1 else 0)
    have hpb := part_of b gb (by omega) (ihb gb (by omega)) (if k = 5 then 2 else 1)
    have la := a.show_len ga
    have lb := b.show_len gb
    have la2 := wrapP_len (if k = 5 then 1 else 0) a.binds a.show
    have lb2 := wrapP_len (if k = 5 then 2 else 1) b.binds b.show
    show CallsA Tryd.prog W0 20 [] [.d (.agg [.int .i64 k, .int .i64 0, .str [], .sl [a.t.dv, b.t.dv]])] _
    rw [RT.show]
    generalize wrapP (if k = 5 then 1 else 0) a.binds a.show = sa at *
    generalize wrapP (if k = 5 then 2 else 1) b.binds b.show = sb at *
    obtain ⟨op, num, name, args, e⟩ := a.form
    obtain ⟨op2, num2, name2, args2, e2⟩ := b.form
    rw [e] at hpa ⊢
    rw [e2] at hpb ⊢
    refine calls_of_awpC tok [.tmp 2] Tryd.func20 rfl rfl rfl rfl rfl ?_
    rcases h.1 with rfl | rfl | rfl
    all_goals (
      ((conv => whnf); (repeat' (first | (refine Br.tt (by first | assumption | with_reducible rfl | with_reducible exact Bool.not_false) ?_; conv => whnf) | (refine Br.ff (by first | assumption | with_reducible rfl | with_reducible exact Bool.not_true) ?_; conv => whnf) | (refine Br.tt rfl ?_; conv => whnf) | (refine Br.ff rfl ?_; conv => whnf) | fail)))
      refine ⟨by kernel_rfl, ?_⟩
      ((conv => whnf); (repeat' (first | (refine Br.tt (by first | assumption | with_reducible rfl | with_reducible exact Bool.not_false) ?_; conv => whnf) | (refine Br.ff (by first | assumption | with_reducible rfl | with_reducible exact Bool.not_true) ?_; conv => whnf) | (refine Br.tt rfl ?_; conv => whnf) | (refine Br.ff rfl ?_; conv => whnf) | fail)))
      refine Idx.of _ (by decide) rfl rfl ?_
      ((conv => whnf); (repeat' (first | (refine Br.tt (by first | assumption | with_reducible rfl | with_reducible exact Bool.not_false) ?_; conv => whnf) | (refine Br.ff (by first | assumption | with_reducible rfl | with_reducible exact Bool.not_true) ?_; conv => whnf) | (refine Br.tt rfl ?_; conv => whnf) | (refine Br.ff rfl ?_; conv => whnf) | fail)))
      refine CallD.of hpa ?_
      ((conv => whnf); (repeat' (first | (refine Br.tt (by first | assumption | with_reducible rfl | with_reducible exact Bool.not_false) ?_; conv => whnf) | (refine Br.ff (by first | assumption | with_reducible rfl | with_reducible exact Bool.not_true) ?_; conv => whnf) | fail)))
      refine Need.of (by simp; omega) ?_
      ((conv => whnf); (repeat' (first | (refine Br.tt (by first | assumption | with_reducible rfl | with_reducible exact Bool.not_false) ?_; conv => whnf) | (refine Br.ff (by first | assumption | with_reducible rfl | with_reducible exact Bool.not_true) ?_; conv => whnf) | fail)))
      refine Idx.of _ (by decide) rfl rfl ?_
      ((conv => whnf); (repeat' (first | (refine Br.tt (by first | assumption | with_reducible rfl | with_reducible exact Bool.not_false) ?_; conv => whnf) | (refine Br.ff (by first | assumption | with_reducible rfl | with_reducible exact Bool.not_true) ?_; conv => whnf) | (refine Br.tt rfl ?_; conv => whnf) | (refine Br.ff rfl ?_; conv => whnf) | fail)))
      refine CallD.of hpb ?_
      ((conv => whnf); (repeat' (first | (refine Br.tt (by first | assumption | with_reducible rfl | with_reducible exact Bool.not_false) ?_; conv => whnf) | (refine Br.ff (by first | assumption | with_reducible rfl | with_reducible exact Bool.not_true) ?_; conv => whnf) | fail)))
      refine Need.of (by simp; omega) ?_
      ((conv => whnf); (repeat' (first | (refine Br.tt (by first | assumption | with_reducible rfl | with_reducible exact Bool.not_false) ?_; conv => whnf) | (refine Br.ff (by first | assumption | with_reducible rfl | with_reducible exact Bool.not_true) ?_; conv => whnf) | fail)))
      exact ⟨rfl, rfl⟩)
end Go.Proofs.L08

namespace Go.Proofs.L08
open Go Aw Go.Proofs
variable {W0 : World}
set_option linter.unusedSimpArgs false in
set_option maxRecDepth 100000 in
set_option maxHeartbeats 4000000 in
theorem sign_ok (k : Int) : CallsA Tryd.prog W0 19 [] [.d (.int .i64 k)] fun rs os => rs = [.d (.str (sgn k))] ∧ os = [] := by
  refine calls_of_awpC tok [.tmp 2] Tryd.func19 rfl rfl rfl rfl rfl ?_
  ((conv => whnf); (repeat' (first | (refine Br.tt (by first | assumption | with_reducible rfl | with_reducible exact Bool.not_false) ?_; conv => whnf) | (refine Br.ff (by first | assumption | with_reducible rfl | with_reducible exact Bool.not_true) ?_; conv => whnf) | fail)))
  repeat' (first | (refine Br.tt (by first | assumption | with_reducible rfl | with_reducible exact Bool.not_false) ?_; conv => whnf) | (refine Br.ff (by first | assumption | with_reducible rfl | with_reducible exact Bool.not_true) ?_; conv => whnf) | (refine Need.of (by first | omega | (simp; done) | (simp; omega) | (simp at *; omega)) ?_; conv => whnf) | (refine Br.mk (fun _ => ?_) (fun _ => ?_) <;> (conv => whnf)) | fail)
  all_goals (
    refine ⟨?_, by trivial⟩
    simp only [beq_iff_eq, beq_eq_false_iff_ne] at *
    simp [sgn, *])
set_option linter.unusedSimpArgs false in
set_option maxRecDepth 100000 in
set_option maxHeartbeats 4000000 in
theorem showForm_ok (hW : LibW W0) (a : RF) : a.Good → a.nodes ≤ 1000 → CallsA Tryd.prog W0 11 [] [.d a.f.dv] fun rs os => rs = [.d (.str a.show)] ∧ os = [] := by
  induction a with
  | con k =>
    intro h hn
    show CallsA Tryd.prog W0 11 [] [.d (.agg [.int .i64 k, .str [], .int .i64 0, .sl [], .sl []])] _
    refine calls_of_awpC tok [.tmp 2] Tryd.func11 rfl rfl rfl rfl rfl ?_
    rcases h with rfl | rfl
    all_goals (
      ((conv => whnf); (repeat' (first | (refine Br.tt (by first | assumption | with_reducible rfl | with_reducible exact Bool.not_false) ?_; conv => whnf) | (refine Br.ff (by first | assumption | with_reducible rfl | with_reducible exact Bool.not_true) ?_; conv => whnf) | (refine Br.tt rfl ?_; conv => whnf) | (refine Br.ff rfl ?_; conv => whnf) | fail)))
      exact ⟨rfl, rfl⟩)
  | nt a ih =>
    intro h hn
    simp only [RF.nodes] at hn
    have hp := ih h (by omega)
    have hl := a.show_len h
    show CallsA Tryd.prog W0 11 [] [.d (.agg [.int .i64 2, .str [], .int .i64 0, .sl [], .sl [a.f.dv]])] _
    obtain ⟨op, name, md, ts, fs, e⟩ := a.form
    rw [e] at hp ⊢
    refine calls_of_awpC tok [.tmp 2] Tryd.func11 rfl rfl rfl rfl rfl ?_
    ((conv => whnf); (repeat' (first | (refine Br.tt (by first | assumption | with_reducible rfl | with_reducible exact Bool.not_false) ?_; conv => whnf) | (refine Br.ff (by first | assumption | with_reducible rfl | with_reducible exact Bool.not_true) ?_; conv => whnf) | (refine Br.tt rfl ?_; conv => whnf) | (refine Br.ff rfl ?_; conv => whnf) | fail)))
    refine Idx.of _ (by decide) rfl rfl ?_
    ((conv => whnf); (repeat' (first | (refine Br.tt (by first | assumption | with_reducible rfl | with_reducible exact Bool.not_false) ?_; conv => whnf) | (refine Br.ff (by first | assumption | with_reducible rfl | with_reducible exact Bool.not_true) ?_; conv => whnf) | (refine Br.tt rfl ?_; conv => whnf) | (refine Br.ff rfl ?_; conv => whnf) | fail)))
    refine CallsA.then hp ?_
    ((conv => whnf); (repeat' (first | (refine Br.tt (by first | assumption | with_reducible rfl | with_reducible exact Bool.not_false) ?_; conv => whnf) | (refine Br.ff (by first | assumption | with_reducible rfl | with_reducible exact Bool.not_true) ?_; conv => whnf) | fail)))
    refine Need.of (by first | omega | (simp; omega)) ?_
    ((conv => whnf); (repeat' (first | (refine Br.tt (by first | assumption | with_reducible rfl | with_reducible exact Bool.not_false) ?_; conv => whnf) | (refine Br.ff (by first | assumption | with_reducible rfl | with_reducible exact Bool.not_true) ?_; conv => whnf) | fail)))
    exact ⟨rfl, rfl⟩
  | bin k a b iha ihb =>
    intro h hn
    simp only [RF.nodes] at hn
    have ga := h.2.1
    have gb := h.2.2
    have hpa := iha ga (by omega)
    have hpb := ihb gb (by omega)
    have la := a.show_len ga
    have lb := b.show_len gb
    have hs := sign_ok (W0 := W0) k
    have ls := sgn_len k
    show CallsA Tryd.prog W0 11 [] [.d (.agg [.int .i64 k, .str [], .int .i64 0, .sl [], .sl [a.f.dv, b.f.dv]])] _
    rw [RF.show]
    generalize a.show = sa at *
    generalize b.show = sb at *
    generalize hsg : sgn k = sg at *
    obtain ⟨op, name, md, ts, fs, e⟩ := a.form
    obtain ⟨op2, name2, md2, ts2, fs2, e2⟩ := b.form
    rw [e] at hpa ⊢
    rw [e2] at hpb ⊢
    refine calls_of_awpC tok [.tmp 2] Tryd.func11 rfl rfl rfl rfl rfl ?_
    rcases h.1 with rfl | rfl | rfl | rfl
    all_goals (
      ((conv => whnf); (repeat' (first | (refine Br.tt (by first | assumption | with_reducible rfl | with_reducible exact Bool.not_false) ?_; conv => whnf) | (refine Br.ff (by first | assumption | with_reducible rfl | with_reducible exact Bool.not_true) ?_; conv => whnf) | (refine Br.tt rfl ?_; conv => whnf) | (refine Br.ff rfl ?_; conv => whnf) | fail)))
      refine ⟨by kernel_rfl, ?_⟩
      ((conv => whnf); (repeat' (first | (refine Br.tt (by first | assumption | with_reducible rfl | with_reducible exact Bool.not_false) ?_; conv => whnf) | (refine Br.ff (by first | assumption | with_reducible rfl | with_reducible exact Bool.not_true) ?_; conv => whnf) | (refine Br.tt rfl ?_; conv => whnf) | (refine Br.ff rfl ?_; conv => whnf) | fail)))
      refine Idx.of _ (by decide) rfl rfl ?_
      ((conv => whnf); (repeat' (first | (refine Br.tt (by first | assumption | with_reducible rfl | with_reducible exact Bool.not_false) ?_; conv => whnf) | (refine Br.ff (by first | assumption | with_reducible rfl | with_reducible exact Bool.not_true) ?_; conv => whnf) | (refine Br.tt rfl ?_; conv => whnf) | (refine Br.ff rfl ?_; conv => whnf) | fail)))
      refine CallD.of hpa ?_
      ((conv => whnf); (repeat' (first | (refine Br.tt (by first | assumption | with_reducible rfl | with_reducible exact Bool.not_false) ?_; conv => whnf) | (refine Br.ff (by first | assumption | with_reducible rfl | with_reducible exact Bool.not_true) ?_; conv => whnf) | fail)))
      refine Need.of (by first | omega | (simp; omega)) ?_
      ((conv => whnf); (repeat' (first | (refine Br.tt (by first | assumption | with_reducible rfl | with_reducible exact Bool.not_false) ?_; conv => whnf) | (refine Br.ff (by first | assumption | with_reducible rfl | with_reducible exact Bool.not_true) ?_; conv => whnf) | fail)))
      refine CallD.of hs ?_
      ((conv => whnf); (repeat' (first | (refine Br.tt (by first | assumption | with_reducible rfl | with_reducible exact Bool.not_false) ?_; conv => whnf) | (refine Br.ff (by first | assumption | with_reducible rfl | with_reducible exact Bool.not_true) ?_; conv => whnf) | fail)))
      refine Need.of (by first | omega | (simp; omega)) ?_
      ((conv => whnf); (repeat' (first | (refine Br.tt (by first | assumption | with_reducible rfl | with_reducible exact Bool.not_false) ?_; conv => whnf) | (refine Br.ff (by first | assumption | with_reducible rfl | with_reducible exact Bool.not_true) ?_; conv => whnf) | fail)))
      refine Idx.of _ (by decide) rfl rfl ?_
      ((conv => whnf); (repeat' (first | (refine Br.tt (by first | assumption | with_reducible rfl | with_reducible exact Bool.not_false) ?_; conv => whnf) | (refine Br.ff (by first | assumption | with_reducible rfl | with_reducible exact Bool.not_true) ?_; conv => whnf) | (refine Br.tt rfl ?_; conv => whnf) | (refine Br.ff rfl ?_; conv => whnf) | fail)))
      refine CallD.of hpb ?_
      ((conv => whnf); (repeat' (first | (refine Br.tt (by first | assumption | with_reducible rfl | with_reducible exact Bool.not_false) ?_; conv => whnf) | (refine Br.ff (by first | assumption | with_reducible rfl | with_reducible exact Bool.not_true) ?_; conv => whnf) | fail)))
      refine Need.of (by first | omega | (simp; omega)) ?_
      ((conv => whnf); (repeat' (first | (refine Br.tt (by first | assumption | with_reducible rfl | with_reducible exact Bool.not_false) ?_; conv => whnf) | (refine Br.ff (by first | assumption | with_reducible rfl | with_reducible exact Bool.not_true) ?_; conv => whnf) | fail)))
      refine Need.of (by first | omega | (simp; omega)) ?_
      ((conv => whnf); (repeat' (first | (refine Br.tt (by first | assumption | with_reducible rfl | with_reducible exact Bool.not_false) ?_; conv => whnf) | (refine Br.ff (by first | assumption | with_reducible rfl | with_reducible exact Bool.not_true) ?_; conv => whnf) | fail)))
      exact ⟨rfl, rfl⟩)
  | qu k s a ih =>
    intro h hn
    simp only [RF.nodes] at hn
    have ga := h.2.2.2
    have hp := ih ga (by omega)
    have la := a.show_len ga
    have ln := h.2.2.1
    show CallsA Tryd.prog W0 11 [] [.d (.agg [.int .i64 k, .str s, .int .i64 0, .sl [], .sl [a.f.dv]])] _
    rw [RF.show]
    generalize a.show = sa at *
    obtain ⟨op, name, md, ts, fs, e⟩ := a.form
    rw [e] at hp ⊢
    refine calls_of_awpC tok [.tmp 2] Tryd.func11 rfl rfl rfl rfl rfl ?_
    rcases h.1 with rfl | rfl
    all_goals (
      ((conv => whnf); (repeat' (first | (refine Br.tt (by first | assumption | with_reducible rfl | with_reducible exact Bool.not_false) ?_; conv => whnf) | (refine Br.ff (by first | assumption | with_reducible rfl | with_reducible exact Bool.not_true) ?_; conv => whnf) | (refine Br.tt rfl ?_; conv => whnf) | (refine Br.ff rfl ?_; conv => whnf) | fail)))
      refine ⟨by kernel_rfl, ?_⟩
      ((conv => whnf); (repeat' (first | (refine Br.tt (by first | assumption | with_reducible rfl | with_reducible exact Bool.not_false) ?_; conv => whnf) | (refine Br.ff (by first | assumption | with_reducible rfl | with_reducible exact Bool.not_true) ?_; conv => whnf) | (refine Br.tt rfl ?_; conv => whnf) | (refine Br.ff rfl ?_; conv => whnf) | fail)))
      refine Need.of (by first | omega | (simp; omega)) ?_
      ((conv => whnf); (repeat' (first | (refine Br.tt (by first | assumption | with_reducible rfl | with_reducible exact Bool.not_false) ?_; conv => whnf) | (refine Br.ff (by first | assumption | with_reducible rfl | with_reducible exact Bool.not_true) ?_; conv => whnf) | fail)))
      refine Need.of (by first | omega | (simp; omega)) ?_
      ((conv => whnf); (repeat' (first | (refine Br.tt (by first | assumption | with_reducible rfl | with_reducible exact Bool.not_false) ?_; conv => whnf) | (refine Br.ff (by first | assumption | with_reducible rfl | with_reducible exact Bool.not_true) ?_; conv => whnf) | fail)))
      refine Idx.of _ (by decide) rfl rfl ?_
      ((conv => whnf); (repeat' (first | (refine Br.tt (by first | assumption | with_reducible rfl | with_reducible exact Bool.not_false) ?_; conv => whnf) | (refine Br.ff (by first | assumption | with_reducible rfl | with_reducible exact Bool.not_true) ?_; conv => whnf) | (refine Br.tt rfl ?_; conv => whnf) | (refine Br.ff rfl ?_; conv => whnf) | fail)))
      refine CallD.of hp ?_
      ((conv => whnf); (repeat' (first | (refine Br.tt (by first | assumption | with_reducible rfl | with_reducible exact Bool.not_false) ?_; conv => whnf) | (refine Br.ff (by first | assumption | with_reducible rfl | with_reducible exact Bool.not_true) ?_; conv => whnf) | fail)))
      refine Need.of (by first | omega | (simp; omega)) ?_
      ((conv => whnf); (repeat' (first | (refine Br.tt (by first | assumption | with_reducible rfl | with_reducible exact Bool.not_false) ?_; conv => whnf) | (refine Br.ff (by first | assumption | with_reducible rfl | with_reducible exact Bool.not_true) ?_; conv => whnf) | fail)))
      exact ⟨rfl, rfl⟩)
  | rel k a b =>
    intro h hn
    simp only [RF.nodes] at hn
    have ga := h.2.1
    have gb := h.2.2
    have hpa := showTerm_ok hW a ga (by omega)
    have hpb := showTerm_ok hW b gb (by omega)
    have la := a.show_len ga
    have lb := b.show_len gb
    have hs := sign_ok (W0 := W0) k
    have ls := sgn_len k
    show CallsA Tryd.prog W0 11 [] [.d (.agg [.int .i64 k, .str [], .int .i64 0, .sl [a.t.dv, b.t.dv], .sl []])] _
    rw [RF.show]
    generalize a.show = sa at *
    generalize b.show = sb at *
    generalize hsg : sgn k = sg at *
    obtain ⟨op, num, name, args, e⟩ := a.form
    obtain ⟨op2, num2, name2, args2, e2⟩ := b.form
    rw [e] at hpa ⊢
    rw [e2] at hpb ⊢
    refine calls_of_awpC tok [.tmp 2] Tryd.func11 rfl rfl rfl rfl rfl ?_
    rcases h.1 with rfl | rfl | rfl | rfl | rfl | rfl
    all_goals (
      ((conv => whnf); (repeat' (first | (refine Br.tt (by first | assumption | with_reducible rfl | with_reducible exact Bool.not_false) ?_; conv => whnf) | (refine Br.ff (by first | assumption | with_reducible rfl | with_reducible exact Bool.not_true) ?_; conv => whnf) | (refine Br.tt rfl ?_; conv => whnf) | (refine Br.ff rfl ?_; conv => whnf) | fail)))
      refine ⟨by kernel_rfl, ?_⟩
      ((conv => whnf); (repeat' (first | (refine Br.tt (by first | assumption | with_reducible rfl | with_reducible exact Bool.not_false) ?_; conv => whnf) | (refine Br.ff (by first | assumption | with_reducible rfl | with_reducible exact Bool.not_true) ?_; conv => whnf) | (refine Br.tt rfl ?_; conv => whnf) | (refine Br.ff rfl ?_; conv => whnf) | fail)))
      refine Idx.of _ (by decide) rfl rfl ?_
      ((conv => whnf); (repeat' (first | (refine Br.tt (by first | assumption | with_reducible rfl | with_reducible exact Bool.not_false) ?_; conv => whnf) | (refine Br.ff (by first | assumption | with_reducible rfl | with_reducible exact Bool.not_true) ?_; conv => whnf) | (refine Br.tt rfl ?_; conv => whnf) | (refine Br.ff rfl ?_; conv => whnf) | fail)))
      refine CallD.of hpa ?_
      ((conv => whnf); (repeat' (first | (refine Br.tt (by first | assumption | with_reducible rfl | with_reducible exact Bool.not_false) ?_; conv => whnf) | (refine Br.ff (by first | assumption | with_reducible rfl | with_reducible exact Bool.not_true) ?_; conv => whnf) | fail)))
      refine CallD.of hs ?_
      ((conv => whnf); (repeat' (first | (refine Br.tt (by first | assumption | with_reducible rfl | with_reducible exact Bool.not_false) ?_; conv => whnf) | (refine Br.ff (by first | assumption | with_reducible rfl | with_reducible exact Bool.not_true) ?_; conv => whnf) | fail)))
      refine Need.of (by first | omega | (simp; omega)) ?_
      ((conv => whnf); (repeat' (first | (refine Br.tt (by first | assumption | with_reducible rfl | with_reducible exact Bool.not_false) ?_; conv => whnf) | (refine Br.ff (by first | assumption | with_reducible rfl | with_reducible exact Bool.not_true) ?_; conv => whnf) | fail)))
      refine Idx.of _ (by decide) rfl rfl ?_
      ((conv => whnf); (repeat' (first | (refine Br.tt (by first | assumption | with_reducible rfl | with_reducible exact Bool.not_false) ?_; conv => whnf) | (refine Br.ff (by first | assumption | with_reducible rfl | with_reducible exact Bool.not_true) ?_; conv => whnf) | (refine Br.tt rfl ?_; conv => whnf) | (refine Br.ff rfl ?_; conv => whnf) | fail)))
      refine CallD.of hpb ?_
      ((conv => whnf); (repeat' (first | (refine Br.tt (by first | assumption | with_reducible rfl | with_reducible exact Bool.not_false) ?_; conv => whnf) | (refine Br.ff (by first | assumption | with_reducible rfl | with_reducible exact Bool.not_true) ?_; conv => whnf) | fail)))
      refine Need.of (by first | omega | (simp; omega)) ?_
      ((conv => whnf); (repeat' (first | (refine Br.tt (by first | assumption | with_reducible rfl | with_reducible exact Bool.not_false) ?_; conv => whnf) | (refine Br.ff (by first | assumption | with_reducible rfl | with_reducible exact Bool.not_true) ?_; conv => whnf) | fail)))
      exact ⟨rfl, rfl⟩)
  | cong a b m =>
    intro h hn
    simp only [RF.nodes] at hn
    have ga := h.1
    have gb := h.2.1
    have hpa := showTerm_ok hW a ga (by omega)
    have hpb := showTerm_ok hW b gb (by omega)
    have la := a.show_len ga
    have lb := b.show_len gb
    have hm := format_ok hW m (by have := h.2.2.1; omega) h.2.2.2
    have lm := itoa_short m (by have := h.2.2.1; omega) h.2.2.2
    show CallsA Tryd.prog W0 11 [] [.d (.agg [.int .i64 15, .str [], .int .i64 m, .sl [a.t.dv, b.t.dv], .sl []])] _
    rw [RF.show]
    generalize a.show = sa at *
    generalize b.show = sb at *
    generalize Lib.itoa m = sm at *
    obtain ⟨op, num, name, args, e⟩ := a.form
    obtain ⟨op2, num2, name2, args2, e2⟩ := b.form
    rw [e] at hpa ⊢
    rw [e2] at hpb ⊢
    refine calls_of_awpC tok [.tmp 2] Tryd.func11 rfl rfl rfl rfl rfl ?_
    ((conv => whnf); (repeat' (first | (refine Br.tt (by first | assumption | with_reducible rfl | with_reducible exact Bool.not_false) ?_; conv => whnf) | (refine Br.ff (by first | assumption | with_reducible rfl | with_reducible exact Bool.not_true) ?_; conv => whnf) | (refine Br.tt rfl ?_; conv => whnf) | (refine Br.ff rfl ?_; conv => whnf) | fail)))
    refine ⟨by kernel_rfl, ?_⟩
    ((conv => whnf); (repeat' (first | (refine Br.tt (by first | assumption | with_reducible rfl | with_reducible exact Bool.not_false) ?_; conv => whnf) | (refine Br.ff (by first | assumption | with_reducible rfl | with_reducible exact Bool.not_true) ?_; conv => whnf) | (refine Br.tt rfl ?_; conv => whnf) | (refine Br.ff rfl ?_; conv => whnf) | fail)))
    refine Idx.of _ (by decide) rfl rfl ?_
    ((conv => whnf); (repeat' (first | (refine Br.tt (by first | assumption | with_reducible rfl | with_reducible exact Bool.not_false) ?_; conv => whnf) | (refine Br.ff (by first | assumption | with_reducible rfl | with_reducible exact Bool.not_true) ?_; conv => whnf) | (refine Br.tt rfl ?_; conv => whnf) | (refine Br.ff rfl ?_; conv => whnf) | fail)))
    refine CallD.of hpa ?_
    ((conv => whnf); (repeat' (first | (refine Br.tt (by first | assumption | with_reducible rfl | with_reducible exact Bool.not_false) ?_; conv => whnf) | (refine Br.ff (by first | assumption | with_reducible rfl | with_reducible exact Bool.not_true) ?_; conv => whnf) | fail)))
    refine Need.of (by first | omega | (simp; omega)) ?_
    ((conv => whnf); (repeat' (first | (refine Br.tt (by first | assumption | with_reducible rfl | with_reducible exact Bool.not_false) ?_; conv => whnf) | (refine Br.ff (by first | assumption | with_reducible rfl | with_reducible exact Bool.not_true) ?_; conv => whnf) | fail)))
    refine Idx.of _ (by decide) rfl rfl ?_
    ((conv => whnf); (repeat' (first | (refine Br.tt (by first | assumption | with_reducible rfl | with_reducible exact Bool.not_false) ?_; conv => whnf) | (refine Br.ff (by first | assumption | with_reducible rfl | with_reducible exact Bool.not_true) ?_; conv => whnf) | (refine Br.tt rfl ?_; conv => whnf) | (refine Br.ff rfl ?_; conv => whnf) | fail)))
    refine CallD.of hpb ?_
    ((conv => whnf); (repeat' (first | (refine Br.tt (by first | assumption | with_reducible rfl | with_reducible exact Bool.not_false) ?_; conv => whnf) | (refine Br.ff (by first | assumption | with_reducible rfl | with_reducible exact Bool.not_true) ?_; conv => whnf) | fail)))
    refine Need.of (by first | omega | (simp; omega)) ?_
    ((conv => whnf); (repeat' (first | (refine Br.tt (by first | assumption | with_reducible rfl | with_reducible exact Bool.not_false) ?_; conv => whnf) | (refine Br.ff (by first | assumption | with_reducible rfl | with_reducible exact Bool.not_true) ?_; conv => whnf) | fail)))
    refine Need.of (by first | omega | (simp; omega)) ?_
    ((conv => whnf); (repeat' (first | (refine Br.tt (by first | assumption | with_reducible rfl | with_reducible exact Bool.not_false) ?_; conv => whnf) | (refine Br.ff (by first | assumption | with_reducible rfl | with_reducible exact Bool.not_true) ?_; conv => whnf) | fail)))
    refine CallD.of hm ?_
    ((conv => whnf); (repeat' (first | (refine Br.tt (by first | assumption | with_reducible rfl | with_reducible exact Bool.not_false) ?_; conv => whnf) | (refine Br.ff (by first | assumption | with_reducible rfl | with_reducible exact Bool.not_true) ?_; conv => whnf) | fail)))
    refine Need.of (by first | omega | (simp; omega)) ?_
    ((conv => whnf); (repeat' (first | (refine Br.tt (by first | assumption | with_reducible rfl | with_reducible exact Bool.not_false) ?_; conv => whnf) | (refine Br.ff (by first | assumption | with_reducible rfl | with_reducible exact Bool.not_true) ?_; conv => whnf) | fail)))
    exact ⟨rfl, rfl⟩
set_option linter.unusedSimpArgs false in
set_option maxRecDepth 100000 in
set_option maxHeartbeats 4000000 in
theorem showBad_ok (f : F) (hf : f.Ok) (hc : chk f ≠ 0) : CallsA Tryd.prog W0 5 [] [.d f.dv] fun rs os => rs = [.d (.str []), .d (.int .i64 (chk f))] ∧ os = [] := by
  have h := check_ok (W0 := W0) f hf
  generalize chk f = c at *
  have hc' : (c != 0) = true := by simpa using hc
  rcases f with ⟨op, name, md, ts, fs⟩
  rw [F.dv] at *
  refine calls_of_awpC tok [.tmp 2, .tmp 3] Tryd.func5 rfl rfl rfl rfl rfl ?_
  ((conv => whnf); (repeat' (first | (refine Br.tt (by first | assumption | with_reducible rfl | with_reducible exact Bool.not_false) ?_; conv => whnf) | (refine Br.ff (by first | assumption | with_reducible rfl | with_reducible exact Bool.not_true) ?_; conv => whnf) | fail)))
  refine CallsA.then h ?_
  ((conv => whnf); (repeat' (first | (refine Br.tt (by first | assumption | with_reducible rfl | with_reducible exact Bool.not_false) ?_; conv => whnf) | (refine Br.ff (by first | assumption | with_reducible rfl | with_reducible exact Bool.not_true) ?_; conv => whnf) | fail)))
  exact ⟨rfl, rfl⟩
set_option linter.unusedSimpArgs false in
set_option maxRecDepth 100000 in
set_option maxHeartbeats 4000000 in
theorem showGood_ok (hW : LibW W0) (r : RF) (hg : r.Good) (hn : r.nodes ≤ 1000) (hf : r.f.Ok) (hc : chk r.f = 0) : CallsA Tryd.prog W0 5 [] [.d r.f.dv] fun rs os => rs = [.d (.str r.show), .d (.int .i64 0)] ∧ os = [] := by
  have h := check_ok (W0 := W0) r.f hf
  have hs := showForm_ok hW r hg hn
  rw [hc] at h
  obtain ⟨op, name, md, ts, fs, e⟩ := r.form
  rw [e] at h hs ⊢
  refine calls_of_awpC tok [.tmp 2, .tmp 3] Tryd.func5 rfl rfl rfl rfl rfl ?_
  ((conv => whnf); (repeat' (first | (refine Br.tt (by first | assumption | with_reducible rfl | with_reducible exact Bool.not_false) ?_; conv => whnf) | (refine Br.ff (by first | assumption | with_reducible rfl | with_reducible exact Bool.not_true) ?_; conv => whnf) | fail)))
  refine CallsA.then h ?_
  ((conv => whnf); (repeat' (first | (refine Br.tt (by first | assumption | with_reducible rfl | with_reducible exact Bool.not_false) ?_; conv => whnf) | (refine Br.ff (by first | assumption | with_reducible rfl | with_reducible exact Bool.not_true) ?_; conv => whnf) | (refine Br.tt rfl ?_; conv => whnf) | (refine Br.ff rfl ?_; conv => whnf) | fail)))
  refine CallsA.then hs ?_
  ((conv => whnf); (repeat' (first | (refine Br.tt (by first | assumption | with_reducible rfl | with_reducible exact Bool.not_false) ?_; conv => whnf) | (refine Br.ff (by first | assumption | with_reducible rfl | with_reducible exact Bool.not_true) ?_; conv => whnf) | fail)))
  exact ⟨rfl, rfl⟩
end Go.Proofs.L08

namespace Go.Proofs.L08
open Go Aw Go.Proofs
/- Numbers that a word holds. -/
mutual
def T.Rng : T → Prop
  | .mk _ num _ args => num ≤ 9223372036854775807 ∧ T.Rngs args
def T.Rngs : List T → Prop
  | [] => True
  | a :: r => T.Rng a ∧ T.Rngs r
end
mutual
def F.Rng : F → Prop
  | .mk _ _ md ts fs => md ≤ 9223372036854775807 ∧ T.Rngs ts ∧ F.Rngs fs
def F.Rngs : List F → Prop
  | [] => True
  | a :: r => F.Rng a ∧ F.Rngs r
end
theorem F.measL_er {l : List F} {d : Int} {m : M} (h : (F.measL l d m).er = 0) : m.er = 0 := by
  by_cases he : m.er = 0
  · exact he
  · rw [F.measL_stop he] at h; exact h
theorem met_zero {m : M} {d : Int} {g : Bool} (h : (met m d g).er = 0) : g = true ∧ m.er = 0 ∧ (met m d g).sz = m.sz + 1 := by
  by_cases h1 : 500 < m.sz + 1
  · rw [met_a h1] at h; cases h
  · by_cases h2 : 40 < d
    · rw [met_b h1 h2] at h; cases h
    · cases g with
      | false => rw [met_c h1 h2 rfl] at h; cases h
      | true => rw [met_d h1 h2 rfl] at h ⊢; exact ⟨rfl, h, rfl⟩
theorem wellT_cases {op num : Int} {name : List UInt8} {n : Nat} (h : wellT op num name n = true) :
    (op = 0 ∧ 0 ≤ num ∧ name = [] ∧ n = 0) ∨ (op = 1 ∧ num = 0 ∧ nameOk name = true ∧ n = 0) ∨ (op = 2 ∧ num = 0 ∧ name = [] ∧ n = 1) ∨ ((op = 3 ∨ op = 4 ∨ op = 5) ∧ num = 0 ∧ name = [] ∧ n = 2) := by
  unfold wellT at h
  split at h
  · simp at h; exact .inl ⟨by assumption, by simpa [and_assoc] using h⟩
  · split at h
    · simp at h; refine .inr (.inl ⟨by assumption, ?_⟩); simpa [and_assoc] using h
    · split at h
      · simp at h; refine .inr (.inr (.inl ⟨by assumption, ?_⟩)); simpa [and_assoc] using h
      · split at h
        · simp at h; refine .inr (.inr (.inr ⟨by assumption, ?_⟩)); simpa [and_assoc] using h
        · cases h
theorem T.right (t : T) : t.Ok → t.Rng → ∀ (d : Int) (m : M), (t.meas d m).er = 0 → ∃ r : RT, r.t = t ∧ r.Good ∧ (t.meas d m).sz = m.sz + r.nodes := by
  induction t using T.ind with
  | h op num name args ih =>
    intro hok hrng d m he
    rw [T.Ok] at hok
    rw [T.Rng] at hrng
    rw [T.meas] at he ⊢
    have hm := T.measL_er he
    obtain ⟨hw, -, hsz⟩ := met_zero hm
    generalize met m d (wellT op num name args.length) = m0 at *
    rcases wellT_cases hw with ⟨rfl, h1, rfl, h3⟩ | ⟨rfl, rfl, h2, h3⟩ | ⟨rfl, rfl, rfl, h3⟩ | ⟨hop, rfl, rfl, h3⟩
    · obtain rfl := List.eq_nil_of_length_eq_zero h3
      rw [T.measL] at he ⊢
      exact ⟨.num num, rfl, ⟨h1, hrng.1⟩, hsz⟩
    · obtain rfl := List.eq_nil_of_length_eq_zero h3
      rw [T.measL] at he ⊢
      exact ⟨.name name, rfl, ⟨h2, hok.1⟩, hsz⟩
    · obtain ⟨a, rfl⟩ := List.length_eq_one_iff.1 h3
      simp only [T.measL, if_pos hm] at he ⊢
      obtain ⟨ra, e1, e2, e3⟩ := ih a (by simp) (by have := hok.2.2; rw [T.Oks] at this; exact this.1) (by have := hrng.2; rw [T.Rngs] at this; exact this.1) (d + 1) m0 he
      exact ⟨.neg ra, by rw [RT.t, e1], e2, by rw [e3, RT.nodes]; omega⟩
    · obtain ⟨a, b, rfl⟩ : ∃ a b, args = [a, b] := by
        match args, h3 with
        | [a, b], _ => exact ⟨a, b, rfl⟩
      simp only [T.measL, if_pos hm] at he ⊢
      have h1 : (T.meas a (d + 1) m0).er = 0 := by
        by_cases h : (T.meas a (d + 1) m0).er = 0
        · exact h
        · rw [if_neg h] at he; exact he
      rw [if_pos h1] at he ⊢
      have o2 := hok.2.2
      have r2 := hrng.2
      rw [T.Oks, T.Oks] at o2
      rw [T.Rngs, T.Rngs] at r2
      obtain ⟨ra, e1, e2, e3⟩ := ih a (by simp) o2.1 r2.1 (d + 1) m0 h1
      obtain ⟨rb, f1, f2, f3⟩ := ih b (by simp) o2.2.1 r2.2.1 (d + 1) _ he
      exact ⟨.bin op ra rb, by rw [RT.t, e1, f1], ⟨hop, e2, f2⟩, by rw [f3, e3, RT.nodes]; omega⟩
theorem wellF_cases {op : Int} {name : List UInt8} {md : Int} {t n : Nat} (h : wellF op name md t n = true) :
    ((op = 0 ∨ op = 1) ∧ name = [] ∧ md = 0 ∧ t = 0 ∧ n = 0) ∨ (op = 2 ∧ name = [] ∧ md = 0 ∧ t = 0 ∧ n = 1) ∨ ((op = 3 ∨ op = 4 ∨ op = 5 ∨ op = 6) ∧ name = [] ∧ md = 0 ∧ t = 0 ∧ n = 2) ∨
    ((op = 7 ∨ op = 8) ∧ nameOk name = true ∧ md = 0 ∧ t = 0 ∧ n = 1) ∨ ((op = 9 ∨ op = 10 ∨ op = 11 ∨ op = 12 ∨ op = 13 ∨ op = 14) ∧ name = [] ∧ md = 0 ∧ t = 2 ∧ n = 0) ∨ (op = 15 ∧ name = [] ∧ 1 ≤ md ∧ t = 2 ∧ n = 0) := by
  unfold wellF at h
  split at h
  · simp at h; refine .inl ⟨by omega, ?_⟩; simpa [and_assoc] using h
  · split at h
    · simp at h; refine .inr (.inl ⟨by omega, ?_⟩); simpa [and_assoc] using h
    · split at h
      · simp at h; refine .inr (.inr (.inl ⟨by omega, ?_⟩)); simpa [and_assoc] using h
      · split at h
        · simp at h; refine .inr (.inr (.inr (.inl ⟨by omega, ?_⟩))); simpa [and_assoc] using h
        · split at h
          · simp at h; refine .inr (.inr (.inr (.inr (.inl ⟨by omega, ?_⟩)))); simpa [and_assoc] using h
          · split at h
            · simp at h; refine .inr (.inr (.inr (.inr (.inr ⟨by omega, ?_⟩)))); simpa [and_assoc] using h
            · cases h
theorem F.right (t : F) : t.Ok → t.Rng → ∀ (d : Int) (m : M), (t.meas d m).er = 0 → ∃ r : RF, r.f = t ∧ r.Good ∧ (t.meas d m).sz = m.sz + r.nodes := by
  induction t using F.ind with
  | h op name md ts fs ih =>
    intro hok hrng d m he
    rw [F.Ok] at hok
    rw [F.Rng] at hrng
    rw [F.meas] at he ⊢
    have ht := F.measL_er he
    have hm := T.measL_er ht
    obtain ⟨hw, -, hsz⟩ := met_zero hm
    generalize met m d (wellF op name md ts.length fs.length) = m0 at *
    have two : ∀ k : Int, ts.length = 2 → fs = [] → ∃ a b : RT, ts = [a.t, b.t] ∧ a.Good ∧ b.Good ∧ (T.measL ts (d + 1) m0).sz = m.sz + (a.nodes + b.nodes + 1) := by
      intro k h3 _
      obtain ⟨a, b, rfl⟩ : ∃ a b, ts = [a, b] := by
        match ts, h3 with
        | [a, b], _ => exact ⟨a, b, rfl⟩
      simp only [T.measL, if_pos hm] at ht ⊢
      have h1 : (T.meas a (d + 1) m0).er = 0 := by
        by_cases h : (T.meas a (d + 1) m0).er = 0
        · exact h
        · rw [if_neg h] at ht; exact ht
      rw [if_pos h1] at ht ⊢
      have o2 := hok.2.2.2.1
      have r2 := hrng.2.1
      rw [T.Oks, T.Oks] at o2
      rw [T.Rngs, T.Rngs] at r2
      obtain ⟨ra, e1, e2, e3⟩ := a.right o2.1 r2.1 (d + 1) m0 h1
      obtain ⟨rb, f1, f2, f3⟩ := b.right o2.2.1 r2.2.1 (d + 1) _ ht
      exact ⟨ra, rb, by rw [e1, f1], e2, f2, by rw [f3, e3]; omega⟩
    have of := hok.2.2.2.2
    have rf := hrng.2.2
    rcases wellF_cases hw with ⟨hop, rfl, rfl, h3, h4⟩ | ⟨rfl, rfl, rfl, h3, h4⟩ | ⟨hop, rfl, rfl, h3, h4⟩ | ⟨hop, hn, rfl, h3, h4⟩ | ⟨hop, rfl, rfl, h3, h4⟩ | ⟨rfl, rfl, hmd, h3, h4⟩
    · obtain rfl := List.eq_nil_of_length_eq_zero h3
      obtain rfl := List.eq_nil_of_length_eq_zero h4
      rw [T.measL, F.measL] at he ⊢
      exact ⟨.con op, rfl, hop, hsz⟩
    · obtain rfl := List.eq_nil_of_length_eq_zero h3
      obtain ⟨a, rfl⟩ := List.length_eq_one_iff.1 h4
      rw [T.measL] at he ⊢
      simp only [F.measL, if_pos hm] at he ⊢
      rw [F.Oks] at of
      rw [F.Rngs] at rf
      obtain ⟨ra, e1, e2, e3⟩ := ih a (by simp) of.1 rf.1 (d + 1) m0 he
      exact ⟨.nt ra, by rw [RF.f, e1], e2, by rw [e3, RF.nodes]; omega⟩
    · obtain rfl := List.eq_nil_of_length_eq_zero h3
      obtain ⟨a, b, rfl⟩ : ∃ a b, fs = [a, b] := by
        match fs, h4 with
        | [a, b], _ => exact ⟨a, b, rfl⟩
      rw [T.measL] at he ⊢
      simp only [F.measL, if_pos hm] at he ⊢
      have h1 : (F.meas a (d + 1) m0).er = 0 := by
        by_cases h : (F.meas a (d + 1) m0).er = 0
        · exact h
        · rw [if_neg h] at he; exact he
      rw [if_pos h1] at he ⊢
      rw [F.Oks, F.Oks] at of
      rw [F.Rngs, F.Rngs] at rf
      obtain ⟨ra, e1, e2, e3⟩ := ih a (by simp) of.1 rf.1 (d + 1) m0 h1
      obtain ⟨rb, f1, f2, f3⟩ := ih b (by simp) of.2.1 rf.2.1 (d + 1) _ he
      exact ⟨.bin op ra rb, by rw [RF.f, e1, f1], ⟨hop, e2, f2⟩, by rw [f3, e3, RF.nodes]; omega⟩
    · obtain rfl := List.eq_nil_of_length_eq_zero h3
      obtain ⟨a, rfl⟩ := List.length_eq_one_iff.1 h4
      rw [T.measL] at he ⊢
      simp only [F.measL, if_pos hm] at he ⊢
      rw [F.Oks] at of
      rw [F.Rngs] at rf
      obtain ⟨ra, e1, e2, e3⟩ := ih a (by simp) of.1 rf.1 (d + 1) m0 he
      exact ⟨.qu op name ra, by rw [RF.f, e1], ⟨hop, hn, hok.1, e2⟩, by rw [e3, RF.nodes]; omega⟩
    · obtain rfl := List.eq_nil_of_length_eq_zero h4
      obtain ⟨a, b, e1, e2, e3, e4⟩ := two 0 h3 rfl
      rw [F.measL] at he ⊢
      exact ⟨.rel op a b, by rw [RF.f, e1], ⟨hop, e2, e3⟩, by rw [e4, RF.nodes]; omega⟩
    · obtain rfl := List.eq_nil_of_length_eq_zero h4
      obtain ⟨a, b, e1, e2, e3, e4⟩ := two 0 h3 rfl
      rw [F.measL] at he ⊢
      exact ⟨.cong a b md, by rw [RF.f, e1], ⟨e2, e3, hmd, hrng.1⟩, by rw [e4, RF.nodes]; omega⟩
/-- A formula that is right, as a well made one. -/
theorem chk_right (f : F) (h1 : f.Ok) (h2 : f.Rng) (h : chk f = 0) : ∃ r : RF, r.f = f ∧ r.Good ∧ r.nodes ≤ 500 := by
  obtain ⟨r, e1, e2, e3⟩ := f.right h1 h2 1 zeroM h
  refine ⟨r, e1, e2, ?_⟩
  have := (F.meas_fine f 1 zeroM zeroM_fine).2 h
  rw [e3] at this
  show r.nodes ≤ 500
  have h0 : zeroM.sz = 0 := rfl
  omega
end Go.Proofs.L08
