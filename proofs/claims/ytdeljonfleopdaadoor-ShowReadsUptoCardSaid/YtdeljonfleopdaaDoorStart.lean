/-
  The contracts of the two laws, and what the listed variables hold when the call begins, as the row lists them.
-/
import Derived.Test.YtdeljonfleopdaaDoorRound
import Derived.Test.YtdeljonfleopdaaDoorCards
import Derived.Test.YtdeljonfleopdaaDoorTie
import Derived.WalkKit
import Derived.ProofKit
import Derived.OpenShut
import Derived.Deep.DeepHandedRow
import Derived.Lib.LaidTab
import Derived.Lib.LaidU8T
import Derived.Stop.LaidErr
import Derived.Lay
import Derived.MakeChecks
import Derived.SevenTiedAt
set_option linter.unusedSectionVars false
set_option linter.unusedSimpArgs false
set_option linter.unusedVariables false
namespace Go.Proofs.L08
open Go Aw Go.Proofs
variable {W0 : World}
theorem R.take_bad {r : R} (h : r.why ≠ 0) (l : List (List UInt8)) : r.take l = ([], r) := by unfold R.take; rw [if_pos h]
theorem R.wrong_bad {r : R} (h : r.why ≠ 0) (e : Int) : r.wrong e = r := by unfold R.wrong; rw [if_pos h]
theorem R.need_bad {r : R} (h : r.why ≠ 0) (s : List UInt8) : r.need s = r := by
  unfold R.need; rw [R.take_bad h]; simp only; rw [if_pos (by trivial), R.wrong_bad h]
theorem R.word_bad {r : R} (h : r.why ≠ 0) (k : Int) : r.word k = (zeroWd, r) := by unfold R.word; rw [if_pos h, R.wrong_bad h]
theorem fac_bad {r : R} (h : r.why ≠ 0) (p : Pz) : (pFac p r).2 = r := by
  unfold pFac
  rw [R.take_bad h]
  simp only
  rw [if_neg (by decide), if_neg (by decide), if_neg (by simp [R.isK, R.bad, h]), R.word_bad h]
theorem prd_bad {r : R} (h : r.why ≠ 0) (p : Pz) : (pPrd p r).2 = r := by
  unfold pPrd
  rw [fac_bad h, loopT, R.take_bad h, if_pos rfl]
theorem trm_bad {r : R} (h : r.why ≠ 0) (p : Pz) : (pTrm p r).2 = r := by
  unfold pTrm
  rw [prd_bad h, loopT, R.take_bad h, if_pos rfl]
theorem atm_bad {r : R} (h : r.why ≠ 0) (p : Pz) : (pAtm p r).2 = r := by
  unfold pAtm
  simp only
  rw [trm_bad h, R.take_bad h]
  simp only [if_true]
  rw [R.wrong_bad h, trm_bad h]
  have hm : (pMod r).2 = r := by
    unfold pMod
    simp only
    have hn : r.nought = false := by simp [R.nought, R.isK, R.bad, h]
    rw [R.need_bad h, hn, if_neg (by simp), R.word_bad h]
  split
  · exact hm
  · rfl
theorem una_bad {r : R} (h : r.why ≠ 0) (p : Pz) : (pUna p r).2 = r := by
  unfold pUna
  rw [R.take_bad h]
  simp only
  rw [if_neg (by decide), if_neg (by decide), if_neg (by decide), if_neg (by decide), if_neg (by decide), if_neg (by decide)]
  exact atm_bad h p
theorem nd_bad {r : R} (h : r.why ≠ 0) (p : Pz) : (pNd p r).2 = r := by
  unfold pNd
  rw [una_bad h, loopF, R.take_bad h, if_pos rfl]
theorem orr_bad {r : R} (h : r.why ≠ 0) (p : Pz) : (pOrr p r).2 = r := by
  unfold pOrr
  rw [nd_bad h, loopF, R.take_bad h, if_pos rfl]
theorem imp_bad {r : R} (h : r.why ≠ 0) (p : Pz) : (pImp p r).2 = r := by
  unfold pImp
  simp only
  rw [orr_bad h, R.take_bad h, if_pos rfl]
theorem frm_bad {r : R} (h : r.why ≠ 0) (p : Pz) : (pFrm p r).2 = r := by
  unfold pFrm
  rw [imp_bad h, loopF, R.take_bad h, if_pos rfl]
theorem parse_long {s : List UInt8} (h : 4096 < s.length) : parseM s = (zeroF, 70, 0, 0) := by
  have e : openM s = ⟨[], s.length, rcount s, 70, 0, 0⟩ := by unfold openM lexW; rw [if_pos h]; rfl
  have h1 : (rdForm (openM s)).2 = openM s := frm_bad (by rw [e]; show (70 : Int) ≠ 0; decide) _
  have h2 : (openM s).fin = openM s := by rw [e]; rfl
  unfold parseM
  simp only
  rw [h1, h2, e]
  rfl
/-- What is read, and not refused, is right. -/
theorem parseM_right (s : List UInt8) : ((parseM s).2 = (0, 0, 0) ∧ chk (parseM s).1 = 0 ∧ (parseM s).1.Good') ∨ ((parseM s).2 ≠ (0, 0, 0) ∧ (parseM s).1 = zeroF) := by
  obtain ⟨f1, -⟩ := openM_fine s
  obtain ⟨f2, f3⟩ := rdForm_fine (openM s) f1
  have f4 := f3.fin
  unfold parseM
  simp only
  generalize (rdForm (openM s)).1 = t at *
  generalize (rdForm (openM s)).2.fin = q at *
  by_cases hq : q.why = 0
  · rw [if_pos hq]
    by_cases hc : chk t = 0
    · rw [if_pos hc]
      obtain ⟨a, b⟩ := f4.flt hq
      left; exact ⟨by rw [a, b], hc, f2⟩
    · rw [if_neg hc]
      right; exact ⟨fun e => hc (congrArg (fun x : Int × Int × Int => x.1) e), rfl⟩
  · rw [if_neg hq, if_neg hq]
    right; exact ⟨fun e => hq (congrArg (fun x : Int × Int × Int => x.1) e), rfl⟩
theorem nameAt_len (s : List UInt8) (m : Nat) : ∀ (f p n : Nat), nameAt s f p n = some m → p ≤ s.length → s.length ≤ p + f → s.length + 4 * n ≤ p + 4 * m := by
  intro f
  induction f with
  | zero => intro p n h hp hf; rw [nameAt] at h; cases h; omega
  | succ f ih =>
    intro p n h hp hf
    rw [nameAt] at h
    by_cases hlt : p < s.length
    · rw [if_pos hlt] at h
      split at h
      · cases h
      · have hw := udec_wide s p
        have := ih _ _ h (udec_end s p hlt) (by omega)
        omega
    · rw [if_neg hlt] at h; cases h; omega
theorem name_len {s : List UInt8} (h : nameOk s = true) : s.length ≤ 64 := by
  unfold nameOk at h
  cases hn : nameAt s s.length 0 0 with
  | none => rw [hn] at h; cases h
  | some m =>
    rw [hn] at h
    simp only [Bool.and_eq_true, decide_eq_true_eq] at h
    have := nameAt_len s m _ _ _ hn (by omega) (by omega)
    omega
theorem RT.show_len2 (a : RT) : a.Good → a.show.length ≤ a.nodes * 2000 := by
  induction a with
  | num n => intro h; have := itoa_short n h.1 h.2; simp only [RT.show, RT.nodes]; omega
  | name s => intro h; have := name_len h.1; simp only [RT.show, RT.nodes]; omega
  | neg a ih => intro h; have := ih h; have := wrapP_len 2 a.binds a.show; simp only [RT.show, RT.nodes, List.length_append, List.length_singleton]; omega
  | bin k a b iha ihb =>
    intro h
    have h1 := iha h.2.1; have h2 := ihb h.2.2
    have h3 := wrapP_len (if k = 5 then 1 else 0) a.binds a.show
    have h4 := wrapP_len (if k = 5 then 2 else 1) b.binds b.show
    have h5 := op2_len k
    simp only [RT.show, RT.nodes, List.length_append]
    omega
theorem RF.show_len2 (a : RF) : a.Good → a.show.length ≤ a.nodes * 2000 := by
  induction a with
  | con k => intro _; simp only [RF.show, RF.nodes]; split <;> simp
  | nt a ih => intro h; have := ih h; simp only [RF.show, RF.nodes, List.length_append, List.length_cons, List.length_nil]; omega
  | bin k a b iha ihb =>
    intro h
    have h1 := iha h.2.1; have h2 := ihb h.2.2; have := sgn_len k
    simp only [RF.show, RF.nodes, List.length_append, List.length_cons, List.length_nil]; omega
  | qu k s a ih =>
    intro h
    have h1 := ih h.2.2.2; have h2 := name_len h.2.1
    have h3 : (if k = 7 then [101, 120, 32] else [97, 108, 108, 32] : List UInt8).length ≤ 4 := by split <;> simp
    simp only [RF.show, RF.nodes, List.length_append, List.length_cons, List.length_nil]; omega
  | rel k a b =>
    intro h
    have h1 := a.show_len2 h.2.1; have h2 := b.show_len2 h.2.2; have := sgn_len k
    simp only [RF.show, RF.nodes, List.length_append]; omega
  | cong a b m =>
    intro h
    have h1 := a.show_len2 h.1; have h2 := b.show_len2 h.2.1; have := itoa_short m (by have := h.2.2.1; omega) h.2.2.2
    simp only [RF.show, RF.nodes, List.length_append, List.length_cons, List.length_nil]; omega
def fixA : RF := .qu 7 [120] (.rel 9 (.name [120]) (.num 10))
def fixB : F := .mk 2 [] 0 [] []
theorem fixA_text : fixA.show = [101, 120, 32, 120, 46, 32, 120, 32, 60, 61, 32, 49, 48] := by
  have : Lib.itoa 10 = [49, 48] := by
    have h : Lib.itoa 10 = Lib.decDigits 10 := rfl
    rw [h, dec_big (by decide), dec_small (by decide)]; rfl
  show [101, 120, 32] ++ [120] ++ [46, 32] ++ ([120] ++ [32, 60, 61, 32] ++ Lib.itoa 10) = _
  rw [this]; rfl
theorem nameOk_x : nameOk [120] = true := by decide
theorem fixA_good : fixA.Good := ⟨.inl rfl, nameOk_x, by decide, .inl rfl, ⟨nameOk_x, by decide⟩, by decide, by decide⟩
theorem fixA_ok : fixA.f.Ok := by
  simp [fixA, RF.f, RT.t, F.Ok, F.Oks, T.Oks, T.Ok]
theorem fixA_chk : chk fixA.f = 0 := by decide
theorem fixB_chk : chk fixB = 3 := by decide
theorem fixB_ok : fixB.Ok := by simp [fixB, F.Ok, F.Oks, T.Oks]
set_option linter.unusedSimpArgs false in
set_option maxRecDepth 100000 in
set_option maxHeartbeats 4000000 in
theorem fixed_ok (hW : LibW W0) : CallsA Tryd.prog W0 6 [] [] fun rs os => rs = [.d (.bool true)] ∧ os = [] := by
  have h1 := showGood_ok hW fixA fixA_good (by decide) fixA_ok fixA_chk
  rw [fixA_text] at h1
  have h2 := showBad_ok (W0 := W0) fixB fixB_ok (by rw [fixB_chk]; decide)
  rw [fixB_chk] at h2
  have e1 : fixA.f.dv = .agg [.int .i64 7, .str [120], .int .i64 0, .sl [], .sl [.agg [.int .i64 9, .str [], .int .i64 0, .sl [.agg [.int .i64 1, .int .i64 0, .str [120], .sl []], .agg [.int .i64 0, .int .i64 10, .str [], .sl []]], .sl []]]] := by
    simp [fixA, RF.f, RT.t, F.dv, F.dvs, T.dvs, T.dv]
  have e2 : fixB.dv = .agg [.int .i64 2, .str [], .int .i64 0, .sl [], .sl []] := by simp [fixB, F.dv, F.dvs, T.dvs]
  rw [e1] at h1
  rw [e2] at h2
  refine calls_of_awpC tok [.tmp 0] Tryd.func6 rfl rfl rfl rfl rfl ?_
  ((conv => whnf); (repeat' (first | (refine Br.tt (by first | assumption | with_reducible rfl | with_reducible exact Bool.not_false) ?_; conv => whnf) | (refine Br.ff (by first | assumption | with_reducible rfl | with_reducible exact Bool.not_true) ?_; conv => whnf) | (refine Br.tt rfl ?_; conv => whnf) | (refine Br.ff rfl ?_; conv => whnf) | fail)))
  refine Need.of (by intro y hy; simp at hy; rcases hy with rfl | rfl <;> rfl) ?_
  ((conv => whnf); (repeat' (first | (refine Br.tt (by first | assumption | with_reducible rfl | with_reducible exact Bool.not_false) ?_; conv => whnf) | (refine Br.ff (by first | assumption | with_reducible rfl | with_reducible exact Bool.not_true) ?_; conv => whnf) | fail)))
  refine Need.of (by intro y hy; simp at hy; subst hy; rfl) ?_
  ((conv => whnf); (repeat' (first | (refine Br.tt (by first | assumption | with_reducible rfl | with_reducible exact Bool.not_false) ?_; conv => whnf) | (refine Br.ff (by first | assumption | with_reducible rfl | with_reducible exact Bool.not_true) ?_; conv => whnf) | fail)))
  refine CallsA.then h1 ?_
  ((conv => whnf); (repeat' (first | (refine Br.tt (by first | assumption | with_reducible rfl | with_reducible exact Bool.not_false) ?_; conv => whnf) | (refine Br.ff (by first | assumption | with_reducible rfl | with_reducible exact Bool.not_true) ?_; conv => whnf) | fail)))
  refine CallsA.then h2 ?_
  ((conv => whnf); (repeat' (first | (refine Br.tt (by first | assumption | with_reducible rfl | with_reducible exact Bool.not_false) ?_; conv => whnf) | (refine Br.ff (by first | assumption | with_reducible rfl | with_reducible exact Bool.not_true) ?_; conv => whnf) | (refine Br.tt rfl ?_; conv => whnf) | (refine Br.ff rfl ?_; conv => whnf) | fail)))
  exact ⟨rfl, rfl⟩
set_option linter.unusedSimpArgs false in
set_option maxRecDepth 100000 in
set_option maxHeartbeats 4000000 in
theorem showBack_ok (hW : LibW W0) (f : F) (hf : f.Ok) (hr : f.Rng) : CallsA Tryd.prog W0 3 [] [.d f.dv] fun rs os => rs = [.d (.bool true)] ∧ os = [] := by
  have hx := fixed_ok hW
  by_cases hc : chk f = 0
  · obtain ⟨r, rfl, hg, hn⟩ := chk_right f hf hr hc
    have h1 := showGood_ok hW r hg (by omega) hf hc
    have h2 := parse_ok hW r.show (by have := r.show_len2 hg; omega)
    have h3 := refCheck_ok (W0 := W0) r.f hf
    have h4 := same_ok (W0 := W0) r.f hf
    rw [hc] at h3
    by_cases hl : 4096 < r.show.length
    · have el : decide ((r.show.length : Int) > 4096) = true := by simp; omega
      rw [parse_long hl] at h2
      have ez : zeroF.dv = .agg [.int .i64 0, .str [], .int .i64 0, .sl [], .sl []] := by simp [zeroF, F.dv, F.dvs, T.dvs]
      rw [ez] at h2
      rw [F.dv_eq] at h1 ⊢
      refine calls_of_awpC tok [.tmp 2] Tryd.func3 rfl rfl rfl rfl rfl ?_
      ((conv => whnf); (repeat' (first | (refine Br.tt (by first | assumption | with_reducible rfl | with_reducible exact Bool.not_false) ?_; conv => whnf) | (refine Br.ff (by first | assumption | with_reducible rfl | with_reducible exact Bool.not_true) ?_; conv => whnf) | fail)))
      refine CallsA.then h1 ?_
      ((conv => whnf); (repeat' (first | (refine Br.tt (by first | assumption | with_reducible rfl | with_reducible exact Bool.not_false) ?_; conv => whnf) | (refine Br.ff (by first | assumption | with_reducible rfl | with_reducible exact Bool.not_true) ?_; conv => whnf) | fail)))
      refine CallsA.then hx ?_
      ((conv => whnf); (repeat' (first | (refine Br.tt (by first | assumption | with_reducible rfl | with_reducible exact Bool.not_false) ?_; conv => whnf) | (refine Br.ff (by first | assumption | with_reducible rfl | with_reducible exact Bool.not_true) ?_; conv => whnf) | (refine Br.tt rfl ?_; conv => whnf) | (refine Br.ff rfl ?_; conv => whnf) | fail)))
      refine CallsA.then h2 ?_
      ((conv => whnf); (repeat' (first | (refine Br.tt (by first | assumption | with_reducible rfl | with_reducible exact Bool.not_false) ?_; conv => whnf) | (refine Br.ff (by first | assumption | with_reducible rfl | with_reducible exact Bool.not_true) ?_; conv => whnf) | (refine Br.tt rfl ?_; conv => whnf) | (refine Br.ff rfl ?_; conv => whnf) | fail)))
      exact ⟨rfl, rfl⟩
    · have el : decide ((r.show.length : Int) > 4096) = false := by simp; omega
      rw [parse_show r hg (by omega) hc] at h2
      rw [F.dv_eq] at h1 h2 h3 h4 ⊢
      refine calls_of_awpC tok [.tmp 2] Tryd.func3 rfl rfl rfl rfl rfl ?_
      ((conv => whnf); (repeat' (first | (refine Br.tt (by first | assumption | with_reducible rfl | with_reducible exact Bool.not_false) ?_; conv => whnf) | (refine Br.ff (by first | assumption | with_reducible rfl | with_reducible exact Bool.not_true) ?_; conv => whnf) | fail)))
      refine CallsA.then h1 ?_
      ((conv => whnf); (repeat' (first | (refine Br.tt (by first | assumption | with_reducible rfl | with_reducible exact Bool.not_false) ?_; conv => whnf) | (refine Br.ff (by first | assumption | with_reducible rfl | with_reducible exact Bool.not_true) ?_; conv => whnf) | fail)))
      refine CallsA.then hx ?_
      ((conv => whnf); (repeat' (first | (refine Br.tt (by first | assumption | with_reducible rfl | with_reducible exact Bool.not_false) ?_; conv => whnf) | (refine Br.ff (by first | assumption | with_reducible rfl | with_reducible exact Bool.not_true) ?_; conv => whnf) | (refine Br.tt rfl ?_; conv => whnf) | (refine Br.ff rfl ?_; conv => whnf) | fail)))
      refine CallsA.then h2 ?_
      ((conv => whnf); (repeat' (first | (refine Br.tt (by first | assumption | with_reducible rfl | with_reducible exact Bool.not_false) ?_; conv => whnf) | (refine Br.ff (by first | assumption | with_reducible rfl | with_reducible exact Bool.not_true) ?_; conv => whnf) | (refine Br.tt rfl ?_; conv => whnf) | (refine Br.ff rfl ?_; conv => whnf) | fail)))
      refine CallsA.then h3 ?_
      ((conv => whnf); (repeat' (first | (refine Br.tt (by first | assumption | with_reducible rfl | with_reducible exact Bool.not_false) ?_; conv => whnf) | (refine Br.ff (by first | assumption | with_reducible rfl | with_reducible exact Bool.not_true) ?_; conv => whnf) | (refine Br.tt rfl ?_; conv => whnf) | (refine Br.ff rfl ?_; conv => whnf) | fail)))
      refine CallsA.then h4 ?_
      ((conv => whnf); (repeat' (first | (refine Br.tt (by first | assumption | with_reducible rfl | with_reducible exact Bool.not_false) ?_; conv => whnf) | (refine Br.ff (by first | assumption | with_reducible rfl | with_reducible exact Bool.not_true) ?_; conv => whnf) | (refine Br.tt rfl ?_; conv => whnf) | (refine Br.ff rfl ?_; conv => whnf) | fail)))
      refine CallsA.then h1 ?_
      have es : (r.show == r.show) = true := by simp
      ((conv => whnf); (repeat' (first | (refine Br.tt (by first | assumption | with_reducible rfl | with_reducible exact Bool.not_false) ?_; conv => whnf) | (refine Br.ff (by first | assumption | with_reducible rfl | with_reducible exact Bool.not_true) ?_; conv => whnf) | (refine Br.tt rfl ?_; conv => whnf) | (refine Br.ff rfl ?_; conv => whnf) | fail)))
      rw [es]
      exact ⟨rfl, rfl⟩
  · have h1 := showBad_ok (W0 := W0) f hf hc
    have ec : (chk f != 0) = true := by simpa using hc
    rw [F.dv_eq] at h1 ⊢
    refine calls_of_awpC tok [.tmp 2] Tryd.func3 rfl rfl rfl rfl rfl ?_
    ((conv => whnf); (repeat' (first | (refine Br.tt (by first | assumption | with_reducible rfl | with_reducible exact Bool.not_false) ?_; conv => whnf) | (refine Br.ff (by first | assumption | with_reducible rfl | with_reducible exact Bool.not_true) ?_; conv => whnf) | fail)))
    refine CallsA.then h1 ?_
    ((conv => whnf); (repeat' (first | (refine Br.tt (by first | assumption | with_reducible rfl | with_reducible exact Bool.not_false) ?_; conv => whnf) | (refine Br.ff (by first | assumption | with_reducible rfl | with_reducible exact Bool.not_true) ?_; conv => whnf) | fail)))
    refine CallsA.then hx ?_
    ((conv => whnf); (repeat' (first | (refine Br.tt (by first | assumption | with_reducible rfl | with_reducible exact Bool.not_false) ?_; conv => whnf) | (refine Br.ff (by first | assumption | with_reducible rfl | with_reducible exact Bool.not_true) ?_; conv => whnf) | (refine Br.tt rfl ?_; conv => whnf) | (refine Br.ff rfl ?_; conv => whnf) | fail)))
    refine CallsA.then hx ?_
    ((conv => whnf); (repeat' (first | (refine Br.tt (by first | assumption | with_reducible rfl | with_reducible exact Bool.not_false) ?_; conv => whnf) | (refine Br.ff (by first | assumption | with_reducible rfl | with_reducible exact Bool.not_true) ?_; conv => whnf) | (refine Br.tt rfl ?_; conv => whnf) | (refine Br.ff rfl ?_; conv => whnf) | fail)))
    exact ⟨rfl, rfl⟩
set_option linter.unusedSimpArgs false in
set_option maxRecDepth 100000 in
set_option maxHeartbeats 4000000 in
theorem showReads_ok (hW : LibW W0) (s : List UInt8) (hs : s.length < 1000000000000) : CallsA Tryd.prog W0 4 [] [.d (.str s)] fun rs os => rs = [.d (.bool true)] ∧ os = [] := by
  have hx := fixed_ok hW
  have h0 := parse_ok hW s hs
  rcases parseM_right s with ⟨e, hc, hf, hr⟩ | ⟨e, hz⟩
  · generalize parseM s = p at *
    obtain ⟨f, w⟩ := p
    simp only at e hc hf hr
    subst e
    simp only at h0
    obtain ⟨r, rfl, hg, hn⟩ := chk_right f hf hr hc
    have h1 := showGood_ok hW r hg (by omega) hf hc
    have h2 := parse_ok hW r.show (by have := r.show_len2 hg; omega)
    have h3 := refCheck_ok (W0 := W0) r.f hf
    have h4 := same_ok (W0 := W0) r.f hf
    rw [hc] at h3
    by_cases hl : 4096 < r.show.length
    · have el : decide ((r.show.length : Int) > 4096) = true := by simp; omega
      rw [parse_long hl] at h2
      have ez : zeroF.dv = .agg [.int .i64 0, .str [], .int .i64 0, .sl [], .sl []] := by simp [zeroF, F.dv, F.dvs, T.dvs]
      rw [ez] at h2
      rw [F.dv_eq] at h0 h1 h3
      refine calls_of_awpC tok [.tmp 2] Tryd.func4 rfl rfl rfl rfl rfl ?_
      ((conv => whnf); (repeat' (first | (refine Br.tt (by first | assumption | with_reducible rfl | with_reducible exact Bool.not_false) ?_; conv => whnf) | (refine Br.ff (by first | assumption | with_reducible rfl | with_reducible exact Bool.not_true) ?_; conv => whnf) | fail)))
      refine CallsA.then h0 ?_
      ((conv => whnf); (repeat' (first | (refine Br.tt (by first | assumption | with_reducible rfl | with_reducible exact Bool.not_false) ?_; conv => whnf) | (refine Br.ff (by first | assumption | with_reducible rfl | with_reducible exact Bool.not_true) ?_; conv => whnf) | fail)))
      refine CallsA.then hx ?_
      ((conv => whnf); (repeat' (first | (refine Br.tt (by first | assumption | with_reducible rfl | with_reducible exact Bool.not_false) ?_; conv => whnf) | (refine Br.ff (by first | assumption | with_reducible rfl | with_reducible exact Bool.not_true) ?_; conv => whnf) | (refine Br.tt rfl ?_; conv => whnf) | (refine Br.ff rfl ?_; conv => whnf) | fail)))
      refine CallsA.then h1 ?_
      ((conv => whnf); (repeat' (first | (refine Br.tt (by first | assumption | with_reducible rfl | with_reducible exact Bool.not_false) ?_; conv => whnf) | (refine Br.ff (by first | assumption | with_reducible rfl | with_reducible exact Bool.not_true) ?_; conv => whnf) | (refine Br.tt rfl ?_; conv => whnf) | (refine Br.ff rfl ?_; conv => whnf) | fail)))
      refine CallsA.then h3 ?_
      ((conv => whnf); (repeat' (first | (refine Br.tt (by first | assumption | with_reducible rfl | with_reducible exact Bool.not_false) ?_; conv => whnf) | (refine Br.ff (by first | assumption | with_reducible rfl | with_reducible exact Bool.not_true) ?_; conv => whnf) | (refine Br.tt rfl ?_; conv => whnf) | (refine Br.ff rfl ?_; conv => whnf) | fail)))
      refine CallsA.then h2 ?_
      ((conv => whnf); (repeat' (first | (refine Br.tt (by first | assumption | with_reducible rfl | with_reducible exact Bool.not_false) ?_; conv => whnf) | (refine Br.ff (by first | assumption | with_reducible rfl | with_reducible exact Bool.not_true) ?_; conv => whnf) | (refine Br.tt rfl ?_; conv => whnf) | (refine Br.ff rfl ?_; conv => whnf) | fail)))
      exact ⟨rfl, rfl⟩
    · have el : decide ((r.show.length : Int) > 4096) = false := by simp; omega
      rw [parse_show r hg (by omega) hc] at h2
      rw [F.dv_eq] at h0 h1 h2 h3 h4
      refine calls_of_awpC tok [.tmp 2] Tryd.func4 rfl rfl rfl rfl rfl ?_
      ((conv => whnf); (repeat' (first | (refine Br.tt (by first | assumption | with_reducible rfl | with_reducible exact Bool.not_false) ?_; conv => whnf) | (refine Br.ff (by first | assumption | with_reducible rfl | with_reducible exact Bool.not_true) ?_; conv => whnf) | fail)))
      refine CallsA.then h0 ?_
      ((conv => whnf); (repeat' (first | (refine Br.tt (by first | assumption | with_reducible rfl | with_reducible exact Bool.not_false) ?_; conv => whnf) | (refine Br.ff (by first | assumption | with_reducible rfl | with_reducible exact Bool.not_true) ?_; conv => whnf) | fail)))
      refine CallsA.then hx ?_
      ((conv => whnf); (repeat' (first | (refine Br.tt (by first | assumption | with_reducible rfl | with_reducible exact Bool.not_false) ?_; conv => whnf) | (refine Br.ff (by first | assumption | with_reducible rfl | with_reducible exact Bool.not_true) ?_; conv => whnf) | (refine Br.tt rfl ?_; conv => whnf) | (refine Br.ff rfl ?_; conv => whnf) | fail)))
      refine CallsA.then h1 ?_
      ((conv => whnf); (repeat' (first | (refine Br.tt (by first | assumption | with_reducible rfl | with_reducible exact Bool.not_false) ?_; conv => whnf) | (refine Br.ff (by first | assumption | with_reducible rfl | with_reducible exact Bool.not_true) ?_; conv => whnf) | (refine Br.tt rfl ?_; conv => whnf) | (refine Br.ff rfl ?_; conv => whnf) | fail)))
      refine CallsA.then h3 ?_
      ((conv => whnf); (repeat' (first | (refine Br.tt (by first | assumption | with_reducible rfl | with_reducible exact Bool.not_false) ?_; conv => whnf) | (refine Br.ff (by first | assumption | with_reducible rfl | with_reducible exact Bool.not_true) ?_; conv => whnf) | (refine Br.tt rfl ?_; conv => whnf) | (refine Br.ff rfl ?_; conv => whnf) | fail)))
      refine CallsA.then h2 ?_
      ((conv => whnf); (repeat' (first | (refine Br.tt (by first | assumption | with_reducible rfl | with_reducible exact Bool.not_false) ?_; conv => whnf) | (refine Br.ff (by first | assumption | with_reducible rfl | with_reducible exact Bool.not_true) ?_; conv => whnf) | (refine Br.tt rfl ?_; conv => whnf) | (refine Br.ff rfl ?_; conv => whnf) | fail)))
      refine CallsA.then h3 ?_
      ((conv => whnf); (repeat' (first | (refine Br.tt (by first | assumption | with_reducible rfl | with_reducible exact Bool.not_false) ?_; conv => whnf) | (refine Br.ff (by first | assumption | with_reducible rfl | with_reducible exact Bool.not_true) ?_; conv => whnf) | (refine Br.tt rfl ?_; conv => whnf) | (refine Br.ff rfl ?_; conv => whnf) | fail)))
      refine CallsA.then h4 ?_
      ((conv => whnf); (repeat' (first | (refine Br.tt (by first | assumption | with_reducible rfl | with_reducible exact Bool.not_false) ?_; conv => whnf) | (refine Br.ff (by first | assumption | with_reducible rfl | with_reducible exact Bool.not_true) ?_; conv => whnf) | (refine Br.tt rfl ?_; conv => whnf) | (refine Br.ff rfl ?_; conv => whnf) | fail)))
      exact ⟨rfl, rfl⟩
  · generalize parseM s = p at *
    obtain ⟨f, w, b, c⟩ := p
    simp only at e hz h0
    subst hz
    have hb : (!(w == 0 && (b == 0 && (c == 0 && true) && true))) = true := by
      by_cases h1 : w = 0 <;> by_cases h2 : b = 0 <;> by_cases h3 : c = 0 <;> simp_all
    have hzt : (RF.con 0).f = zeroF := rfl
    have h1 := showGood_ok hW (.con 0) (.inl rfl) (by decide) (by simp [RF.f, F.Ok, F.Oks, T.Oks]) (by decide)
    rw [hzt] at h1
    have ez : zeroF.dv = .agg [.int .i64 0, .str [], .int .i64 0, .sl [], .sl []] := by simp [zeroF, F.dv, F.dvs, T.dvs]
    have et : (RF.con 0).show = [116, 114, 117, 101] := rfl
    rw [et] at h1
    rw [ez] at h0 h1
    refine calls_of_awpC tok [.tmp 2] Tryd.func4 rfl rfl rfl rfl rfl ?_
    ((conv => whnf); (repeat' (first | (refine Br.tt (by first | assumption | with_reducible rfl | with_reducible exact Bool.not_false) ?_; conv => whnf) | (refine Br.ff (by first | assumption | with_reducible rfl | with_reducible exact Bool.not_true) ?_; conv => whnf) | fail)))
    refine CallsA.then h0 ?_
    ((conv => whnf); (repeat' (first | (refine Br.tt (by first | assumption | with_reducible rfl | with_reducible exact Bool.not_false) ?_; conv => whnf) | (refine Br.ff (by first | assumption | with_reducible rfl | with_reducible exact Bool.not_true) ?_; conv => whnf) | fail)))
    refine CallsA.then hx ?_
    ((conv => whnf); (repeat' (first | (refine Br.tt (by first | assumption | with_reducible rfl | with_reducible exact Bool.not_false) ?_; conv => whnf) | (refine Br.ff (by first | assumption | with_reducible rfl | with_reducible exact Bool.not_true) ?_; conv => whnf) | (refine Br.tt rfl ?_; conv => whnf) | (refine Br.ff rfl ?_; conv => whnf) | fail)))
    refine CallsA.then h1 ?_
    ((conv => whnf); (repeat' (first | (refine Br.tt (by first | assumption | with_reducible rfl | with_reducible exact Bool.not_false) ?_; conv => whnf) | (refine Br.ff (by first | assumption | with_reducible rfl | with_reducible exact Bool.not_true) ?_; conv => whnf) | (refine Br.tt rfl ?_; conv => whnf) | (refine Br.ff rfl ?_; conv => whnf) | fail)))
    exact ⟨rfl, rfl⟩
end Go.Proofs.L08

namespace Go.Proofs.L08
open Go Aw Go.Proofs Go.RowKit Go.Proofs.YtdeljonfleopdaaDoor
theorem CallsA.law {P : Program} {f : FuncId} {xs : List DV} {vs0 : List Value} {W : World} (h : CallsA P W f [] (xs.map AV.d) fun rs os => rs = [.d (.bool true)] ∧ os = [])
    (hl : vs0.length = xs.length) (hx : ∀ (i : Nat) (x : DV) (a : Value), xs[i]? = some x → vs0[i]? = some a → DRel (fun b _ => b < W.heap.size) W x a) :
    Calls P f ⟨vs0⟩ W fun e w' => e = .returned (.bool true) ∧ Below W.heap.size W w' := by
  refine (h.out (fun b _ => b < W.heap.size) W (fun _ => none) [] vs0 ⟨Below.refl _ _, fun _ _ h => h, fun _ _ h => h⟩ ⟨rfl, fun i ps b h => by simp at h⟩ (fun b id h => by cases h) (by simpa using hl) ?_).mono ?_
  · intro i a v ha hv
    rw [List.getElem?_map] at ha
    obtain ⟨x, hx1, rfl⟩ := Option.map_eq_some_iff.1 ha
    exact .d _ _ (hx i x v hx1 hv)
  · rintro e w' ⟨vs, rs, os', S', ow', he, ⟨hr, -⟩, hb, -, ⟨hvl, hv⟩, hext, -⟩
    subst hr
    refine ⟨?_, hb.below⟩
    match vs, hvl with
    | [v], _ =>
      have := hv 0 _ _ rfl rfl
      cases this with
      | d _ _ hd =>
        cases hd
        rw [he]; rfl
theorem own : ownKnob Tryd.prog.godebug = none := by kernel_rfl
theorem gT : Tryd.prog.globalNamed "internal/strconv.uint64pow10" = some 0 := by kernel_rfl
theorem gS : Tryd.prog.globalNamed "strings.asciiSpace" = some 1 := by kernel_rfl
theorem gTType : (Tryd.prog.globals[0]?).map (·.type) = some 110 := by kernel_rfl
theorem gSType : (Tryd.prog.globals[1]?).map (·.type) = some 116 := by kernel_rfl
theorem cells5 : Tryd.prog.cellsOf 5 = 1 := by kernel_rfl
theorem cells91 : Tryd.prog.cellsOf 91 = 1 := by kernel_rfl
theorem cells116 : Tryd.prog.cellsOf 116 = 256 := by kernel_rfl
theorem cells110 : Tryd.prog.cellsOf 110 = 20 := by kernel_rfl
theorem u8types : U8Types Tryd.prog Tryd.lays197_ren := { Tryd.lays197 with }
theorem u8extra : U8Extra Tryd.prog Tryd.lays197_ren := ⟨by kernel_rfl, by kernel_rfl, by kernel_rfl, by kernel_rfl, by kernel_rfl, by kernel_rfl, by kernel_rfl⟩
theorem first_data : (Rows.laid_unicode_utf8_first : DataW Unit) = Lib.firstData := by kernel_rfl
theorem accept_data : (Rows.laid_unicode_utf8_acceptRanges : DataW Unit) = Lib.acceptData := by kernel_rfl
theorem space_data : (Rows.laid_strings_asciiSpace : DataW Unit) = Lib.tabData .u8 Lib.asciiSpaceTab := by kernel_rfl
theorem laid_lib {W : World} (h : laidMet Tryd.prog Rows.showReadsUptoRow.laid W) : LibW W := by
  have h2 := laidMet.tail (laidMet.tail h)
  have h5 := laidMet.tail (laidMet.tail (laidMet.tail h2))
  refine ⟨?_, ?_, ?_⟩
  · exact Lib.tabIs_of_head (zs := Lib.pow10Tab) (rest := [("unicode/utf8.acceptRanges", Rows.laid_unicode_utf8_acceptRanges), ("unicode.White_Space", Rows.laid_unicode_White_Space), ("strings.asciiSpace", Rows.laid_strings_asciiSpace), ("unicode/utf8.first", Rows.laid_unicode_utf8_first)])
      gT gTType Tryd.underlying110 Tryd.underlying91 cells91 cells110 h2
  · exact Lib.tabIs_of_head (zs := Lib.asciiSpaceTab) (rest := [("unicode/utf8.first", Rows.laid_unicode_utf8_first)])
      gS gSType Tryd.underlying116 Tryd.underlying5 cells5 cells116 (by rw [← space_data]; exact h5)
  · have k1 : ("unicode/utf8.first", (Rows.laid_unicode_utf8_first : DataW Unit)) ∈ Rows.showReadsUptoRow.laid := by
      unfold Rows.showReadsUptoRow
      exact .tail _ (.tail _ (.tail _ (.tail _ (.tail _ (.tail _ (.head _))))))
    have k2 : ("unicode/utf8.acceptRanges", (Rows.laid_unicode_utf8_acceptRanges : DataW Unit)) ∈ Rows.showReadsUptoRow.laid := by
      unfold Rows.showReadsUptoRow
      exact .tail _ (.tail _ (.tail _ (.head _)))
    rw [first_data] at k1
    rw [accept_data] at k2
    exact utf8Tabs_of_readsT u8types u8extra (Lib.laidMet.reads h k1) (Lib.laidMet.reads h k2)
theorem libW_of_laid {W : World} (h : laidMetH Tryd.prog Rows.showReadsUptoRow.laid W) : LibW W := by
  rw [MakeChecks.laidMetH_plain _ _ _ (by kernel_rfl)] at h
  exact laid_lib h
end Go.Proofs.L08
