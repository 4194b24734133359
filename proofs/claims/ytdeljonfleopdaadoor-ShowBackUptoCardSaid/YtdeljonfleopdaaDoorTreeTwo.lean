/-
  Contracts of the checks of trees and of their comparison; of the library functions; texts of less than the bounds that stand in each.
-/
import Derived.Test.YtdeljonfleopdaaDoorTreeOne
import Derived.WalkKit
import Derived.Ground.NamesProg
import Derived.Test.YtdeljonfleopdaaDoorShelf
import Derived.Shelf.Strings.Fields
import Derived.Shelf.Strings.SplitShaped
import Derived.Shelf.Strings.Prefix
import Derived.Shelf.Utf8.RuneCount
import Derived.Shelf.Unicode.DecodeAny
import Derived.Shelf.Strconv.Itoa4
set_option linter.unusedSectionVars false
set_option linter.unusedSimpArgs false
set_option linter.unusedVariables false
namespace Go.Proofs.L08
open Go Aw Go.Proofs
variable {W0 : World}
set_option linter.unusedSimpArgs false in
set_option maxRecDepth 100000 in
set_option maxHeartbeats 4000000 in
theorem refForm_ok (t : F) : ∀ (_ : t.Ok) (m : M) (d : Int) (_ : m.fine) (_ : m.er = 0) (_ : 0 ≤ d) (_ : d ≤ 41), CallsA Tryd.prog W0 28 [m.ps] [.ptr 0 0, .d t.dv, .d (.int .i64 d)]
    fun rs os => rs = [] ∧ os = [(t.meas d m).ps] := by
  induction t using F.ind with
  | h op name md ts fs ih =>
    intro ht m d hm he hd0 hd
    rw [F.dv, F.meas, T.dvs_eq, F.dvs_eq]
    rw [F.Ok] at ht
    obtain ⟨hn, hat, haf, hokt, hokf⟩ := ht
    unfold M.ps
    refine calls_of_awp1 tok [] Tryd.func28 rfl rfl rfl rfl rfl rfl ?_
    ((conv => whnf); (repeat' (first | (refine Br.tt (by first | assumption | with_reducible rfl | with_reducible exact Bool.not_false) ?_; conv => whnf) | (refine Br.ff (by first | assumption | with_reducible rfl | with_reducible exact Bool.not_true) ?_; conv => whnf) | fail)))
    refine CallsA.then (wellMade_ok op name md _ _ (by omega)) ?_
    ((conv => whnf); (repeat' (first | (refine Br.tt (by first | assumption | with_reducible rfl | with_reducible exact Bool.not_false) ?_; conv => whnf) | (refine Br.ff (by first | assumption | with_reducible rfl | with_reducible exact Bool.not_true) ?_; conv => whnf) | fail)))
    refine CallsA.then1 (node_ok m d _ hm.1 (by have := hm.2 he; omega)) ?_
    rw [List.length_map, List.length_map]
    generalize hm0 : met m d (wellF op name md ts.length fs.length) = m0
    have hm0f : m0.fine ∧ (m0.er = 0 → d ≤ 40) := by
      rw [← hm0]; exact ⟨(met_fine hm).1, fun h => ((met_fine hm).2 h).1⟩
    have hd1 : IntKind.i64.wrap (d + 1) = d + 1 := wrap_i64 (by omega) (by omega)
    unfold M.ps
    ((conv => whnf); (repeat' (first | (refine Br.tt (by first | assumption | with_reducible rfl | with_reducible exact Bool.not_false) ?_; conv => whnf) | (refine Br.ff (by first | assumption | with_reducible rfl | with_reducible exact Bool.not_true) ?_; conv => whnf) | fail)))
    refine loop_by2 (fun (i : Nat) (m : M) => i ≤ ts.length ∧ m.fine ∧ (m.er = 0 → d ≤ 40) ∧ T.measL ts (d + 1) m0 = T.measL (ts.drop i) (d + 1) m)
      (fun i m => mkT [(0, .ptr 50000 0), (2, .d (.int .i64 d)), (4, .ptr 4 0), (6, .d (.int .i64 i))])
      (fun i m => mkT [(50000, .box [.d (.int .i64 m.sz), .d (.int .i64 m.dp), .d (.int .i64 m.er)]), (4, .box [.d (.int .i64 op), .d (.str name), .d (.int .i64 md), .d (.sl (ts.map T.dv)), .d (.sl (fs.map F.dv))])])
      (fun i m => ts.length - i) 0 m0 ⟨by omega, hm0f.1, hm0f.2, rfl⟩
      (Weak.of [] rfl rfl ⟨⟨_, rfl, rfl⟩, ⟨_, rfl, rfl⟩, ⟨_, rfl, rfl⟩, ⟨_, rfl, rfl⟩, trivial⟩ ⟨⟨_, rfl, ⟨rfl, rfl, rfl, trivial⟩⟩, ⟨_, rfl, ⟨rfl, rfl, rfl, rfl, rfl, trivial⟩⟩, trivial⟩) ?_
    intro i m1 ⟨hi, hf1, hdd, heq⟩
    by_cases hc : i < ts.length ∧ m1.er = 0
    · obtain ⟨hlt, her⟩ := hc
      have b1 : decide ((i : Int) < ((ts.map T.dv).length : Int)) = true := by simpa using hlt
      have b2 : (m1.er == 0) = true := by simpa using her
      ((conv => whnf); (repeat' (first | (refine Br.tt (by first | assumption | with_reducible rfl | with_reducible exact Bool.not_false) ?_; conv => whnf) | (refine Br.ff (by first | assumption | with_reducible rfl | with_reducible exact Bool.not_true) ?_; conv => whnf) | fail)))
      have hmem : ts[i] ∈ ts := List.getElem_mem hlt
      have hia := refTerm_ok (W0 := W0) ts[i] (T.Oks_mem hokt _ hmem) m1 (d + 1) hf1 her (by omega) (by have := hdd her; omega)
      have hst : T.measL (ts.drop i) (d + 1) m1 = T.measL (ts.drop (i + 1)) (d + 1) (T.meas ts[i] (d + 1) m1) := by
        rw [List.drop_eq_getElem_cons hlt, T.measL, if_pos her]
      have hf2 := T.meas_fine ts[i] (d + 1) m1 hf1
      have hget : (ts.map T.dv)[i]? = some (T.dv ts[i]) := by simp [hlt]
      generalize T.meas ts[i] (d + 1) m1 = m2 at *
      rcases hx : ts[i] with ⟨aop, anum, aname, aargs⟩
      rw [hx, T.dv] at hia hget
      unfold M.ps at hia
      refine Idx.of _ (by omega) hget rfl ?_
      ((conv => whnf); (repeat' (first | (refine Br.tt (by first | assumption | with_reducible rfl | with_reducible exact Bool.not_false) ?_; conv => whnf) | (refine Br.ff (by first | assumption | with_reducible rfl | with_reducible exact Bool.not_true) ?_; conv => whnf) | fail)))
      rw [hd1]
      refine CallsA.then1 hia ?_
      ((conv => whnf); (repeat' (first | (refine Br.tt (by first | assumption | with_reducible rfl | with_reducible exact Bool.not_false) ?_; conv => whnf) | (refine Br.ff (by first | assumption | with_reducible rfl | with_reducible exact Bool.not_true) ?_; conv => whnf) | fail)))
      refine ⟨i + 1, m2, ⟨⟨by omega, hf2, fun _ => hdd her, by rw [heq, hst]⟩, by omega⟩,
        Weak.of [] rfl rfl ⟨⟨_, rfl, rfl⟩, ⟨_, rfl, rfl⟩, ⟨_, rfl, rfl⟩, ⟨_, rfl, by simp only [Pre]; rw [wrap_i64 (by omega) (by omega)]; rfl⟩, trivial⟩ ⟨⟨_, rfl, ⟨rfl, rfl, rfl, trivial⟩⟩, ⟨_, rfl, ⟨rfl, rfl, rfl, rfl, rfl, trivial⟩⟩, trivial⟩⟩
    have hm1 : T.measL ts (d + 1) m0 = m1 := by
      rw [heq]
      by_cases hlt : i < ts.length
      · exact T.measL_stop fun h => hc ⟨hlt, h⟩
      · rw [List.drop_eq_nil_of_le (by omega), T.measL]
    rw [hm1]
    clear heq
    have hb : (decide ((i : Int) < ((ts.map T.dv).length : Int)) = true ∧ (m1.er == 0) = false) ∨ decide ((i : Int) < ((ts.map T.dv).length : Int)) = false := by
      by_cases hlt : i < ts.length
      · exact .inl ⟨by simpa using hlt, by rw [beq_eq_false_iff_ne]; exact fun h => hc ⟨hlt, h⟩⟩
      · exact .inr (by simpa using hlt)
    clear hc hi
    rcases hb with ⟨b1, b2⟩ | b1
    all_goals (
      ((conv => whnf); (repeat' (first | (refine Br.tt (by first | assumption | with_reducible rfl | with_reducible exact Bool.not_false) ?_; conv => whnf) | (refine Br.ff (by first | assumption | with_reducible rfl | with_reducible exact Bool.not_true) ?_; conv => whnf) | fail)))
      refine loop_by2 (fun (i : Nat) (m : M) => i ≤ fs.length ∧ m.fine ∧ (m.er = 0 → d ≤ 40) ∧ F.measL fs (d + 1) m1 = F.measL (fs.drop i) (d + 1) m)
        (fun i m => mkT [(0, .ptr 50000 0), (2, .d (.int .i64 d)), (4, .ptr 4 0), (7, .d (.int .i64 i))])
        (fun i m => mkT [(50000, .box [.d (.int .i64 m.sz), .d (.int .i64 m.dp), .d (.int .i64 m.er)]), (4, .box [.d (.int .i64 op), .d (.str name), .d (.int .i64 md), .d (.sl (ts.map T.dv)), .d (.sl (fs.map F.dv))])])
        (fun i m => fs.length - i) 0 m1 ⟨by omega, hf1, hdd, rfl⟩
        (Weak.of [] rfl rfl ⟨⟨_, rfl, rfl⟩, ⟨_, rfl, rfl⟩, ⟨_, rfl, rfl⟩, ⟨_, rfl, rfl⟩, trivial⟩ ⟨⟨_, rfl, ⟨rfl, rfl, rfl, trivial⟩⟩, ⟨_, rfl, ⟨rfl, rfl, rfl, rfl, rfl, trivial⟩⟩, trivial⟩) ?_
      intro i m3 ⟨hi, hf1, hdd, heq⟩
      by_cases hc : i < fs.length ∧ m3.er = 0
      · obtain ⟨hlt, her⟩ := hc
        have b1 : decide ((i : Int) < ((fs.map F.dv).length : Int)) = true := by simpa using hlt
        have b2 : (m3.er == 0) = true := by simpa using her
        ((conv => whnf); (repeat' (first | (refine Br.tt (by first | assumption | with_reducible rfl | with_reducible exact Bool.not_false) ?_; conv => whnf) | (refine Br.ff (by first | assumption | with_reducible rfl | with_reducible exact Bool.not_true) ?_; conv => whnf) | fail)))
        have hmem : fs[i] ∈ fs := List.getElem_mem hlt
        have hia := ih fs[i] hmem (F.Oks_mem hokf _ hmem) m3 (d + 1) hf1 her (by omega) (by have := hdd her; omega)
        have hst : F.measL (fs.drop i) (d + 1) m3 = F.measL (fs.drop (i + 1)) (d + 1) (F.meas fs[i] (d + 1) m3) := by
          rw [List.drop_eq_getElem_cons hlt, F.measL, if_pos her]
        have hf2 := F.meas_fine fs[i] (d + 1) m3 hf1
        have hget : (fs.map F.dv)[i]? = some (F.dv fs[i]) := by simp [hlt]
        generalize F.meas fs[i] (d + 1) m3 = m2 at *
        rcases hx : fs[i] with ⟨aop, aname, amd, ats, afs⟩
        rw [hx, F.dv] at hia hget
        unfold M.ps at hia
        refine Idx.of _ (by omega) hget rfl ?_
        ((conv => whnf); (repeat' (first | (refine Br.tt (by first | assumption | with_reducible rfl | with_reducible exact Bool.not_false) ?_; conv => whnf) | (refine Br.ff (by first | assumption | with_reducible rfl | with_reducible exact Bool.not_true) ?_; conv => whnf) | fail)))
        rw [hd1]
        refine CallsA.then1 hia ?_
        ((conv => whnf); (repeat' (first | (refine Br.tt (by first | assumption | with_reducible rfl | with_reducible exact Bool.not_false) ?_; conv => whnf) | (refine Br.ff (by first | assumption | with_reducible rfl | with_reducible exact Bool.not_true) ?_; conv => whnf) | fail)))
        refine ⟨i + 1, m2, ⟨⟨by omega, hf2, fun _ => hdd her, by rw [heq, hst]⟩, by omega⟩,
          Weak.of [] rfl rfl ⟨⟨_, rfl, rfl⟩, ⟨_, rfl, rfl⟩, ⟨_, rfl, rfl⟩, ⟨_, rfl, by simp only [Pre]; rw [wrap_i64 (by omega) (by omega)]; rfl⟩, trivial⟩ ⟨⟨_, rfl, ⟨rfl, rfl, rfl, trivial⟩⟩, ⟨_, rfl, ⟨rfl, rfl, rfl, rfl, rfl, trivial⟩⟩, trivial⟩⟩
      · have hm2 : F.measL fs (d + 1) m1 = m3 := by
          refine heq.trans ?_
          by_cases hlt : i < fs.length
          · exact F.measL_stop fun h => hc ⟨hlt, h⟩
          · rw [List.drop_eq_nil_of_le (by omega), F.measL]
        rw [hm2]
        have hb : (decide ((i : Int) < ((fs.map F.dv).length : Int)) = true ∧ (m3.er == 0) = false) ∨ decide ((i : Int) < ((fs.map F.dv).length : Int)) = false := by
          by_cases hlt : i < fs.length
          · exact .inl ⟨by simpa using hlt, by rw [beq_eq_false_iff_ne]; exact fun h => hc ⟨hlt, h⟩⟩
          · exact .inr (by simpa using hlt)
        rcases hb with ⟨b1, b2⟩ | b1
        · ((conv => whnf); (repeat' (first | (refine Br.tt (by first | assumption | with_reducible rfl | with_reducible exact Bool.not_false) ?_; conv => whnf) | (refine Br.ff (by first | assumption | with_reducible rfl | with_reducible exact Bool.not_true) ?_; conv => whnf) | fail)))
          exact ⟨rfl, rfl⟩
        · ((conv => whnf); (repeat' (first | (refine Br.tt (by first | assumption | with_reducible rfl | with_reducible exact Bool.not_false) ?_; conv => whnf) | (refine Br.ff (by first | assumption | with_reducible rfl | with_reducible exact Bool.not_true) ?_; conv => whnf) | fail)))
          exact ⟨rfl, rfl⟩)
def zeroM : M := ⟨0, 0, 0⟩
/-- What is wrong with a formula; 0: nothing. -/
def chk (f : F) : Int := (f.meas 1 zeroM).er
theorem zeroM_fine : zeroM.fine := ⟨by decide, by decide⟩
set_option linter.unusedSimpArgs false in
set_option maxRecDepth 100000 in
set_option maxHeartbeats 4000000 in
theorem measure_ok (f : F) (hf : f.Ok) : CallsA Tryd.prog W0 16 [] [.d f.dv] fun rs os => rs = [.d (.agg [.int .i64 (f.meas 1 zeroM).sz, .int .i64 (f.meas 1 zeroM).dp, .int .i64 (f.meas 1 zeroM).er])] ∧ os = [] := by
  have h := refForm_ok (W0 := W0) f hf zeroM 1 zeroM_fine rfl (by omega) (by omega)
  generalize f.meas 1 zeroM = m1 at *
  rcases f with ⟨op, name, md, ts, fs⟩
  rw [F.dv] at *
  unfold M.ps zeroM at h
  refine calls_of_awpC tok [.cell 2 53] Tryd.func16 rfl rfl rfl rfl rfl ?_
  ((conv => whnf); (repeat' (first | (refine Br.tt (by first | assumption | with_reducible rfl | with_reducible exact Bool.not_false) ?_; conv => whnf) | (refine Br.ff (by first | assumption | with_reducible rfl | with_reducible exact Bool.not_true) ?_; conv => whnf) | fail)))
  refine CallsA.then1 h ?_
  ((conv => whnf); (repeat' (first | (refine Br.tt (by first | assumption | with_reducible rfl | with_reducible exact Bool.not_false) ?_; conv => whnf) | (refine Br.ff (by first | assumption | with_reducible rfl | with_reducible exact Bool.not_true) ?_; conv => whnf) | fail)))
  exact ⟨rfl, rfl⟩
set_option linter.unusedSimpArgs false in
set_option maxRecDepth 100000 in
set_option maxHeartbeats 4000000 in
theorem refCheck_ok (f : F) (hf : f.Ok) : CallsA Tryd.prog W0 8 [] [.d f.dv] fun rs os => rs = [.d (.int .i64 (chk f))] ∧ os = [] := by
  have h := measure_ok (W0 := W0) f hf
  unfold chk
  generalize f.meas 1 zeroM = m1 at *
  rcases f with ⟨op, name, md, ts, fs⟩
  rw [F.dv] at *
  refine calls_of_awpC tok [.tmp 2] Tryd.func8 rfl rfl rfl rfl rfl ?_
  ((conv => whnf); (repeat' (first | (refine Br.tt (by first | assumption | with_reducible rfl | with_reducible exact Bool.not_false) ?_; conv => whnf) | (refine Br.ff (by first | assumption | with_reducible rfl | with_reducible exact Bool.not_true) ?_; conv => whnf) | fail)))
  refine CallsA.then h ?_
  ((conv => whnf); (repeat' (first | (refine Br.tt (by first | assumption | with_reducible rfl | with_reducible exact Bool.not_false) ?_; conv => whnf) | (refine Br.ff (by first | assumption | with_reducible rfl | with_reducible exact Bool.not_true) ?_; conv => whnf) | fail)))
  exact ⟨rfl, rfl⟩
end Go.Proofs.L08

namespace Go.Proofs.L08
open Go Aw Go.Proofs
variable {W0 : World}
set_option linter.unusedSimpArgs false in
set_option maxRecDepth 100000 in
set_option maxHeartbeats 4000000 in
theorem walkTerm_ok (t : T) : ∀ (_ : t.Ok) (m : M) (d : Int) (_ : m.fine) (_ : m.er = 0) (_ : 0 ≤ d) (_ : d ≤ 41), CallsA Tryd.prog W0 43 [m.ps] [.clo (some 41) 0 0, .d t.dv, .d (.int .i64 d)]
    fun rs os => rs = [.d (.bool (decide ((t.meas d m).er = 0)))] ∧ os = [(t.meas d m).ps] := by
  induction t using T.ind with
  | h op num name args ih =>
    intro ht m d hm he hd0 hd
    rw [T.dv, T.meas, T.dvs_eq]
    rw [T.Ok] at ht
    obtain ⟨hn, ha, hok⟩ := ht
    unfold M.ps
    refine calls_of_awp1 tok [.tmp 6] Tryd.func43 rfl rfl rfl rfl rfl rfl ?_
    ((conv => whnf); (repeat' (first | (refine Br.tt (by first | assumption | with_reducible rfl | with_reducible exact Bool.not_false) ?_; conv => whnf) | (refine Br.ff (by first | assumption | with_reducible rfl | with_reducible exact Bool.not_true) ?_; conv => whnf) | fail)))
    refine CallsA.then (treeTerm_ok op num name _ (by omega)) ?_
    ((conv => whnf); (repeat' (first | (refine Br.tt (by first | assumption | with_reducible rfl | with_reducible exact Bool.not_false) ?_; conv => whnf) | (refine Br.ff (by first | assumption | with_reducible rfl | with_reducible exact Bool.not_true) ?_; conv => whnf) | fail)))
    refine CallsA.then1 (met1_ok m d _ hm.1 (by have := hm.2 he; omega)) ?_
    rw [List.length_map]
    generalize hm0 : met m d (wellT op num name args.length) = m0
    have hm0f : m0.fine ∧ (m0.er = 0 → d ≤ 40) := by
      rw [← hm0]; exact ⟨(met_fine hm).1, fun h => ((met_fine hm).2 h).1⟩
    have hd1 : IntKind.i64.wrap (d + 1) = d + 1 := wrap_i64 (by omega) (by omega)
    unfold M.ps
    by_cases her0 : m0.er = 0
    case neg =>
      have e0 : decide (m0.er = 0) = false := by simpa using her0
      rw [e0]
      ((conv => whnf); (repeat' (first | (refine Br.tt (by first | assumption | with_reducible rfl | with_reducible exact Bool.not_false) ?_; conv => whnf) | (refine Br.ff (by first | assumption | with_reducible rfl | with_reducible exact Bool.not_true) ?_; conv => whnf) | (refine Br.tt rfl ?_; conv => whnf) | (refine Br.ff rfl ?_; conv => whnf) | fail)))
      rw [T.measL_stop her0, e0]
      exact ⟨rfl, rfl⟩
    have e0 : decide (m0.er = 0) = true := by simpa using her0
    rw [e0]
    ((conv => whnf); (repeat' (first | (refine Br.tt (by first | assumption | with_reducible rfl | with_reducible exact Bool.not_false) ?_; conv => whnf) | (refine Br.ff (by first | assumption | with_reducible rfl | with_reducible exact Bool.not_true) ?_; conv => whnf) | (refine Br.tt rfl ?_; conv => whnf) | (refine Br.ff rfl ?_; conv => whnf) | fail)))
    refine loop_by2 (fun (i : Nat) (m : M) => i ≤ args.length ∧ m.fine ∧ m.er = 0 ∧ T.measL args (d + 1) m0 = T.measL (args.drop i) (d + 1) m)
      (fun i m => mkT [(0, .clo (some 41) 50000 0), (2, .d (.int .i64 d)), (16, .d (.sl (args.map T.dv))), (17, .d (.int .i64 (args.map T.dv).length)), (18, .d (.int .i64 i))])
      (fun i m => mkT [(50000, .box [.d (.int .i64 m.sz), .d (.int .i64 m.dp), .d (.int .i64 m.er)])])
      (fun i m => args.length - i) 0 m0 ⟨by omega, hm0f.1, her0, rfl⟩
      (Weak.of [] rfl rfl ⟨⟨_, rfl, rfl⟩, ⟨_, rfl, rfl⟩, ⟨_, rfl, rfl⟩, ⟨_, rfl, rfl⟩, ⟨_, rfl, rfl⟩, trivial⟩ ⟨⟨_, rfl, ⟨rfl, rfl, rfl, trivial⟩⟩, trivial⟩) ?_
    intro i m1 ⟨hi, hf1, her, heq⟩
    conv => whnf
    ((repeat' (first | (refine Br.tt (by first | assumption | with_reducible rfl | with_reducible exact Bool.not_false) ?_; conv => whnf) | (refine Br.ff (by first | assumption | with_reducible rfl | with_reducible exact Bool.not_true) ?_; conv => whnf) | fail)); (refine Br.mk (fun hlt => ?_) (fun hlt => ?_) <;> ((conv => whnf); (repeat' (first | (refine Br.tt (by first | assumption | with_reducible rfl | with_reducible exact Bool.not_false) ?_; conv => whnf) | (refine Br.ff (by first | assumption | with_reducible rfl | with_reducible exact Bool.not_true) ?_; conv => whnf) | fail)))))
    · have hlt : i < args.length := by simpa using hlt
      have hd40 := hm0f.2 her0
      have hmem : args[i] ∈ args := List.getElem_mem hlt
      have hia := ih args[i] hmem (T.Oks_mem hok _ hmem) m1 (d + 1) hf1 her (by omega) (by omega)
      have hst : T.measL (args.drop i) (d + 1) m1 = T.measL (args.drop (i + 1)) (d + 1) (T.meas args[i] (d + 1) m1) := by
        rw [List.drop_eq_getElem_cons hlt, T.measL, if_pos her]
      have hf2 := T.meas_fine args[i] (d + 1) m1 hf1
      have hget : (args.map T.dv)[i]? = some (T.dv args[i]) := by simp [hlt]
      generalize T.meas args[i] (d + 1) m1 = m2 at *
      rcases hx : args[i] with ⟨aop, anum, aname, aargs⟩
      rw [hx, T.dv] at hia hget
      unfold M.ps at hia
      refine Idx.of _ (by omega) hget rfl ?_
      ((conv => whnf); (repeat' (first | (refine Br.tt (by first | assumption | with_reducible rfl | with_reducible exact Bool.not_false) ?_; conv => whnf) | (refine Br.ff (by first | assumption | with_reducible rfl | with_reducible exact Bool.not_true) ?_; conv => whnf) | fail)))
      rw [hd1]
      refine CallsA.then1 hia ?_
      by_cases her2 : m2.er = 0
      · have e2 : decide (m2.er = 0) = true := by simpa using her2
        rw [e2]
        ((conv => whnf); (repeat' (first | (refine Br.tt (by first | assumption | with_reducible rfl | with_reducible exact Bool.not_false) ?_; conv => whnf) | (refine Br.ff (by first | assumption | with_reducible rfl | with_reducible exact Bool.not_true) ?_; conv => whnf) | (refine Br.tt rfl ?_; conv => whnf) | (refine Br.ff rfl ?_; conv => whnf) | fail)))
        refine ⟨i + 1, m2, ⟨⟨by omega, hf2, her2, by rw [heq, hst]⟩, by omega⟩,
          Weak.of [] rfl rfl ⟨⟨_, rfl, rfl⟩, ⟨_, rfl, rfl⟩, ⟨_, rfl, rfl⟩, ⟨_, rfl, rfl⟩, ⟨_, rfl, by simp only [Pre]; rw [wrap_i64 (by omega) (by omega)]; rfl⟩, trivial⟩ ⟨⟨_, rfl, ⟨rfl, rfl, rfl, trivial⟩⟩, trivial⟩⟩
      · have e2 : decide (m2.er = 0) = false := by simpa using her2
        rw [e2]
        ((conv => whnf); (repeat' (first | (refine Br.tt (by first | assumption | with_reducible rfl | with_reducible exact Bool.not_false) ?_; conv => whnf) | (refine Br.ff (by first | assumption | with_reducible rfl | with_reducible exact Bool.not_true) ?_; conv => whnf) | (refine Br.tt rfl ?_; conv => whnf) | (refine Br.ff rfl ?_; conv => whnf) | fail)))
        rw [heq, hst, T.measL_stop her2, e2]
        exact ⟨rfl, rfl⟩
    · have hie : i = args.length := by simp at hlt; omega
      rw [hie, List.drop_length, T.measL] at heq
      rw [heq, show decide (m1.er = 0) = true by simpa using her]
      exact ⟨rfl, rfl⟩
end Go.Proofs.L08

namespace Go.Proofs.L08
open Go Aw Go.Proofs
variable {W0 : World}
set_option linter.unusedSimpArgs false in
set_option maxRecDepth 100000 in
set_option maxHeartbeats 4000000 in
theorem walkForm_ok (t : F) : ∀ (_ : t.Ok) (m : M) (d : Int) (_ : m.fine) (_ : m.er = 0) (_ : 0 ≤ d) (_ : d ≤ 41), CallsA Tryd.prog W0 30 [m.ps] [.clo (some 41) 0 0, .d t.dv, .d (.int .i64 d)]
    fun rs os => rs = [.d (.bool (decide ((t.meas d m).er = 0)))] ∧ os = [(t.meas d m).ps] := by
  induction t using F.ind with
  | h op name md ts fs ih =>
    intro ht m d hm he hd0 hd
    rw [F.dv, F.meas, T.dvs_eq, F.dvs_eq]
    rw [F.Ok] at ht
    obtain ⟨hn, hat, haf, hokt, hokf⟩ := ht
    unfold M.ps
    refine calls_of_awp1 tok [.tmp 6] Tryd.func30 rfl rfl rfl rfl rfl rfl ?_
    ((conv => whnf); (repeat' (first | (refine Br.tt (by first | assumption | with_reducible rfl | with_reducible exact Bool.not_false) ?_; conv => whnf) | (refine Br.ff (by first | assumption | with_reducible rfl | with_reducible exact Bool.not_true) ?_; conv => whnf) | fail)))
    refine CallsA.then (treeFormula_ok op name md _ _ (by omega)) ?_
    ((conv => whnf); (repeat' (first | (refine Br.tt (by first | assumption | with_reducible rfl | with_reducible exact Bool.not_false) ?_; conv => whnf) | (refine Br.ff (by first | assumption | with_reducible rfl | with_reducible exact Bool.not_true) ?_; conv => whnf) | fail)))
    refine CallsA.then1 (met1_ok m d _ hm.1 (by have := hm.2 he; omega)) ?_
    rw [List.length_map, List.length_map]
    generalize hm0 : met m d (wellF op name md ts.length fs.length) = m0
    have hm0f : m0.fine ∧ (m0.er = 0 → d ≤ 40) := by
      rw [← hm0]; exact ⟨(met_fine hm).1, fun h => ((met_fine hm).2 h).1⟩
    have hd1 : IntKind.i64.wrap (d + 1) = d + 1 := wrap_i64 (by omega) (by omega)
    unfold M.ps
    by_cases her0 : m0.er = 0
    case neg =>
      have e0 : decide (m0.er = 0) = false := by simpa using her0
      rw [e0]
      ((conv => whnf); (repeat' (first | (refine Br.tt (by first | assumption | with_reducible rfl | with_reducible exact Bool.not_false) ?_; conv => whnf) | (refine Br.ff (by first | assumption | with_reducible rfl | with_reducible exact Bool.not_true) ?_; conv => whnf) | (refine Br.tt rfl ?_; conv => whnf) | (refine Br.ff rfl ?_; conv => whnf) | fail)))
      rw [T.measL_stop her0, F.measL_stop her0, e0]
      exact ⟨rfl, rfl⟩
    have e0 : decide (m0.er = 0) = true := by simpa using her0
    have hd40 := hm0f.2 her0
    rw [e0]
    ((conv => whnf); (repeat' (first | (refine Br.tt (by first | assumption | with_reducible rfl | with_reducible exact Bool.not_false) ?_; conv => whnf) | (refine Br.ff (by first | assumption | with_reducible rfl | with_reducible exact Bool.not_true) ?_; conv => whnf) | (refine Br.tt rfl ?_; conv => whnf) | (refine Br.ff rfl ?_; conv => whnf) | fail)))
    refine loop_by2 (fun (i : Nat) (m : M) => i ≤ ts.length ∧ m.fine ∧ m.er = 0 ∧ T.measL ts (d + 1) m0 = T.measL (ts.drop i) (d + 1) m)
      (fun i m => mkT [(0, .clo (some 41) 50000 0), (2, .d (.int .i64 d)), (4, .ptr 4 0), (18, .d (.sl (ts.map T.dv))), (19, .d (.int .i64 (ts.map T.dv).length)), (20, .d (.int .i64 i))])
      (fun i m => mkT [(50000, .box [.d (.int .i64 m.sz), .d (.int .i64 m.dp), .d (.int .i64 m.er)]), (4, .box [.d (.int .i64 op), .d (.str name), .d (.int .i64 md), .d (.sl (ts.map T.dv)), .d (.sl (fs.map F.dv))])])
      (fun i m => ts.length - i) 0 m0 ⟨by omega, hm0f.1, her0, rfl⟩
      (Weak.of [] rfl rfl ⟨⟨_, rfl, rfl⟩, ⟨_, rfl, rfl⟩, ⟨_, rfl, rfl⟩, ⟨_, rfl, rfl⟩, ⟨_, rfl, rfl⟩, ⟨_, rfl, rfl⟩, trivial⟩ ⟨⟨_, rfl, ⟨rfl, rfl, rfl, trivial⟩⟩, ⟨_, rfl, ⟨rfl, rfl, rfl, rfl, rfl, trivial⟩⟩, trivial⟩) ?_
    intro i m1 ⟨hi, hf1, her, heq⟩
    conv => whnf
    ((repeat' (first | (refine Br.tt (by first | assumption | with_reducible rfl | with_reducible exact Bool.not_false) ?_; conv => whnf) | (refine Br.ff (by first | assumption | with_reducible rfl | with_reducible exact Bool.not_true) ?_; conv => whnf) | fail)); (refine Br.mk (fun hlt => ?_) (fun hlt => ?_) <;> ((conv => whnf); (repeat' (first | (refine Br.tt (by first | assumption | with_reducible rfl | with_reducible exact Bool.not_false) ?_; conv => whnf) | (refine Br.ff (by first | assumption | with_reducible rfl | with_reducible exact Bool.not_true) ?_; conv => whnf) | fail)))))
    · have hlt : i < ts.length := by simpa using hlt
      have hmem : ts[i] ∈ ts := List.getElem_mem hlt
      have hia := walkTerm_ok (W0 := W0) ts[i] (T.Oks_mem hokt _ hmem) m1 (d + 1) hf1 her (by omega) (by omega)
      have hst : T.measL (ts.drop i) (d + 1) m1 = T.measL (ts.drop (i + 1)) (d + 1) (T.meas ts[i] (d + 1) m1) := by
        rw [List.drop_eq_getElem_cons hlt, T.measL, if_pos her]
      have hf2 := T.meas_fine ts[i] (d + 1) m1 hf1
      have hget : (ts.map T.dv)[i]? = some (T.dv ts[i]) := by simp [hlt]
      generalize T.meas ts[i] (d + 1) m1 = m2 at *
      rcases hx : ts[i] with ⟨aop, anum, aname, aargs⟩
      rw [hx, T.dv] at hia hget
      unfold M.ps at hia
      refine Idx.of _ (by omega) hget rfl ?_
      ((conv => whnf); (repeat' (first | (refine Br.tt (by first | assumption | with_reducible rfl | with_reducible exact Bool.not_false) ?_; conv => whnf) | (refine Br.ff (by first | assumption | with_reducible rfl | with_reducible exact Bool.not_true) ?_; conv => whnf) | fail)))
      rw [hd1]
      refine CallsA.then1 hia ?_
      by_cases her2 : m2.er = 0
      · have e2 : decide (m2.er = 0) = true := by simpa using her2
        rw [e2]
        ((conv => whnf); (repeat' (first | (refine Br.tt (by first | assumption | with_reducible rfl | with_reducible exact Bool.not_false) ?_; conv => whnf) | (refine Br.ff (by first | assumption | with_reducible rfl | with_reducible exact Bool.not_true) ?_; conv => whnf) | (refine Br.tt rfl ?_; conv => whnf) | (refine Br.ff rfl ?_; conv => whnf) | fail)))
        refine ⟨i + 1, m2, ⟨⟨by omega, hf2, her2, by rw [heq, hst]⟩, by omega⟩,
          Weak.of [] rfl rfl ⟨⟨_, rfl, rfl⟩, ⟨_, rfl, rfl⟩, ⟨_, rfl, rfl⟩, ⟨_, rfl, rfl⟩, ⟨_, rfl, rfl⟩, ⟨_, rfl, by simp only [Pre]; rw [wrap_i64 (by omega) (by omega)]; rfl⟩, trivial⟩ ⟨⟨_, rfl, ⟨rfl, rfl, rfl, trivial⟩⟩, ⟨_, rfl, ⟨rfl, rfl, rfl, rfl, rfl, trivial⟩⟩, trivial⟩⟩
      · have e2 : decide (m2.er = 0) = false := by simpa using her2
        rw [e2]
        ((conv => whnf); (repeat' (first | (refine Br.tt (by first | assumption | with_reducible rfl | with_reducible exact Bool.not_false) ?_; conv => whnf) | (refine Br.ff (by first | assumption | with_reducible rfl | with_reducible exact Bool.not_true) ?_; conv => whnf) | (refine Br.tt rfl ?_; conv => whnf) | (refine Br.ff rfl ?_; conv => whnf) | fail)))
        rw [heq, hst, T.measL_stop her2, F.measL_stop her2, e2]
        exact ⟨rfl, rfl⟩
    · have hie : i = ts.length := by simp at hlt; omega
      rw [hie, List.drop_length, T.measL] at heq
      rw [heq]
      refine loop_by2 (fun (i : Nat) (m : M) => i ≤ fs.length ∧ m.fine ∧ m.er = 0 ∧ F.measL fs (d + 1) m1 = F.measL (fs.drop i) (d + 1) m)
        (fun i m => mkT [(0, .clo (some 41) 50000 0), (2, .d (.int .i64 d)), (32, .d (.sl (fs.map F.dv))), (33, .d (.int .i64 (fs.map F.dv).length)), (34, .d (.int .i64 i))])
        (fun i m => mkT [(50000, .box [.d (.int .i64 m.sz), .d (.int .i64 m.dp), .d (.int .i64 m.er)])])
        (fun i m => fs.length - i) 0 m1 ⟨by omega, hf1, her, rfl⟩
        (Weak.of [] rfl rfl ⟨⟨_, rfl, rfl⟩, ⟨_, rfl, rfl⟩, ⟨_, rfl, rfl⟩, ⟨_, rfl, rfl⟩, ⟨_, rfl, rfl⟩, trivial⟩ ⟨⟨_, rfl, ⟨rfl, rfl, rfl, trivial⟩⟩, trivial⟩) ?_
      intro j m3 ⟨hj, hf3, her3, heq3⟩
      conv => whnf
      ((repeat' (first | (refine Br.tt (by first | assumption | with_reducible rfl | with_reducible exact Bool.not_false) ?_; conv => whnf) | (refine Br.ff (by first | assumption | with_reducible rfl | with_reducible exact Bool.not_true) ?_; conv => whnf) | fail)); (refine Br.mk (fun hlt => ?_) (fun hlt => ?_) <;> ((conv => whnf); (repeat' (first | (refine Br.tt (by first | assumption | with_reducible rfl | with_reducible exact Bool.not_false) ?_; conv => whnf) | (refine Br.ff (by first | assumption | with_reducible rfl | with_reducible exact Bool.not_true) ?_; conv => whnf) | fail)))))
      · have hlt : j < fs.length := by simpa using hlt
        have hmem : fs[j] ∈ fs := List.getElem_mem hlt
        have hia := ih fs[j] hmem (F.Oks_mem hokf _ hmem) m3 (d + 1) hf3 her3 (by omega) (by omega)
        have hst : F.measL (fs.drop j) (d + 1) m3 = F.measL (fs.drop (j + 1)) (d + 1) (F.meas fs[j] (d + 1) m3) := by
          rw [List.drop_eq_getElem_cons hlt, F.measL, if_pos her3]
        have hf2 := F.meas_fine fs[j] (d + 1) m3 hf3
        have hget : (fs.map F.dv)[j]? = some (F.dv fs[j]) := by simp [hlt]
        generalize F.meas fs[j] (d + 1) m3 = m2 at *
        rcases hx : fs[j] with ⟨aop, aname, amd, ats, afs⟩
        rw [hx, F.dv] at hia hget
        unfold M.ps at hia
        refine Idx.of _ (by omega) hget rfl ?_
        ((conv => whnf); (repeat' (first | (refine Br.tt (by first | assumption | with_reducible rfl | with_reducible exact Bool.not_false) ?_; conv => whnf) | (refine Br.ff (by first | assumption | with_reducible rfl | with_reducible exact Bool.not_true) ?_; conv => whnf) | fail)))
        rw [hd1]
        refine CallsA.then1 hia ?_
        by_cases her2 : m2.er = 0
        · have e2 : decide (m2.er = 0) = true := by simpa using her2
          rw [e2]
          ((conv => whnf); (repeat' (first | (refine Br.tt (by first | assumption | with_reducible rfl | with_reducible exact Bool.not_false) ?_; conv => whnf) | (refine Br.ff (by first | assumption | with_reducible rfl | with_reducible exact Bool.not_true) ?_; conv => whnf) | (refine Br.tt rfl ?_; conv => whnf) | (refine Br.ff rfl ?_; conv => whnf) | fail)))
          refine ⟨j + 1, m2, ⟨⟨by omega, hf2, her2, by rw [heq3, hst]⟩, by omega⟩,
            Weak.of [] rfl rfl ⟨⟨_, rfl, rfl⟩, ⟨_, rfl, rfl⟩, ⟨_, rfl, rfl⟩, ⟨_, rfl, rfl⟩, ⟨_, rfl, by simp only [Pre]; rw [wrap_i64 (by omega) (by omega)]; rfl⟩, trivial⟩ ⟨⟨_, rfl, ⟨rfl, rfl, rfl, trivial⟩⟩, trivial⟩⟩
        · have e2 : decide (m2.er = 0) = false := by simpa using her2
          rw [e2]
          ((conv => whnf); (repeat' (first | (refine Br.tt (by first | assumption | with_reducible rfl | with_reducible exact Bool.not_false) ?_; conv => whnf) | (refine Br.ff (by first | assumption | with_reducible rfl | with_reducible exact Bool.not_true) ?_; conv => whnf) | (refine Br.tt rfl ?_; conv => whnf) | (refine Br.ff rfl ?_; conv => whnf) | fail)))
          rw [heq3, hst, F.measL_stop her2, e2]
          exact ⟨rfl, rfl⟩
      · have hie : j = fs.length := by simp at hlt; omega
        rw [hie, List.drop_length, F.measL] at heq3
        rw [heq3, show decide (m3.er = 0) = true by simpa using her3]
        exact ⟨rfl, rfl⟩
end Go.Proofs.L08

namespace Go.Proofs.L08
open Go Aw Go.Proofs
variable {W0 : World}
theorem met_calls (q : Option Addr) (w : World) : Calls Tryd.prog 29 #[.pointer q] w fun e w' =>
    e = .returned (.func (.func 41) #[] #[.pointer (some ⟨w.heap.size, 0, none⟩)]) ∧ w' = w.alloc (.cells #[.pointer q] 86) := by
  go_enter Tryd.func29, Tryd.ntmps29
  go_wp
  try simp only [Instr.makeFunc, Sem.run_pure, Result.andThen_ok]
  go_wp
  go_ret
  exact ⟨rfl, rfl⟩
theorem met_ok (m : M) : CallsA Tryd.prog W0 29 [m.ps] [.ptr 0 0] fun rs os => rs = [.clo (some 41) 0] ∧ os = [m.ps] := by
  refine ⟨⟨Tryd.f29, Tryd.func29, rfl, rfl⟩, fun S w ow bs us hbase hpass hows hal hargs => ?_⟩
  obtain ⟨b0, rfl⟩ : ∃ b0, bs = [b0] := by
    have := hpass.1
    match bs, this with
    | [b], _ => exact ⟨b, rfl⟩
  obtain ⟨u, rfl⟩ : ∃ u, us = [u] := by
    match us, hal with
    | [u], _ => exact ⟨u, rfl⟩
  have hr := hargs 0 _ u rfl rfl
  cases hr with
  | ptr _ _ b hb =>
  simp at hb; subst hb
  refine (met_calls _ w).mono ?_
  rintro e w' ⟨rfl, rfl⟩
  have hold : ∀ b o, S b o → (w.alloc (.cells #[.pointer (some ⟨b0, 0, none⟩)] 86)).cell? ⟨b, o, none⟩ = w.cell? ⟨b, o, none⟩ :=
    fun b i h => cell?_alloc_old w _ (hbase.old b i h) i
  obtain ⟨h1, h2, vs, T, h3, h4, h5, h6⟩ := hpass.2 0 _ b0 rfl rfl
  have hb0 : b0 < w.heap.size := (hows b0 _ h1).2
  refine ⟨[_], [.clo (some 41) 0], [m.ps], fun b o => S b o ∨ (b = w.heap.size ∧ o = 0), ow, rfl, ⟨rfl, rfl⟩,
    ⟨hbase.below.alloc hbase.below.size _, fun b o h => .inl (hbase.all b o h), fun b o h => ?_⟩, ⟨rfl, fun i ps b hi hb => ?_⟩, ⟨rfl, fun j p v hp hv => ?_⟩,
    ⟨by rw [heap_alloc_size]; omega, fun b o h => .inl h, hold, fun b hb _ => ⟨Aw.heap_alloc_old w _ hb, fun o h => ?_⟩⟩, fun b id h => ⟨.inl (by rw [h]; simp), by rw [heap_alloc_size]; have := (hows b id h).2; omega⟩⟩
  · rw [heap_alloc_size]
    rcases h with h | ⟨rfl, -⟩
    · have := hbase.old b o h; omega
    · omega
  · cases i with
    | succ i => simp at hi
    | zero =>
      simp at hi hb; subst hi; subst hb
      refine ⟨h1, fun o h => ?_, vs, T, (Aw.heap_alloc_old w _ hb0).trans h3, h4, h5, fun j p v hp hv => ?_⟩
      · rcases h with h | ⟨h, -⟩
        · exact h2 o h
        · omega
      · have := h6 j p v hp hv
        have key : ∀ x, p = .d x → PRel (fun b o => S b o ∨ (b = w.heap.size ∧ o = 0)) (w.alloc (.cells #[.pointer (some ⟨b0, 0, none⟩)] 86)) (fun _ => False) (fun b => ow b = some (0, j + 1)) p v := by
          rintro x rfl
          cases this with
          | d _ _ hd => exact .d _ _ (hd.mono (fun _ _ h => .inl h) hold)
        simp only [M.ps] at hp
        match j, hp with
        | 0, hp => simp at hp; exact key _ hp.symm
        | 1, hp => simp at hp; exact key _ hp.symm
        | 2, hp => simp at hp; exact key _ hp.symm
        | j + 3, hp => simp at hp
  · cases j with
    | succ j => simp at hp
    | zero =>
      simp at hp hv; subst hp; subst hv
      refine .clo _ 0 w.heap.size 0 b0 _ rfl (.inr ⟨rfl, rfl⟩) ?_ rfl
      rw [cell?_of_cells (heap_alloc_self w _)]; rfl
  · rcases h with h | ⟨h, -⟩
    · exact h
    · omega
set_option linter.unusedSimpArgs false in
set_option maxRecDepth 100000 in
set_option maxHeartbeats 4000000 in
theorem measured_ok (f : F) (hf : f.Ok) : CallsA Tryd.prog W0 18 [] [.d f.dv] fun rs os => rs = [.d (.agg [.int .i64 (f.meas 1 zeroM).sz, .int .i64 (f.meas 1 zeroM).dp, .int .i64 (f.meas 1 zeroM).er])] ∧ os = [] := by
  have h := walkForm_ok (W0 := W0) f hf zeroM 1 zeroM_fine rfl (by omega) (by omega)
  generalize f.meas 1 zeroM = m1 at *
  have h2 := met_ok (W0 := W0) zeroM
  rcases f with ⟨op, name, md, ts, fs⟩
  rw [F.dv] at *
  unfold M.ps zeroM at h h2
  refine calls_of_awpC tok [.cell 2 57] Tryd.func18 rfl rfl rfl rfl rfl ?_
  ((conv => whnf); (repeat' (first | (refine Br.tt (by first | assumption | with_reducible rfl | with_reducible exact Bool.not_false) ?_; conv => whnf) | (refine Br.ff (by first | assumption | with_reducible rfl | with_reducible exact Bool.not_true) ?_; conv => whnf) | fail)))
  refine ⟨by kernel_rfl, ?_⟩
  ((conv => whnf); (repeat' (first | (refine Br.tt (by first | assumption | with_reducible rfl | with_reducible exact Bool.not_false) ?_; conv => whnf) | (refine Br.ff (by first | assumption | with_reducible rfl | with_reducible exact Bool.not_true) ?_; conv => whnf) | fail)))
  refine CallD.of1 h2 ?_
  ((conv => whnf); (repeat' (first | (refine Br.tt (by first | assumption | with_reducible rfl | with_reducible exact Bool.not_false) ?_; conv => whnf) | (refine Br.ff (by first | assumption | with_reducible rfl | with_reducible exact Bool.not_true) ?_; conv => whnf) | fail)))
  refine CallD.of1 h ?_
  ((conv => whnf); (repeat' (first | (refine Br.tt (by first | assumption | with_reducible rfl | with_reducible exact Bool.not_false) ?_; conv => whnf) | (refine Br.ff (by first | assumption | with_reducible rfl | with_reducible exact Bool.not_true) ?_; conv => whnf) | fail)))
  exact ⟨rfl, rfl⟩
set_option linter.unusedSimpArgs false in
set_option maxRecDepth 100000 in
set_option maxHeartbeats 4000000 in
theorem check_ok (f : F) (hf : f.Ok) : CallsA Tryd.prog W0 10 [] [.d f.dv] fun rs os => rs = [.d (.int .i64 (chk f))] ∧ os = [] := by
  have h := measured_ok (W0 := W0) f hf
  unfold chk
  generalize f.meas 1 zeroM = m1 at *
  rcases f with ⟨op, name, md, ts, fs⟩
  rw [F.dv] at *
  refine calls_of_awpC tok [.tmp 2] Tryd.func10 rfl rfl rfl rfl rfl ?_
  ((conv => whnf); (repeat' (first | (refine Br.tt (by first | assumption | with_reducible rfl | with_reducible exact Bool.not_false) ?_; conv => whnf) | (refine Br.ff (by first | assumption | with_reducible rfl | with_reducible exact Bool.not_true) ?_; conv => whnf) | fail)))
  refine CallsA.then h ?_
  ((conv => whnf); (repeat' (first | (refine Br.tt (by first | assumption | with_reducible rfl | with_reducible exact Bool.not_false) ?_; conv => whnf) | (refine Br.ff (by first | assumption | with_reducible rfl | with_reducible exact Bool.not_true) ?_; conv => whnf) | fail)))
  exact ⟨rfl, rfl⟩
end Go.Proofs.L08

namespace Go.Proofs.L08
open Go Aw Go.Proofs
variable {W0 : World}
set_option linter.unusedSimpArgs false in
set_option maxRecDepth 100000 in
set_option maxHeartbeats 4000000 in
theorem sameTerm_ok (t : T) : ∀ (_ : t.Ok), CallsA Tryd.prog W0 17 [] [.d t.dv, .d t.dv] fun rs os => rs = [.d (.bool true)] ∧ os = [] := by
  induction t using T.ind with
  | h op num name args ih =>
    intro ht
    rw [T.dv, T.dvs_eq]
    rw [T.Ok] at ht
    obtain ⟨hn, ha, hok⟩ := ht
    refine calls_of_awpC tok [.tmp 4] Tryd.func17 rfl rfl rfl rfl rfl ?_
    have f1 : (op != op) = false := by simp
    have f2 : (num != num) = false := by simp
    have f3 : (name != name) = false := by simp
    have f4 : (((args.map T.dv).length : Int) != ((args.map T.dv).length : Int)) = false := by simp
    ((conv => whnf); (repeat' (first | (refine Br.tt (by first | assumption | with_reducible rfl | with_reducible exact Bool.not_false) ?_; conv => whnf) | (refine Br.ff (by first | assumption | with_reducible rfl | with_reducible exact Bool.not_true) ?_; conv => whnf) | fail)))
    refine loop_by1 (fun (i : Nat) => i ≤ args.length)
      (fun i => mkT [(2, .ptr 2 0), (3, .ptr 3 0), (5, .d (.int .i64 i))])
      (fun i => mkT [(2, .box [.d (.int .i64 op), .d (.int .i64 num), .d (.str name), .d (.sl (args.map T.dv))]), (3, .box [.d (.int .i64 op), .d (.int .i64 num), .d (.str name), .d (.sl (args.map T.dv))])])
      (fun i => args.length - i) 0 (by omega)
      (Weak.of [] rfl rfl ⟨⟨_, rfl, rfl⟩, ⟨_, rfl, rfl⟩, ⟨_, rfl, rfl⟩, trivial⟩ ⟨⟨_, rfl, ⟨rfl, rfl, rfl, rfl, trivial⟩⟩, ⟨_, rfl, ⟨rfl, rfl, rfl, rfl, trivial⟩⟩, trivial⟩) ?_
    intro i hi
    conv => whnf
    ((repeat' (first | (refine Br.tt (by first | assumption | with_reducible rfl | with_reducible exact Bool.not_false) ?_; conv => whnf) | (refine Br.ff (by first | assumption | with_reducible rfl | with_reducible exact Bool.not_true) ?_; conv => whnf) | fail)); (refine Br.mk (fun hlt => ?_) (fun hlt => ?_) <;> ((conv => whnf); (repeat' (first | (refine Br.tt (by first | assumption | with_reducible rfl | with_reducible exact Bool.not_false) ?_; conv => whnf) | (refine Br.ff (by first | assumption | with_reducible rfl | with_reducible exact Bool.not_true) ?_; conv => whnf) | fail)))))
    · have hlt : i < args.length := by simpa using hlt
      have hmem : args[i] ∈ args := List.getElem_mem hlt
      have hia := ih args[i] hmem (T.Oks_mem hok _ hmem)
      have hget : (args.map T.dv)[i]? = some (T.dv args[i]) := by simp [hlt]
      rcases hx : args[i] with ⟨aop, anum, aname, aargs⟩
      rw [hx, T.dv] at hia hget
      refine ⟨by kernel_rfl, ?_⟩
      ((conv => whnf); (repeat' (first | (refine Br.tt (by first | assumption | with_reducible rfl | with_reducible exact Bool.not_false) ?_; conv => whnf) | (refine Br.ff (by first | assumption | with_reducible rfl | with_reducible exact Bool.not_true) ?_; conv => whnf) | fail)))
      refine Idx.of _ (by omega) hget rfl ?_
      ((conv => whnf); (repeat' (first | (refine Br.tt (by first | assumption | with_reducible rfl | with_reducible exact Bool.not_false) ?_; conv => whnf) | (refine Br.ff (by first | assumption | with_reducible rfl | with_reducible exact Bool.not_true) ?_; conv => whnf) | fail)))
      refine Idx.of _ (by omega) hget rfl ?_
      ((conv => whnf); (repeat' (first | (refine Br.tt (by first | assumption | with_reducible rfl | with_reducible exact Bool.not_false) ?_; conv => whnf) | (refine Br.ff (by first | assumption | with_reducible rfl | with_reducible exact Bool.not_true) ?_; conv => whnf) | fail)))
      refine CallD.of hia ?_
      ((conv => whnf); (repeat' (first | (refine Br.tt (by first | assumption | with_reducible rfl | with_reducible exact Bool.not_false) ?_; conv => whnf) | (refine Br.ff (by first | assumption | with_reducible rfl | with_reducible exact Bool.not_true) ?_; conv => whnf) | (refine Br.tt rfl ?_; conv => whnf) | (refine Br.ff rfl ?_; conv => whnf) | fail)))
      refine ⟨i + 1, ⟨by omega, by omega⟩,
        Weak.of [] rfl rfl ⟨⟨_, rfl, rfl⟩, ⟨_, rfl, rfl⟩, ⟨_, rfl, by simp only [Pre]; rw [wrap_i64 (by omega) (by omega)]; rfl⟩, trivial⟩ ⟨⟨_, rfl, ⟨rfl, rfl, rfl, rfl, trivial⟩⟩, ⟨_, rfl, ⟨rfl, rfl, rfl, rfl, trivial⟩⟩, trivial⟩⟩
    · exact ⟨rfl, rfl⟩
set_option linter.unusedSimpArgs false in
set_option maxRecDepth 100000 in
set_option maxHeartbeats 4000000 in
theorem same_ok (t : F) : ∀ (_ : t.Ok), CallsA Tryd.prog W0 9 [] [.d t.dv, .d t.dv] fun rs os => rs = [.d (.bool true)] ∧ os = [] := by
  induction t using F.ind with
  | h op name md ts fs ih =>
    intro ht
    rw [F.dv, T.dvs_eq, F.dvs_eq]
    rw [F.Ok] at ht
    obtain ⟨hn, hat, haf, hokt, hokf⟩ := ht
    refine calls_of_awpC tok [.tmp 4] Tryd.func9 rfl rfl rfl rfl rfl ?_
    have f1 : (op != op) = false := by simp
    have f2 : (md != md) = false := by simp
    have f3 : (name != name) = false := by simp
    have f4 : (((ts.map T.dv).length : Int) != ((ts.map T.dv).length : Int)) = false := by simp
    have f5 : (((fs.map F.dv).length : Int) != ((fs.map F.dv).length : Int)) = false := by simp
    ((conv => whnf); (repeat' (first | (refine Br.tt (by first | assumption | with_reducible rfl | with_reducible exact Bool.not_false) ?_; conv => whnf) | (refine Br.ff (by first | assumption | with_reducible rfl | with_reducible exact Bool.not_true) ?_; conv => whnf) | fail)))
    refine loop_by1 (fun (i : Nat) => i ≤ ts.length)
      (fun i => mkT [(2, .ptr 2 0), (3, .ptr 3 0), (5, .d (.int .i64 i))])
      (fun i => mkT [(2, .box [.d (.int .i64 op), .d (.str name), .d (.int .i64 md), .d (.sl (ts.map T.dv)), .d (.sl (fs.map F.dv))]), (3, .box [.d (.int .i64 op), .d (.str name), .d (.int .i64 md), .d (.sl (ts.map T.dv)), .d (.sl (fs.map F.dv))])])
      (fun i => ts.length - i) 0 (by omega)
      (Weak.of [] rfl rfl ⟨⟨_, rfl, rfl⟩, ⟨_, rfl, rfl⟩, ⟨_, rfl, rfl⟩, trivial⟩ ⟨⟨_, rfl, ⟨rfl, rfl, rfl, rfl, rfl, trivial⟩⟩, ⟨_, rfl, ⟨rfl, rfl, rfl, rfl, rfl, trivial⟩⟩, trivial⟩) ?_
    intro i hi
    conv => whnf
    ((repeat' (first | (refine Br.tt (by first | assumption | with_reducible rfl | with_reducible exact Bool.not_false) ?_; conv => whnf) | (refine Br.ff (by first | assumption | with_reducible rfl | with_reducible exact Bool.not_true) ?_; conv => whnf) | fail)); (refine Br.mk (fun hlt => ?_) (fun hlt => ?_) <;> ((conv => whnf); (repeat' (first | (refine Br.tt (by first | assumption | with_reducible rfl | with_reducible exact Bool.not_false) ?_; conv => whnf) | (refine Br.ff (by first | assumption | with_reducible rfl | with_reducible exact Bool.not_true) ?_; conv => whnf) | fail)))))
    · have hlt : i < ts.length := by simpa using hlt
      have hmem : ts[i] ∈ ts := List.getElem_mem hlt
      have hia := sameTerm_ok (W0 := W0) ts[i] (T.Oks_mem hokt _ hmem)
      have hget : (ts.map T.dv)[i]? = some (T.dv ts[i]) := by simp [hlt]
      rcases hx : ts[i] with ⟨aop, anum, aname, aargs⟩
      rw [hx, T.dv] at hia hget
      refine ⟨by kernel_rfl, ?_⟩
      ((conv => whnf); (repeat' (first | (refine Br.tt (by first | assumption | with_reducible rfl | with_reducible exact Bool.not_false) ?_; conv => whnf) | (refine Br.ff (by first | assumption | with_reducible rfl | with_reducible exact Bool.not_true) ?_; conv => whnf) | fail)))
      refine Idx.of _ (by omega) hget rfl ?_
      ((conv => whnf); (repeat' (first | (refine Br.tt (by first | assumption | with_reducible rfl | with_reducible exact Bool.not_false) ?_; conv => whnf) | (refine Br.ff (by first | assumption | with_reducible rfl | with_reducible exact Bool.not_true) ?_; conv => whnf) | fail)))
      refine Idx.of _ (by omega) hget rfl ?_
      ((conv => whnf); (repeat' (first | (refine Br.tt (by first | assumption | with_reducible rfl | with_reducible exact Bool.not_false) ?_; conv => whnf) | (refine Br.ff (by first | assumption | with_reducible rfl | with_reducible exact Bool.not_true) ?_; conv => whnf) | fail)))
      refine CallD.of hia ?_
      ((conv => whnf); (repeat' (first | (refine Br.tt (by first | assumption | with_reducible rfl | with_reducible exact Bool.not_false) ?_; conv => whnf) | (refine Br.ff (by first | assumption | with_reducible rfl | with_reducible exact Bool.not_true) ?_; conv => whnf) | (refine Br.tt rfl ?_; conv => whnf) | (refine Br.ff rfl ?_; conv => whnf) | fail)))
      refine ⟨i + 1, ⟨by omega, by omega⟩,
        Weak.of [] rfl rfl ⟨⟨_, rfl, rfl⟩, ⟨_, rfl, rfl⟩, ⟨_, rfl, by simp only [Pre]; rw [wrap_i64 (by omega) (by omega)]; rfl⟩, trivial⟩ ⟨⟨_, rfl, ⟨rfl, rfl, rfl, rfl, rfl, trivial⟩⟩, ⟨_, rfl, ⟨rfl, rfl, rfl, rfl, rfl, trivial⟩⟩, trivial⟩⟩
    · refine loop_by1 (fun (i : Nat) => i ≤ fs.length)
        (fun i => mkT [(2, .ptr 2 0), (3, .ptr 3 0), (6, .d (.int .i64 i))])
        (fun i => mkT [(2, .box [.d (.int .i64 op), .d (.str name), .d (.int .i64 md), .d (.sl (ts.map T.dv)), .d (.sl (fs.map F.dv))]), (3, .box [.d (.int .i64 op), .d (.str name), .d (.int .i64 md), .d (.sl (ts.map T.dv)), .d (.sl (fs.map F.dv))])])
        (fun i => fs.length - i) 0 (by omega)
        (Weak.of [] rfl rfl ⟨⟨_, rfl, rfl⟩, ⟨_, rfl, rfl⟩, ⟨_, rfl, rfl⟩, trivial⟩ ⟨⟨_, rfl, ⟨rfl, rfl, rfl, rfl, rfl, trivial⟩⟩, ⟨_, rfl, ⟨rfl, rfl, rfl, rfl, rfl, trivial⟩⟩, trivial⟩) ?_
      intro i hi
      conv => whnf
      ((repeat' (first | (refine Br.tt (by first | assumption | with_reducible rfl | with_reducible exact Bool.not_false) ?_; conv => whnf) | (refine Br.ff (by first | assumption | with_reducible rfl | with_reducible exact Bool.not_true) ?_; conv => whnf) | fail)); (refine Br.mk (fun hlt => ?_) (fun hlt => ?_) <;> ((conv => whnf); (repeat' (first | (refine Br.tt (by first | assumption | with_reducible rfl | with_reducible exact Bool.not_false) ?_; conv => whnf) | (refine Br.ff (by first | assumption | with_reducible rfl | with_reducible exact Bool.not_true) ?_; conv => whnf) | fail)))))
      · have hlt : i < fs.length := by simpa using hlt
        have hmem : fs[i] ∈ fs := List.getElem_mem hlt
        have hia := ih fs[i] hmem (F.Oks_mem hokf _ hmem)
        have hget : (fs.map F.dv)[i]? = some (F.dv fs[i]) := by simp [hlt]
        rcases hx : fs[i] with ⟨aop, aname, amd, ats, afs⟩
        rw [hx, F.dv] at hia hget
        refine ⟨by kernel_rfl, ?_⟩
        ((conv => whnf); (repeat' (first | (refine Br.tt (by first | assumption | with_reducible rfl | with_reducible exact Bool.not_false) ?_; conv => whnf) | (refine Br.ff (by first | assumption | with_reducible rfl | with_reducible exact Bool.not_true) ?_; conv => whnf) | fail)))
        refine Idx.of _ (by omega) hget rfl ?_
        ((conv => whnf); (repeat' (first | (refine Br.tt (by first | assumption | with_reducible rfl | with_reducible exact Bool.not_false) ?_; conv => whnf) | (refine Br.ff (by first | assumption | with_reducible rfl | with_reducible exact Bool.not_true) ?_; conv => whnf) | fail)))
        refine Idx.of _ (by omega) hget rfl ?_
        ((conv => whnf); (repeat' (first | (refine Br.tt (by first | assumption | with_reducible rfl | with_reducible exact Bool.not_false) ?_; conv => whnf) | (refine Br.ff (by first | assumption | with_reducible rfl | with_reducible exact Bool.not_true) ?_; conv => whnf) | fail)))
        refine CallD.of hia ?_
        ((conv => whnf); (repeat' (first | (refine Br.tt (by first | assumption | with_reducible rfl | with_reducible exact Bool.not_false) ?_; conv => whnf) | (refine Br.ff (by first | assumption | with_reducible rfl | with_reducible exact Bool.not_true) ?_; conv => whnf) | (refine Br.tt rfl ?_; conv => whnf) | (refine Br.ff rfl ?_; conv => whnf) | fail)))
        refine ⟨i + 1, ⟨by omega, by omega⟩,
          Weak.of [] rfl rfl ⟨⟨_, rfl, rfl⟩, ⟨_, rfl, rfl⟩, ⟨_, rfl, by simp only [Pre]; rw [wrap_i64 (by omega) (by omega)]; rfl⟩, trivial⟩ ⟨⟨_, rfl, ⟨rfl, rfl, rfl, rfl, rfl, trivial⟩⟩, ⟨_, rfl, ⟨rfl, rfl, rfl, rfl, rfl, trivial⟩⟩, trivial⟩⟩
      · exact ⟨rfl, rfl⟩
end Go.Proofs.L08

namespace Go.Proofs
open Go.Shelf
end Go.Proofs
namespace Go.Proofs.L08
open Go Aw Go.Proofs Go.Shelf Go.RowKit
variable {W0 : World}
theorem known_of {P : Program} {f : Nat} {fn : Func} (h : P.funcs[f]? = some fn) (h1 : fn.body.isNone = false) (h2 : (fn.name == "runtime.NumGoroutine") = false) : ∃ fn, P.funcs[f]? = some fn ∧ fn.body.isNone = false ∧ (fn.name == "runtime.NumGoroutine") = false := ⟨fn, h, h1, h2⟩
/-- What the start-up code has laid, of the variables that are read. -/
structure LibW (W0 : World) : Prop where
  ten : Lib.TabIs Tryd.prog W0 "internal/strconv.uint64pow10" .u64 Lib.pow10Tab
  spc : Lib.TabIs Tryd.prog W0 "strings.asciiSpace" .u8 Lib.asciiSpaceTab
  utf : Lib.Utf8Tabs 2 3 W0
theorem cell_stays {W w : World} {b o : Nat} {v : Value} (h : W.cell? ⟨b, o, none⟩ = some v) (hb : Below W.heap.size W w) : w.cell? ⟨b, o, none⟩ = some v := by
  have hlt := World.block_lt_of_cell? _ _ h
  have : w.heap[b]? = W.heap[b]? := hb.block b hlt
  unfold World.cell? at h ⊢
  simp only [this] at h ⊢
  exact h
theorem tab_stays {P : Program} {W w : World} {nm : String} {k : IntKind} {l : List Int} (h3 : Lib.TabIs P W nm k l) (hb : Below W.heap.size W w) : Lib.TabIs P w nm k l := by
  unfold Lib.TabIs World.var? at h3 ⊢
  have hg : ∃ g, P.globalNamed nm = some g := by
    cases h : P.globalNamed nm with
    | none => rw [h] at h3; cases h3
    | some g => exact ⟨g, rfl⟩
  obtain ⟨g, hg⟩ := hg
  rw [hg] at h3 ⊢
  simp only [Option.bind_some] at h3 ⊢
  have hlt : g < W.heap.size := by
    rcases Nat.lt_or_ge g W.heap.size with q | q
    · exact q
    · rw [Array.getElem?_eq_none q] at h3; cases h3
  rw [hb.block g hlt]; exact h3
theorem LibW.below {W w : World} (h : LibW W) (hb : Below W.heap.size W w) : LibW w :=
  ⟨tab_stays h.ten hb, tab_stays h.spc hb, fun c hc => cell_stays (h.utf.1 c hc) hb, fun i hi => ⟨cell_stays (h.utf.2 i hi).1 hb, cell_stays (h.utf.2 i hi).2 hb⟩⟩
theorem below_grow' (w : World) (k : Nat) (os : Array Obj) : Below w.heap.size w (Sort.grow (w.drewN k) os) :=
  ⟨rfl, rfl, rfl, by simp [Sort.grow], fun i hi => by
    show ((w.drewN k).heap ++ os)[i]? = _
    rw [Array.getElem?_append_left (by show i < w.heap.size; omega)]
    rfl⟩
theorem format_ok (hW : LibW W0) (v : Int) (v1 : -9223372036854775808 ≤ v) (v2 : v ≤ 9223372036854775807) : CallsA Tryd.prog W0 21 [] [.d (.int .i64 v), .d (.int .i64 10)] fun rs os => rs = [.d (.str (Lib.itoa v))] ∧ os = [] := by
  refine CallsA.of_below (xs := [.int .i64 v, .int .i64 10]) (ys := [.str (Lib.itoa v)]) («as» := [.int .i64 v, .int .i64 10]) (vs := [.string ⟨(Lib.itoa v).toArray⟩]) (known_of Tryd.func21 rfl rfl) rfl ?_ rfl ?_
    (fun w hb => (Any.strconv_FormatInt_10 Tryd.lays173 v v1 v2 w (hW.below hb).ten).mono fun e w' ⟨h1, k, os, h2⟩ => ⟨h1, h2 ▸ below_grow' w k os⟩)
  · intro i x a hx ha
    match i with
    | 0 => cases hx; cases ha; exact .int _ _
    | 1 => cases hx; cases ha; exact .int _ _
  · intro i x a hx ha
    match i with
    | 0 => cases hx; cases ha; exact .str _
theorem count_ok (s : List UInt8) (hs : s.length < 1000000000000) : CallsA Tryd.prog W0 23 [] [.d (.str s)] fun rs os => rs = [.d (.int .i64 (Lib.runeCount ⟨s.toArray⟩))] ∧ os = [] := by
  have hsz : (⟨s.toArray⟩ : ByteArray).size = s.length := by simp [ByteArray.size]
  refine CallsA.of_below (xs := [.str s]) (ys := [.int .i64 (Lib.runeCount ⟨s.toArray⟩)]) («as» := [.string ⟨s.toArray⟩]) (vs := [.int .i64 (Lib.runeCount ⟨s.toArray⟩)]) (known_of Tryd.func23 rfl rfl) rfl ?_ rfl ?_
    (fun w hb => (Any.utf8_RuneCountInString Tryd.lays195 ⟨s.toArray⟩ w (by rw [hsz]; omega)).mono fun e w' ⟨h1, pos, h2⟩ => ⟨h1, by
      subst h2
      exact ⟨rfl, rfl, rfl, by show w.heap.size ≤ (w.heap.push _).size; simp, fun b hb => by show (w.heap.push _)[b]? = _; rw [Array.getElem?_push_lt hb, Array.getElem?_eq_getElem hb]⟩⟩)
  · intro i x a hx ha
    match i with
    | 0 => cases hx; cases ha; exact .str s
  · intro i x a hx ha
    match i with
    | 0 => cases hx; cases ha; exact .int _ _
theorem decode_ok (hW : LibW W0) (s : List UInt8) : CallsA Tryd.prog W0 49 [] [.d (.str s)] fun rs os => rs = [.d (.int .i32 (Lib.decodeGo ⟨s.toArray⟩).1), .d (.int .i64 (Lib.decodeGo ⟨s.toArray⟩).2)] ∧ os = [] := by
  refine CallsA.of_below (xs := [.str s]) (ys := [.int .i32 (Lib.decodeGo ⟨s.toArray⟩).1, .int .i64 (Lib.decodeGo ⟨s.toArray⟩).2]) («as» := [.string ⟨s.toArray⟩]) (vs := [.int .i32 (Lib.decodeGo ⟨s.toArray⟩).1, .int .i64 (Lib.decodeGo ⟨s.toArray⟩).2]) (known_of Tryd.func49 rfl rfl) rfl ?_ rfl ?_
    (fun w hb => Any.utf8_DecodeRuneInString Tryd.lays197 ⟨s.toArray⟩ w (hW.below hb).utf)
  · intro i x a hx ha
    match i with
    | 0 => cases hx; cases ha; exact .str s
  · intro i x a hx ha
    match i with
    | 0 => cases hx; cases ha; exact .int _ _
    | 1 => cases hx; cases ha; exact .int _ _
theorem prefix_ok (s p : List UInt8) : CallsA Tryd.prog W0 57 [] [.d (.str s), .d (.str p)] fun rs os => rs = [.d (.bool (Lib.hasPrefix s p))] ∧ os = [] := by
  refine CallsA.of_below (xs := [.str s, .str p]) (ys := [.bool (Lib.hasPrefix s p)]) («as» := [.string ⟨s.toArray⟩, .string ⟨p.toArray⟩]) (vs := [.bool (Lib.hasPrefix s p)]) (known_of Tryd.func57 rfl rfl) rfl ?_ rfl ?_
    (fun w hb => (Any.strings_HasPrefix Tryd.lays99 ⟨s.toArray⟩ ⟨p.toArray⟩ w).mono fun e w' ⟨h1, h2⟩ => ⟨h1, h2 ▸ Below.refl _ _⟩)
  · intro i x a hx ha
    match i with
    | 0 => cases hx; cases ha; exact .str s
    | 1 => cases hx; cases ha; exact .str p
  · intro i x a hx ha
    match i with
    | 0 => cases hx; cases ha; exact .bool _
/-- The signs, the longest first. -/
def signsText : List UInt8 := "<-> <= >= != -> ( ) [ ] , . + - * = < > ~".toUTF8.data.toList
theorem fields_ok (hW : LibW W0) (s : List UInt8) (hs : s.length < 1000000) (ha : ∀ b ∈ s, b.toNat < 128) : CallsA Tryd.prog W0 56 [] [.d (.str s)] fun rs os => rs = [.d (.sl ((Lib.fields s).map .str))] ∧ os = [] := by
  have hsz : (⟨s.toArray⟩ : ByteArray).size = s.length := by simp [ByteArray.size]
  refine ⟨known_of Tryd.func56 rfl rfl, fun S w ow bs us hbase hpass hows hal hargs => ?_⟩
  have hbs : bs = [] := List.eq_nil_of_length_eq_zero hpass.1.symm
  subst hbs
  obtain ⟨u, rfl⟩ : ∃ u, us = [u] := by
    match us, hal with
    | [u], _ => exact ⟨u, rfl⟩
  have hr := hargs 0 _ u rfl rfl
  cases hr with
  | d _ _ hd =>
  cases hd
  refine (Any.strings_Fields_laid Tryd.lays157 ⟨s.toArray⟩ w (by rw [hsz]; omega) (fun j b hb => ha b (List.mem_of_getElem? (by simpa using hb))) (hW.below hbase.below).spc).mono ?_
  rintro e w' ⟨rfl, rfl⟩
  have hdt : (⟨s.toArray⟩ : ByteArray).data.toList = s := rfl
  rw [hdt]
  generalize Lib.fields s = fs
  have hold : ∀ (cs : Array Value) T b o, S b o → (w.alloc (.cells cs T)).cell? ⟨b, o, none⟩ = w.cell? ⟨b, o, none⟩ :=
    fun cs T b i h => cell?_alloc_old w _ (hbase.old b i h) i
  have hfl : flat (fs.map DV.str) = fs.map DV.str := by
    induction fs with
    | nil => rfl
    | cons x r ih => rw [List.map_cons, flat_cons, ih]; rfl
  refine ⟨[_], [.d (.sl (fs.map .str))], [], fun b o => S b o ∨ (b = w.heap.size ∧ o < fs.length), fun _ => none, rfl, ⟨rfl, rfl⟩,
    ⟨hbase.below.alloc hbase.below.size _, fun b o h => .inl (hbase.all b o h), fun b o h => ?_⟩, ⟨rfl, fun i ps b hi hb => by simp at hi⟩, ⟨rfl, fun j p v hp hv => ?_⟩,
    ⟨by rw [heap_alloc_size]; omega, fun b o h => .inl h, hold _ _, fun b hb _ => ⟨Aw.heap_alloc_old w _ hb, fun o h => ?_⟩⟩, fun b id h => by cases h⟩
  · rw [heap_alloc_size]
    rcases h with h | ⟨rfl, -⟩
    · have := hbase.old b o h; omega
    · omega
  · cases j with
    | succ j => simp at hp
    | zero =>
      simp at hp hv; subst hp; subst hv
      refine .d _ _ ?_
      have := DRel.sl (S := fun b o => S b o ∨ (b = w.heap.size ∧ o < fs.length)) (w := w.alloc (.cells ((fs.map fun l => Value.string ⟨l.toArray⟩).toArray) (Tryd.lays157_ren.t 9))) (fs.map DV.str) w.heap.size 0 fs.length 1 (fun i => .string ⟨(fs.getD i []).toArray⟩)
        (fun x hx => by obtain ⟨y, -, rfl⟩ := List.mem_map.1 hx; rfl) (by simp) (fun i c hc => ?_) (fun i c hc => ?_) (fun i c hc => ?_) (fun c hc => ?_)
      · simpa using this
      · rw [hfl] at hc
        have := (List.getElem?_eq_some_iff.1 hc).1
        exact .inr ⟨rfl, by simp at this; omega⟩
      · rw [hfl] at hc
        have hlt := (List.getElem?_eq_some_iff.1 hc).1
        simp at hlt
        rw [cell?_of_cells (heap_alloc_self w _)]
        simp [hlt]
      · rw [hfl] at hc
        have hlt := (List.getElem?_eq_some_iff.1 hc).1
        simp at hlt
        simp [hlt] at hc
        subst hc
        simp [hlt]
        exact .str _
      · rw [hfl] at hc
        obtain ⟨y, -, rfl⟩ := List.mem_map.1 hc; rfl
  · rcases h with h | ⟨h, -⟩
    · exact h
    · omega
end Go.Proofs.L08
