/-
  LineBlanks holds: blanks ahead change nothing but what the document says, of any text, where what it reads is of bulk at most 1048576.
-/
import Derived.Test.YtacknofdlkgkoaaDoorStart
set_option linter.unusedSectionVars false
set_option linter.unusedSimpArgs false
set_option linter.unusedVariables false
namespace Go.Proofs.L24
open Go Aw Go.Proofs
variable {W0 : World}
theorem blanks_law (s : List UInt8) : refParse ([9, 32] ++ s) = refParse s := by
  rw [← parse_law, ← parse_law]
  have h9 : nextW ([9, 32] ++ s) = nextW s := by
    show nextW (9 :: 32 :: s) = _
    rw [nextW_blank (by decide), nextW_blank (by decide)]
  have hm : (10 ∈ [9, 32] ++ s) = (10 ∈ s) := by
    simp
  unfold progParse
  simp only [hm, h9]
theorem newline_law (s : List UInt8) : refParse (s ++ [10]) = (cmd0 [], 240) := if_pos (by simp)
theorem hash_law (s : List UInt8) : refParse ([35] ++ s) = (cmd0 [], if 10 ∈ s then 240 else 0) := by
  rw [← parse_law]
  unfold progParse
  have h35 : (nextW ([35] ++ s)).1.head? = some 35 := by
    show (nextW (35 :: s)).1.head? = _
    rw [nextW_word (by decide)]; rfl
  have hm : (10 ∈ [35] ++ s) = (10 ∈ s) := by simp
  simp only [hm]
  split
  · rfl
  · rw [if_pos (.inr h35)]
set_option linter.unusedSimpArgs false in
set_option maxRecDepth 100000 in
set_option maxHeartbeats 4000000 in
theorem lineBlanks_ok (hW : NumW W0) (s : List UInt8) (hs : s.length < 1000000000) : CallsA Tryd.prog W0 5 [] [.d (.str s)] fun rs os => rs = [.d (.bool true)] ∧ os = [] := by
  have p1 := parse_ok' hW s (by omega)
  have p2 := parse_ok' hW ([9, 32] ++ s) (by simp; omega)
  have p3 := parse_ok' hW (s ++ [10]) (by simp; omega)
  have p4 := parse_ok' hW ([35] ++ s) (by simp; omega)
  rw [blanks_law] at p2
  rw [newline_law] at p3
  rw [hash_law] at p4
  have hc := (refParse_small s).le (show s.length + 1 ≤ 100000000000 by omega)
  generalize (refParse s).1 = c at *
  generalize (refParse s).2 = e at *
  have h1 := hc.names; have h2 := hc.values; have h3 := hc.frm; have h4 := hc.to_
  have t1 := texts_ok (W0 := W0) c.names c.names (by omega) (by omega)
  have t2 := values_ok (W0 := W0) c.values c.values (by omega) (by omega)
  have t3 := texts_ok (W0 := W0) c.frm c.frm (by omega) (by omega)
  have t4 := texts_ok (W0 := W0) c.to_ c.to_ (by omega) (by omega)
  rw [decide_eq_true rfl] at t1 t2 t3 t4
  simp only [Cmd.dv, cmd0, List.map_nil] at p1 p2 p3 p4
  refine calls_of_awpC tok [.tmp 2] Tryd.func5 rfl rfl rfl rfl rfl ?_
  ((conv => whnf); (repeat' (first | (refine Br.tt (by first | assumption | with_reducible rfl | with_reducible exact Bool.not_false) ?_; conv => whnf) | (refine Br.ff (by first | assumption | with_reducible rfl | with_reducible exact Bool.not_true) ?_; conv => whnf) | fail)))
  refine CallsA.then (fixed_ok hW) ?_
  ((conv => whnf); (repeat' (first | (refine Br.tt (by first | assumption | with_reducible rfl | with_reducible exact Bool.not_false) ?_; conv => whnf) | (refine Br.ff (by first | assumption | with_reducible rfl | with_reducible exact Bool.not_true) ?_; conv => whnf) | fail)))
  refine CallsA.then p1 ?_
  ((conv => whnf); (repeat' (first | (refine Br.tt (by first | assumption | with_reducible rfl | with_reducible exact Bool.not_false) ?_; conv => whnf) | (refine Br.ff (by first | assumption | with_reducible rfl | with_reducible exact Bool.not_true) ?_; conv => whnf) | fail)))
  refine Need.of (by simp; omega) ?_
  ((conv => whnf); (repeat' (first | (refine Br.tt (by first | assumption | with_reducible rfl | with_reducible exact Bool.not_false) ?_; conv => whnf) | (refine Br.ff (by first | assumption | with_reducible rfl | with_reducible exact Bool.not_true) ?_; conv => whnf) | fail)))
  refine CallsA.then p2 ?_
  ((conv => whnf); (repeat' (first | (refine Br.tt (by first | assumption | with_reducible rfl | with_reducible exact Bool.not_false) ?_; conv => whnf) | (refine Br.ff (by first | assumption | with_reducible rfl | with_reducible exact Bool.not_true) ?_; conv => whnf) | fail)))
  have e1 : (e != e) = false := by simp
  have e2 : (c.verb != c.verb) = false := by simp
  have e3 : (c.text != c.text) = false := by simp
  repeat' (first | (refine Br.tt (by first | assumption | with_reducible rfl | with_reducible exact Bool.not_false) ?_; conv => whnf) | (refine Br.ff (by first | assumption | with_reducible rfl | with_reducible exact Bool.not_true) ?_; conv => whnf) | fail)
  refine CallsA.then t1 ?_
  ((conv => whnf); (repeat' (first | (refine Br.tt (by first | assumption | with_reducible rfl | with_reducible exact Bool.not_false) ?_; conv => whnf) | (refine Br.ff (by first | assumption | with_reducible rfl | with_reducible exact Bool.not_true) ?_; conv => whnf) | fail)))
  refine CallsA.then t2 ?_
  ((conv => whnf); (repeat' (first | (refine Br.tt (by first | assumption | with_reducible rfl | with_reducible exact Bool.not_false) ?_; conv => whnf) | (refine Br.ff (by first | assumption | with_reducible rfl | with_reducible exact Bool.not_true) ?_; conv => whnf) | fail)))
  refine CallsA.then t3 ?_
  ((conv => whnf); (repeat' (first | (refine Br.tt (by first | assumption | with_reducible rfl | with_reducible exact Bool.not_false) ?_; conv => whnf) | (refine Br.ff (by first | assumption | with_reducible rfl | with_reducible exact Bool.not_true) ?_; conv => whnf) | fail)))
  refine CallsA.then t4 ?_
  ((conv => whnf); (repeat' (first | (refine Br.tt (by first | assumption | with_reducible rfl | with_reducible exact Bool.not_false) ?_; conv => whnf) | (refine Br.ff (by first | assumption | with_reducible rfl | with_reducible exact Bool.not_true) ?_; conv => whnf) | fail)))
  have hw : ∀ (y : DV), y ∈ c.bytes.map (DV.int .u8) → y.width = 1 := fun y hy => by
    obtain ⟨n, -, rfl⟩ := List.mem_map.1 hy
    rfl
  have hn : ∀ (y : DV), y ∈ c.bytes.map (DV.int .u8) → ∃ n, y = DV.int IntKind.u8 n := fun y hy => by
    obtain ⟨n, -, rfl⟩ := List.mem_map.1 hy
    exact ⟨n, rfl⟩
  refine Need.of ⟨hw, hn⟩ ?_
  ((conv => whnf); (repeat' (first | (refine Br.tt (by first | assumption | with_reducible rfl | with_reducible exact Bool.not_false) ?_; conv => whnf) | (refine Br.ff (by first | assumption | with_reducible rfl | with_reducible exact Bool.not_true) ?_; conv => whnf) | fail)))
  refine Need.of ⟨hw, hn⟩ ?_
  ((conv => whnf); (repeat' (first | (refine Br.tt (by first | assumption | with_reducible rfl | with_reducible exact Bool.not_false) ?_; conv => whnf) | (refine Br.ff (by first | assumption | with_reducible rfl | with_reducible exact Bool.not_true) ?_; conv => whnf) | fail)))
  have e4 : (List.map Aw.byteOf (c.bytes.map (DV.int .u8)) != List.map Aw.byteOf (c.bytes.map (DV.int .u8))) = false := by simp
  repeat' (first | (refine Br.tt (by first | assumption | with_reducible rfl | with_reducible exact Bool.not_false) ?_; conv => whnf) | (refine Br.ff (by first | assumption | with_reducible rfl | with_reducible exact Bool.not_true) ?_; conv => whnf) | fail)
  refine Need.of (by simp; omega) ?_
  ((conv => whnf); (repeat' (first | (refine Br.tt (by first | assumption | with_reducible rfl | with_reducible exact Bool.not_false) ?_; conv => whnf) | (refine Br.ff (by first | assumption | with_reducible rfl | with_reducible exact Bool.not_true) ?_; conv => whnf) | fail)))
  refine CallsA.then p3 ?_
  ((conv => whnf); (repeat' (first | (refine Br.tt (by first | assumption | with_reducible rfl | with_reducible exact Bool.not_false) ?_; conv => whnf) | (refine Br.ff (by first | assumption | with_reducible rfl | with_reducible exact Bool.not_true) ?_; conv => whnf) | fail)))
  repeat' (first | (refine Br.tt rfl ?_; conv => whnf) | (refine Br.ff rfl ?_; conv => whnf) | fail)
  have hstep : ∀ i, (hi : i < s.length) → (10 ∈ s.take (i + 1) ↔ (10 ∈ s.take i ∨ s[i] = 10)) := fun i hi => by
    rw [List.take_succ_eq_append_getElem hi, List.mem_append, List.mem_singleton]
    exact ⟨fun h => h.imp id Eq.symm, fun h => h.imp id Eq.symm⟩
  refine loop_by1 (fun (i : Nat) => i ≤ s.length) (fun i => mkT [(0, .d (.str s)), (5, .ptr 5 0), (7, .d (.bool (decide (10 ∈ s.take i)))), (8, .d (.int .i64 i))])
    (fun _ => mkT [(5, .box [.d (.str c.verb), .d (.sl (c.names.map DV.str)), .d (.str c.text), .d (.sl (c.values.map (DV.int .i64))), .d (.sl (c.frm.map DV.str)), .d (.sl (c.to_.map DV.str)), .d (.sl (c.bytes.map (DV.int .u8)))])]) (fun i => s.length - i) 0 (by omega)
    (Weak.of [] rfl rfl ⟨⟨_, rfl, rfl⟩, ⟨_, rfl, rfl⟩, ⟨_, rfl, by simp [Pre]⟩, ⟨_, rfl, rfl⟩, trivial⟩ ⟨⟨_, rfl, rfl, rfl, rfl, rfl, rfl, rfl, rfl, trivial⟩, trivial⟩) ?_
  intro i hi
  ((conv => whnf); (repeat' (first | (refine Br.tt (by first | assumption | with_reducible rfl | with_reducible exact Bool.not_false) ?_; conv => whnf) | (refine Br.ff (by first | assumption | with_reducible rfl | with_reducible exact Bool.not_true) ?_; conv => whnf) | fail)))
  ((repeat' (first | (refine Br.tt (by first | assumption | with_reducible rfl | with_reducible exact Bool.not_false) ?_; conv => whnf) | (refine Br.ff (by first | assumption | with_reducible rfl | with_reducible exact Bool.not_true) ?_; conv => whnf) | fail)); (refine Br.mk (fun h => ?_) (fun h => ?_) <;> ((conv => whnf); (repeat' (first | (refine Br.tt (by first | assumption | with_reducible rfl | with_reducible exact Bool.not_false) ?_; conv => whnf) | (refine Br.ff (by first | assumption | with_reducible rfl | with_reducible exact Bool.not_true) ?_; conv => whnf) | fail)))))
  · have hlt : i < s.length := by simpa using h
    have hX : s.getD (Int.toNat (i : Int)) 0 = s[i] := by simp [hlt]
    have hst := hstep i hlt
    by_cases hb : 10 ∈ s.take i
    · have hd : decide (10 ∈ s.take i) = true := decide_eq_true hb
      repeat' (first | (refine Br.tt (by first | assumption | with_reducible rfl | with_reducible exact Bool.not_false) ?_; conv => whnf) | (refine Br.ff (by first | assumption | with_reducible rfl | with_reducible exact Bool.not_true) ?_; conv => whnf) | fail)
      refine ⟨i + 1, ⟨by omega, by omega⟩, Weak.of [] rfl rfl ⟨⟨_, rfl, rfl⟩, ⟨_, rfl, rfl⟩, ⟨_, rfl, by simp only [Pre, decide_eq_true (hst.2 (.inl hb))]⟩, ⟨_, rfl, by simp only [Pre]; rw [wrap_i64 (by omega) (by omega)]; rfl⟩, trivial⟩ ⟨⟨_, rfl, rfl, rfl, rfl, rfl, rfl, rfl, rfl, trivial⟩, trivial⟩⟩
    · have hd : decide (10 ∈ s.take i) = false := decide_eq_false hb
      repeat' (first | (refine Br.tt (by first | assumption | with_reducible rfl | with_reducible exact Bool.not_false) ?_; conv => whnf) | (refine Br.ff (by first | assumption | with_reducible rfl | with_reducible exact Bool.not_true) ?_; conv => whnf) | fail)
      refine Need.of ⟨by omega, by simpa using hlt⟩ ?_
      ((conv => whnf); (repeat' (first | (refine Br.tt (by first | assumption | with_reducible rfl | with_reducible exact Bool.not_false) ?_; conv => whnf) | (refine Br.ff (by first | assumption | with_reducible rfl | with_reducible exact Bool.not_true) ?_; conv => whnf) | fail)))
      have hv : (((s.getD (Int.toNat (i : Int)) 0).toNat : Int) == 10) = decide (10 ∈ s.take (i + 1)) := by
        rw [hX, Bool.eq_iff_iff, decide_eq_true_eq, hst, beq_iff_eq]
        constructor
        · intro e
          refine .inr (UInt8.toNat_inj.1 ?_)
          show s[i].toNat = 10
          omega
        · rintro (e | e)
          · exact absurd e hb
          · rw [e]; rfl
      refine ⟨i + 1, ⟨by omega, by omega⟩, Weak.of [] rfl rfl ⟨⟨_, rfl, rfl⟩, ⟨_, rfl, rfl⟩, ⟨_, rfl, by simp only [Pre, hv]⟩, ⟨_, rfl, by simp only [Pre]; rw [wrap_i64 (by omega) (by omega)]; rfl⟩, trivial⟩ ⟨⟨_, rfl, rfl, rfl, rfl, rfl, rfl, rfl, rfl, trivial⟩, trivial⟩⟩
  · have hge : i = s.length := by simp at h; omega
    rw [hge, List.take_length]
    refine Need.of (by simp; omega) ?_
    ((conv => whnf); (repeat' (first | (refine Br.tt (by first | assumption | with_reducible rfl | with_reducible exact Bool.not_false) ?_; conv => whnf) | (refine Br.ff (by first | assumption | with_reducible rfl | with_reducible exact Bool.not_true) ?_; conv => whnf) | fail)))
    refine CallsA.then p4 ?_
    by_cases hb : 10 ∈ s
    · rw [if_pos hb]
      have hd : decide (10 ∈ s) = true := decide_eq_true hb
      ((conv => whnf); (repeat' (first | (refine Br.tt (by first | assumption | with_reducible rfl | with_reducible exact Bool.not_false) ?_; conv => whnf) | (refine Br.ff (by first | assumption | with_reducible rfl | with_reducible exact Bool.not_true) ?_; conv => whnf) | fail)))
      repeat' (first | (refine Br.tt (by first | assumption | with_reducible rfl | with_reducible exact Bool.not_false) ?_; conv => whnf) | (refine Br.ff (by first | assumption | with_reducible rfl | with_reducible exact Bool.not_true) ?_; conv => whnf) | (refine Br.tt rfl ?_; conv => whnf) | (refine Br.ff rfl ?_; conv => whnf) | fail)
      exact ⟨rfl, rfl⟩
    · rw [if_neg hb]
      have hd : decide (10 ∈ s) = false := decide_eq_false hb
      have hd2 : (!decide (10 ∈ s)) = true := by rw [hd]; rfl
      ((conv => whnf); (repeat' (first | (refine Br.tt (by first | assumption | with_reducible rfl | with_reducible exact Bool.not_false) ?_; conv => whnf) | (refine Br.ff (by first | assumption | with_reducible rfl | with_reducible exact Bool.not_true) ?_; conv => whnf) | fail)))
      repeat' (first | (refine Br.tt (by first | assumption | with_reducible rfl | with_reducible exact Bool.not_false) ?_; conv => whnf) | (refine Br.ff (by first | assumption | with_reducible rfl | with_reducible exact Bool.not_true) ?_; conv => whnf) | (refine Br.tt rfl ?_; conv => whnf) | (refine Br.ff rfl ?_; conv => whnf) | fail)
      exact ⟨rfl, rfl⟩
end Go.Proofs.L24

namespace Go.Proofs.L24
open Go Aw Go.Proofs Go.RowKit Go.Proofs.YtacknofdlkgkoaaDoor Go.ChangeShapes Go.WideShapes Go.ChangeAt Go.ChangeMaps
theorem str_bulk {H : Type} {l : List UInt8} (h : Rows.uptoSmall H [DataW.lit (.string l)] = true) : l.length ≤ 1048576 := by
  have h := of_decide_eq_true h
  simp only [Rows.uptoBulkAll, Rows.uptoBulk] at h
  omega
set_option maxRecDepth 100000 in
/-- What the walk gives, for every text. -/
theorem blanks_contract (H : Type) (enc : TypeId × Value → H) (W : World) (base : Nat) (args : Array Value) (ds gs : List (DataW H)) (before : List MemPlace)
    (hval : ∀ (j : Nat) t v, Tryd.f5.params[j]? = some t → args[j]? = some v → Value.okWide Tryd.prog W .any base t v)
    (hW : DataW.Whole enc Tryd.prog Tryd.f5.params.toList Rows.lineBlanksSpec.vars false W args.toList ds gs before) (hL : laidMetH Tryd.prog Rows.lineBlanksUptoRow.laid W) (hk : Rows.uptoSmall H (ds ++ gs) = true) :
    Calls Tryd.prog 5 args W fun e W' => ∃ v, e = .returned v ∧ Rows.lineBlanksSpec.post enc Tryd.prog Tryd.f5 false true false false W args v W' := by
  have hW' := hW
  obtain ⟨p, q, hA0, hV, rfl, hfz, hnd⟩ := hW
  have hA : DataW.TrodAll enc Tryd.prog W 0 (fun _ => true) true Tryd.f5.params.toList args.toList ds p := hA0
  rw [Tryd.params5] at hA hval
  obtain ⟨v0, vs0, d0, ds0, p0, q0, hargs, rfl, rfl, h0, r0⟩ := trodAll_cons hA
  obtain ⟨rfl, rfl, rfl⟩ := trodAll_nil r0
  obtain rfl : args = #[v0] := Array.toList_inj.1 hargs
  obtain ⟨rfl, rfl⟩ := trodVars_none hV
  obtain ⟨s, rfl, rfl, rfl, hs⟩ := open_string Tryd.underlying9 (hval 0 9 v0 rfl rfl) h0
  clear hA0
  simp only [List.append_nil] at hW' hk
  have hb := str_bulk hk
  have walk : Calls Tryd.prog 5 #[.string s] W fun e w' => e = .returned (.bool true) ∧ Below W.heap.size W w' := by
    refine CallsA.law (xs := [.str s.data.toList]) (vs0 := [.string s]) (lineBlanks_ok (numW_of_laid hL) s.data.toList (by omega)) rfl ?_
    intro i x a hx ha
    match i with
    | 0 =>
      cases hx; cases ha
      exact .str _
  refine walk.mono fun e W' ⟨he, hg⟩ => ?_
  subst he
  exact ⟨_, rfl, _, _, _, [], [], [], hW', trodAll_mk1 (shut_bool Tryd.underlying4 _), trodAll_mk1 (shut_string Tryd.underlying9 hs), rfl, hg.frame _, fun h => by cases h⟩
theorem blanks_reads (os : Os) {H : Type} (enc : TypeId × Value → H) : ∃ places, DataW.whole enc Tryd.prog ((World.laidAll Tryd.prog os Rows.lineBlanksUptoRow.laid).forCall (fun _ _ => 0) ⟨#[], #[.string ⟨#[]⟩], []⟩).memory Tryd.f5.params.toList Rows.lineBlanksSpec.vars false #[Value.string ⟨#[]⟩].toList 8 = some ([.lit (.string [])], [], places) :=
  ⟨[], by kernel_rfl⟩
theorem laid_met (os : Os) (args : Array Value) : laidMetH Tryd.prog Rows.lineBlanksUptoRow.laid ((World.laidAll Tryd.prog os Rows.lineBlanksUptoRow.laid).forCall (fun _ _ => 0) ⟨#[], args, []⟩).memory := by
  rw [MakeChecks.laidMetH_plain _ _ _ (by kernel_rfl)]; exact laidMet_laidAll _ (by kernel_rfl) (by kernel_rfl)
set_option maxRecDepth 100000 in
theorem blanks_lifted (os : Os) (started : os.Started) (H : Type) (enc : TypeId × Value → H) (F : Stop.Interp) :
    ReturnsInHanded {} Tryd.checked os 5 .any ((Rows.OpenSpec.upto Rows.lineBlanksSpec).preRow enc Tryd.prog Tryd.f5 Rows.lineBlanksUptoRow.domain false Rows.lineBlanksUptoRow.laid) (((Rows.OpenSpec.upto Rows.lineBlanksSpec).at F).post enc Tryd.prog Tryd.f5 false true false false) := by
  obtain ⟨places, hx⟩ := blanks_reads os enc
  refine returnsInHanded_of_row (C := Tryd.checked) (s := Rows.OpenSpec.upto Rows.lineBlanksSpec) own started (by kernel_rfl) Tryd.func5
    ⟨World.laidAll Tryd.prog os Rows.lineBlanksUptoRow.laid, fun _ _ => 0, ⟨#[], #[.string ⟨#[]⟩], []⟩, World.laidAll_os _ _ _, World.shaped_of_ZipB (by kernel_rfl) (by kernel_rfl), rfl, (Input.okWide_of_okWideB (by kernel_rfl)).2,
      OpenSpec.preRow_of_cond 8 hx (by kernel_rfl) (fun k hk => by cases hk; kernel_rfl) (by kernel_rfl) (laid_met os _), by
        simp only [Assume.holds]
        exact ⟨by simp, by simp, fun _ => Modest.zero, by simp, by simp⟩⟩ ?_
  intro W base args ds gs before hval hW _ hcond _ hL _ _
  exact blanks_contract H enc W base args ds gs before hval hW hL (hcond _ rfl)
theorem blanks_said : Rows.LineBlanksUptoSaid :=
  OpenClaim.holds_of_cond 5 Tryd.f5 rfl rfl rfl rfl rfl rfl rfl ⟨rfl, rfl, rfl, rfl, rfl⟩ rfl rfl rfl rfl rfl (by kernel_rfl) Tryd.func5 (by kernel_rfl)
    (of_decide_eq_true (by kernel_rfl)) (by unfold Func.isWrapper; first | (rw [if_pos (by decide +kernel)]; kernel_rfl) | (rw [if_neg (by decide +kernel)]; exact ⟨rfl, rfl⟩))
    (fun os started H enc _ F => by rw [OpenClaim.pre_eq_preRow]; exact blanks_lifted os started H enc F)
theorem blanks_plain (f : FuncId) (fn : Func) (hf : Tryd.pinned.checked.prog.funcNamed "tabard/tabardlaw24.LineBlanks" = some f) (hfn : Tryd.pinned.checked.prog.funcs[f]? = some fn) :
    true = Tryd.pinned.checked.prog.looks [] ∧ ∀ (j : Nat) t, fn.params[j]? = some t → Tryd.pinned.checked.prog.wantsStandIn t = false := by
  obtain rfl : f = 5 := Option.some.inj ((show Tryd.prog.funcNamed "tabard/tabardlaw24.LineBlanks" = some 5 by kernel_rfl).symm.trans hf) |>.symm
  obtain rfl : fn = Tryd.f5 := (Option.some.inj (Tryd.func5.symm.trans hfn)).symm
  refine ⟨by kernel_rfl, fun j t ht => ?_⟩
  rw [Tryd.params5] at ht
  obtain rfl : t = 9 := by simpa using Array.mem_of_getElem? ht
  exact (show Tryd.prog.wantsStandIn 9 = false by kernel_rfl)
theorem lineBlanks_holds : Rows.LineBlanksUptoCardSaid :=
  Claim7.holds_tied_plain_at .later [] _ _ _ _ blanks_said (fun _ h => by cases h) (by kernel_rfl) (fun _ h => by cases h) lineBlanksUpto_row_tie rfl ⟨rfl, rfl⟩ (by kernel_rfl) rfl blanks_plain (by kernel_rfl)
end Go.Proofs.L24
namespace Go.Proofs.YtacknofdlkgkoaaDoor
theorem lineBlanks_holds : Rows.LineBlanksUptoCardSaid := L24.lineBlanks_holds
end Go.Proofs.YtacknofdlkgkoaaDoor
