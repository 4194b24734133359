/-
  ShowBack holds: the text of a right formula is read as that formula, if it is not too long, and prints again as it is; of any formula, where what it reads is of bulk at most 1048576.
-/
import Derived.Test.YtdeljonfleopdaaDoorStart
set_option linter.unusedSectionVars false
set_option linter.unusedSimpArgs false
set_option linter.unusedVariables false
set_option linter.unusedSimpArgs false
set_option linter.unusedVariables false
namespace Go.Proofs.L08
open Go Aw Go.Proofs Go.RowKit Go.Proofs.YtdeljonfleopdaaDoor
theorem types_ok : tysOk Tryd.prog [26, 22, 9, 2, 23, 24, 45, 43] = true := by kernel_rfl
theorem cellsF : Tryd.prog.cellsOf 26 = 5 := by kernel_rfl
theorem cellsT : Tryd.prog.cellsOf 45 = 4 := by kernel_rfl
theorem cellsI (t : Nat) (h : t = 22 ∨ t = 9 ∨ t = 2 ∨ t = 23 ∨ t = 24 ∨ t = 43) : Tryd.prog.cellsOf t = 1 ∧ isAggP Tryd.prog t = false := by
  rcases h with rfl | rfl | rfl | rfl | rfl | rfl <;> exact ⟨by kernel_rfl, by kernel_rfl⟩
theorem wf_i64 {n : Int} (h : (Lit.int .i64 n).wf = true) : n ≤ 9223372036854775807 := by
  simp only [Lit.wf, Bool.and_eq_true, decide_eq_true_eq] at h
  exact h.2
/-- What a datum of each type is. -/
structure ReadsAs (t : Nat) (x : DV) : Prop where
  f : t = 26 → ∃ a : F, x = a.dv ∧ a.Rng
  tm : t = 45 → ∃ a : T, x = a.dv ∧ a.Rng
  fs : t = 24 → ∃ l : List F, x = .sl (l.map F.dv) ∧ F.Rngs l
  ts : t = 23 → ∃ l : List T, x = .sl (l.map T.dv) ∧ T.Rngs l
  n : t = 22 ∨ t = 2 ∨ t = 43 → ∃ n, x = .int .i64 n ∧ n ≤ 9223372036854775807
  s : t = 9 → ∃ s, x = .str s
theorem fs_of : ∀ {xs : List DV}, (∀ x ∈ xs, ∃ a : F, x = a.dv ∧ a.Rng) → ∃ l : List F, xs = l.map F.dv ∧ F.Rngs l
  | [], _ => ⟨[], rfl, trivial⟩
  | x :: r, h => by
    obtain ⟨a, rfl, ha⟩ := h x (List.mem_cons_self ..)
    obtain ⟨l, rfl, hl⟩ := fs_of (xs := r) fun y hy => h y (List.mem_cons_of_mem _ hy)
    exact ⟨a :: l, rfl, ha, hl⟩
theorem ts_of : ∀ {xs : List DV}, (∀ x ∈ xs, ∃ a : T, x = a.dv ∧ a.Rng) → ∃ l : List T, xs = l.map T.dv ∧ T.Rngs l
  | [], _ => ⟨[], rfl, trivial⟩
  | x :: r, h => by
    obtain ⟨a, rfl, ha⟩ := h x (List.mem_cons_self ..)
    obtain ⟨l, rfl, hl⟩ := ts_of (xs := r) fun y hy => h y (List.mem_cons_of_mem _ hy)
    exact ⟨a :: l, rfl, ha, hl⟩
set_option maxRecDepth 100000 in
theorem wt_reads {t : Nat} {x : DV} (h : WT Tryd.prog t x) : ReadsAs t x := by
  have u26 := Tryd.underlying26
  have u45 := Tryd.underlying45
  have u24 := Tryd.underlying24
  have u23 := Tryd.underlying23
  have u22 := Tryd.underlying22
  have u2 := Tryd.underlying2
  have u43 := Tryd.underlying43
  have u9 := Tryd.underlying9
  induction h with
  | bool h b =>
    refine ⟨?_, ?_, ?_, ?_, ?_, ?_⟩
    · rintro rfl; rw [u26] at h; cases h
    · rintro rfl; rw [u45] at h; cases h
    · rintro rfl; rw [u24] at h; cases h
    · rintro rfl; rw [u23] at h; cases h
    · rintro (rfl | rfl | rfl)
      · rw [u22] at h; cases h
      · rw [u2] at h; cases h
      · rw [u43] at h; cases h
    · rintro rfl; rw [u9] at h; cases h
  | int h n hr =>
    refine ⟨?_, ?_, ?_, ?_, ?_, ?_⟩
    · rintro rfl; rw [u26] at h; cases h
    · rintro rfl; rw [u45] at h; cases h
    · rintro rfl; rw [u24] at h; cases h
    · rintro rfl; rw [u23] at h; cases h
    · rintro (rfl | rfl | rfl)
      · rw [u22] at h; cases h; exact ⟨n, rfl, wf_i64 hr⟩
      · rw [u2] at h; cases h; exact ⟨n, rfl, wf_i64 hr⟩
      · rw [u43] at h; cases h; exact ⟨n, rfl, wf_i64 hr⟩
    · rintro rfl; rw [u9] at h; cases h
  | str h s =>
    refine ⟨?_, ?_, ?_, ?_, ?_, ?_⟩
    · rintro rfl; rw [u26] at h; cases h
    · rintro rfl; rw [u45] at h; cases h
    · rintro rfl; rw [u24] at h; cases h
    · rintro rfl; rw [u23] at h; cases h
    · rintro (rfl | rfl | rfl)
      · rw [u22] at h; cases h
      · rw [u2] at h; cases h
      · rw [u43] at h; cases h
    · rintro rfl; exact ⟨s, rfl⟩
  | sl h xs hx ih =>
    refine ⟨?_, ?_, ?_, ?_, ?_, ?_⟩
    · rintro rfl; rw [u26] at h; cases h
    · rintro rfl; rw [u45] at h; cases h
    · rintro rfl; rw [u24] at h; cases h
      obtain ⟨l, rfl, hl⟩ := fs_of fun x hx => (ih x hx).f rfl
      exact ⟨l, rfl, hl⟩
    · rintro rfl; rw [u23] at h; cases h
      obtain ⟨l, rfl, hl⟩ := ts_of fun x hx => (ih x hx).tm rfl
      exact ⟨l, rfl, hl⟩
    · rintro (rfl | rfl | rfl)
      · rw [u22] at h; cases h
      · rw [u2] at h; cases h
      · rw [u43] at h; cases h
    · rintro rfl; rw [u9] at h; cases h
  | agg h cs hl hx ih =>
    refine ⟨?_, ?_, ?_, ?_, ?_, ?_⟩
    · rintro rfl
      rw [u26] at h
      cases h
      rw [cellsF] at hl
      match cs, hl with
      | [c0, c1, c2, c3, c4], _ =>
        have k0 := ih 0 _ rfl
        have k1 := ih 1 _ rfl
        have k2 := ih 2 _ rfl
        have k3 := ih 3 _ rfl
        have k4 := ih 4 _ rfl
        simp only [(cellsI 22 (by decide)).1, (cellsI 9 (by decide)).1, (cellsI 2 (by decide)).1, (cellsI 23 (by decide)).1, (cellsI 24 (by decide)).1, packD, (cellsI 22 (by decide)).2, (cellsI 9 (by decide)).2, (cellsI 2 (by decide)).2, (cellsI 23 (by decide)).2, (cellsI 24 (by decide)).2,
          List.drop_zero, List.drop_succ_cons, List.take_succ_cons, List.take_zero, List.headD_cons] at k0 k1 k2 k3 k4
        obtain ⟨op, rfl, -⟩ := k0.n (by decide)
        obtain ⟨s, rfl⟩ := k1.s rfl
        obtain ⟨md, rfl, hmd⟩ := k2.n (by decide)
        obtain ⟨l3, rfl, h3⟩ := k3.ts rfl
        obtain ⟨l4, rfl, h4⟩ := k4.fs rfl
        exact ⟨.mk op s md l3 l4, by rw [F.dv, T.dvs_eq, F.dvs_eq], hmd, h3, h4⟩
    · rintro rfl
      rw [u45] at h
      cases h
      rw [cellsT] at hl
      match cs, hl with
      | [c0, c1, c2, c3], _ =>
        have k0 := ih 0 _ rfl
        have k1 := ih 1 _ rfl
        have k2 := ih 2 _ rfl
        have k3 := ih 3 _ rfl
        simp only [(cellsI 43 (by decide)).1, (cellsI 9 (by decide)).1, (cellsI 2 (by decide)).1, (cellsI 23 (by decide)).1, packD, (cellsI 43 (by decide)).2, (cellsI 9 (by decide)).2, (cellsI 2 (by decide)).2, (cellsI 23 (by decide)).2,
          List.drop_zero, List.drop_succ_cons, List.take_succ_cons, List.take_zero, List.headD_cons] at k0 k1 k2 k3
        obtain ⟨op, rfl, -⟩ := k0.n (by decide)
        obtain ⟨md, rfl, hmd⟩ := k1.n (by decide)
        obtain ⟨s, rfl⟩ := k2.s rfl
        obtain ⟨l3, rfl, h3⟩ := k3.ts rfl
        exact ⟨.mk op md s l3, by rw [T.dv, T.dvs_eq], hmd, h3⟩
    · rintro rfl; rw [u24] at h; cases h
    · rintro rfl; rw [u23] at h; cases h
    · rintro (rfl | rfl | rfl)
      · rw [u22] at h; cases h
      · rw [u2] at h; cases h
      · rw [u43] at h; cases h
    · rintro rfl; rw [u9] at h; cases h
theorem small_sl {N : Nat} {xs : List DV} (h : Small N (.sl xs)) : xs.length ≤ N ∧ ∀ x ∈ xs, Small N x := by cases h; exact ⟨by assumption, by assumption⟩
theorem small_str {N : Nat} {s : List UInt8} (h : Small N (.str s)) : s.length ≤ N := by cases h; assumption
theorem small_agg {N : Nat} {xs : List DV} (h : Small N (.agg xs)) : ∀ x ∈ xs, Small N x := by cases h; assumption
theorem T.Oks_of : ∀ {l : List T}, (∀ a ∈ l, a.Ok) → T.Oks l
  | [], _ => trivial
  | a :: r, h => ⟨h a (List.mem_cons_self ..), T.Oks_of fun b hb => h b (List.mem_cons_of_mem _ hb)⟩
theorem F.Oks_of : ∀ {l : List F}, (∀ a ∈ l, a.Ok) → F.Oks l
  | [], _ => trivial
  | a :: r, h => ⟨h a (List.mem_cons_self ..), F.Oks_of fun b hb => h b (List.mem_cons_of_mem _ hb)⟩
theorem T.ok_small {N : Nat} (hN : N < 100000000) (t : T) : Small N t.dv → t.Ok := by
  induction t using T.ind with
  | h op num name args ih =>
    intro h
    rw [T.dv, T.dvs_eq] at h
    have h := small_agg h
    have h1 := small_str (h _ (.tail _ (.tail _ (.head _))))
    obtain ⟨h2, h3⟩ := small_sl (h _ (.tail _ (.tail _ (.tail _ (.head _)))))
    rw [List.length_map] at h2
    rw [T.Ok]
    exact ⟨by omega, by omega, T.Oks_of fun a ha => ih a ha (h3 _ (List.mem_map.2 ⟨a, ha, rfl⟩))⟩
theorem F.ok_small {N : Nat} (hN : N < 100000000) (t : F) : Small N t.dv → t.Ok := by
  induction t using F.ind with
  | h op name md ts fs ih =>
    intro h
    rw [F.dv, T.dvs_eq, F.dvs_eq] at h
    have h := small_agg h
    have h1 := small_str (h _ (.tail _ (.head _)))
    obtain ⟨h2, h3⟩ := small_sl (h _ (.tail _ (.tail _ (.tail _ (.head _)))))
    obtain ⟨h4, h5⟩ := small_sl (h _ (.tail _ (.tail _ (.tail _ (.tail _ (.head _))))))
    rw [List.length_map] at h2 h4
    rw [F.Ok]
    exact ⟨by omega, by omega, by omega, T.Oks_of fun a ha => a.ok_small hN (h3 _ (List.mem_map.2 ⟨a, ha, rfl⟩)), F.Oks_of fun a ha => ih a ha (h5 _ (List.mem_map.2 ⟨a, ha, rfl⟩))⟩
theorem rows_bulk {H : Type} : Bulk (H := H) Rows.uptoBulk Rows.uptoBulkAll := by
  refine ⟨fun l => ?_, fun s => ?_, ?_, fun e s => ?_, fun e => ?_, fun d r => ?_⟩
  · cases l <;> simp [Rows.uptoBulk]
  · simp [Rows.uptoBulk]
  · simp [Rows.uptoBulk]
  · rw [Rows.uptoBulk]; omega
  · rw [Rows.uptoBulk]; exact Nat.le_succ _
  · rw [Rows.uptoBulkAll]

set_option maxRecDepth 100000 in
set_option linter.constructorNameAsVariable false in
theorem open_form {H : Type} {enc : TypeId × Value → H} {W : World} {v : Value} {d : DataW H} {p : List MemPlace} {base : Nat} (hv : Value.okWide Tryd.prog W .any base 26 v) (h : DataW.Trod enc Tryd.prog W 0 (fun _ => true) true 26 v d p) (hb : Rows.uptoBulk d ≤ 1048576) :
    ∃ f : F, f.Ok ∧ f.Rng ∧ DRel (fun b _ => b < W.heap.size) W f.dv v := by
  obtain ⟨fuel, h⟩ := h
  obtain ⟨ys, ho⟩ := trod_open rows_bulk (N := 1048576) types_ok fuel 26 _ _ (by decide) h hb
  have hag : isAggP Tryd.prog 26 = true := by kernel_rfl
  have hty := ho.ty
  have hsm := packD_small (P := Tryd.prog) (t := 26) ho.small
  unfold packD at hty hsm
  rw [hag] at hty hsm
  obtain ⟨f, hf, hr⟩ := (wt_reads hty).f rfl
  rw [hf] at hsm
  refine ⟨f, f.ok_small (by decide) hsm, hr, ?_⟩
  unfold Value.okWide at hv
  rw [Tryd.underlying26] at hv
  obtain ⟨cs, rfl, -, -⟩ := hv
  rw [← hf]
  exact .agg ys cs.toList (by rw [ho.cells.len]; rfl) (fun i c v h1 h2 => ho.cells.rel i c v h1 h2) ho.cells.atm
end Go.Proofs.L08

namespace Go.Proofs.L08
open Go Aw Go.Proofs Go.RowKit Go.Proofs.YtdeljonfleopdaaDoor Go.ChangeShapes Go.WideShapes Go.ChangeAt Go.ChangeMaps
theorem laidOut : laidOutB Tryd.prog = true := by kernel_rfl
theorem libW_back {W : World} (h : laidMetH Tryd.prog Rows.showBackUptoRow.laid W) : LibW W := libW_of_laid h
theorem form_bulk {H : Type} {d : DataW H} (h : Rows.uptoSmall H [d] = true) : Rows.uptoBulk d ≤ 1048576 := by
  have h := of_decide_eq_true h
  simp only [Rows.uptoBulkAll] at h
  omega
set_option maxRecDepth 100000 in
/-- What the walk gives, for every formula. -/
theorem back_contract (H : Type) (enc : TypeId × Value → H) (W : World) (base : Nat) (args : Array Value) (ds gs : List (DataW H)) (before : List MemPlace)
    (hval : ∀ (j : Nat) t v, Tryd.f3.params[j]? = some t → args[j]? = some v → Value.okWide Tryd.prog W .any base t v)
    (hW : DataW.Whole enc Tryd.prog Tryd.f3.params.toList Rows.showBackSpec.vars false W args.toList ds gs before) (hL : laidMetH Tryd.prog Rows.showBackUptoRow.laid W) (hk : Rows.uptoSmall H (ds ++ gs) = true) :
    Calls Tryd.prog 3 args W fun e W' => ∃ v, e = .returned v ∧ Rows.showBackSpec.post enc Tryd.prog Tryd.f3 false true false false W args v W' := by
  have hW' := hW
  obtain ⟨p, q, hA0, hV, rfl, hfz, hnd⟩ := hW
  have hA : DataW.TrodAll enc Tryd.prog W 0 (fun _ => true) true Tryd.f3.params.toList args.toList ds p := hA0
  rw [Tryd.params3] at hA hval
  obtain ⟨v0, vs0, d0, ds0, p0, q0, hargs, rfl, rfl, h0, r0⟩ := trodAll_cons hA
  obtain ⟨rfl, rfl, rfl⟩ := trodAll_nil r0
  obtain rfl : args = #[v0] := Array.toList_inj.1 hargs
  obtain ⟨rfl, rfl⟩ := trodVars_none hV
  simp only [List.append_nil] at hW' hk
  obtain ⟨f, hf, hr, hd⟩ := open_form (hval 0 26 v0 rfl rfl) h0 (form_bulk hk)
  have hlt : ∀ x ∈ p0, x.block < W.heap.size := fun x hx => by
    have := hA.lt x
    simp only [List.append_nil] at this
    exact this hx
  have walk : Calls Tryd.prog 3 #[v0] W fun e w' => e = .returned (.bool true) ∧ Below W.heap.size W w' := by
    refine CallsA.law (xs := [f.dv]) (vs0 := [v0]) (showBack_ok (libW_back hL) f hf hr) rfl ?_
    intro i x a hx ha
    match i with
    | 0 =>
      cases hx; cases ha
      exact hd
  refine walk.mono fun e W' ⟨he, hg⟩ => ?_
  subst he
  exact ⟨_, rfl, _, _, _, _, _, _, hW', trodAll_mk1 (shut_bool Tryd.underlying4 _), trodAll_mk1 (Below.trod laidOut (by kernel_rfl) (of_decide_eq_true (by kernel_rfl)) h0 hg hlt), rfl, hg.frame _, fun h => by cases h⟩
def zeroV : Value := .agg #[.int .i64 0, .string ⟨#[]⟩, .int .i64 0, .slice none 0 0, .slice none 0 0]
theorem back_reads (os : Os) {H : Type} (enc : TypeId × Value → H) : ∃ places, DataW.whole enc Tryd.prog ((World.laidAll Tryd.prog os Rows.showBackUptoRow.laid).forCall (fun _ _ => 0) ⟨#[], #[zeroV], []⟩).memory Tryd.f3.params.toList Rows.showBackSpec.vars false #[zeroV].toList 8 = some ([.agg [.lit (.int .i64 0), .lit (.string []), .lit (.int .i64 0), .nil, .nil]], [], places) :=
  ⟨[], by kernel_rfl⟩
theorem back_laid_met (os : Os) (args : Array Value) : laidMetH Tryd.prog Rows.showBackUptoRow.laid ((World.laidAll Tryd.prog os Rows.showBackUptoRow.laid).forCall (fun _ _ => 0) ⟨#[], args, []⟩).memory := by
  rw [MakeChecks.laidMetH_plain _ _ _ (by kernel_rfl)]; exact laidMet_laidAll _ (by kernel_rfl) (by kernel_rfl)
set_option maxRecDepth 100000 in
theorem back_lifted (os : Os) (started : os.Started) (H : Type) (enc : TypeId × Value → H) (F : Stop.Interp) :
    ReturnsInHanded {} Tryd.checked os 3 .any ((Rows.OpenSpec.upto Rows.showBackSpec).preRow enc Tryd.prog Tryd.f3 Rows.showBackUptoRow.domain false Rows.showBackUptoRow.laid) (((Rows.OpenSpec.upto Rows.showBackSpec).at F).post enc Tryd.prog Tryd.f3 false true false false) := by
  obtain ⟨places, hx⟩ := back_reads os enc
  refine returnsInHanded_of_row (C := Tryd.checked) (s := Rows.OpenSpec.upto Rows.showBackSpec) own started (by kernel_rfl) Tryd.func3
    ⟨World.laidAll Tryd.prog os Rows.showBackUptoRow.laid, fun _ _ => 0, ⟨#[], #[zeroV], []⟩, World.laidAll_os _ _ _, World.shaped_of_ZipB (by kernel_rfl) (by kernel_rfl), rfl, (Input.okWide_of_okWideB (by kernel_rfl)).2,
      OpenSpec.preRow_of_cond 8 hx (by kernel_rfl) (fun k hk => by cases hk; kernel_rfl) (by kernel_rfl) (back_laid_met os _), by
        simp only [Assume.holds]
        exact ⟨by simp, by simp, fun _ => Modest.zero, by simp, by simp⟩⟩ ?_
  intro W base args ds gs before hval hW _ hcond _ hL _ _
  exact back_contract H enc W base args ds gs before hval hW hL (hcond _ rfl)
theorem back_said : Rows.ShowBackUptoSaid :=
  OpenClaim.holds_of_cond 3 Tryd.f3 rfl rfl rfl rfl rfl rfl rfl ⟨rfl, rfl, rfl, rfl, rfl⟩ rfl rfl rfl rfl rfl (by kernel_rfl) Tryd.func3 (by kernel_rfl)
    (of_decide_eq_true (by kernel_rfl)) (by unfold Func.isWrapper; first | (rw [if_pos (by decide +kernel)]; kernel_rfl) | (rw [if_neg (by decide +kernel)]; exact ⟨rfl, rfl⟩))
    (fun os started H enc _ F => by rw [OpenClaim.pre_eq_preRow]; exact back_lifted os started H enc F)
theorem back_plain (f : FuncId) (fn : Func) (hf : Tryd.pinned.checked.prog.funcNamed "tabard/tabardlaw08.ShowBack" = some f) (hfn : Tryd.pinned.checked.prog.funcs[f]? = some fn) :
    false = Tryd.pinned.checked.prog.looks [] ∧ ∀ (j : Nat) t, fn.params[j]? = some t → Tryd.pinned.checked.prog.wantsStandIn t = false := by
  obtain rfl : f = 3 := Option.some.inj ((show Tryd.prog.funcNamed "tabard/tabardlaw08.ShowBack" = some 3 by kernel_rfl).symm.trans hf) |>.symm
  obtain rfl : fn = Tryd.f3 := (Option.some.inj (Tryd.func3.symm.trans hfn)).symm
  refine ⟨by kernel_rfl, fun j t ht => ?_⟩
  rw [Tryd.params3] at ht
  obtain rfl : t = 26 := by simpa using Array.mem_of_getElem? ht
  exact (show Tryd.prog.wantsStandIn 26 = false by kernel_rfl)
theorem showBack_holds : Rows.ShowBackUptoCardSaid :=
  Claim7.holds_tied_plain_at .later [] _ _ _ _ back_said (fun _ h => by cases h) (by kernel_rfl) (fun _ h => by cases h) showBackUpto_row_tie rfl ⟨rfl, rfl⟩ (by kernel_rfl) rfl back_plain (by kernel_rfl)
end Go.Proofs.L08
namespace Go.Proofs.YtdeljonfleopdaaDoor
theorem showBack_holds : Rows.ShowBackUptoCardSaid := L08.showBack_holds
end Go.Proofs.YtdeljonfleopdaaDoor
