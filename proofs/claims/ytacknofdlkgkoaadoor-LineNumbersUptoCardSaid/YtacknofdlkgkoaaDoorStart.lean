/-
  What the listed variables hold when the call begins, as the row lists them.
-/
import Derived.Test.YtacknofdlkgkoaaDoorLaws
import Derived.Test.YtacknofdlkgkoaaDoorCards
import Derived.Test.YtacknofdlkgkoaaDoorTie
import Derived.WalkKit
import Derived.ProofKit
import Derived.OpenShut
import Derived.Deep.DeepHandedRow
import Derived.Lib.LaidTab
import Derived.Stop.LaidErr
import Derived.Lay
import Derived.MakeChecks
import Derived.SevenTiedAt
set_option linter.unusedSectionVars false
set_option linter.unusedSimpArgs false
set_option linter.unusedVariables false
namespace Go.Proofs.L24
open Go Aw Go.Proofs Go.RowKit Go.Proofs.YtacknofdlkgkoaaDoor
theorem CallsA.law {P : Program} {f : FuncId} {xs : List DV} {vs0 : List Value} {W : World} (h : CallsA P W f [] (xs.map AV.d) fun rs os => rs = [.d (.bool true)] ∧ os = [])
    (hl : vs0.length = xs.length) (hx : ∀ (i : Nat) (x : DV) (a : Value), xs[i]? = some x → vs0[i]? = some a → DRel (fun b _ => b < W.heap.size) W x a) :
    Calls P f ⟨vs0⟩ W fun e w' => e = .returned (.bool true) ∧ Below W.heap.size W w' := by
  refine (h.out (fun b _ => b < W.heap.size) W (fun _ => none) [] vs0 ⟨Below.refl _ _, fun _ _ h => h, fun _ _ h => h⟩ ⟨rfl, fun i ps b h => by simp at h⟩ (fun b id h => by cases h) (by simpa using hl) ?_).mono ?_
  · intro i a v ha hv
    rw [List.getElem?_map] at ha
    obtain ⟨x, hx1, rfl⟩ := Option.map_eq_some_iff.1 ha
    exact .d _ _ (hx i x v hx1 hv)
  · rintro e w' ⟨vs, rs, os', S', ow', he, ⟨hr, -⟩, hb, -, ⟨hvl, hv⟩, hext, -⟩
    subst hr
    refine ⟨?_, hb.below⟩
    match vs, hvl with
    | [v], _ =>
      have := hv 0 _ _ rfl rfl
      cases this with
      | d _ _ hd =>
        cases hd
        rw [he]; rfl
theorem own : ownKnob Tryd.prog.godebug = none := by kernel_rfl
theorem gR : Tryd.prog.globalNamed "strconv.ErrRange" = some 4 := by kernel_rfl
theorem gRType : (Tryd.prog.globals[4]?).map (·.type) = some 84 := by kernel_rfl
theorem gS : Tryd.prog.globalNamed "strconv.ErrSyntax" = some 3 := by kernel_rfl
theorem gSType : (Tryd.prog.globals[3]?).map (·.type) = some 84 := by kernel_rfl
theorem gT : Tryd.prog.globalNamed "internal/strconv.uint64pow10" = some 5 := by kernel_rfl
theorem gTType : (Tryd.prog.globals[5]?).map (·.type) = some 118 := by kernel_rfl
theorem cells124 : Tryd.prog.cellsOf 124 = 1 := by kernel_rfl
theorem cells9 : Tryd.prog.cellsOf 9 = 1 := by kernel_rfl
theorem cells52 : Tryd.prog.cellsOf 52 = 1 := by kernel_rfl
theorem cells118 : Tryd.prog.cellsOf 118 = 20 := by kernel_rfl
theorem star : "*" ++ "errors.errorString" = "*errors.errorString" := by decide
theorem row122 (u : TypeId) (h : Tryd.prog.typeName? 3 u = some "*errors.errorString") : u = 122 :=
  typeName_ptr_named (nm := "errors.errorString") (by rw [star]; kernel_rfl) (by kernel_rfl) (by decide) u (by rw [star]; exact h)
theorem numW_of_laid {W : World} (h : laidMetH Tryd.prog Rows.lineParsesUptoRow.laid W) : NumW W := by
  rw [MakeChecks.laidMetH_plain _ _ _ (by kernel_rfl)] at h
  have h5 := laidMet.tail (laidMet.tail h)
  have h7 := laidMet.tail (laidMet.tail h5)
  obtain ⟨a1, s1, hv1, -, -, -⟩ := laid_sentinel h7 gR gRType Tryd.underlying84 row122 Tryd.underlying122 Tryd.underlying124 rfl rfl Tryd.underlying9 cells124 cells9
  obtain ⟨a2, s2, hv2, -, -, -⟩ := laid_sentinel h7.tail gS gSType Tryd.underlying84 row122 Tryd.underlying122 Tryd.underlying124 rfl rfl Tryd.underlying9 cells124 cells9
  refine ⟨⟨_, _, by simpa using World.var?_cell gS hv2 0⟩, ⟨_, _, by simpa using World.var?_cell gR hv1 0⟩, ?_⟩
  exact Lib.tabIs_of_head (zs := Lib.pow10Tab) (rest := [("unicode/utf8.acceptRanges", Rows.laid_unicode_utf8_acceptRanges), ("strconv.ErrRange", Rows.laid_strconv_ErrRange), ("strconv.ErrSyntax", Rows.laid_strconv_ErrSyntax), ("unicode/utf8.first", Rows.laid_unicode_utf8_first)])
    gT gTType Tryd.underlying118 Tryd.underlying52 cells52 cells118 h5
end Go.Proofs.L24
