/-
  The evaluator is sound at each operation, and at calls; no condition.
-/
import Derived.Test.YtdeljonfleopdaaDoorAwTwo
import Derived.Laws.BytesString
set_option linter.unusedSectionVars false
set_option linter.unusedSimpArgs false
set_option linter.unusedVariables false
/-
  Aw, part O: parts of slices, append, the walk over a string, indices, fields.
-/
set_option linter.unusedSimpArgs false
set_option linter.unusedVariables false
namespace Aw
open Go Go.RowKit

theorem flat_drop {xs : List DV} {k : Nat} (h : ∀ x ∈ xs, x.width = k) (l : Nat) (hl : l ≤ xs.length) : flat (xs.drop l) = (flat xs).drop (l * k) := by
  induction xs generalizing l with
  | nil => simp [flat]
  | cons x xs ih =>
    cases l with
    | zero => simp
    | succ l =>
      have hx : x.cells.length = k := h x (List.mem_cons_self ..)
      rw [List.drop_succ_cons, ih (fun y hy => h y (List.mem_cons_of_mem _ hy)) l (by simpa using hl), flat_cons, List.drop_append]
      have e : (l + 1) * k - x.cells.length = l * k := by rw [hx, Nat.succ_mul]; omega
      have e2 : x.cells.drop ((l + 1) * k) = [] := List.drop_eq_nil_of_le (by rw [hx, Nat.succ_mul]; omega)
      rw [e, e2, List.nil_append]
theorem flat_take {xs : List DV} {k : Nat} (h : ∀ x ∈ xs, x.width = k) (l : Nat) (hl : l ≤ xs.length) : flat (xs.take l) = (flat xs).take (l * k) := by
  have h1 : flat xs = flat (xs.take l) ++ flat (xs.drop l) := by rw [← flat_append, List.take_append_drop]
  have h2 : (flat (xs.take l)).length = l * k := by
    rw [flat_length (fun x hx => h x (List.mem_of_mem_take hx))]; rw [List.length_take, Nat.min_eq_left hl]
  rw [h1, ← h2, List.take_left]

/-- A stretch of sealed cells. -/
theorem CellsAt.drop {S : Seal} {w : World} {cs : List DV} {b off : Nat} (h : CellsAt S w cs b off) (j : Nat) : CellsAt S w (cs.drop j) b (off + j) :=
  ⟨fun i c hc => by rw [List.getElem?_drop] at hc; have := h.s _ c hc; rwa [show off + (j + i) = off + j + i by omega] at this,
   fun i c hc => by rw [List.getElem?_drop] at hc; have := h.v _ c hc; rwa [show off + (j + i) = off + j + i by omega] at this,
   fun c hc => h.a c (List.mem_of_mem_drop hc)⟩
theorem CellsAt.take {S : Seal} {w : World} {cs : List DV} {b off : Nat} (h : CellsAt S w cs b off) (j : Nat) : CellsAt S w (cs.take j) b off :=
  ⟨fun i c hc => h.s i c (by rw [List.getElem?_take] at hc; split at hc <;> first | exact hc | cases hc),
   fun i c hc => h.v i c (by rw [List.getElem?_take] at hc; split at hc <;> first | exact hc | cases hc), fun c hc => h.a c (List.mem_of_mem_take hc)⟩
theorem DRel.of_cells {S : Seal} {w : World} {xs : List DV} {b off cap k : Nat} (h : CellsAt S w (flat xs) b off) (hk : ∀ x ∈ xs, x.width = k) (hc : xs.length ≤ cap) {n : Nat} (hn : n = xs.length) :
    DRel S w (.sl xs) (.slice (some ⟨b, off, none⟩) n cap) := by
  obtain ⟨vs, h1, h2, h3, h4⟩ := h.list
  subst hn
  refine .sl xs b off cap k (fun i => (vs[i]?).getD undef) hk hc h.s (fun i c hi => ?_) (fun i c hi => ?_) h.a
  · have hlt : i < vs.length := by rw [h1]; exact (List.getElem?_eq_some_iff.1 hi).1
    rw [List.getElem?_eq_getElem hlt]
    exact h2 i _ (List.getElem?_eq_getElem hlt)
  · have hlt : i < vs.length := by rw [h1]; exact (List.getElem?_eq_some_iff.1 hi).1
    have hg := List.getElem?_eq_getElem hlt
    rw [hg]
    exact h3 i c _ hi hg

section
variable {P : Program} {TT : Tr TI} (hT : TOk P TT)
include hT
/-- xs[l:h] of a slice that is data. -/
theorem slice_part {T e n : Nat} (he : elemTy TT T = some e) (hn : Aw.sz TT e = some n) {S : Seal} {w : World} {xs : List DV} {v : Value} (hv : DRel S w (.sl xs) v) {l h : Nat} (hl : l ≤ h) (hh : h ≤ xs.length)
    (hw : l = 0 ∨ ∀ x ∈ xs, x.width = n) {lo hi : Option Value}
    (hb : ∀ cap, xs.length ≤ cap → (Instr.sliceBounds true xs.length cap lo hi none).run P w = .ok (l, h, cap) w) :
    ∃ val, (Instr.sliceAt T v lo hi none).run P w = .ok val w ∧ DRel S w (.sl ((xs.take h).drop l)) val := by
  have hu := hT.underlying_slice he
  rcases hv.slice with ⟨rfl, rfl⟩ | ⟨a, rfl, rfl⟩ | ⟨b, off, cap, k, rfl, hc, hk, hcells⟩
  · have hl0 : l = 0 := by simp at hh; omega
    have hh0 : h = 0 := by simpa using hh
    subst hl0; subst hh0
    have := hb 0 (by simp)
    refine ⟨.slice none 0 0, ?_, by simpa using DRel.nilsl⟩
    simp at this
    simp [Instr.sliceAt, Instr.slice, run_underlying hu, this, hT.run_sizeOf hn]
  · have hl0 : l = 0 := by simp at hh; omega
    have hh0 : h = 0 := by simpa using hh
    subst hl0; subst hh0
    have := hb 0 (by simp)
    refine ⟨.slice (some a) 0 0, ?_, by simpa using DRel.emp a⟩
    simp at this
    simp [Instr.sliceAt, Instr.slice, run_underlying hu, this, hT.run_sizeOf hn]
  · have hb' := hb cap hc
    have hlen : ((xs.take h).drop l).length = h - l := by simp; omega
    by_cases hm : cap = l
    · have hz : h - l = 0 := by omega
      have he' : (xs.take h).drop l = [] := List.eq_nil_of_length_eq_zero (by omega)
      refine ⟨.slice (some ⟨b, off, none⟩) (h - l) (cap - l), ?_, ?_⟩
      · simp [Instr.sliceAt, Instr.slice, run_underlying hu, hb', hT.run_sizeOf hn]; intro h; exact absurd hm h
      · rw [he', hz]
        exact DRel.of_cells (k := 0) (by simp only [flat, List.flatMap_nil]; exact ⟨by simp, by simp, by simp⟩) (by simp) (by simp) rfl
    · refine ⟨.slice (some ⟨b, off + l * n, none⟩) (h - l) (cap - l), ?_, ?_⟩
      · simp [Instr.sliceAt, Instr.slice, run_underlying hu, hb', hT.run_sizeOf hn, hm, addr_add]
      · refine DRel.of_cells (k := k) ?_ (fun x hx => hk x (List.mem_of_mem_take (List.mem_of_mem_drop hx))) (by omega) hlen.symm
        rcases hw with rfl | hw
        · rw [Nat.zero_mul, Nat.add_zero, List.drop_zero, flat_take hk h hh]
          exact hcells.take _
        · rw [flat_drop (fun x hx => hw x (List.mem_of_mem_take hx)) l (by simp; omega), flat_take hw h hh]
          exact (hcells.take _).drop _
end

section
variable {CG : CGT} {K : AV → Ws → Prop} {P : Program} {TT : Tr TI} (hT : TOk P TT)
include hT
theorem sliceSl_sound {T e n : Nat} (he : elemTy TT T = some e) (hn : Aw.sz TT e = some n) {W0 : World} {G : Gh} {ob : Nat → Option Ob} {w : World} (hG : Good W0 G ob w) {ρ : Operand → AV} {a : Act}
    (hρ : ∀ x, ARel G ob w (ρ x) (a.eval x)) {lo' hi' : Option Operand} {xv : AV} {xs : List DV} {ws : Ws} {u : Value} (hx : SealOf ob xv (.sl xs) ws) (hu : ARel G ob w xv u)
    (h : (sliceSl n xs ws (evO ρ lo') (evO ρ hi')).wp CG K) :
    ∃ val G' r, (Instr.sliceAt T u (lo'.map a.eval) (hi'.map a.eval) none).run P w = .ok val w ∧ K r ws ∧ Step W0 G ob w G' (obW ob ws) w ∧ ARel G' (obW ob ws) w r val := by
  obtain ⟨G1, st, hd⟩ := seal_first hG hx
  have hv := hd u hu
  have fin : ∀ {l h : Nat} {r : List DV}, l ≤ h → h ≤ xs.length → (l = 0 ∨ ∀ x ∈ xs, x.width = n) → r = (xs.take h).drop l → K (.d (.sl r)) ws →
      (∀ cap, xs.length ≤ cap → (Instr.sliceBounds true xs.length cap (lo'.map a.eval) (hi'.map a.eval) none).run P w = .ok (l, h, cap) w) →
      ∃ val G' r, (Instr.sliceAt T u (lo'.map a.eval) (hi'.map a.eval) none).run P w = .ok val w ∧ K r ws ∧ Step W0 G ob w G' (obW ob ws) w ∧ ARel G' (obW ob ws) w r val := by
    intro l h r hl hh hw hr hk hb
    obtain ⟨val, h1, h2⟩ := slice_part hT he hn hv hl hh hw hb
    subst hr
    exact ⟨val, G1, _, h1, hk, st, .d _ _ h2⟩
  unfold sliceSl at h
  cases lo' with
  | none =>
    cases hi' with
    | none => exact fin (Nat.zero_le _) (Nat.le_refl _) (.inl rfl) (by simp) (wp_ret_inv h) (fun cap hc => by simp [Instr.sliceBounds])
    | some ho =>
      simp only [evO] at h
      split at h
      · rename_i hh; cases hh
      · rename_i k m hm
        have hv := hρ ho
        have hm' : ρ ho = .d (.int k m) := by simpa using hm
        rw [hm'] at hv
        obtain ⟨h0, h1⟩ := h.l
        refine fin (Nat.zero_le _) (by omega : m.toNat ≤ xs.length) (.inl rfl) (by simp) (wp_ret_inv (need_inv h).r) (fun cap hc => ?_)
        have hb := run_sliceBound (P := P) (w := w) k m cap .sliceAcap h0 (by omega)
        simp [Instr.sliceBounds, hv.int, hb]
      · exact wp_fail_inv h
  | some lo =>
    simp only [evO] at h
    split at h
    · rename_i hh; cases hh
    · rename_i k l hl
      have hvl := hρ lo
      have hl' : ρ lo = .d (.int k l) := by simpa using hl
      rw [hl'] at hvl
      cases hi' with
      | none =>
        obtain ⟨⟨h0, h1⟩, hw⟩ := h.l
        refine fin (by omega : l.toNat ≤ xs.length) (Nat.le_refl _) (.inr hw) (by simp) (wp_ret_inv (need_inv h).r) (fun cap hc => ?_)
        have hb := run_sliceBound (P := P) (w := w) k l xs.length .sliceB h0 (by omega)
        simp [Instr.sliceBounds, hvl.int, hb]
      | some ho =>
        simp only at h
        split at h
        · rename_i hh; cases hh
        · rename_i k' m hm
          have hv := hρ ho
          have hm' : ρ ho = .d (.int k' m) := by simpa using hm
          rw [hm'] at hv
          obtain ⟨⟨h0, h1, h2⟩, hw⟩ := h.l
          refine fin (by omega : l.toNat ≤ m.toNat) (by omega) (.inr hw) rfl (wp_ret_inv (need_inv h).r) (fun cap hc => ?_)
          have hb := run_sliceBound (P := P) (w := w) k' m cap .sliceAcap (by omega) (by omega)
          have hb' := run_sliceBound (P := P) (w := w) k l m.toNat .sliceB h0 (by omega)
          simp [Instr.sliceBounds, hvl.int, hv.int, hb, hb']
        · exact wp_fail_inv h
    · exact wp_fail_inv h
end
end Aw

/-
  Aw, part P: append.
-/
set_option linter.unusedSimpArgs false
set_option linter.unusedVariables false
namespace Aw
open Go Go.RowKit

/-- What append is handed to add. -/
structure AppOk (G : Gh) (w : World) (n : Nat) (ys : List DV) (u : Value) : Prop where
  wid : ∀ y ∈ ys, y.width = n
  atm : ∀ c ∈ flat ys, c.atom = true
  reads : ∃ news, Reads w u ys.length n news ∧ (∀ (j : Nat) (c : DV) (v : Value), (flat ys)[j]? = some c → news[j]? = some v → DRel G.S w c v) ∧ ∀ v ∈ news, atomV v = true

theorem AppOk.nil (G : Gh) (w : World) (n : Nat) : AppOk G w n [] (.slice none 0 0) :=
  ⟨by simp, by simp [flat], [], ⟨by simp, none, 0, rfl, .inl ⟨rfl, rfl, rfl, rfl⟩⟩, by simp, by simp⟩
theorem AppOk.data {G : Gh} {w : World} {n : Nat} {ys : List DV} {u : Value} (h : DRel G.S w (.sl ys) u) (hw : ∀ y ∈ ys, y.width = n) : AppOk G w n ys u := by
  rcases h.slice with ⟨rfl, rfl⟩ | ⟨a, rfl, rfl⟩ | ⟨b, off, cap, k, rfl, hc, hk, hcells⟩
  · exact .nil G w n
  · exact ⟨by simp, by simp [flat], [], ⟨by simp, some a, 0, rfl, .inr ⟨a, rfl, Nat.le_refl _, by simp⟩⟩, by simp, by simp⟩
  · obtain ⟨vs, h1, h2, h3, h4⟩ := hcells.list
    exact ⟨hw, hcells.a, vs, ⟨by rw [h1, flat_length hw], some ⟨b, off, none⟩, cap, rfl, .inr ⟨_, rfl, hc, fun j u hu => by rw [addr_add]; exact h2 j u hu⟩⟩, h3, h4⟩
theorem ListB.app {G : Gh} {w : World} {k : Nat} {xs : List DV} {own : Bool} {b cap : Nat} (h : ListB G.S w k xs own b cap) : AppOk G w k xs (.slice (some ⟨b, 0, none⟩) xs.length cap) := by
  obtain ⟨vs, h1, h2, h3, h4⟩ := h.list
  exact ⟨h.wid, h.atm, vs, ⟨h1, some ⟨b, 0, none⟩, cap, rfl, .inr ⟨_, rfl, h.le, fun j u hu => by rw [addr_add, Nat.zero_add]; exact h2 j u hu⟩⟩, h3, h4⟩

section
variable {CG : CGT} {K : AV → Ws → Prop}
theorem appArg_inv {ob : Nat → Option Ob} {n : Nat} {x : AV} {k : Prop → List DV → Eff} (h : (appArg ob n x k).wp CG K) :
    ∃ p ys, (k p ys).wp CG K ∧ ∀ {W0 : World} {G : Gh} {w : World} {u : Value}, Good W0 G ob w → ARel G ob w x u → p → AppOk G w n ys u := by
  unfold appArg at h
  split at h
  · refine ⟨_, _, h, fun hG hu _ => ?_⟩
    cases hu; exact .nil _ _ _
  · exact ⟨_, _, h, fun hG hu hp => .data hu.dd hp⟩
  · split at h
    · rename_i a ys o ho
      split at h
      · rename_i hn
        have hn := natEq_true hn
        subst hn
        refine ⟨_, _, h, fun {W0 G w u} hG hu _ => ?_⟩
        cases hu with
        | lst _ _ o' ho' ha hv =>
          rw [ho] at ho'; cases ho'
          rw [hv _ _ _ rfl]
          rcases (hG.key _).list a ys o ho with ⟨e, e2⟩ | ⟨b, cap, hL, how, hB⟩
          · subst e; rw [e2]; exact .nil _ _ _
          · rw [hL]; exact hB.app
      · exact wp_fail_inv h
    · exact wp_fail_inv h
  · exact wp_fail_inv h
end

/-- A world in which nothing but the tape has been asked. -/
theorem drew_step {W0 : World} {G : Gh} {ob : Nat → Option Ob} {w : World} (hG : Good W0 G ob w) : Step W0 G ob w G ob w.drew :=
  ⟨⟨⟨hG.base.below.drew, hG.base.all, hG.base.old⟩, hG.own, fun key => ⟨fun cs h => by
      obtain ⟨h1, ⟨vs, T, h2, h3, h4, h5⟩, h6⟩ := (hG.key key).box cs h
      exact ⟨h1, ⟨vs, T, h2, h3, fun i c v hc hv => ARel.mono (w := w) (w' := w.drew) (fun _ _ h => h) (fun _ _ _ => rfl) (.refl _ _) (h4 i c v hc hv), h5⟩, h6⟩, fun s pos h => (hG.key key).iter s pos h, fun k xs own h => by
      rcases (hG.key key).list k xs own h with h1 | ⟨b, cap, h1, h2, h3⟩
      · exact .inl h1
      · exact .inr ⟨b, cap, h1, h2, ListB.mono (w := w) (w' := w.drew) (fun _ _ h => h) (fun _ _ _ => rfl) h3 rfl (fun _ h => h)⟩⟩⟩, .refl _ _, ⟨Nat.le_refl _, fun _ _ h => h, fun _ _ _ => rfl, fun _ _ _ => ⟨rfl, fun _ h => h⟩⟩, fun _ hb => .inl hb⟩

/-- A list's block is handed on to a longer list. -/
theorem give_step {W0 : World} {G : Gh} {ob : Nat → Option Ob} {w w' : World} (hG : Good W0 G ob w) {key d k : Nat} {xs ys : List DV} {own : Bool} {b cap : Nat}
    (ho : ob key = some (.list k xs own)) (hd : ob d = none) (hb : G.ow b = some key) (hB : ListB G.S w k xs own b cap) (hroom : xs.length + ys.length ≤ cap)
    (hsz : w'.heap.size = w.heap.size) (hos : w'.os = w.os) (htape : w'.tape = w.tape) (hout : w'.output = w.output)
    (hother : ∀ b', b' ≠ b → w'.heap[b']? = w.heap[b']?) (hkeep : ∀ i, G.S b i → w'.cell? ⟨b, i, none⟩ = w.cell? ⟨b, i, none⟩)
    (hw : ∀ y ∈ ys, y.width = k) (ha : ∀ c ∈ flat ys, c.atom = true)
    (hcells : ∃ cells T, w'.heap[b]? = some (.cells cells T (0, 0)) ∧ cells.size = cap * k ∧ (∀ (i : Nat) (c : DV), (flat (xs ++ ys))[i]? = some c → ∃ u, cells[i]? = some u ∧ DRel G.S w c u)) :
    ∃ G', Step W0 G ob w G' (updO (updO ob key .dead) d (.list k (xs ++ ys) own)) w' ∧
      ARel G' (updO (updO ob key .dead) d (.list k (xs ++ ys) own)) w' (.lst d) (.slice (some ⟨b, 0, none⟩) (xs.length + ys.length) cap) := by
  let v : Value := .slice (some ⟨b, 0, none⟩) (xs.length + ys.length) cap
  let G' : Gh := { S := G.S, B := G.B, LV := fun key' => if key' = d then v else G.LV key', ow := fun b' => if b' = b then some d else G.ow b' }
  have hdk : d ≠ key := fun e => by rw [e, ho] at hd; cases hd
  have hT : Turns G ob G' (updO (updO ob key .dead) d (.list k (xs ++ ys) own)) := by
    intro key' o' h
    have hne : key' ≠ d := fun e => by rw [e, hd] at h; cases h
    by_cases e : key' = key
    · subst e
      exact ⟨.dead, by rw [updO_ne _ _ hne, updO_self], rfl, fun k xs own e => by cases e⟩
    · exact ⟨o', by rw [updO_ne _ _ hne, updO_ne _ _ e]; exact h, rfl, fun k xs own e => ⟨by simp [G', hne], xs, own, e, rfl⟩⟩
  have hwm : ∀ b' i, G.S b' i → w'.cell? ⟨b', i, none⟩ = w.cell? ⟨b', i, none⟩ := by
    intro b' i h
    by_cases e : b' = b
    · subst e; exact hkeep i h
    · exact World.cell?_of_block (w := w) (hother b' e)
  have hb0 := hG.own b key hb
  refine ⟨G', ⟨?_, hT, ⟨by omega, fun _ _ h => h, hwm, fun b' hb' hF => ⟨hother b' (fun e => hF (by rw [e, hb]; simp)), fun _ h => h⟩⟩, fun b' hb' => ?_⟩,
    .lst d _ _ (updO_self _ _ _) rfl (fun _ _ _ _ => by simp [G', v])⟩
  · refine hG.transfer (fun key' => key' = key ∨ key' = d) ⟨hG.base.below.trans ⟨hos, htape, hout, by omega, fun b' hb' => hother b' (by omega)⟩, hG.base.all, fun b' i h => by rw [hsz]; exact hG.base.old b' i h⟩
      (fun _ _ h => h) hwm hT (fun b' key' h => ?_) (fun key' hk => ?_) (fun b' key' hk h => ?_) (fun key' hk => ?_)
    · rw [hsz]
      by_cases e : b' = b
      · subst e; exact hb0
      · exact hG.own b' key' (by simpa [G', e] using h)
    · have h1 : key' ≠ key := fun e => hk (.inl e)
      have h2 : key' ≠ d := fun e => hk (.inr e)
      exact ⟨by rw [updO_ne _ _ h2, updO_ne _ _ h1], rfl, by simp [G', h2]⟩
    · have : b' ≠ b := fun e => by rw [e, hb] at h; cases h; exact hk (.inl rfl)
      exact ⟨by simp [G', this, h], hother b' this, fun _ h => h⟩
    · rcases hk with rfl | rfl
      · refine ⟨fun cs'' h => ?_, fun s pos h => ?_, fun k' xs' own' h => ?_⟩ <;> rw [updO_ne _ _ hdk.symm, updO_self] at h <;> cases h
      · refine ⟨fun cs'' h => ?_, fun s pos h => ?_, fun k' xs' own' h => ?_⟩ <;> rw [updO_self] at h <;> cases h
        obtain ⟨cells, T, c1, c2, c3⟩ := hcells
        refine .inr ⟨b, cap, by simp [G', v], by simp [G'], by simpa using hroom, fun y hy => ?_, ⟨cells, T, c1, c2, fun i c hc => ?_⟩, fun c hc => ?_, fun i h1 h2 => hB.free i ?_ h2, fun ho i h1 => hB.mine ho i h1⟩
        · rcases List.mem_append.1 hy with hy | hy
          · exact hB.wid y hy
          · exact hw y hy
        · obtain ⟨u, hu, hdr⟩ := c3 i c hc
          exact ⟨u, hu, hdr.mono (fun _ _ h => h) hwm⟩
        · rw [flat_append] at hc
          rcases List.mem_append.1 hc with hc | hc
          · exact hB.atm c hc
          · exact ha c hc
        · refine Nat.le_trans (Nat.mul_le_mul_right _ ?_) h1
          simp
  · by_cases e : b' = b
    · subst e; exact .inl (by rw [hb]; simp)
    · exact .inl (by simpa [G', e] using hb')

section
variable {CG : CGT} {K : AV → Ws → Prop} {P : Program} {TT : Tr TI} (hT : TOk P TT)
include hT
/-- append onto what is no block yet, or has no room. -/
theorem append_fresh {sT e ty : Nat} {ei : TI} (he : elemTy TT sT = some e) (hei : TT.get e = some ei) {W0 : World} {G : Gh} {ob : Nat → Option Ob} {w : World} (hG : Good W0 G ob w) {d : Nat} (hd : ob d = none)
    {xs ys : List DV} {a : Option Addr} {cap : Nat} {u : Value} (hs : AppOk G w ei.size xs (.slice a xs.length cap)) (hx : AppOk G w ei.size ys u) (hg : cap < xs.length + ys.length)
    (hby : (xs.length + ys.length) * ei.bytes ≤ 70368744177664) (hb0 : ei.bytes ≠ 0) (own : Bool) :
    ∃ val w' G', (Builtin.append_ #[sT, sT] ty #[.slice a xs.length cap, u]).run P w = .ok val w' ∧ Step W0 G ob w G' (updO ob d (.list ei.size (xs ++ ys) own)) w' ∧
      ARel G' (updO ob d (.list ei.size (xs ++ ys) own)) w' (.lst d) val := by
  obtain ⟨olds, ho, hor, hoa⟩ := hs.reads
  obtain ⟨news, hn, hnr, hna⟩ := hx.reads
  obtain ⟨info, z, h1, h2, h3, h4, h5, h6, h7⟩ := hT.row hei
  have hlen : xs.length + ys.length ≤ 70368744177664 := Nat.le_trans (Nat.le_mul_of_pos_right _ (Nat.pos_of_ne_zero hb0)) hby
  have hfit : Builtin.nextslicecap (xs.length + ys.length) cap * info.bytes ≤ 281474976710656 := by
    rw [h3]; exact growslice_fits hg (by omega)
  rw [← h2] at ho hn
  have hrun := run_append_new' w sT ty e info z (hT.underlying_slice he) h1 h5 a xs.length cap olds ho u ys.length news hn hg (by omega) hfit
  have hge := grownCap_ge w (xs.length + ys.length) cap e
  have hzs : z.cells.size = info.size := by
    have := (zsOk_rel h6).1
    simp at this; omega
  have hwid : ∀ x ∈ xs ++ ys, x.width = ei.size := fun x hx' => by
    rcases List.mem_append.1 hx' with h | h
    · exact hs.wid x h
    · exact hx.wid x h
  have hol : olds.length = (flat xs).length := by rw [ho.1, flat_length hs.wid, h2]
  have hnl : news.length = (flat ys).length := by rw [hn.1, flat_length hx.wid, h2]
  have hcsz : (olds.toArray ++ news.toArray ++ Builtin.zeroCells z.cells (grownCap w (xs.length + ys.length) cap e - (xs.length + ys.length))).size = grownCap w (xs.length + ys.length) cap e * ei.size := by
    simp only [Array.size_append, List.size_toArray, size_zeroCells, hzs, ho.1, hn.1, h2, ← Nat.add_mul]
    congr 1; omega
  have hst := drew_step hG
  obtain ⟨G', st, hr⟩ := list_step hst.good hd ei.size (xs ++ ys) own (olds.toArray ++ news.toArray ++ Builtin.zeroCells z.cells (grownCap w (xs.length + ys.length) cap e - (xs.length + ys.length))) e
    (grownCap w (xs.length + ys.length) cap e) (by simpa using hge) hwid hcsz (fun c hc => by
      rw [flat_append] at hc
      rcases List.mem_append.1 hc with h | h
      · exact hs.atm c h
      · exact hx.atm c h) (fun i c hc => by
      rw [flat_append] at hc
      by_cases hi : i < (flat xs).length
      · rw [List.getElem?_append_left hi] at hc
        have hlt : i < olds.length := by omega
        refine ⟨olds[i], ?_, DRel.mono (w := w) (w' := w.drew) (fun _ _ h => h) (fun _ _ _ => rfl) (hor i c _ hc (List.getElem?_eq_getElem hlt))⟩
        rw [Array.getElem?_append_left (by simp; omega), Array.getElem?_append_left (by simpa using hlt)]
        simp [hlt]
      · rw [List.getElem?_append_right (by omega)] at hc
        have hj := (List.getElem?_eq_some_iff.1 hc).1
        have hlt : i - olds.length < news.length := by omega
        refine ⟨news[i - olds.length], ?_, DRel.mono (w := w) (w' := w.drew) (fun _ _ h => h) (fun _ _ _ => rfl) (hnr _ c _ (by rw [hol]; exact hc) (List.getElem?_eq_getElem hlt))⟩
        rw [Array.getElem?_append_left (by simp; omega), Array.getElem?_append_right (by simp; omega)]
        simp [hlt])
  exact ⟨_, _, G', hrun, hst.trans st, by simpa using hr⟩

omit hT in
theorem run_append_none (w : World) (t ty e : TypeId) (i : TypeInfo) (ht : P.underlying t = some (.slice e)) (hi : P.info? e = some i) {x : Value} {n : Nat} (hx : Reads w x 0 n []) :
    (Builtin.append_ #[t, t] ty #[.slice none 0 0, x]).run P w = .ok (.slice none 0 0) w := by
  have hf : (Builtin.firstCells i.size 0 x).run P w = .ok #[] w := by
    obtain ⟨hl, a, c, rfl, ⟨rfl, -, -, -⟩ | ⟨a', rfl, -, h⟩⟩ := hx
    · exact run_firstCells_none ..
    · exact run_firstCells_some (P := P) w i.size 0 a' 0 c [] (by simp) (by simp)
  simp [Builtin.append_, run_underlying ht, Go.sizeOf, typeInfo, hi, run_lenOf_reads hx, hf]

theorem append_sound {sT d ty : Nat} {s x : AV} {us ux : Value} {W0 : World} {G : Gh} {ob : Nat → Option Ob} {w : World} (hG : Good W0 G ob w)
    (hs : ARel G ob w s us) (hx : ARel G ob w x ux) (hok : ∀ v ws, K v ws → ∀ o, W.new d o ∈ ws → ob d = none) (h : (appendE TT ob d sT s x).wp CG K) :
    ∃ val w' G' ws, (Builtin.append_ #[sT, sT] ty #[us, ux]).run P w = .ok val w' ∧ K (.lst d) ws ∧ Step W0 G ob w G' (obW ob ws) w' ∧ ARel G' (obW ob ws) w' (.lst d) val := by
  unfold appendE at h
  split at h
  · exact wp_fail_inv h
  · rename_i e he
    split at h
    · exact wp_fail_inv h
    · rename_i ei hei
      obtain ⟨info, z, h1, h2, h3, h4, h5, h6, h7⟩ := hT.row hei
      split at h
      · exact wp_fail_inv h
      · rename_i m hm
        have hb0 : ei.bytes ≠ 0 := by omega
        split at h
        · cases hs
          obtain ⟨p, ys, h8, h9⟩ := appArg_inv h
          obtain ⟨hp, hby⟩ := h8.l
          have hk := wp_ret_inv (need_inv h8).r
          have hd := hok _ _ hk _ (List.mem_singleton.2 rfl)
          have ha := h9 hG hx hp
          by_cases hy : ys = []
          · subst hy
            obtain ⟨news, hn, -⟩ := ha.reads
            obtain ⟨G', st, hr⟩ := nil_step hG hd ei.size true
            have hn' : news = [] := List.eq_nil_of_length_eq_zero (by simpa using hn.1)
            subst hn'
            exact ⟨_, w, G', _, run_append_none w sT ty e info (hT.underlying_slice he) h1 hn, hk, st, hr⟩
          · have hpos : 0 < ys.length := List.length_pos_iff.2 hy
            obtain ⟨val, w', G', h10, h11, h12⟩ := append_fresh hT (ty := ty) he hei hG hd (xs := []) (a := none) (cap := 0) (.nil G w ei.size) ha (by simpa using hpos) (by simpa using hby) hb0 true
            exact ⟨val, w', G', _, h10, hk, h11, h12⟩
        · rename_i key
          split at h
          · rename_i k xs own ho
            split at h
            · rename_i hkn
              have hkn := natEq_true hkn
              subst hkn
              obtain ⟨p, ys, h8, h9⟩ := appArg_inv h
              obtain ⟨hp, hby⟩ := h8.l
              have hk := wp_ret_inv (need_inv h8).r
              have hd := hok _ _ hk (.list ei.size (xs ++ ys) own) (by simp)
              have hdk : d ≠ key := fun e => by rw [e, ho] at hd; cases hd
              have ha := h9 hG hx hp
              have hdd := dead_step hG ho
              have hd1 : updO ob key .dead d = none := by rw [updO_ne _ _ hdk]; exact hd
              cases hs with
              | lst _ _ o' ho' hat hv =>
                rw [ho] at ho'; cases ho'
                rw [hv _ _ _ rfl]
                rcases (hG.key key).list _ xs own ho with ⟨e1, e2⟩ | ⟨b, cap, hL, how, hB⟩
                · subst e1
                  rw [e2]
                  by_cases hy : ys = []
                  · subst hy
                    obtain ⟨news, hn, -⟩ := ha.reads
                    obtain ⟨G', st, hr⟩ := nil_step hdd.good hd1 ei.size own
                    have hn' : news = [] := List.eq_nil_of_length_eq_zero (by simpa using hn.1)
                    subst hn'
                    exact ⟨_, w, G', _, run_append_none w sT ty e info (hT.underlying_slice he) h1 hn, hk, hdd.trans st, hr⟩
                  · have hpos : 0 < ys.length := List.length_pos_iff.2 hy
                    obtain ⟨val, w', G', h10, h11, h12⟩ := append_fresh hT (ty := ty) he hei hdd.good hd1 (xs := []) (a := none) (cap := 0) (.nil G w ei.size) ha (by simpa using hpos) (by simpa using hby) hb0 own
                    exact ⟨val, w', G', _, h10, hk, hdd.trans h11, h12⟩
                · rw [hL]
                  by_cases hroom : xs.length + ys.length ≤ cap
                  · obtain ⟨news, hn, hnr, hna⟩ := ha.reads
                    obtain ⟨cells, T, c1, c2, c3⟩ := hB.blk
                    have hnl : news.length = ys.length * ei.size := hn.1
                    have hmul : xs.length * ei.size + news.length ≤ cap * ei.size := by rw [hnl, ← Nat.add_mul]; exact Nat.mul_le_mul_right _ hroom
                    rw [← h2] at hn
                    have hrun := run_append_room' w sT ty e info (hT.underlying_slice he) h1 b xs.length cap T cells c1 ux ys.length news hn (fun v hv => oneCell_of_atomV (hna v hv)) hroom (by rw [h2, c2]; exact hmul)
                    rw [h2] at hrun
                    have hle : xs.length * ei.size + news.length ≤ cells.toList.length := by simpa [c2] using hmul
                    have hfx := flat_length hB.wid
                    have hfy := flat_length ha.wid
                    obtain ⟨G', st, hr⟩ := give_step (w' := w.setRow b (cells.toList.take (xs.length * ei.size) ++ news ++ cells.toList.drop (xs.length * ei.size + news.length)).toArray) (ys := ys) hG ho hd how hB hroom (by simp) (by simp) rfl rfl
                      (fun b' hb' => setRow_other _ _ _ _ hb') (fun i hi => by
                        rw [cell?_of_cells (setRow_heap _ _ _ _ _ _ c1), cell?_of_cells c1]
                        have hsp := splice_get _ _ _ hle i
                        simp only [List.getElem?_toArray, hsp]
                        by_cases hin : xs.length * ei.size ≤ i ∧ i < xs.length * ei.size + news.length
                        · exact absurd hi (hB.free i hin.1 (by omega))
                        · rw [if_neg hin]; simp) ha.wid ha.atm ⟨_, T, setRow_heap _ _ _ _ _ _ c1, by
                        have := splice_length _ _ _ hle
                        simpa [c2] using this, fun i c hc => by
                        have hsp := splice_get _ _ _ hle i
                        simp only [List.getElem?_toArray, hsp]
                        rw [flat_append] at hc
                        by_cases hin : i < (flat xs).length
                        · rw [List.getElem?_append_left hin] at hc
                          rw [if_neg (by omega)]
                          obtain ⟨u, hu, hdr⟩ := c3 i c hc
                          exact ⟨u, by simpa using hu, hdr⟩
                        · rw [List.getElem?_append_right (by omega)] at hc
                          have hj := (List.getElem?_eq_some_iff.1 hc).1
                          rw [if_pos (by omega)]
                          have hlt : i - xs.length * ei.size < news.length := by omega
                          exact ⟨_, List.getElem?_eq_getElem hlt, hnr _ c _ (by rw [← hfx]; exact hc) (List.getElem?_eq_getElem hlt)⟩⟩
                    exact ⟨_, _, G', _, hrun, hk, st, hr⟩
                  · obtain ⟨val, w', G', h10, h11, h12⟩ := append_fresh hT (ty := ty) he hei hdd.good hd1 hB.app ha (by omega) hby hb0 own
                    exact ⟨val, w', G', _, h10, hk, hdd.trans h11, h12⟩
            · exact wp_fail_inv h
          · exact wp_fail_inv h
        · exact wp_fail_inv h
end
end Aw

/-
  Aw, part Q: fields, indices, the walk over a string.
-/
set_option linter.unusedSimpArgs false
set_option linter.unusedVariables false
namespace Aw
open Go Go.RowKit

section
variable {CG : CGT} {K : AV → Ws → Prop} {P : Program} {TT : Tr TI} (hT : TOk P TT)
include hT

theorem fieldAt_inv {T f off n : Nat} (h : Aw.fieldAt TT T f = some (off, n)) :
    ∃ gs fd, P.underlying T = some (.struct gs) ∧ gs[f]? = some fd ∧ fd.offset = off ∧ Aw.sz TT fd.type = some n ∧ fieldTy TT T f = some fd.type ∧ n ≠ 0 := by
  unfold Aw.fieldAt at h
  split at h
  · rename_i i hi
    split at h
    · rename_i fs hd
      split at h
      · rename_i off' ty hf
        split at h
        · rename_i m hm
          cases h
          obtain ⟨gs, hu, hfo⟩ := hT.underlying_struct hi hd
          obtain ⟨fd, h1, h2, h3⟩ := fieldsOk_get hfo hf
          refine ⟨gs, fd, hu, by simpa using h1, h2, by rw [h3]; exact hm, ?_, by omega⟩
          simp [fieldTy, hi, hd, hf, h3]
        · cases h
      · cases h
    · cases h
  · cases h

theorem fieldAddr_run {T f off n : Nat} (h : Aw.fieldAt TT T f = some (off, n)) (b o : Nat) (w : World) :
    (Instr.fieldAt T (.pointer (some ⟨b, o, none⟩)) f).run P w = .ok (.pointer (some ⟨b, o + off, none⟩)) w := by
  obtain ⟨gs, fd, hu, hf, ho, hs, -, hn⟩ := fieldAt_inv hT h
  simp [Instr.fieldAt, run_underlying hu, hf, Instr.sureAddr, fieldPlace, hT.run_sizeOf hs, hn, addr_add, ho]

theorem field_run {T f off n : Nat} (h : Aw.fieldAt TT T f = some (off, n)) {us : List Value} {w : World} (hl : off + n ≤ us.length) :
    (∀ ty, fieldTy TT T f = some ty → Aw.isAgg TT ty = some true → (Instr.field T (.agg ⟨us⟩) f).run P w = .ok (.agg ⟨(us.drop off).take n⟩) w) ∧
    (∀ ty u, fieldTy TT T f = some ty → Aw.isAgg TT ty = some false → us[off]? = some u → (Instr.field T (.agg ⟨us⟩) f).run P w = .ok u w) := by
  obtain ⟨gs, fd, hu, hf, ho, hs, hty, hn⟩ := fieldAt_inv hT h
  refine ⟨fun ty h1 h2 => ?_, fun ty u h1 h2 h3 => ?_⟩
  · rw [hty] at h1; cases h1
    have e : (⟨us⟩ : Array Value).extract off (off + n) = ⟨(us.drop off).take n⟩ := by
      apply Array.ext'; simp
    simp [Instr.field, run_underlying hu, hf, part, asAgg, hT.run_isAgg h2, hT.run_sizeOf hs, ho, e]
  · rw [hty] at h1; cases h1
    have e : (⟨us⟩ : Array Value)[off]? = some u := by simpa using h3
    simp [Instr.field, run_underlying hu, hf, part, asAgg, hT.run_isAgg h2, ho, e, h3]

theorem indexAddr_run {T e k : Nat} (he : elemTy TT T = some e) (hk : Aw.sz TT e = some k) {b o len cap : Nat} {kk : IntKind} {n : Int} (h0 : 0 ≤ n) (h1 : n.toNat < len) (w : World) :
    (Instr.indexAt T (.slice (some ⟨b, o, none⟩) len cap) (.int kk n)).run P w = .ok (.pointer (some ⟨b, o + n.toNat * k, none⟩)) w := by
  have h2 : n < len := by omega
  simp [Instr.indexAt, asIntOf, run_underlying (hT.underlying_slice he), h0, h2, hT.run_sizeOf hk, addr_add]

theorem index_run {T : Nat} {i : TI} (hi : TT.get T = some i) (hd : i.desc = .str) {s : List UInt8} {kk : IntKind} {n : Int} (h0 : 0 ≤ n) (h1 : n.toNat < s.length) (w : World) :
    (Instr.index T (.string ⟨s.toArray⟩) (.int kk n)).run P w = .ok (.int .u8 ((s.getD n.toNat 0).toNat : Int)) w := by
  have hu := hT.underlying_str hi hd
  have e : (⟨s.toArray⟩ : ByteArray)[n.toNat]? = some (s.getD n.toNat 0) := by
    have hs : n.toNat < (⟨s.toArray⟩ : ByteArray).size := by rw [size_mk]; exact h1
    rw [getElem?_pos (⟨s.toArray⟩ : ByteArray) n.toNat hs]
    congr 1
    show s.toArray[n.toNat] = _
    simp [List.getD, h1]
  simp only [Instr.index, asIntOf, Sem.run_bind, Sem.run_pure, Result.andThen_ok, run_underlying hu]
  simp [h0, e]

theorem convert_run {sT dT : Nat} {i si : TI} {k kk : IntKind} {n : Int} (hs : TT.get sT = some si) (hi : TT.get dT = some i) (hd : i.desc = .int k) (w : World) (hus : ∃ d, P.underlying sT = some d) :
    (convert sT dT (.int kk n)).run P w = .ok (.int k (k.wrap n)) w := by
  obtain ⟨d, hd'⟩ := hus
  have hu := hT.underlying_int hi hd
  simp [convert, run_underlying hu, run_underlying hd', Conv.intToInt]
end

/-- One step of the walk over a string. -/
theorem next_step {W0 : World} {G : Gh} {ob : Nat → Option Ob} {w : World} (hG : Good W0 G ob w) {P : Program} {key pos : Nat} {s : List UInt8} (ho : ob key = some (.iter s pos)) (ty : TypeId) :
    (pos < s.length → ∃ w', (Instr.next (.pointer (some ⟨G.B key, 0, none⟩)) true ty).run P w = .ok (.tuple #[.bool true, .int .i64 pos, .int .i32 (udec s pos).1]) w' ∧
      Step W0 G ob w G (updO ob key (.iter s (pos + (udec s pos).2))) w') ∧
    (¬ pos < s.length → (Instr.next (.pointer (some ⟨G.B key, 0, none⟩)) true ty).run P w = .ok (.tuple #[.bool false]) w) := by
  obtain ⟨how, hb⟩ := (hG.key key).iter s pos ho
  have hobj : (getObj (G.B key)).run P w = .ok (.stringIter ⟨s.toArray⟩ pos) w := by simp [getObj, Sem.run, hb]
  have hlt := (hG.own _ _ how).2
  refine ⟨fun hp => ?_, fun hp => ?_⟩
  · have hset : (setObj (G.B key) (.stringIter ⟨s.toArray⟩ (pos + (udec s pos).2))).run P w =
        .ok () { w with heap := w.heap.setIfInBounds (G.B key) (.stringIter ⟨s.toArray⟩ (pos + (udec s pos).2)) } := by
      simp [setObj, Sem.run, hb]
    refine ⟨{ w with heap := w.heap.setIfInBounds (G.B key) (.stringIter ⟨s.toArray⟩ (pos + (udec s pos).2)) }, ?_, ?_⟩
    · simp only [Instr.next, Sem.run_bind, hobj, Result.andThen_ok]
      rw [if_pos (by rw [size_mk]; exact hp)]
      simp only [Sem.run_bind]
      have hset' := hset
      unfold udec at hset'
      simp only [hset', Result.andThen_ok]
      rfl
    · refine write_step hG ho how (by simp) rfl rfl rfl (fun b' hb' => ?_) (fun i hi => ?_) (fun k xs own e => by cases e) ?_
      · simp only
        rw [Array.getElem?_setIfInBounds_ne (Ne.symm hb')]
      · simp only [World.cell?]
        rw [Array.getElem?_setIfInBounds_self_of_lt hlt, hb]
      · intro hm hdm
        refine ⟨fun cs'' h => ?_, fun s pos h => ?_, fun k' xs' own' h => ?_⟩ <;> rw [updO_self] at h <;> cases h
        refine ⟨how, ?_⟩
        simp only
        rw [Array.getElem?_setIfInBounds_self_of_lt hlt]
  · simp only [Instr.next, Sem.run_bind, hobj, Result.andThen_ok]
    rw [if_neg (by rw [size_mk]; exact hp)]
    rfl
end Aw

/-
  Aw, part R: calls.
-/
set_option linter.unusedSimpArgs false
set_option linter.unusedVariables false
namespace Aw
open Go Go.RowKit

section
variable {CG : CGT} {K : AV → Ws → Prop}
/-- The arguments of a call: each is data, or a pointer to the box that stands at its number in ks. -/
def ArgsOf (ob : Nat → Option Ob) (ρ : Operand → AV) (ks : List Nat) (args : List Operand) (vs : List AV) (wss : List Ws) : Prop :=
  args.length = vs.length ∧ args.length = wss.length ∧ ∀ (i : Nat) (o : Operand) (v : AV) (ws : Ws), args[i]? = some o → vs[i]? = some v → wss[i]? = some ws →
    (∃ key off j, ρ o = .ptr key off ∧ ks[j]? = some key ∧ v = .ptr j off ∧ ws = []) ∨ (∃ x, v = .d x ∧ SealOf ob (ρ o) x ws) ∨ (∃ c key off j, ρ o = .clo c key off ∧ ks[j]? = some key ∧ v = .clo c j off ∧ ws = [])
theorem argsK_inv {ob : Nat → Option Ob} {ρ : Operand → AV} : ∀ {args : List Operand} {ks : List Nat} {k : List Nat → List AV → Ws → Eff}, (argsK ob ρ ks args k).wp CG K →
    ∃ ks' vs wss, (k ks' vs (List.flatten wss)).wp CG K ∧ (∃ t, ks' = ks ++ t) ∧ ArgsOf ob ρ ks' args vs wss
  | [], ks, k, h => ⟨ks, [], [], h, ⟨[], by simp⟩, rfl, rfl, by simp⟩
  | o :: r, ks, k, h => by
    simp only [argsK] at h
    have data : ∀ (h : (sealK ob (ρ o) fun x ws => argsK ob ρ ks r fun ks vs ws' => k ks (.d x :: vs) (ws ++ ws')).wp CG K),
        ∃ ks' vs wss, (k ks' vs (List.flatten wss)).wp CG K ∧ (∃ t, ks' = ks ++ t) ∧ ArgsOf ob ρ ks' (o :: r) vs wss := by
      intro h
      obtain ⟨x, ws, h1, h2⟩ := sealK_inv h
      obtain ⟨ks', vs, wss, h3, ht, h4, h5, h6⟩ := argsK_inv h1
      refine ⟨ks', .d x :: vs, ws :: wss, by simpa using h3, ht, by simp [h4], by simp [h5], fun i o' v' ws' ho hv hw => ?_⟩
      cases i with
      | zero => simp at ho hv hw; subst ho; subst hv; subst hw; exact .inr (.inl ⟨x, rfl, h2⟩)
      | succ i => exact h6 i o' v' ws' (by simpa using ho) (by simpa using hv) (by simpa using hw)
    split at h
    · rename_i key off hk
      split at h
      · rename_i j hj
        obtain ⟨ks', vs, wss, h3, ⟨t, ht⟩, h4, h5, h6⟩ := argsK_inv h
        refine ⟨ks', .ptr j off :: vs, [] :: wss, by simpa using h3, ⟨t, ht⟩, by simp [h4], by simp [h5], fun i o' v' ws' ho hv hw => ?_⟩
        cases i with
        | zero =>
          simp at ho hv hw; subst ho; subst hv; subst hw
          refine .inl ⟨key, off, j, hk, ?_, rfl, rfl⟩
          have hlt := List.idxOf?_eq_some_iff.1 hj
          obtain ⟨hlt, he, -⟩ := hlt
          rw [ht, List.getElem?_append_left hlt, List.getElem?_eq_getElem hlt]
          simpa using he
        | succ i => exact h6 i o' v' ws' (by simpa using ho) (by simpa using hv) (by simpa using hw)
      · rw [outL_eq] at h
        obtain ⟨ks', vs, wss, h3, ⟨t, ht⟩, h4, h5, h6⟩ := argsK_inv h
        refine ⟨ks', .ptr ks.length off :: vs, [] :: wss, by simpa using h3, ⟨key :: t, by simp [ht]⟩, by simp [h4], by simp [h5], fun i o' v' ws' ho hv hw => ?_⟩
        cases i with
        | zero =>
          simp at ho hv hw; subst ho; subst hv; subst hw
          exact .inl ⟨key, off, ks.length, hk, by rw [ht]; simp, rfl, rfl⟩
        | succ i => exact h6 i o' v' ws' (by simpa using ho) (by simpa using hv) (by simpa using hw)
    · rename_i c key off hk
      split at h
      · rename_i j hj
        obtain ⟨ks', vs, wss, h3, ⟨t, ht⟩, h4, h5, h6⟩ := argsK_inv h
        refine ⟨ks', .clo c j off :: vs, [] :: wss, by simpa using h3, ⟨t, ht⟩, by simp [h4], by simp [h5], fun i o' v' ws' ho hv hw => ?_⟩
        cases i with
        | zero =>
          simp at ho hv hw; subst ho; subst hv; subst hw
          refine .inr (.inr ⟨c, key, off, j, hk, ?_, rfl, rfl⟩)
          have hlt := List.idxOf?_eq_some_iff.1 hj
          obtain ⟨hlt, he, -⟩ := hlt
          rw [ht, List.getElem?_append_left hlt, List.getElem?_eq_getElem hlt]
          simpa using he
        | succ i => exact h6 i o' v' ws' (by simpa using ho) (by simpa using hv) (by simpa using hw)
      · rw [outL_eq] at h
        obtain ⟨ks', vs, wss, h3, ⟨t, ht⟩, h4, h5, h6⟩ := argsK_inv h
        refine ⟨ks', .clo c ks.length off :: vs, [] :: wss, by simpa using h3, ⟨key :: t, by simp [ht]⟩, by simp [h4], by simp [h5], fun i o' v' ws' ho hv hw => ?_⟩
        cases i with
        | zero =>
          simp at ho hv hw; subst ho; subst hv; subst hw
          exact .inr (.inr ⟨c, key, off, ks.length, hk, by rw [ht]; simp, rfl, rfl⟩)
        | succ i => exact h6 i o' v' ws' (by simpa using ho) (by simpa using hv) (by simpa using hw)
    · exact data h
theorem ArgsOf.ws {ob : Nat → Option Ob} {ρ : Operand → AV} {ks : List Nat} {args : List Operand} {vs : List AV} {wss : List Ws} (h : ArgsOf ob ρ ks args vs wss) : SealWs ob wss.flatten := by
  intro e he
  obtain ⟨ws, hws, he⟩ := List.mem_flatten.1 he
  obtain ⟨i, hi⟩ := List.getElem?_of_mem hws
  have hlt := (List.getElem?_eq_some_iff.1 hi).1
  obtain ⟨h1, h2, h3⟩ := h
  rcases h3 i _ _ ws (List.getElem?_eq_getElem (by omega)) (List.getElem?_eq_getElem (by omega)) hi with ⟨key, off, j, -, -, -, rfl⟩ | ⟨x, -, hs⟩ | ⟨c, key, off, j, -, -, -, rfl⟩
  · cases he
  · exact hs.ws e he
  · cases he

/-- Cells that came back. -/
theorem mapD_eq (l : List DV) : mapD l = l.map AV.d := by
  induction l with
  | nil => rfl
  | cons x l ih => simp [mapD, ih]
theorem backK_inv {ck : Option (Option Nat)} : ∀ {n : Nat} {ps : List PV} {k : List AV → Ws → Eff}, (backK ck n ps k).wp CG K →
    ∃ vs ws, (k vs ws).wp CG K ∧ vs.length = ps.length ∧
      (∀ (j : Nat) (p : PV), ps[j]? = some p → (∀ x, p = .d x → vs[j]? = some (.d x)) ∧ (∀ a xs o, p = .own a xs o → vs[j]? = some (.lst (n + j)) ∧ W.new (n + j) (.list a xs o) ∈ ws) ∧ (∀ c off, p = .clo c off → ∃ key, ck = some (some key) ∧ vs[j]? = some (.clo c key off)) ∧
        (∀ xs, p = .new xs → ck = some none ∧ vs[j]? = some (.ptr (n + j) 0) ∧ W.new (n + j) (.box (xs.map .d)) ∈ ws)) ∧
      (∀ e ∈ ws, (∃ j a xs o, e = .new (n + j) (.list a xs o) ∧ ps[j]? = some (.own a xs o)) ∨ (ck = some none ∧ ∃ j xs, e = .new (n + j) (.box (xs.map .d)) ∧ ps[j]? = some (.new xs))) ∧ ws.Pairwise (fun a b => ∀ k1 o1 k2 o2, a = .new k1 o1 → b = .new k2 o2 → k1 < k2)
  | n, [], k, h => ⟨[], [], h, rfl, by simp, by simp, .nil⟩
  | n, .d x :: r, k, h => by
    simp only [backK] at h
    obtain ⟨vs, ws, h1, h2, h3, h4, h5⟩ := backK_inv h
    refine ⟨.d x :: vs, ws, h1, by simp [h2], fun j p hp => ?_, fun e he => ?_, h5⟩
    · cases j with
      | zero => simp at hp; subst hp; exact ⟨fun y e => by cases e; rfl, fun a xs o e => (by cases e), fun c off e => (by cases e), fun xs e => (by cases e)⟩
      | succ j =>
        have := h3 j p (by simpa using hp)
        rw [show n + 1 + j = n + (j + 1) by omega] at this
        simpa using this
    · rcases h4 e he with ⟨j, a, xs, o, he, hp⟩ | ⟨hck, j, xs, he, hp⟩
      · exact .inl ⟨j + 1, a, xs, o, by rw [he, show n + 1 + j = n + (j + 1) by omega], by simpa using hp⟩
      · exact .inr ⟨hck, j + 1, xs, by rw [he, show n + 1 + j = n + (j + 1) by omega], by simpa using hp⟩
  | n, .own a xs o :: r, k, h => by
    simp only [backK] at h
    obtain ⟨vs, ws, h1, h2, h3, h4, h5⟩ := backK_inv h
    refine ⟨.lst n :: vs, .new n (.list a xs o) :: ws, h1, by simp [h2], fun j p hp => ?_, fun e he => ?_, ?_⟩
    · cases j with
      | zero => simp at hp; subst hp; exact ⟨fun y e => (by cases e), fun a' xs' o' e => (by cases e; exact ⟨rfl, List.mem_cons_self ..⟩), fun c off e => (by cases e), fun xs e => (by cases e)⟩
      | succ j =>
        have := h3 j p (by simpa using hp)
        rw [show n + 1 + j = n + (j + 1) by omega] at this
        refine ⟨fun x e => by simpa using this.1 x e, fun a xs o e => ⟨by simpa using (this.2.1 a xs o e).1, List.mem_cons_of_mem _ (this.2.1 a xs o e).2⟩, fun c off e => by simpa using this.2.2.1 c off e, fun xs e => ⟨(this.2.2.2 xs e).1, by simpa using (this.2.2.2 xs e).2.1, List.mem_cons_of_mem _ (this.2.2.2 xs e).2.2⟩⟩
    · rcases List.mem_cons.1 he with rfl | he
      · exact .inl ⟨0, a, xs, o, rfl, rfl⟩
      · rcases h4 e he with ⟨j, a, xs, o, he, hp⟩ | ⟨hck, j, xs, he, hp⟩
        · exact .inl ⟨j + 1, a, xs, o, by rw [he, show n + 1 + j = n + (j + 1) by omega], by simpa using hp⟩
        · exact .inr ⟨hck, j + 1, xs, by rw [he, show n + 1 + j = n + (j + 1) by omega], by simpa using hp⟩
    · refine List.pairwise_cons.2 ⟨fun b hb k1 o1 k2 o2 e1 e2 => ?_, h5⟩
      rcases h4 b hb with ⟨j, a', xs', o', he, -⟩ | ⟨-, j, xs', he, -⟩
      · rw [e2] at he; cases he; cases e1; omega
      · rw [e2] at he; cases he; cases e1; omega
  | n, .clo c off :: r, k, h => by
    simp only [backK] at h
    split at h
    · rename_i key
      obtain ⟨vs, ws, h1, h2, h3, h4, h5⟩ := backK_inv h
      refine ⟨.clo c key off :: vs, ws, h1, by simp [h2], fun j p hp => ?_, fun e he => ?_, h5⟩
      · cases j with
        | zero => simp at hp; subst hp; exact ⟨fun y e => (by cases e), fun a xs o e => (by cases e), fun c off e => (by cases e; exact ⟨key, rfl, rfl⟩), fun xs e => (by cases e)⟩
        | succ j =>
          have := h3 j p (by simpa using hp)
          rw [show n + 1 + j = n + (j + 1) by omega] at this
          simpa using this
      · rcases h4 e he with ⟨j, a, xs, o, he, hp⟩ | ⟨hck, j, xs, he, hp⟩
        · exact .inl ⟨j + 1, a, xs, o, by rw [he, show n + 1 + j = n + (j + 1) by omega], by simpa using hp⟩
        · exact .inr ⟨hck, j + 1, xs, by rw [he, show n + 1 + j = n + (j + 1) by omega], by simpa using hp⟩
    · exact wp_fail_inv h
  | n, .new ys :: r, k, h => by
    simp only [backK] at h
    split at h
    · obtain ⟨vs, ws, h1, h2, h3, h4, h5⟩ := backK_inv h
      refine ⟨.ptr n 0 :: vs, .new n (.box (ys.map .d)) :: ws, by rw [← mapD_eq]; exact h1, by simp [h2], fun j p hp => ?_, fun e he => ?_, ?_⟩
      · cases j with
        | zero => simp at hp; subst hp; exact ⟨fun y e => (by cases e), fun a xs o e => (by cases e), fun c off e => (by cases e), fun xs e => (by cases e; exact ⟨rfl, rfl, List.mem_cons_self ..⟩)⟩
        | succ j =>
          have := h3 j p (by simpa using hp)
          rw [show n + 1 + j = n + (j + 1) by omega] at this
          refine ⟨fun x e => by simpa using this.1 x e, fun a xs o e => ⟨by simpa using (this.2.1 a xs o e).1, List.mem_cons_of_mem _ (this.2.1 a xs o e).2⟩, fun c off e => by simpa using this.2.2.1 c off e,
            fun xs e => ⟨(this.2.2.2 xs e).1, by simpa using (this.2.2.2 xs e).2.1, List.mem_cons_of_mem _ (this.2.2.2 xs e).2.2⟩⟩
      · rcases List.mem_cons.1 he with rfl | he
        · exact .inr ⟨rfl, 0, ys, rfl, rfl⟩
        · rcases h4 e he with ⟨j, a, xs, o, he, hp⟩ | ⟨hck, j, xs, he, hp⟩
          · exact .inl ⟨j + 1, a, xs, o, by rw [he, show n + 1 + j = n + (j + 1) by omega], by simpa using hp⟩
          · exact .inr ⟨hck, j + 1, xs, by rw [he, show n + 1 + j = n + (j + 1) by omega], by simpa using hp⟩
      · refine List.pairwise_cons.2 ⟨fun b hb k1 o1 k2 o2 e1 e2 => ?_, h5⟩
        rcases h4 b hb with ⟨j, a', xs', o', he, -⟩ | ⟨-, j, xs', he, -⟩
        · rw [e2] at he; cases he; cases e1; omega
        · rw [e2] at he; cases he; cases e1; omega
    · exact wp_fail_inv h
end
end Aw

/-
  Aw, part S: where a call has come back.
-/
set_option linter.unusedSimpArgs false
set_option linter.unusedVariables false
namespace Aw
open Go Go.RowKit

open Classical in
/-- The ghost behind a call. -/
noncomputable def landG (G : Gh) (S' : Seal) (F : Nat → Prop) (N : Nat → Prop) (owf : Nat → Option Nat) (LVf : Nat → Value) (Bo : Nat → Option Nat) : Gh :=
  { S := S', B := fun key => match Bo key with | some b => b | none => G.B key, LV := fun key => if N key then LVf key else G.LV key, ow := fun b => match owf b with | some key => some key | none => if F b then none else G.ow b }

theorem land {W0 : World} {G : Gh} {ob ob' : Nat → Option Ob} {w w' : World} {S' : Seal} {F N Kf : Nat → Prop} {owf : Nat → Option Nat} {LVf : Nat → Value} {Bo : Nat → Option Nat} (hBo : ∀ key b, Bo key = some b → N key)
    (hG : Good W0 G ob w) (hext : Ext F G.S w S' w') (hbase : Base W0 S' w') (hF : ∀ b, F b → ∃ key, G.ow b = some key ∧ Kf key)
    (hsame : ∀ key, ¬ Kf key → ¬ N key → ob' key = ob key) (hN : ∀ key, N key → ob key = none)
    (hKf : ∀ key o, Kf key → ob key = some o → ∃ o', ob' key = some o' ∧ ∀ k xs own, o' ≠ .list k xs own)
    (how : ∀ b key, owf b = some key → (F b ∨ w.heap.size ≤ b) ∧ b < w'.heap.size ∧ (Kf key ∨ N key))
    (hblk : ∀ b key, G.ow b = some key → Kf key ∨ ¬ F b)
    (hkeys : (∀ x u, ARel G ob w x u → ARel (landG G S' F N owf LVf Bo) ob' w' x u) → ∀ key, Kf key ∨ N key → KeyOk (landG G S' F N owf LVf Bo) ob' w' key) :
    Step W0 G ob w (landG G S' F N owf LVf Bo) ob' w' := by
  have hBn : ∀ key, ¬ N key → (landG G S' F N owf LVf Bo).B key = G.B key := by
    intro key hn
    show (match Bo key with | some b => b | none => G.B key) = _
    cases hb : Bo key with
    | none => rfl
    | some b => exact absurd (hBo key b hb) hn
  have hT : Turns G ob (landG G S' F N owf LVf Bo) ob' := by
    intro key o h
    have hn : ¬ N key := fun hc => by rw [hN key hc] at h; cases h
    by_cases hk : Kf key
    · obtain ⟨o', h1, h2⟩ := hKf key o hk h
      exact ⟨o', h1, hBn key hn, fun k xs own e => absurd e (h2 k xs own)⟩
    · exact ⟨o, by rw [hsame key hk hn]; exact h, hBn key hn, fun k xs own e => ⟨by simp [landG, hn], xs, own, e, rfl⟩⟩
  have hFG : ∀ b, F b → G.ow b ≠ none := fun b hb => by obtain ⟨key, h, -⟩ := hF b hb; rw [h]; simp
  refine ⟨?_, hT, ⟨hext.size, hext.grow, hext.keep, fun b hb hF' => hext.frame b hb (fun hc => hF' (hFG b hc))⟩, fun b hb => ?_⟩
  · refine hG.transfer (fun key => Kf key ∨ N key) hbase hext.grow hext.keep hT (fun b key h => ?_) (fun key hk => ?_) (fun b key hk h => ?_) (hkeys (fun x u h => h.mono hext.grow hext.keep hT))
    · simp only [landG] at h
      split at h
      · rename_i key' hk'
        obtain ⟨h1, h2, h3⟩ := how b key' hk'
        refine ⟨?_, h2⟩
        rcases h1 with h1 | h1
        · obtain ⟨key2, h4, -⟩ := hF b h1
          exact (hG.own b key2 h4).1
        · have := hG.base.below.size; omega
      · split at h
        · cases h
        · have := hG.own b key h
          have := hext.size
          omega
    · have hk1 : ¬ Kf key := fun h => hk (.inl h)
      have hk2 : ¬ N key := fun h => hk (.inr h)
      exact ⟨hsame key hk1 hk2, hBn key hk2, by simp [landG, hk2]⟩
    · have hk1 : ¬ Kf key := fun h => hk (.inl h)
      have hnF : ¬ F b := (hblk b key h).resolve_left hk1
      have hb := (hG.own b key h).2
      have hof : owf b = none := by
        cases ho : owf b with
        | none => rfl
        | some key' =>
          rcases (how b key' ho).1 with h1 | h1
          · exact absurd h1 hnF
          · omega
      obtain ⟨h1, h2⟩ := hext.frame b hb hnF
      exact ⟨by simp [landG, hof, hnF, h], h1, h2⟩
  · simp only [landG] at hb
    split at hb
    · rename_i key' hk'
      rcases (how b key' hk').1 with h1 | h1
      · exact .inl (hFG b h1)
      · exact .inr h1
    · split at hb
      · exact absurd rfl hb
      · exact .inl hb

/-- New keys, each free when it is taken. -/
def WsOk (ob : Nat → Option Ob) : Ws → Prop
  | [] => True
  | .new n o :: r => ob n = none ∧ WsOk (updO ob n o) r
  | .upd n o :: r => WsOk (updO ob n o) r
theorem WsOk.free {ob : Nat → Option Ob} {ws : Ws} (h : WsOk ob ws) {d : Nat} {o : Ob} (hm : W.new d o ∈ ws) : ob d = none := by
  have key : ∀ (ws : Ws) (ob : Nat → Option Ob), WsOk ob ws → ∀ d o, W.new d o ∈ ws → ob d = none := by
    intro ws
    induction ws with
    | nil => intro ob _ d o h; cases h
    | cons e ws ih =>
      intro ob h d o hm
      have step : ∀ n o', WsOk (updO ob n o') ws → W.new d o ∈ ws → ob d = none := by
        intro n o' h hm
        have := ih _ h d o hm
        by_cases e : d = n
        · subst e; rw [updO_self] at this; cases this
        · rwa [updO_ne _ _ e] at this
      cases e with
      | new n o' =>
        rcases List.mem_cons.1 hm with hm | hm
        · cases hm; exact h.1
        · exact step n o' h.2 hm
      | upd n o' =>
        rcases List.mem_cons.1 hm with hm | hm
        · cases hm
        · exact step n o' h hm
  exact key ws ob h d o hm
theorem WsOk.append {ob : Nat → Option Ob} {a b : Ws} (h : WsOk ob (a ++ b)) : WsOk ob a ∧ WsOk (obW ob a) b := by
  induction a generalizing ob with
  | nil => exact ⟨trivial, h⟩
  | cons e a ih =>
    cases e with
    | new n o => exact ⟨⟨h.1, (ih h.2).1⟩, (ih h.2).2⟩
    | upd n o => exact ⟨(ih h).1, (ih h).2⟩

/-- The objects behind new keys alone. -/
theorem obW_news {ob : Nat → Option Ob} {ws : Ws} (h : WsOk ob ws) (hn : ∀ e ∈ ws, ∃ n o, e = W.new n o) (key : Nat) :
    (∀ o, W.new key o ∈ ws → obW ob ws key = some o) ∧ ((∀ o, W.new key o ∉ ws) → obW ob ws key = ob key) := by
  induction ws generalizing ob with
  | nil => exact ⟨fun o h => (by cases h), fun _ => rfl⟩
  | cons e ws ih =>
    obtain ⟨n, o, rfl⟩ := hn e (List.mem_cons_self ..)
    obtain ⟨h1, h2⟩ := ih h.2 (fun e he => hn e (List.mem_cons_of_mem _ he))
    have hno : ∀ o', W.new n o' ∉ ws := fun o' hm => (by have := h.2.free hm; rw [updO_self] at this; cases this)
    refine ⟨fun o' hm => ?_, fun hno' => ?_⟩
    · rcases List.mem_cons.1 hm with hm | hm
      · have e1 : key = n := by cases hm; rfl
        have e2 : o' = o := by cases hm; rfl
        rw [e1] at h2 ⊢
        rw [e2]
        show obW (updO ob n o) ws n = _
        rw [h2 hno, updO_self]
      · exact h1 o' hm
    · have hne : key ≠ n := fun e => hno' o (by rw [e]; exact List.mem_cons_self ..)
      show obW (updO ob n o) ws key = _
      rw [h2 (fun o' hm => hno' o' (List.mem_cons_of_mem _ hm)), updO_ne _ _ hne]

/-- Values that came back, at the keys they got. -/
theorem back_rel {G : Gh} {ob : Nat → Option Ob} {w : World} {n : Nat} {ps : List PV} {vs : List AV} {us : List Value} {mine : Nat → Nat → Prop} {tgt : Nat → Prop} {ck : Option (Option Nat)}
    (h1 : vs.length = ps.length) (hu : us.length = ps.length)
    (h2 : ∀ (j : Nat) (p : PV), ps[j]? = some p → (∀ x, p = .d x → vs[j]? = some (.d x)) ∧ (∀ a xs o, p = .own a xs o → vs[j]? = some (.lst (n + j)) ∧ ob (n + j) = some (.list a xs o)) ∧ (∀ c off, p = .clo c off → ∃ key, ck = some (some key) ∧ vs[j]? = some (.clo c key off)) ∧ (∀ xs, p = .new xs → vs[j]? = some (.ptr (n + j) 0) ∧ ob (n + j) = some (.box (xs.map .d))))
    (hnb : ∀ (j b : Nat) (xs : List DV), ps[j]? = some (.new xs) → us[j]? = some (.pointer (some ⟨b, 0, none⟩)) → G.B (n + j) = b)
    (hck : ∀ key, ck = some (some key) → (∃ o, ob key = some o) ∧ ∀ b, tgt b → b = G.B key)
    (h3 : ∀ (j : Nat) (p : PV) (v : Value), ps[j]? = some p → us[j]? = some v → PRel G.S w tgt (mine j) p v)
    (h4 : ∀ (j : Nat) (v : Value), us[j]? = some v → ∀ a xs o, ps[j]? = some (.own a xs o) → G.LV (n + j) = v)
    (j : Nat) (v : AV) (u : Value) (hv : vs[j]? = some v) (hu' : us[j]? = some u) : ARel G ob w v u := by
  have hj : j < ps.length := by rw [← h1]; exact (List.getElem?_eq_some_iff.1 hv).1
  have hp := List.getElem?_eq_getElem hj
  have hr := h3 j _ u hp hu'
  generalize hpe : ps[j] = p at hp hr
  obtain ⟨g1, g2, g5, g6⟩ := h2 j p hp
  cases p with
  | d x =>
    have := g1 x rfl
    rw [hv] at this; cases this
    cases hr with
    | d _ _ hd => exact .d _ _ hd
  | own a xs o =>
    obtain ⟨g3, g4⟩ := g2 a xs o rfl
    rw [hv] at g3; cases g3
    have hL := h4 j u hu' a xs o hp
    refine .lst _ _ _ g4 ?_ (fun k xs' own e => by cases e; exact hL.symm)
    cases hr <;> rfl
  | clo c off =>
    obtain ⟨key, e1, e2⟩ := g5 c off rfl
    rw [hv] at e2; cases e2
    obtain ⟨⟨o, ho⟩, ht⟩ := hck key e1
    cases hr with
    | clo _ _ b o' b' _ htb hs hc hvv => exact .clo _ _ _ b o' _ o ho hs (by rw [← ht b' htb]; exact hc) hvv
  | new xs =>
    obtain ⟨e1, e2⟩ := g6 xs rfl
    rw [hv] at e1; cases e1
    cases hr with
    | new _ b vs' T hm hf hb hl hrr ha => exact .ptr _ _ _ _ e2 (by rw [hnb j b xs hp hu'])
end Aw

/-
  Aw, part T: calls, each against its contract.
-/
set_option linter.unusedSimpArgs false
set_option linter.unusedVariables false
namespace Aw
open Go Go.RowKit

section
variable {CG : CGT} {K : AV → Ws → Prop}
theorem resK_inv {ck : Option (Option Nat)} {n : Nat} {rs : List PV} {k : AV → Ws → Eff} (h : (resK ck n rs k).wp CG K) :
    ∃ (vs : List AV) (ws : Ws) (r : AV), (k r ws).wp CG K ∧ vs.length = rs.length ∧
      (∀ (j : Nat) (p : PV), rs[j]? = some p → (∀ x, p = .d x → vs[j]? = some (.d x)) ∧ (∀ a xs o, p = .own a xs o → vs[j]? = some (.lst (n + j)) ∧ W.new (n + j) (.list a xs o) ∈ ws) ∧ (∀ c off, p = .clo c off → ∃ key, ck = some (some key) ∧ vs[j]? = some (.clo c key off)) ∧
        (∀ xs, p = .new xs → ck = some none ∧ vs[j]? = some (.ptr (n + j) 0) ∧ W.new (n + j) (.box (xs.map .d)) ∈ ws)) ∧
      (∀ e ∈ ws, (∃ j a xs o, e = .new (n + j) (.list a xs o) ∧ rs[j]? = some (.own a xs o)) ∨ (ck = some none ∧ ∃ j xs, e = .new (n + j) (.box (xs.map .d)) ∧ rs[j]? = some (.new xs))) ∧
      (∀ {G : Gh} {ob : Nat → Option Ob} {w : World} {us : List Value}, us.length = rs.length → (∀ (j : Nat) (v : AV) (u : Value), vs[j]? = some v → us[j]? = some u → ARel G ob w v u) → ARel G ob w r (packed us)) := by
  obtain ⟨vs, ws, h1, h2, h3, h4, -⟩ := backK_inv h
  have tup : (k (.tup vs) ws).wp CG K → (∀ v, vs ≠ [v]) → ∃ (vs : List AV) (ws : Ws) (r : AV), (k r ws).wp CG K ∧ vs.length = rs.length ∧
      (∀ (j : Nat) (p : PV), rs[j]? = some p → (∀ x, p = .d x → vs[j]? = some (.d x)) ∧ (∀ a xs o, p = .own a xs o → vs[j]? = some (.lst (n + j)) ∧ W.new (n + j) (.list a xs o) ∈ ws) ∧ (∀ c off, p = .clo c off → ∃ key, ck = some (some key) ∧ vs[j]? = some (.clo c key off)) ∧
        (∀ xs, p = .new xs → ck = some none ∧ vs[j]? = some (.ptr (n + j) 0) ∧ W.new (n + j) (.box (xs.map .d)) ∈ ws)) ∧
      (∀ e ∈ ws, (∃ j a xs o, e = .new (n + j) (.list a xs o) ∧ rs[j]? = some (.own a xs o)) ∨ (ck = some none ∧ ∃ j xs, e = .new (n + j) (.box (xs.map .d)) ∧ rs[j]? = some (.new xs))) ∧
      (∀ {G : Gh} {ob : Nat → Option Ob} {w : World} {us : List Value}, us.length = rs.length → (∀ (j : Nat) (v : AV) (u : Value), vs[j]? = some v → us[j]? = some u → ARel G ob w v u) → ARel G ob w r (packed us)) := by
    intro hk hne
    refine ⟨vs, ws, .tup vs, hk, h2, h3, h4, fun {G ob w us} hu hr => ?_⟩
    have : packed us = .tuple ⟨us⟩ := by
      unfold packed
      split
      · rename_i v
        obtain ⟨x, hx⟩ := List.length_eq_one_iff.1 (show vs.length = 1 by rw [h2, ← hu]; rfl)
        exact absurd hx (hne x)
      · rfl
    rw [this]
    exact .tup vs us (by omega) hr
  match vs, h1, h2, h3, tup with
  | [v], h1, h2, h3, _ =>
    refine ⟨[v], ws, v, h1, h2, h3, h4, fun {G ob w us} hu hr => ?_⟩
    obtain ⟨x, hx⟩ := List.length_eq_one_iff.1 (show us.length = 1 by rw [hu, ← h2]; rfl)
    subst hx
    exact hr 0 v x rfl rfl
  | [], h1, h2, h3, tup => exact tup h1 (by simp)
  | a :: b :: r, h1, h2, h3, tup => exact tup h1 (by simp)

/-- The cells of the box that is handed on. -/
structure Passed (ob : Nat → Option Ob) (cs : List AV) (ps : List PV) (ws : Ws) : Prop where
  len : ps.length = cs.length
  cell : ∀ (j : Nat) (c : AV) (p : PV), cs[j]? = some c → ps[j]? = some p →
    (∃ x, c = .d x ∧ p = .d x) ∨ (∃ a, c = .nil a ∧ p = .own a [] true) ∨ (∃ key a xs o, c = .lst key ∧ ob key = some (.list a xs o) ∧ p = .own a xs o ∧ W.upd key .dead ∈ ws)
  dead : ∀ e ∈ ws, ∃ (key j : Nat), e = .upd key .dead ∧ cs[j]? = some (AV.lst key)
  once : ∀ (i j key : Nat), cs[i]? = some (AV.lst key) → cs[j]? = some (AV.lst key) → i = j
theorem passK_inv {ob : Nat → Option Ob} : ∀ {cs : List AV} {us : List Nat} {k : List Nat → List PV → Ws → Eff}, (passK ob us cs k).wp CG K →
    ∃ us' ps ws, (k us' ps ws).wp CG K ∧ Passed ob cs ps ws ∧ ∀ (key j : Nat), cs[j]? = some (AV.lst key) → key ∉ us
  | [], us, k, h => ⟨us, [], [], h, ⟨rfl, by simp, by simp, by simp⟩, by simp⟩
  | c :: r, us, k, h => by
    cases c with
    | d x =>
      simp only [passK] at h
      obtain ⟨us', ps, ws, h1, ⟨a1, a2, a3, a4⟩, h3⟩ := passK_inv h
      refine ⟨us', _, ws, h1, ⟨by simp [a1], fun j c p hc hp => ?_, fun e he => ?_, fun i j key hi hj => ?_⟩, fun key j hj => ?_⟩
      · cases j with
        | zero => simp at hc hp; subst hc; subst hp; exact .inl ⟨x, rfl, rfl⟩
        | succ j => exact a2 j c p (by simpa using hc) (by simpa using hp)
      · obtain ⟨key, j, e1, e2⟩ := a3 e he
        exact ⟨key, j + 1, e1, by simpa using e2⟩
      · cases i <;> cases j <;> simp at hi hj
        rename_i i j
        rw [a4 i j key hi hj]
      · cases j with
        | zero => simp at hj
        | succ j => exact h3 key j (by simpa using hj)
    | nil a =>
      simp only [passK] at h
      obtain ⟨us', ps, ws, h1, ⟨a1, a2, a3, a4⟩, h3⟩ := passK_inv h
      refine ⟨us', _, ws, h1, ⟨by simp [a1], fun j c p hc hp => ?_, fun e he => ?_, fun i j key hi hj => ?_⟩, fun key j hj => ?_⟩
      · cases j with
        | zero => simp at hc hp; subst hc; subst hp; exact .inr (.inl ⟨a, rfl, rfl⟩)
        | succ j => exact a2 j c p (by simpa using hc) (by simpa using hp)
      · obtain ⟨key, j, e1, e2⟩ := a3 e he
        exact ⟨key, j + 1, e1, by simpa using e2⟩
      · cases i <;> cases j <;> simp at hi hj
        rename_i i j
        rw [a4 i j key hi hj]
      · cases j with
        | zero => simp at hj
        | succ j => exact h3 key j (by simpa using hj)
    | lst key0 =>
      simp only [passK] at h
      split at h
      · exact wp_fail_inv h
      · rename_i hno
        split at h
        · rename_i a xs o ho
          obtain ⟨us', ps, ws, h1, ⟨a1, a2, a3, a4⟩, h3⟩ := passK_inv h
          have hno' : key0 ∉ us := by
            intro hc
            have := List.idxOf?_eq_none_iff.1 hno
            exact this hc
          refine ⟨us', _, _, h1, ⟨by simp [a1], fun j c p hc hp => ?_, fun e he => ?_, fun i j key hi hj => ?_⟩, fun key j hj => ?_⟩
          · cases j with
            | zero => simp at hc hp; subst hc; subst hp; exact .inr (.inr ⟨key0, a, xs, o, rfl, ho, rfl, List.mem_cons_self ..⟩)
            | succ j =>
              rcases a2 j c p (by simpa using hc) (by simpa using hp) with h | h | ⟨key, a, xs, o, h1, h2, h3, h4⟩
              · exact .inl h
              · exact .inr (.inl h)
              · exact .inr (.inr ⟨key, a, xs, o, h1, h2, h3, List.mem_cons_of_mem _ h4⟩)
          · rcases List.mem_cons.1 he with rfl | he
            · exact ⟨key0, 0, rfl, rfl⟩
            · obtain ⟨key, j, e1, e2⟩ := a3 e he
              exact ⟨key, j + 1, e1, by simpa using e2⟩
          · cases i with
            | zero =>
              cases j with
              | zero => rfl
              | succ j =>
                simp at hi hj; subst hi
                exact absurd (List.mem_cons_self ..) (h3 key0 j hj)
            | succ i =>
              cases j with
              | zero =>
                simp at hi hj; subst hj
                exact absurd (List.mem_cons_self ..) (h3 key0 i hi)
              | succ j => simp at hi hj; rw [a4 i j key hi hj]
          · cases j with
            | zero => simp at hj; subst hj; exact hno'
            | succ j => exact fun hc => h3 key j (by simpa using hj) (List.mem_cons_of_mem _ hc)
        · exact wp_fail_inv h
    | _ => exact wp_fail_inv h
end

section
variable {P : Program} {W0 : World} {K : AV → Ws → Prop} {G : Gh} {ob : Nat → Option Ob} {w : World}

/-- The post of a call. -/
def CallPost (W0 : World) (K : AV → Ws → Prop) (G : Gh) (ob : Nat → Option Ob) (w : World) (e : Ending) (w' : World) : Prop :=
  ∃ val r ws G', e = .returned val ∧ K r ws ∧ Step W0 G ob w G' (obW ob ws) w' ∧ ARel G' (obW ob ws) w' r val

open Classical in
theorem call_pure (hG : Good W0 G ob w) {ρ : Operand → AV} {a : Act} (hρ : ∀ x, ARel G ob w (ρ x) (a.eval x)) {args : List Operand} {vs : List AV} {wss : List Ws} {f : FuncId} {n : Nat}
    (hargs : ArgsOf ob ρ [] args vs wss) (hok : ∀ v ws, K v ws → WsOk ob ws)
    (h : CallsA P W0 f [] vs fun rs _ => (resK (some none) n rs fun v ws4 => .ret v (wss.flatten ++ ws4)).wp (CallsA P W0) K) :
    Calls P f ⟨args.map a.eval⟩ w (CallPost W0 K G ob w) := by
  obtain ⟨G1, st1, hs1, hl1, hL1, hB1, how1⟩ := seal_steps wss.flatten hG (Like.refl ob) hargs.ws
  obtain ⟨l1, l2, l3⟩ := hargs
  refine (h.out G1.S w (fun _ => none) [] (args.map a.eval) st1.good.base ⟨rfl, by simp⟩ (by simp) (by simpa using l1) ?_).mono ?_
  · intro i v u hv hu
    simp only [List.getElem?_map, Option.map_eq_some_iff] at hu
    obtain ⟨o, ho, rfl⟩ := hu
    have hi := (List.getElem?_eq_some_iff.1 ho).1
    rcases l3 i o v _ ho hv (List.getElem?_eq_getElem (by omega)) with ⟨key, off, j, -, hk, -, -⟩ | ⟨x, rfl, hx⟩ | ⟨c, key, off, j, -, hk, -, -⟩
    · simp at hk
    · exact .d _ _ (hx.rel hl1 (fun key n ys hm => hs1 key n ys (List.mem_flatten.2 ⟨_, List.getElem_mem _, hm⟩)) (st1.mono (hρ o)))
    · simp at hk
  · rintro e w' ⟨us, rs, os', S', ow', he, hR, hbase, hpass, ⟨hlen, hrel⟩, hext, how'⟩
    obtain ⟨vs2, ws4, r, h1, h2, h3, h4, h5⟩ := resK_inv hR
    have hk := wp_ret_inv h1
    have hw := (hok _ _ hk).append.2
    let N : Nat → Prop := fun key => ∃ o, W.new key o ∈ ws4
    let owf : Nat → Option Nat := fun b => match ow' b with | some (0, j + 1) => if N (n + j) then some (n + j) else none | _ => none
    let LVf : Nat → Value := fun key => us.getD (key - n) undef
    let Bo : Nat → Option Nat := fun key => if N key then (match us.getD (key - n) undef with | .pointer (some ⟨b, _, _⟩) => some b | _ => none) else none
    have hnews : ∀ e ∈ ws4, ∃ n o, e = W.new n o := fun e he => by rcases h4 e he with ⟨j, a, xs, o, e1, -⟩ | ⟨-, j, xs, e1, -⟩ <;> exact ⟨_, _, e1⟩
    have st2 : Step W0 G1 (obW ob wss.flatten) w (landG G1 S' (fun _ => False) N owf LVf Bo) (obW (obW ob wss.flatten) ws4) w' := by
      refine land (F := fun _ => False) (N := N) (Kf := fun _ => False) (fun key b h => by simp only [Bo] at h; split at h; assumption; cases h) st1.good ⟨hext.size, hext.grow, hext.keep, fun b hb _ => hext.frame b hb (by simp)⟩ hbase (fun b hb => hb.elim)
        (fun key _ hn => (obW_news hw hnews key).2 (fun o hm => hn ⟨o, hm⟩)) (fun key ⟨o, hm⟩ => hw.free hm) (fun key o hk => hk.elim) (fun b key hb => ?_) (fun b key _ => .inr (fun h => h)) (fun hm key hk => ?_)
      · simp only [owf] at hb
        split at hb
        · rename_i j hj
          split at hb
          · rename_i hn; cases hb
            obtain ⟨h6, h7⟩ := how' b _ hj
            exact ⟨.inr (h6.resolve_left (by simp)), h7, .inr hn⟩
          · cases hb
        · cases hb
      · rcases hk with hk | ⟨o, hm⟩
        · exact hk.elim
        · have hob := (obW_news hw hnews key).1 o hm
          rcases h4 _ hm with ⟨j, a, xs, oo, e1, hp⟩ | ⟨-, j, xs, e1, hp⟩
          case inr =>
            cases e1
            have hnk : N (n + j) := ⟨_, hm⟩
            refine ⟨fun cs h => ?_, fun s pos h => ?_, fun k' xs' own' h => ?_⟩ <;> rw [hob] at h <;> cases h
            have hj : j < rs.length := (List.getElem?_eq_some_iff.1 hp).1
            have hu := List.getElem?_eq_getElem (by omega : j < us.length)
            have hpr := hrel j _ _ hp hu
            have hB : ∀ b, us[j] = .pointer (some ⟨b, 0, none⟩) → (landG G1 S' (fun _ => False) N owf LVf Bo).B (n + j) = b := by
              intro b e
              have : Bo (n + j) = some b := by simp [Bo, hnk, hu, e]
              show (match Bo (n + j) with | some b => b | none => _) = b
              rw [this]
            generalize us[j] = u at hB hpr
            cases hpr with
            | new _ b vs' T hmine hf hb hl hrr ha =>
              rw [hB b rfl]
              refine ⟨?_, ⟨vs', T, hb, by simpa using hl, fun i c v hc hv => ?_, ha⟩, hf⟩
              · have : owf b = some (n + j) := by simp only [owf]; rw [hmine]; simp [hnk]
                simp [landG, this]
              · simp only [List.getElem?_map, Option.map_eq_some_iff] at hc
                obtain ⟨x, hx, rfl⟩ := hc
                exact .d _ _ (hrr i x v hx hv)
          cases e1
          have hnk : N (n + j) := ⟨_, hm⟩
          refine ⟨fun cs h => ?_, fun s pos h => ?_, fun k' xs' own' h => ?_⟩ <;> rw [hob] at h <;> cases h
          have hj : j < rs.length := (List.getElem?_eq_some_iff.1 hp).1
          have hu := List.getElem?_eq_getElem (by omega : j < us.length)
          have hLV : (landG G1 S' (fun _ => False) N owf LVf Bo).LV (n + j) = us[j] := by
            simp [landG, hnk, LVf, hu]
          have hpr := hrel j _ _ hp hu
          generalize us[j] = u at hLV hpr
          cases hpr with
          | nil => exact .inl ⟨rfl, hLV⟩
          | own _ _ _ b cap hmine hB =>
            refine .inr ⟨b, cap, hLV, ?_, hB⟩
            have : owf b = some (n + j) := by simp only [owf]; rw [hmine]; simp [hnk]
            simp [landG, this]
    refine ⟨packed us, r, _, _, he, hk, by rw [obW_append]; exact st1.trans st2, ?_⟩
    rw [obW_append]
    refine h5 hlen ?_
    refine back_rel (n := n) (mine := fun j b => ow' b = some (0, j + 1)) h2 hlen (fun j p hp => ⟨(h3 j p hp).1, fun a xs o e => ⟨((h3 j p hp).2.1 a xs o e).1, (obW_news hw hnews _).1 _ ((h3 j p hp).2.1 a xs o e).2⟩, (h3 j p hp).2.2.1, fun xs e => ⟨((h3 j p hp).2.2.2 xs e).2.1, (obW_news hw hnews _).1 _ ((h3 j p hp).2.2.2 xs e).2.2⟩⟩) (fun j b xs hp hu => ?_) (fun key e => by cases e) hrel ?_
    · have hnk : N (n + j) := ⟨_, ((h3 j _ hp).2.2.2 xs rfl).2.2⟩
      have : Bo (n + j) = some b := by simp [Bo, hnk, hu]
      show (match Bo (n + j) with | some b => b | none => _) = b
      rw [this]
    · intro j v hv a xs o hp
      have hnk : N (n + j) := ⟨_, ((h3 j _ hp).2.1 a xs o rfl).2⟩
      simp [landG, hnk, LVf, hv]
end
end Aw

/-
  Aw, part U: calls that hand on a box.
-/
set_option linter.unusedSimpArgs false
set_option linter.unusedVariables false
namespace Aw
open Go Go.RowKit

def isLst (key : Nat) : AV → Bool
  | .lst k => natEq k key
  | _ => false
theorem find_lst {cs : List AV} {ps : List PV} {ws : Ws} {ob : Nat → Option Ob} (h : Passed ob cs ps ws) {j key : Nat} (hj : cs[j]? = some (.lst key)) : cs.findIdx? (isLst key) = some j := by
  cases hf : cs.findIdx? (isLst key) with
  | none =>
    have := List.findIdx?_eq_none_iff.1 hf _ (List.mem_of_getElem? hj)
    simp [isLst, natEq_self] at this
  | some i =>
    obtain ⟨hi, h1, -⟩ := List.findIdx?_eq_some_iff_getElem.1 hf
    have hc := List.getElem?_eq_getElem hi
    generalize hcc : cs[i] = c at h1 hc
    cases c with
    | lst k =>
      have e : k = key := natEq_true h1
      subst e
      rw [h.once i j k hc hj]
    | _ => simp [isLst] at h1

section
variable {P : Program} {W0 : World} {K : AV → Ws → Prop} {G : Gh} {ob : Nat → Option Ob} {w : World}

theorem dead_obW {ws : Ws} : ∀ {ob : Nat → Option Ob} (key : Nat), (∀ e ∈ ws, ∃ k, e = W.upd k .dead) → (W.upd key .dead ∈ ws → obW ob ws key = some .dead) ∧ (W.upd key .dead ∉ ws → obW ob ws key = ob key) := by
  induction ws with
  | nil => exact fun key _ => ⟨fun h => (by cases h), fun _ => rfl⟩
  | cons e ws ih =>
    intro ob key hd
    obtain ⟨k, rfl⟩ := hd e (List.mem_cons_self ..)
    obtain ⟨h1, h2⟩ := ih (ob := updO ob k .dead) key (fun e he => hd e (List.mem_cons_of_mem _ he))
    refine ⟨fun hm => ?_, fun hm => ?_⟩
    · by_cases hin : W.upd key .dead ∈ ws
      · exact h1 hin
      · rcases List.mem_cons.1 hm with hm | hm
        · have e1 : key = k := by cases hm; rfl
          show obW (updO ob k .dead) ws key = _
          rw [h2 hin, e1, updO_self]
        · exact absurd hm hin
    · have hne : key ≠ k := fun e => hm (by rw [e]; exact List.mem_cons_self ..)
      show obW (updO ob k .dead) ws key = _
      rw [h2 (fun h => hm (List.mem_cons_of_mem _ h)), updO_ne _ _ hne]

open Classical in
theorem call_meth (hG : Good W0 G ob w) {ρ : Operand → AV} {a : Act} (hρ : ∀ x, ARel G ob w (ρ x) (a.eval x)) {args : List Operand} {vs : List AV} {wss : List Ws} {f : FuncId} {n1 n2 kb : Nat}
    {cs : List AV} {ps : List PV} {ws2 : Ws} (hargs : ArgsOf ob ρ [kb] args vs wss) (hob : obW ob wss.flatten kb = some (.box cs)) (hps : Passed (obW ob wss.flatten) cs ps ws2) (hok : ∀ v ws, K v ws → WsOk ob ws)
    (ex : List AV) (eu : List Value) (hel : ex.length = eu.length) (hex : ∀ (i : Nat) (x : AV) (u : Value), ex[i]? = some x → eu[i]? = some u → ∃ c off, x = .clo c 0 off ∧ ARel G ob w (.clo c kb off) u)
    (h : CallsA P W0 f [ps] (vs ++ ex) fun rs os' => (match os' with
      | [ps'] => backK none n1 ps' fun vs' ws3 => resK (some (some kb)) n2 rs fun v ws4 => .ret v (wss.flatten ++ (ws2 ++ (.upd kb (.box vs') :: (ws3 ++ ws4))))
      | _ => .fail : Eff).wp (CallsA P W0) K) :
    Calls P f ⟨args.map a.eval ++ eu⟩ w (CallPost W0 K G ob w) := by
  obtain ⟨G1, st1, hs1, hl1, hL1, hB1, how1⟩ := seal_steps wss.flatten hG (Like.refl ob) hargs.ws
  obtain ⟨l1, l2, l3⟩ := hargs
  generalize hob1 : obW ob wss.flatten = ob1 at *
  obtain ⟨hbow, ⟨bvs, T, hb1, hb2, hb3, hb4⟩, hbf⟩ := (st1.good.key kb).box cs hob
  let ow : Nat → Option (Nat × Nat) := fun b => match G1.ow b with
    | some key => if key = kb then some (0, 0) else match cs.findIdx? (isLst key) with | some j => some (0, j + 1) | none => none
    | none => none
  have howK : ∀ b id, ow b = some id → ∃ key, G1.ow b = some key ∧ ((key = kb ∧ id = (0, 0)) ∨ (key ≠ kb ∧ ∃ j, cs.findIdx? (isLst key) = some j ∧ id = (0, j + 1))) := by
    intro b id hb
    simp only [ow] at hb
    split at hb
    · rename_i key hk
      refine ⟨key, hk, ?_⟩
      split at hb
      · rename_i e; cases hb; exact .inl ⟨e, rfl⟩
      · rename_i e
        split at hb
        · rename_i j hj; cases hb; exact .inr ⟨e, j, hj, rfl⟩
        · cases hb
    · cases hb
  have hlstne : ∀ (j key : Nat), cs[j]? = some (AV.lst key) → key ≠ kb := by
    intro j key hj e
    have hj' := (List.getElem?_eq_some_iff.1 hj).1
    rcases hps.cell j _ _ hj (List.getElem?_eq_getElem (by rw [hps.len]; exact hj')) with ⟨x, e1, -⟩ | ⟨a, e1, -⟩ | ⟨key', a, xs, o, e1, e2, -, -⟩
    · cases e1
    · cases e1
    · cases e1; rw [e, hob] at e2; cases e2
  have hpa : PassAt G1.S w ow [ps] [G1.B kb] := by
    refine ⟨rfl, fun i ps' b hi hb => ?_⟩
    have hi0 : i = 0 := by have := (List.getElem?_eq_some_iff.1 hi).1; simp at this; omega
    subst hi0
    simp at hi hb
    subst hi; subst hb
    refine ⟨by simp [ow, hbow], hbf, bvs, T, hb1, by rw [hps.len]; exact hb2, hb4, fun j p v hp hv => ?_⟩
    have hj := (List.getElem?_eq_some_iff.1 hp).1
    rw [hps.len] at hj
    have hc := List.getElem?_eq_getElem hj
    have hr := hb3 j _ v hc hv
    rcases hps.cell j _ p hc hp with ⟨x, e1, e2⟩ | ⟨a, e1, e2⟩ | ⟨key, a, xs, o, e1, e2, e3, -⟩
    · rw [e1] at hr; subst e2; exact .d _ _ hr.dd
    · rw [e1] at hr; subst e2; cases hr; exact .nil _ _
    · rw [e1] at hr; subst e3
      cases hr with
      | lst _ _ o' ho' ha' hv' =>
        rw [e2] at ho'; cases ho'
        rw [hv' _ _ _ rfl]
        rcases (st1.good.key key).list a xs o e2 with ⟨h1, h2⟩ | ⟨b, cap, h1, h2, h3⟩
        · subst h1; rw [h2]; exact .nil _ _
        · rw [h1]
          refine .own _ _ _ b cap ?_ h3
          have hcj : cs[j]? = some (.lst key) := by rw [hc, e1]
          simp [ow, h2, hlstne j key hcj, find_lst hps hcj]
  refine (h.out G1.S w ow [G1.B kb] (args.map a.eval ++ eu) st1.good.base hpa (fun b id hb => ?_) (by simp [l1, hel]) ?_).mono ?_
  · obtain ⟨key, hk, -⟩ := howK b id hb
    exact st1.good.own b key hk
  · intro i v u hv hu
    by_cases hia : i < args.length
    case neg =>
      rw [List.getElem?_append_right (by omega)] at hv
      rw [List.getElem?_append_right (by simp; omega)] at hu
      rw [← l1] at hv
      simp only [List.length_map] at hu
      obtain ⟨c, off, rfl, hr⟩ := hex _ v u hv hu
      cases st1.mono hr with
      | clo _ _ _ b o _ x ho hs hc hvv => exact .clo _ 0 _ b o _ _ rfl hs hc hvv
    rw [List.getElem?_append_left (by omega)] at hv
    rw [List.getElem?_append_left (by simpa using hia)] at hu
    simp only [List.getElem?_map, Option.map_eq_some_iff] at hu
    obtain ⟨o, ho, rfl⟩ := hu
    have hi := (List.getElem?_eq_some_iff.1 ho).1
    rcases l3 i o v _ ho hv (List.getElem?_eq_getElem (by omega)) with ⟨key, off, j, hk1, hk2, rfl, -⟩ | ⟨x, rfl, hx⟩ | ⟨c, key, off, j, hk1, hk2, rfl, -⟩
    · have hj0 : j = 0 := by have := (List.getElem?_eq_some_iff.1 hk2).1; simp at this; omega
      subst hj0
      simp at hk2; subst hk2
      have hr := st1.mono (hρ o)
      rw [hk1] at hr
      cases hr with
      | ptr _ _ _ _ _ hv' => rw [hv']; exact .ptr 0 off _ rfl
    · exact .d _ _ (hx.rel hl1 (fun key n ys hm => hs1 key n ys (List.mem_flatten.2 ⟨_, List.getElem_mem _, hm⟩)) (st1.mono (hρ o)))
    · have hj0 : j = 0 := by have := (List.getElem?_eq_some_iff.1 hk2).1; simp at this; omega
      subst hj0
      simp at hk2; subst hk2
      have hr := st1.mono (hρ o)
      rw [hk1] at hr
      cases hr with
      | clo _ _ _ b o _ x ho hs hc hvv => exact .clo _ 0 _ b o _ _ rfl hs hc hvv
  · rintro e w' ⟨us, rs, os', S', ow', he, hR, hbase, hpass, ⟨hlen, hrel⟩, hext, how'⟩
    split at hR
    · rename_i ps'
      obtain ⟨vs', ws3, h1, h2, h3, h4, -⟩ := backK_inv hR
      obtain ⟨vs2, ws4, r, g1, g2, g3, g4, g5⟩ := resK_inv h1
      have hk := wp_ret_inv g1
      have hw := (hok _ _ hk).append.2
      rw [hob1] at hw
      obtain ⟨hw2, hw34⟩ := hw.append
      have hdead : ∀ e ∈ ws2, ∃ k, e = W.upd k .dead := fun e he => by obtain ⟨key, j, e1, -⟩ := hps.dead e he; exact ⟨key, e1⟩
      have hw34' : WsOk (updO (obW ob1 ws2) kb (.box vs')) (ws3 ++ ws4) := hw34
      let N : Nat → Prop := fun key => ∃ o, W.new key o ∈ ws3 ++ ws4
      let Kf : Nat → Prop := fun key => key = kb ∨ W.upd key .dead ∈ ws2
      let owf : Nat → Option Nat := fun b => match ow' b with
        | some (0, 0) => if b = G1.B kb then some kb else none
        | some (0, j + 1) => if N (n1 + j) ∧ (∃ a xs o, ps'[j]? = some (.own a xs o)) then some (n1 + j) else none
        | some (1, j + 1) => if N (n2 + j) ∧ (∃ a xs o, rs[j]? = some (.own a xs o)) then some (n2 + j) else none
        | _ => none
      obtain ⟨hpl, hpb⟩ := hpass
      obtain ⟨how0, hS0, pvs, T', p1, p2, p3, p4⟩ := hpb 0 ps' (G1.B kb) rfl rfl
      let LVf : Nat → Value := fun key => if (∃ o, W.new key o ∈ ws3) then pvs.getD (key - n1) undef else us.getD (key - n2) undef
      have hnews : ∀ e ∈ ws3 ++ ws4, ∃ n o, e = W.new n o := fun e he => by
        rcases List.mem_append.1 he with he | he
        · rcases h4 e he with ⟨j, a, xs, o, e1, -⟩ | ⟨hck, -⟩
          · exact ⟨_, _, e1⟩
          · cases hck
        · rcases g4 e he with ⟨j, a, xs, o, e1, -⟩ | ⟨hck, -⟩
          · exact ⟨_, _, e1⟩
          · cases hck
      have hobf : obW ob1 (ws2 ++ (.upd kb (.box vs') :: (ws3 ++ ws4))) = obW (updO (obW ob1 ws2) kb (.box vs')) (ws3 ++ ws4) := by rw [obW_append]; rfl
      have hNfree : ∀ key, N key → ob1 key = none ∧ key ≠ kb ∧ W.upd key .dead ∉ ws2 := by
        intro key ⟨o, hm⟩
        have hf := hw34'.free hm
        have hne : key ≠ kb := fun e => by rw [e, updO_self] at hf; cases hf
        rw [updO_ne _ _ hne] at hf
        have hnd : W.upd key .dead ∉ ws2 := fun hd => by rw [(dead_obW (ob := ob1) key hdead).1 hd] at hf; cases hf
        rw [(dead_obW (ob := ob1) key hdead).2 hnd] at hf
        exact ⟨hf, hne, hnd⟩
      have hdkb : W.upd kb .dead ∉ ws2 := fun hd => by
        obtain ⟨key, j, e1, e2⟩ := hps.dead _ hd
        cases e1
        exact hlstne j _ e2 rfl
      have hfin : ∀ key, ¬ N key → obW (updO (obW ob1 ws2) kb (.box vs')) (ws3 ++ ws4) key = updO (obW ob1 ws2) kb (.box vs') key := fun key hn =>
        (obW_news hw34' hnews key).2 (fun o hm => hn ⟨o, hm⟩)
      have hkbN : ¬ N kb := fun hn => (hNfree kb hn).2.1 rfl
      have hnew3 : ∀ key, (∃ o, W.new key o ∈ ws3) → ∃ j a xs o, key = n1 + j ∧ ps'[j]? = some (.own a xs o) ∧ W.new key (.list a xs o) ∈ ws3 := by
        rintro key ⟨o, hm⟩
        rcases h4 _ hm with ⟨j, a, xs, oo, e1, e2⟩ | ⟨hck, -⟩
        case inr => cases hck
        cases e1
        exact ⟨j, a, xs, oo, rfl, e2, hm⟩
      have hnot3 : ∀ key o, W.new key o ∈ ws4 → ¬ ∃ o, W.new key o ∈ ws3 := by
        rintro key o hm ⟨o', hm'⟩
        have hf := hw34'.append.2.free hm
        have := (obW_news hw34'.append.1 (fun e he => hnews e (List.mem_append_left _ he)) key).1 o' hm'
        rw [this] at hf; cases hf
      let Gf : Gh := landG G1 S' (fun b => ow b ≠ none) N owf LVf fun _ => none
      have hLV3 : ∀ j a xs o, ps'[j]? = some (.own a xs o) → ∀ u, pvs[j]? = some u → Gf.LV (n1 + j) = u := by
        intro j a xs o hp u hu
        have hm := ((h3 j _ hp).2.1 a xs o rfl).2
        have hN : N (n1 + j) := ⟨_, List.mem_append_left _ hm⟩
        have h3' : ∃ o, W.new (n1 + j) o ∈ ws3 := ⟨_, hm⟩
        simp [Gf, landG, hN, LVf, h3', hu]
      have hLV4 : ∀ j a xs o, rs[j]? = some (.own a xs o) → ∀ u, us[j]? = some u → Gf.LV (n2 + j) = u := by
        intro j a xs o hp u hu
        have hm := ((g3 j _ hp).2.1 a xs o rfl).2
        have hN : N (n2 + j) := ⟨_, List.mem_append_right _ hm⟩
        have h3' : ¬ ∃ o, W.new (n2 + j) o ∈ ws3 := hnot3 _ _ hm
        simp [Gf, landG, hN, LVf, h3', hu]
      have st2 : Step W0 G1 ob1 w Gf (obW ob1 (ws2 ++ (.upd kb (.box vs') :: (ws3 ++ ws4)))) w' := by
        rw [hobf]
        refine land (F := fun b => ow b ≠ none) (N := N) (Kf := Kf) (fun key b h => by cases h) st1.good hext hbase (fun b hb => ?_) (fun key hk hn => ?_) (fun key hn => (hNfree key hn).1) (fun key o hk ho => ?_) (fun b key hb => ?_) (fun b key hb => ?_) (fun hm key hk => ?_)
        · cases ho : ow b with
          | none => exact absurd ho hb
          | some id =>
            obtain ⟨key, hk, h | ⟨hne, j, hj, -⟩⟩ := howK b id ho
            · exact ⟨key, hk, .inl h.1⟩
            · refine ⟨key, hk, .inr ?_⟩
              obtain ⟨hi, hc1, -⟩ := List.findIdx?_eq_some_iff_getElem.1 hj
              have hc := List.getElem?_eq_getElem hi
              generalize hcc : cs[j] = c at hc1 hc
              cases c with
              | lst k =>
                have e : k = key := natEq_true hc1
                subst e
                rcases hps.cell j _ _ hc (List.getElem?_eq_getElem (by rw [hps.len]; exact hi)) with ⟨x, e1, -⟩ | ⟨a, e1, -⟩ | ⟨key', a, xs, o, e1, e2, -, e4⟩
                · cases e1
                · cases e1
                · cases e1; exact e4
              | _ => simp [isLst] at hc1
        · rw [hfin key hn, updO_ne _ _ (fun e => hk (.inl e)), (dead_obW (ob := ob1) key hdead).2 (fun h => hk (.inr h))]
        · have hn : ¬ N key := fun hn => by rw [(hNfree key hn).1] at ho; cases ho
          rw [hfin key hn]
          rcases hk with rfl | hk
          · exact ⟨.box vs', updO_self _ _ _, by simp⟩
          · have hne : key ≠ kb := fun e => hdkb (e ▸ hk)
            exact ⟨.dead, by rw [updO_ne _ _ hne]; exact (dead_obW (ob := ob1) key hdead).1 hk, by simp⟩
        · have hfr : ∀ id, ow' b = some id → (ow b ≠ none ∨ w.heap.size ≤ b) ∧ b < w'.heap.size := fun id h => how' b id h
          simp only [owf] at hb
          split at hb
          · rename_i hj
            split at hb
            · cases hb; exact ⟨(hfr _ hj).1, (hfr _ hj).2, .inl (.inl rfl)⟩
            · cases hb
          · rename_i j hj
            split at hb
            · rename_i hn; cases hb; exact ⟨(hfr _ hj).1, (hfr _ hj).2, .inr hn.1⟩
            · cases hb
          · rename_i j hj
            split at hb
            · rename_i hn; cases hb; exact ⟨(hfr _ hj).1, (hfr _ hj).2, .inr hn.1⟩
            · cases hb
          · cases hb
        · by_cases hF : ow b = none
          · exact .inr (fun h => h hF)
          · left
            cases ho : ow b with
            | none => exact absurd ho hF
            | some id =>
              obtain ⟨key', hk', h | ⟨hne, j, hj, -⟩⟩ := howK b id ho
              · rw [hb] at hk'; cases hk'; exact .inl h.1
              · rw [hb] at hk'; cases hk'
                right
                obtain ⟨hi, hc1, -⟩ := List.findIdx?_eq_some_iff_getElem.1 hj
                have hc := List.getElem?_eq_getElem hi
                generalize hcc : cs[j] = c at hc1 hc
                cases c with
                | lst k =>
                  have e : k = key := natEq_true hc1
                  subst e
                  rcases hps.cell j _ _ hc (List.getElem?_eq_getElem (by rw [hps.len]; exact hi)) with ⟨x, e1, -⟩ | ⟨a, e1, -⟩ | ⟨key', a, xs, o, e1, e2, -, e4⟩
                  · cases e1
                  · cases e1
                  · cases e1; exact e4
                | _ => simp [isLst] at hc1
        · rcases hk with (rfl | hk) | ⟨o, hmo⟩
          · have hbox : obW (updO (obW ob1 ws2) key (.box vs')) (ws3 ++ ws4) key = some (.box vs') := by rw [hfin key hkbN, updO_self]
            refine ⟨fun cs'' h => ?_, fun s pos h => ?_, fun k' xs' own' h => ?_⟩ <;> rw [hbox] at h <;> cases h
            have hofb : owf (G1.B key) = some key := by simp [owf, how0]
            refine ⟨by simp [landG, hofb], ⟨pvs, T', p1, by rw [h2, p2], fun j c v hc hv => ?_, p3⟩, hS0⟩
            exact back_rel (n := n1) (mine := fun j b => ow' b = some (0, j + 1)) h2 p2.symm (fun j p hp => ⟨(h3 j p hp).1, fun a xs o e => ⟨((h3 j p hp).2.1 a xs o e).1,
              (obW_news hw34' hnews _).1 _ (List.mem_append_left _ ((h3 j p hp).2.1 a xs o e).2)⟩, (h3 j p hp).2.2.1, fun xs e => (by have := ((h3 j p hp).2.2.2 xs e).1; cases this)⟩) (fun j b xs hp _ => by have := ((h3 j _ hp).2.2.2 xs rfl).1; cases this) (fun key e => by cases e) (fun j p v hp hv => p4 j p v hp hv) (fun j v hv a xs o hp => hLV3 j a xs o hp v hv) j c v hc hv
          · have hn : ¬ N key := fun hn => (hNfree key hn).2.2 hk
            have hne : key ≠ kb := fun e => hdkb (e ▸ hk)
            refine ⟨fun cs'' h => ?_, fun s pos h => ?_, fun k' xs' own' h => ?_⟩ <;> rw [hfin key hn, updO_ne _ _ hne, (dead_obW (ob := ob1) key hdead).1 hk] at h <;> cases h
          · have hobk := (obW_news hw34' hnews key).1 o hmo
            rcases List.mem_append.1 hmo with hm3 | hm4
            · obtain ⟨j, a, xs, oo, rfl, hp, hm'⟩ := hnew3 key ⟨o, hm3⟩
              have heq := (obW_news hw34' hnews (n1 + j)).1 _ (List.mem_append_left ws4 hm')
              rw [heq] at hobk; cases hobk
              refine ⟨fun cs'' h => ?_, fun s pos h => ?_, fun k' xs' own' h => ?_⟩ <;> rw [heq] at h <;> cases h
              have hj : j < ps'.length := (List.getElem?_eq_some_iff.1 hp).1
              have hu := List.getElem?_eq_getElem (by omega : j < pvs.length)
              have hLV := hLV3 j a xs oo hp _ hu
              have hpr := p4 j _ _ hp hu
              generalize pvs[j] = u at hLV hpr
              cases hpr with
              | nil => exact .inl ⟨rfl, hLV⟩
              | own _ _ _ b cap hmine hB =>
                refine .inr ⟨b, cap, hLV, ?_, hB⟩
                have hcond : N (n1 + j) ∧ (∃ a xs o, ps'[j]? = some (.own a xs o)) := ⟨⟨_, hmo⟩, _, _, _, hp⟩
                have : owf b = some (n1 + j) := by simp only [owf]; rw [hmine]; exact if_pos hcond
                simp [landG, this]
            · rcases g4 _ hm4 with ⟨j, a, xs, oo, e1, hp⟩ | ⟨hck, -⟩
              case inr => cases hck
              cases e1
              refine ⟨fun cs'' h => ?_, fun s pos h => ?_, fun k' xs' own' h => ?_⟩ <;> rw [hobk] at h <;> cases h
              have hj : j < rs.length := (List.getElem?_eq_some_iff.1 hp).1
              have hu := List.getElem?_eq_getElem (by omega : j < us.length)
              have hLV := hLV4 j a xs oo hp _ hu
              have hpr := hrel j _ _ hp hu
              generalize us[j] = u at hLV hpr
              cases hpr with
              | nil => exact .inl ⟨rfl, hLV⟩
              | own _ _ _ b cap hmine hB =>
                refine .inr ⟨b, cap, hLV, ?_, hB⟩
                have hcond : N (n2 + j) ∧ (∃ a xs o, rs[j]? = some (.own a xs o)) := ⟨⟨_, hmo⟩, _, _, _, hp⟩
                have : owf b = some (n2 + j) := by
                  simp only [owf]
                  have hm1 : ow' b = some (1, j + 1) := hmine
                  rw [hm1]; exact if_pos hcond
                simp [landG, this]
      refine ⟨packed us, r, _, Gf, he, hk, by rw [obW_append, hob1]; exact st1.trans st2, ?_⟩
      rw [obW_append, hob1, hobf]
      refine g5 hlen ?_
      exact back_rel (n := n2) (mine := fun j b => ow' b = some (1, j + 1)) g2 hlen (fun j p hp => ⟨(g3 j p hp).1, fun a xs o e => ⟨((g3 j p hp).2.1 a xs o e).1,
        (obW_news hw34' hnews _).1 _ (List.mem_append_right _ ((g3 j p hp).2.1 a xs o e).2)⟩, (g3 j p hp).2.2.1, fun xs e => (by have := ((g3 j p hp).2.2.2 xs e).1; cases this)⟩) (fun j b xs hp _ => by have := ((g3 j _ hp).2.2.2 xs rfl).1; cases this)
        (fun key e => by cases e; exact ⟨⟨_, by rw [hfin _ hkbN, updO_self]⟩, fun b hb => by cases hb; rfl⟩) hrel (fun j v hv a xs o hp => hLV4 j a xs o hp v hv)
    · exact wp_fail_inv hR
end
end Aw

/-
  Aw, part V: every operation does what the evaluator says.
-/
set_option linter.unusedSimpArgs false
set_option linter.unusedVariables false
namespace Aw
open Go Go.RowKit

theorem get_none {α : Type} {l : List α} {i : Nat} {x : α} (h : l[i]? = some x) : i < l.length := (List.getElem?_eq_some_iff.1 h).1

theorem push_bytes (l : List UInt8) : ∀ (r : ByteArray), l.foldl (fun r b => r.push b) r = ⟨(r.data.toList ++ l).toArray⟩ := by
  induction l with
  | nil => intro r; simp
  | cons b l ih => intro r; rw [List.foldl_cons, ih]; simp
theorem run_bytesToString {P : Program} {w : World} {u : Value} {ys : List DV} {news : List Value} (h : Reads w u ys.length 1 news) (hb : ∀ (j : Nat) (y : DV), ys[j]? = some y → ∃ n, y = .int .u8 n ∧ news[j]? = some (.int .u8 n)) :
    (Conv.bytesToString u).run P w = .ok (.string ⟨(ys.map byteOf).toArray⟩) w := by
  obtain ⟨hl, a, c, rfl, ⟨rfl, rfl, h0, -⟩ | ⟨a', rfl, -, h⟩⟩ := h
  · have : ys = [] := List.eq_nil_of_length_eq_zero h0
    subst this
    rfl
  · have hl1 : news.length = ys.length := by simpa using hl
    have hload0 : (loadCells a' news.length).run P w = .ok news.toArray w := run_loadCells_list (P := P) w a' news h
    clear hl
    have hl := hl1
    clear hl1
    clear h
    have hn : ∃ ns : List Int, news = ns.map (Value.int .u8) ∧ ys.map byteOf = ns.map (fun n => UInt8.ofNat n.toNat) := by
      clear hload0
      induction ys generalizing news with
      | nil => exact ⟨[], by simpa using hl, rfl⟩
      | cons y ys ih =>
        cases news with
        | nil => simp at hl
        | cons v news =>
          obtain ⟨ns, e1, e2⟩ := ih (news := news) (fun j y hy => hb (j + 1) y (by simpa using hy)) (by simpa using hl)
          obtain ⟨n, e3, e4⟩ := hb 0 y rfl
          simp at e4
          exact ⟨n :: ns, by simp [e1, e4], by simp [e2, e3, byteOf]⟩
    obtain ⟨ns, e1, e2⟩ := hn
    have hload : (loadCells a' ys.length).run P w = .ok (ns.map (Value.int .u8)).toArray w := by
      rw [← hl, ← e1]; exact hload0
    rw [Go.run_bytesToString w a' ys.length c ns hload, e2]
    congr 2
    have : ∀ (ns : List Int) (r : ByteArray), ns.foldl (fun r n => r.push (UInt8.ofNat n.toNat)) r = (ns.map (fun n => UInt8.ofNat n.toNat)).foldl (fun r b => r.push b) r := by
      intro ns
      induction ns with
      | nil => intro r; rfl
      | cons n ns ih => intro r; simp [ih]
    rw [this, push_bytes]
    rfl

theorem snocK_eq {α β : Type} (l : List α) (x : α) (k : List α → β) : snocK l x k = k (l ++ [x]) := by
  induction l generalizing k with
  | nil => rfl
  | cons y l ih => simp [snocK, ih]

section
variable {P : Program} {TT : Tr TI} (hT : TOk P TT) {W0 : World} {G : Gh} {ob : Nat → Option Ob} {w : World} (hG : Good W0 G ob w) {K : AV → Ws → Prop}
  {ρ : Operand → AV} {a : Act} (hρ : ∀ x, ARel G ob w (ρ x) (a.eval x)) {next : Act → World → Prop} {Q : Exit → Act → World → Prop}
include hT hG hρ

theorem op_sound {o : Oper} (h : (opE TT ob ρ o).wp (CallsA P W0) K) (hok : ∀ v ws, K v ws → WsOk ob ws)
    (hn : ∀ v ws G' w' u, K v ws → Step W0 G ob w G' (obW ob ws) w' → ARel G' (obW ob ws) w' v u → next (a.put o.dst u) w') : o.wp P a w next Q := by
  obtain ⟨dst, op, ty, pos, after, guard⟩ := o
  have pure' : ∀ {v : Value} {r : AV}, (execOp a.eval ⟨dst, op, ty, pos, after, guard⟩).run P w = .ok (.value v) w → K r [] → ARel G ob w r v →
      Oper.wp P ⟨dst, op, ty, pos, after, guard⟩ a w next Q := by
    intro v r h1 h2 h3
    unfold Oper.wp
    rw [h1]
    exact hn r [] G w v h2 (.refl hG) h3
  have gen : ∀ {v : Value} {w' : World} {r : AV} {ws : Ws} {G' : Gh}, (execOp a.eval ⟨dst, op, ty, pos, after, guard⟩).run P w = .ok (.value v) w' → K r ws → Step W0 G ob w G' (obW ob ws) w' → ARel G' (obW ob ws) w' r v →
      Oper.wp P ⟨dst, op, ty, pos, after, guard⟩ a w next Q := by
    intro v w' r ws G' h1 h2 h3 h4
    unfold Oper.wp
    rw [h1]
    exact hn r ws G' w' v h2 h3 h4
  cases op with
  | move x => exact pure' (by simp [execOp]) (wp_ret_inv h) (hρ x)
  | assign x => exact pure' (by simp [execOp]) (wp_ret_inv h) (hρ x)
  | pick c x y =>
    simp only [opE] at h
    have hc := hρ c
    split at h
    · rename_i b hb
      rw [hb] at hc
      have hcv := hc.bool
      cases b with
      | true => exact pure' (by simp [execOp, hcv, asBool]) (wp_ret_inv ((split_inv h).t rfl)) (hρ x)
      | false => exact pure' (by simp [execOp, hcv, asBool]) (wp_ret_inv ((split_inv h).f rfl)) (hρ y)
    · exact wp_fail_inv h
  | alloc T =>
    simp only [opE] at h
    split at h
    · rename_i d
      split at h
      · rename_i hd
        split at h
        · rename_i i hi
          obtain ⟨val, w', G', h1, h2, h3⟩ := alloc_sound hT hG hd hi
          exact gen (by simp [execOp, h1]) (wp_ret_inv h) h2 h3
        · exact wp_fail_inv h
      · exact wp_fail_inv h
    · exact wp_fail_inv h
  | box T x =>
    simp only [opE] at h
    split at h
    · rename_i d
      split at h
      · rename_i hd
        obtain ⟨cs, h1, h2⟩ := cellsK_inv h
        obtain ⟨val, w', G', h3, h4, h5⟩ := box_sound (P := P) (T := T) hG hd (h2 G ob w _ (hρ x))
        exact gen (by simp [execOp, h3]) (wp_ret_inv h1) h4 h5
      · exact wp_fail_inv h
    · exact wp_fail_inv h
  | build T parts =>
    simp only [opE] at h
    split at h
    · rename_i i hi
      split at h
      · rename_i fs hd
        split at h
        · rename_i ps hp
          obtain ⟨val, r, h1, h2, h3⟩ := build_sound hT hi hd hp hρ h
          exact pure' (by simp [execOp, h1]) h2 h3
        · exact wp_fail_inv h
      · exact wp_fail_inv h
    · exact wp_fail_inv h
  | buildSlice T len parts =>
    simp only [opE] at h
    split at h
    · rename_i d
      split at h
      · rename_i hd
        split at h
        · rename_i e he
          split at h
          · rename_i k hk
            split at h
            · rename_i hlen
              split at h
              · exact wp_fail_inv h
              · rename_i k
                split at h
                · rename_i hsm
                  obtain ⟨val, w', G', ws, h1, h2, h3, h4⟩ := buildSlice_sound hT he hk hG hρ (natEq_true hlen) (Nat.le_of_ble_eq_true hsm) hd h
                  exact gen (by simp [execOp, h1]) h2 h3 h4
                · exact wp_fail_inv h
            · exact wp_fail_inv h
          · exact wp_fail_inv h
        · exact wp_fail_inv h
      · exact wp_fail_inv h
    · exact wp_fail_inv h
  | load T x =>
    obtain ⟨val, r, h1, h2, h3⟩ := load_sound hT hG h (hρ x)
    exact pure' (by simp [execOp, h1]) h2 h3
  | store T x y =>
    obtain ⟨w', G', ws, h1, h2, h3⟩ := storeE_sound hT hG h (hρ x) (hρ y)
    unfold Oper.wp
    have : (execOp a.eval ⟨dst, .store T x y, ty, pos, after, guard⟩).run P w = .ok .skip w' := by simp [execOp, h1]
    rw [this]
    exact hn _ ws G' w' undef h2 h3 (.junk _)
  | nilCheck x =>
    simp only [opE] at h
    have hx := hρ x
    split at h
    · rename_i key off hk
      rw [hk] at hx
      cases hx with
      | ptr _ _ _ o ho hv => exact pure' (r := .ptr key off) (by simp [execOp, hv]) (wp_ret_inv h) (.ptr key off _ o ho rfl)
    · rename_i y j hk
      rw [hk] at hx
      generalize hv : a.eval x = v at hx
      cases hx with
      | ep _ _ b off hc => exact pure' (r := .ep y j) (by simp [execOp, hv]) (wp_ret_inv h) (.ep y j b off hc)
    · rename_i key i j hk
      rw [hk] at hx
      split at h
      · rename_i k xs own ho
        cases hx with
        | lp _ _ _ _ o ho' hv =>
          rw [ho] at ho'; cases ho'
          obtain ⟨hi, b, cap, hL, hve⟩ := hv _ _ _ rfl
          exact pure' (v := .pointer (some ⟨b, i * k + j, none⟩)) (r := .lp key i j) (by simp [execOp, hve]) (wp_ret_inv h) (.lp key i j _ _ ho (fun k2 xs2 own2 e2 => by cases e2; exact ⟨hi, b, cap, hL, rfl⟩))
      · exact wp_fail_inv h
    · rename_i f hk
      rw [hk] at hx
      have hv := hx.fn
      exact pure' (r := .d (.fn f)) (by simp [execOp, hv]) (wp_ret_inv h) (.d _ _ (.fn f))
    · rename_i c key off hk
      rw [hk] at hx
      cases hx with
      | clo _ _ _ b o v x ho hs hc hv =>
        refine pure' (v := cloV c b o) (r := .clo c key off) ?_ (wp_ret_inv h) (.clo c key off b o _ x ho hs hc rfl)
        cases c <;> (simp only [cloV] at hv; simp [execOp, hv, cloV])
    · exact wp_fail_inv h
  | binOp op T x y yT =>
    obtain ⟨val, h1, r, h2, h3⟩ := binop_sound (ox := x) (oy := y) hT h (hρ x) (hρ y)
    exact pure' (r := r) (by simp only [execOp, Sem.run_bind, Sem.run_pure] at h1 ⊢; rw [h1]; rfl) h2 (h3 _ _ _)
  | unOp op T x =>
    obtain ⟨val, h1, r, h2, h3⟩ := unop_sound (P := P) h (hρ x)
    exact pure' (r := r) (by simp [execOp, h1]) h2 (h3 _ _ _)
  | convert sT dT x =>
    simp only [opE] at h
    have hx := hρ x
    split at h
    · rename_i si hs
      split at h
      · rename_i i hi
        split at h
        · rename_i ks hds
          split at h
          · rename_i k hd
            split at h
            · rename_i kk n hk
              rw [hk] at hx
              exact pure' (r := .d (.int k (k.wrap n))) (by simp only [execOp, hx.int]; simp [convert_run hT hs hi hd w ⟨_, hT.underlying_int hs hds⟩]) (wp_ret_inv h) (.d _ _ (.int _ _))
            · exact wp_fail_inv h
          · exact wp_fail_inv h
        · rename_i hds
          split at h
          · rename_i hd
            split at h
            · rename_i s hk
              rw [hk] at hx
              have hrun : (Go.convert sT dT (.string ⟨s.toArray⟩)).run P w = .ok (.string ⟨s.toArray⟩) w := by
                simp [Go.convert, run_underlying (hT.underlying_str hs hds), run_underlying (hT.underlying_str hi hd)]
              exact pure' (r := .d (.str s)) (by simp only [execOp, hx.str]; simp [hrun]) (wp_ret_inv h) (.d _ _ (.str _))
            · exact wp_fail_inv h
          · exact wp_fail_inv h
        · rename_i e hds
          split at h
          · rename_i hd
            split at h
            · rename_i ei hei
              split at h
              · rename_i hed
                obtain ⟨p, ys, h1, h2⟩ := appArg_inv h
                obtain ⟨hp, hb⟩ := h1.l
                obtain ⟨news, hr1, hr2, hr3⟩ := (h2 hG hx hp).reads
                have hrun := run_bytesToString (P := P) hr1 (by
                  intro j y hy
                  obtain ⟨n, hn⟩ := hb y (List.mem_of_getElem? hy)
                  have hlt : j < news.length := by rw [hr1.1]; have := get_none hy; omega
                  refine ⟨n, hn, ?_⟩
                  have hfl : (flat ys)[j]? = some (.int .u8 n) := by
                    have := flat_get (h2 hG hx hp).wid hy 0 (by omega)
                    simp only [Nat.mul_one, Nat.add_zero] at this
                    rw [this, hn]; rfl
                  have := hr2 j _ _ hfl (List.getElem?_eq_getElem hlt)
                  rw [List.getElem?_eq_getElem hlt]
                  generalize news[j] = z at this
                  cases this; rfl)
                refine pure' (r := .d (.str (ys.map byteOf))) (by
                  simp only [execOp, Sem.run_bind, Go.convert, run_underlying (hT.underlying_sl hs hds), run_underlying (hT.underlying_str hi hd), Result.andThen_ok]
                  obtain ⟨hl, aa, cc, hae, -⟩ := hr1
                  rw [hae] at hrun ⊢
                  simp [run_underlying (hT.underlying_int hei hed), hrun]) (wp_ret_inv (need_inv h1).r) (.d _ _ (.str _))
              · exact wp_fail_inv h
            · exact wp_fail_inv h
          · exact wp_fail_inv h
        · exact wp_fail_inv h
      · exact wp_fail_inv h
    · exact wp_fail_inv h
  | slice T x lo hi mx =>
    simp only [opE] at h
    split at h
    · exact wp_fail_inv h
    · split at h
      · rename_i i hi'
        split at h
        · rename_i hd
          split at h
          · rename_i s hs
            have hx := hρ x
            rw [hs] at hx
            obtain ⟨val, h1, r, h2, h3⟩ := sliceStr_sound (P := P) hT hi' hd hρ h
            exact pure' (r := r) (by simp only [execOp, hx.str]; simp [h1]) h2 (h3 _ _ _)
          · exact wp_fail_inv h
        · rename_i e hd
          split at h
          · rename_i n hnn
            obtain ⟨y, ws, h1, h2⟩ := sealK_inv h
            split at h1
            · rename_i xs
              obtain ⟨val, G', r, h3, h4, h5, h6⟩ := sliceSl_sound hT (T := T) (by simp [elemTy, hi', hd]) hnn hG hρ h2 (hρ x) h1
              exact gen (by simp only [execOp]; simp [h3]) h4 h5 h6
            · exact wp_fail_inv h1
          · exact wp_fail_inv h
        · exact wp_fail_inv h
      · exact wp_fail_inv h
  | fieldAddr T x f =>
    simp only [opE] at h
    split at h
    · rename_i off n hf
      have hx := hρ x
      split at h
      · rename_i key j hk
        rw [hk] at hx
        cases hx with
        | ptr _ _ _ o ho hv => exact pure' (by simp [execOp, hv, fieldAddr_run hT hf]) (wp_ret_inv h) (.ptr key _ _ o ho rfl)
      · rename_i y j hk
        rw [hk] at hx
        generalize hv : a.eval x = v at hx
        cases hx with
        | ep _ _ b o hc =>
          exact pure' (v := .pointer (some ⟨b, o + j + off, none⟩)) (r := .ep y (j + off)) (by simp only [execOp, hv]; simp [fieldAddr_run hT hf]) (wp_ret_inv h)
            (by have := ARel.ep (G := G) (ob := ob) y (j + off) b o hc; rwa [← Nat.add_assoc] at this)
      · rename_i key i j hk
        rw [hk] at hx
        split at h
        · rename_i k xs own ho
          cases hx with
          | lp _ _ _ _ o ho' hv =>
            rw [ho] at ho'; cases ho'
            obtain ⟨hi, b, cap, hL, hve⟩ := hv _ _ _ rfl
            exact pure' (v := .pointer (some ⟨b, i * k + j + off, none⟩)) (r := .lp key i (j + off)) (by simp only [execOp, hve]; simp [fieldAddr_run hT hf]) (wp_ret_inv h)
              (.lp key i (j + off) _ _ ho (fun k2 xs2 own2 e2 => by cases e2; exact ⟨hi, b, cap, hL, by rw [Nat.add_assoc]⟩))
        · exact wp_fail_inv h
      · exact wp_fail_inv h
    · exact wp_fail_inv h
  | field T x f =>
    simp only [opE] at h
    split at h
    · rename_i off n hf
      split at h
      · rename_i fty hty
        have hx := hρ x
        split at h
        · rename_i cs hk
          rw [hk] at hx
          have hd := hx.dd
          obtain ⟨h1, h2⟩ := subK_inv h
          obtain ⟨r, h3, h4⟩ := dAsTy_inv h2
          generalize hv : a.eval x = v at hd
          cases hd with
          | agg _ us hl hr ha =>
            have hfr := field_run (P := P) hT hf (us := us) (w := w) (by omega)
            rcases h4 with ⟨h5, rfl⟩ | ⟨h5, h6⟩
            · refine pure' (v := .agg ⟨(us.drop off).take n⟩) (r := .d (.agg ((cs.drop off).take n))) (by simp only [execOp, hv]; simp [hfr.1 fty hty h5]) (wp_ret_inv h3) (.d _ _ (.agg _ _ (by simp [hl]) (fun i c v hc hv => ?_) (fun c hc => ha c (List.mem_of_mem_drop (List.mem_of_mem_take hc)))))
              have hi : i < n := by have := get_none hv; simp at this; omega
              rw [List.getElem?_take_of_lt hi, List.getElem?_drop] at hc hv
              exact hr _ c v hc hv
            · have hn0 : 0 < n := by cases n with | zero => simp at h6 | succ n => omega
              have hc0 : cs[off]? = some r := by
                have : ((cs.drop off).take n)[0]? = some r := by rw [h6]; rfl
                rw [List.getElem?_take_of_lt hn0, List.getElem?_drop] at this
                simpa using this
              have hu := List.getElem?_eq_getElem (by omega : off < us.length)
              exact pure' (r := .d r) (by simp only [execOp, hv]; simp [hfr.2 fty _ hty h5 hu]) (wp_ret_inv h3) (.d _ _ (hr off r _ hc0 hu))
        · rename_i cs hk
          rw [hk] at hx
          obtain ⟨h1, h2⟩ := subK_inv h
          generalize hv : a.eval x = v at hx
          cases hx with
          | agg _ us hl hr ha =>
            have hfr := field_run (P := P) hT hf (us := us) (w := w) (by omega)
            have hrel : ARels G ob w ((cs.drop off).take n) ((us.drop off).take n) := by
              refine ⟨by simp [hl], fun i c u hc hu => ?_, fun u hu => ha u (List.mem_of_mem_drop (List.mem_of_mem_take hu))⟩
              have hi : i < n := by have := get_none hu; simp at this; omega
              rw [List.getElem?_take_of_lt hi, List.getElem?_drop] at hc hu
              exact hr _ c u hc hu
            rcases asTy_inv h2 with ⟨h3, r, h4, h5⟩ | ⟨h3, r, h4, h5⟩
            · exact pure' (r := r) (by simp only [execOp, hv]; simp [hfr.1 fty hty h3]) (wp_ret_inv h4) (h5 _ _ _ _ hrel)
            · have hn0 : 0 < n := by cases n with | zero => simp at h4 | succ n => omega
              have hc0 : cs[off]? = some r := by
                have : ((cs.drop off).take n)[0]? = some r := by rw [h4]; rfl
                rw [List.getElem?_take_of_lt hn0, List.getElem?_drop] at this
                simpa using this
              have hu := List.getElem?_eq_getElem (by omega : off < us.length)
              exact pure' (r := r) (by simp only [execOp, hv]; simp [hfr.2 fty _ hty h3 hu]) (wp_ret_inv h5) (hr off r _ hc0 hu)
        · exact wp_fail_inv h
      · exact wp_fail_inv h
    · exact wp_fail_inv h
  | indexAddr T x i =>
    simp only [opE] at h
    split at h
    · rename_i e he
      split at h
      · rename_i k hk
        split at h
        · rename_i kk n hi
          have hiv := hρ i
          rw [hi] at hiv
          have hx := hρ x
          split at h
          · rename_i xs hxs
            rw [hxs] at hx
            have hlt := h.hi
            have hxi := List.getElem?_eq_getElem hlt
            obtain ⟨hwx, h2⟩ := h.el _ hxi
            rcases hx.dd.slice with ⟨rfl, -⟩ | ⟨a0, rfl, -⟩ | ⟨b, off, cap, k', hv, hc, hk', hcells⟩
            · simp at hlt
            · simp at hlt
            · have e1 : k' = k + 1 := by rw [← hwx]; exact (hk' _ (List.getElem_mem hlt)).symm
              subst e1
              refine pure' (r := .ep xs[n.toNat] 0) (by simp only [execOp, hv, hiv.int]; simp [indexAddr_run hT he hk h.lo hlt]) (wp_ret_inv (CG := CallsA P W0) (K := K) h2) (.ep _ 0 b (off + n.toNat * (k + 1)) ⟨fun j c hc' => ?_, fun j c hc' => ?_, fun c hc' => hcells.a c (List.mem_flatMap.2 ⟨_, List.getElem_mem hlt, hc'⟩)⟩)
              · have hj : j < k + 1 := by rw [← hwx]; exact get_none hc'
                have := hcells.s (n.toNat * (k + 1) + j) c ((flat_get hk' hxi j hj).trans hc')
                rwa [← Nat.add_assoc] at this
              · have hj : j < k + 1 := by rw [← hwx]; exact get_none hc'
                have := hcells.v (n.toNat * (k + 1) + j) c ((flat_get hk' hxi j hj).trans hc')
                rwa [← Nat.add_assoc] at this
          · rename_i key hkey
            rw [hkey] at hx
            split at h
            · rename_i a' xs own ho
              split at h
              · rename_i hak
                have hak := natEq_true hak
                subst hak
                obtain ⟨h0, h1⟩ := h.l
                cases hx with
                | lst _ _ o ho' hat hv =>
                  rw [ho] at ho'; cases ho'
                  have hv' := hv _ _ _ rfl
                  rcases (hG.key key).list _ xs own ho with ⟨e1, -⟩ | ⟨b, cap, hL, how, hB⟩
                  · subst e1; simp at h1
                  · rw [hL] at hv'
                    refine pure' (v := .pointer (some ⟨b, n.toNat * (k + 1), none⟩)) (r := .lp key n.toNat 0) (by simp only [execOp, hv', hiv.int]; simp [indexAddr_run hT he hk h0 h1]) (wp_ret_inv (need_inv h).r) (.lp key n.toNat 0 _ _ ho (fun k2 xs2 own2 e2 => ?_))
                    cases e2
                    exact ⟨h1, b, cap, hL, by simp⟩
              · exact wp_fail_inv h
            · exact wp_fail_inv h
          · exact wp_fail_inv h
        · exact wp_fail_inv h
      · exact wp_fail_inv h
    · exact wp_fail_inv h
  | index T x i =>
    simp only [opE] at h
    split at h
    · rename_i ti hti
      split at h
      · rename_i hd
        split at h
        · rename_i s hs
          split at h
          · rename_i kk n hi
            have hx := hρ x
            have hiv := hρ i
            rw [hs] at hx
            rw [hi] at hiv
            obtain ⟨h0, h1⟩ := h.l
            exact pure' (r := .d (.int .u8 ((s.getD n.toNat 0).toNat : Int))) (by simp only [execOp, hx.str, hiv.int]; simp [index_run hT hti hd h0 h1]) (wp_ret_inv (need_inv h).r) (.d _ _ (.int _ _))
          · exact wp_fail_inv h
        · exact wp_fail_inv h
      · exact wp_fail_inv h
    · exact wp_fail_inv h
  | range T x =>
    simp only [opE] at h
    split at h
    · rename_i d
      split at h
      · rename_i hd
        split at h
        · rename_i i hi
          split at h
          · rename_i hde
            split at h
            · rename_i s hs
              have hx := hρ x
              rw [hs] at hx
              obtain ⟨G', h1, h2⟩ := iter_step hG hd s
              exact gen (r := .ptr d 0) (by simp only [execOp, hx.str]; simp [Instr.range, run_underlying (hT.underlying_str hi hde)]) (wp_ret_inv h) h1 h2
            · exact wp_fail_inv h
          · exact wp_fail_inv h
        · exact wp_fail_inv h
      · exact wp_fail_inv h
    · exact wp_fail_inv h
  | next it isStr =>
    cases isStr with
    | false => exact wp_fail_inv h
    | true =>
      simp only [opE] at h
      have hx := hρ it
      split at h
      · rename_i key hk
        rw [hk] at hx
        split at h
        · rename_i s pos ho
          cases hx with
          | ptr _ _ _ o ho' hv =>
            obtain ⟨n1, n2⟩ := next_step hG (P := P) ho ty
            by_cases hp : pos < s.length
            · obtain ⟨w', h1, h2⟩ := n1 hp
              refine gen (by simp only [execOp, hv]; simp [h1]) (wp_ret_inv ((split_inv h).t (by simpa using hp))) h2 (.tup _ [.bool true, .int .i64 pos, .int .i32 (udec s pos).1] rfl (fun i c v hc hv => ?_))
              match i, hc, hv with
              | 0, hc, hv => simp at hc hv; subst hc; subst hv; exact .d _ _ (.bool _)
              | 1, hc, hv => simp at hc hv; subst hc; subst hv; exact .d _ _ (.int _ _)
              | 2, hc, hv => simp at hc hv; subst hc; subst hv; exact .d _ _ (.int _ _)
            · refine pure' (by simp only [execOp, hv]; simp [n2 hp]) (wp_ret_inv ((split_inv h).f (by simpa using hp))) (.tup _ [.bool false] rfl (fun i c v hc hv => ?_))
              match i, hc, hv with
              | 0, hc, hv => simp at hc hv; subst hc; subst hv; exact .d _ _ (.bool _)
        · exact wp_fail_inv h
      · exact wp_fail_inv h
  | extract x i =>
    simp only [opE] at h
    split at h
    · rename_i vs hvs
      have hx := hρ x
      rw [hvs] at hx
      generalize hv : a.eval x = v at hx
      cases hx with
      | tup _ us hl hr =>
        split at h
        · rename_i r hr'
          have hu := List.getElem?_eq_getElem (by rw [← hl]; exact get_none hr' : i < us.length)
          exact pure' (r := r) (by simp [execOp, hv, Instr.extract, hu]) (wp_ret_inv h) (hr i r _ hr' hu)
        · exact wp_fail_inv h
    · exact wp_fail_inv h
  | call c =>
    simp only [opE] at h
    split at h
    · exact wp_fail_inv h
    · rename_i d
      obtain ⟨callee, args, argTypes⟩ := c
      cases callee with
      | value fo =>
        simp only at h
        split at h
        · rename_i f hf
          have hfv := hρ fo
          rw [hf] at hfv
          have hfe := hfv.fn
          have enter : ∀ (hkn : ∃ fn, P.funcs[f]? = some fn ∧ fn.body.isNone = false ∧ (fn.name == "runtime.NumGoroutine") = false),
              (execOp a.eval ⟨some d, .call ⟨.value fo, args, argTypes⟩, ty, pos, after, guard⟩).run P w = .ok (.enter f ⟨args.toList.map a.eval⟩) w := by
            rintro ⟨fn, k1, k2, k3⟩
            have hargs : (args.map a.eval) = ⟨args.toList.map a.eval⟩ := by apply Array.ext'; simp
            simp only [execOp, resolve, hfe, Deferred.ofValue, Sem.run_bind, Sem.run_pure, Result.andThen_ok, invoke, callFunc, run_program, k1]
            simp [k2, k3, hargs]
          have done : ∀ (hc : Calls P f ⟨args.toList.map a.eval⟩ w (CallPost W0 K G ob w)) (hkn : ∃ fn, P.funcs[f]? = some fn ∧ fn.body.isNone = false ∧ (fn.name == "runtime.NumGoroutine") = false),
              Oper.wp P ⟨some d, .call ⟨.value fo, args, argTypes⟩, ty, pos, after, guard⟩ a w next Q := by
            intro hc hkn
            unfold Oper.wp
            rw [enter hkn]
            refine hc.mono ?_
            rintro e w' ⟨val, r, ws, G', rfl, h1, h2, h3⟩
            exact hn r ws G' w' val h1 h2 h3
          unfold callE at h
          obtain ⟨ks, vs, wss, h1, -, h3⟩ := argsK_inv h
          split at h1
          · exact done (call_pure hG hρ h3 hok h1) h1.known
          · rename_i key
            split at h1
            · rename_i cs ho
              obtain ⟨us', ps, ws2, h4, h5, -⟩ := passK_inv h1
              exact done (by
                have := call_meth hG hρ h3 ho h5 hok [] [] rfl (by simp) (by rw [List.append_nil]; exact h4)
                rwa [List.append_nil] at this) h4.known
            · exact wp_fail_inv h1
          · exact wp_fail_inv h1
        · rename_i f key off hf
          have hfv := hρ fo
          rw [hf] at hfv
          cases hfv with
          | clo _ _ _ b o v x ho0 hs hc hv =>
          simp only [cloV] at hv
          have enter : ∀ (hkn : ∃ fn, P.funcs[f]? = some fn ∧ fn.body.isNone = false ∧ (fn.name == "runtime.NumGoroutine") = false),
              (execOp a.eval ⟨some d, .call ⟨.value fo, args, argTypes⟩, ty, pos, after, guard⟩).run P w = .ok (.enter f ⟨args.toList.map a.eval ++ [.pointer (some ⟨b, o, none⟩)]⟩) w := by
            rintro ⟨fn, k1, k2, k3⟩
            have hargs : (args.map a.eval ++ #[.pointer (some ⟨b, o, none⟩)]) = ⟨args.toList.map a.eval ++ [.pointer (some ⟨b, o, none⟩)]⟩ := by apply Array.ext'; simp
            simp only [execOp, resolve, hv, Deferred.ofValue, Sem.run_bind, Sem.run_pure, Result.andThen_ok, invoke, callFunc, run_program, k1]
            simp [k2, k3, hargs]
          have done : ∀ (hc : Calls P f ⟨args.toList.map a.eval ++ [.pointer (some ⟨b, o, none⟩)]⟩ w (CallPost W0 K G ob w)) (hkn : ∃ fn, P.funcs[f]? = some fn ∧ fn.body.isNone = false ∧ (fn.name == "runtime.NumGoroutine") = false),
              Oper.wp P ⟨some d, .call ⟨.value fo, args, argTypes⟩, ty, pos, after, guard⟩ a w next Q := by
            intro hc hkn
            unfold Oper.wp
            rw [enter hkn]
            refine hc.mono ?_
            rintro e w' ⟨val, r, ws, G', rfl, h1, h2, h3⟩
            exact hn r ws G' w' val h1 h2 h3
          unfold callC at h
          obtain ⟨ks, vs, wss, h1, -, h3⟩ := argsK_inv h
          split at h1
          · split at h1
            · rename_i cs ho
              obtain ⟨us', ps, ws2, h4, h5, -⟩ := passK_inv h1
              rw [snocK_eq] at h4
              have h3' : ArgsOf ob ρ [key] args.toList vs wss := by
                refine ⟨h3.1, h3.2.1, fun i o' v' ws' e1 e2 e3 => ?_⟩
                rcases h3.2.2 i o' v' ws' e1 e2 e3 with ⟨_, _, j, -, e, -⟩ | h | ⟨_, _, _, j, -, e, -⟩
                · simp at e
                · exact .inr (.inl h)
                · simp at e
              refine done (call_meth hG hρ h3' ho h5 hok [.clo none 0 off] [.pointer (some ⟨b, o, none⟩)] rfl (fun i x' u' e1 e2 => ?_) h4) h4.known
              cases i with
              | zero => simp at e1 e2; subst e1; subst e2; exact ⟨none, off, rfl, .clo none key off b o _ x ho0 hs hc rfl⟩
              | succ i => simp at e1
            · exact wp_fail_inv h1
          · exact wp_fail_inv h1
        · exact wp_fail_inv h
      | builtin b =>
        simp only at h
        split at h
        · split at h
          · rename_i x hx
            have hargs : args = #[x] := by apply Array.ext'; simpa using hx
            subst hargs
            split at h
            · rename_i T hts
              have hat : argTypes = #[T] := by apply Array.ext'; simpa using hts
              subst hat
              split at h
              · rename_i i hi
                have hv := hρ x
                unfold lenE at h
                split at h
                · rename_i hd
                  split at h
                  · rename_i s hs
                    rw [hs] at hv
                    exact pure' (r := .d (.int .i64 s.length)) (by simp [execOp, resolve, invoke, builtin, Builtin.len_, run_underlying (hT.underlying_str hi hd), hv.str, goInt, size_mk]) (wp_ret_inv h) (.d _ _ (.int _ _))
                  · exact wp_fail_inv h
                · rename_i e hd
                  have hu := hT.underlying_sl hi hd
                  split at h
                  · rename_i k hs
                    rw [hs] at hv
                    generalize hve : a.eval x = v at hv
                    cases hv
                    exact pure' (r := .d (.int .i64 0)) (by simp [execOp, resolve, invoke, builtin, Builtin.len_, run_underlying hu, hve, goInt]) (wp_ret_inv h) (.d _ _ (.int _ _))
                  · rename_i xs hs
                    rw [hs] at hv
                    rcases hv.dd.slice with ⟨rfl, hve⟩ | ⟨a0, rfl, hve⟩ | ⟨b, off, cap, k, hve, -⟩
                    · exact pure' (r := .d (.int .i64 0)) (by simp [execOp, resolve, invoke, builtin, Builtin.len_, run_underlying hu, hve, goInt]) (wp_ret_inv h) (.d _ _ (.int _ _))
                    · exact pure' (r := .d (.int .i64 0)) (by simp [execOp, resolve, invoke, builtin, Builtin.len_, run_underlying hu, hve, goInt]) (wp_ret_inv h) (.d _ _ (.int _ _))
                    · exact pure' (r := .d (.int .i64 xs.length)) (by simp [execOp, resolve, invoke, builtin, Builtin.len_, run_underlying hu, hve, goInt]) (wp_ret_inv h) (.d _ _ (.int _ _))
                  · rename_i key hs
                    rw [hs] at hv
                    split at h
                    · rename_i k xs own ho
                      cases hv with
                      | lst _ _ o ho' hat hve =>
                        rw [ho] at ho'; cases ho'
                        have hve2 := hve _ _ _ rfl
                        rcases (hG.key key).list k xs own ho with ⟨e1, e2⟩ | ⟨b, cap, hL, -⟩
                        · subst e1
                          rw [e2] at hve2
                          exact pure' (r := .d (.int .i64 0)) (by simp [execOp, resolve, invoke, builtin, Builtin.len_, run_underlying hu, hve2, goInt]) (wp_ret_inv h) (.d _ _ (.int _ _))
                        · rw [hL] at hve2
                          exact pure' (r := .d (.int .i64 xs.length)) (by simp [execOp, resolve, invoke, builtin, Builtin.len_, run_underlying hu, hve2, goInt]) (wp_ret_inv h) (.d _ _ (.int _ _))
                    · exact wp_fail_inv h
                  · exact wp_fail_inv h
                · exact wp_fail_inv h
              · exact wp_fail_inv h
            · exact wp_fail_inv h
          · exact wp_fail_inv h
        · split at h
          · rename_i s x hsx
            have hargs : args = #[s, x] := by apply Array.ext'; simpa using hsx
            subst hargs
            split at h
            · rename_i sT xT hts
              split at h
              · rename_i hee
                have hee := natEq_true hee
                subst hee
                have hat : argTypes = #[sT, sT] := by apply Array.ext'; simpa using hts
                subst hat
                obtain ⟨val, w', G', ws, h1, h2, h3, h4⟩ := append_sound hT (ty := ty) hG (hρ s) (hρ x) (fun v ws hk o hm => (hok v ws hk).free hm) h
                exact gen (by simp [execOp, resolve, invoke, builtin, h1]) h2 h3 h4
              · exact wp_fail_inv h
            · exact wp_fail_inv h
          · exact wp_fail_inv h
        · split at h
          · rename_i x y hxy
            have hargs : args = #[x, y] := by apply Array.ext'; simpa using hxy
            subst hargs
            split at h
            · rename_i k a' hx1
              split at h
              · rename_i k' b' hy1
                have hvx := hρ x
                have hvy := hρ y
                rw [hx1] at hvx
                rw [hy1] at hvy
                exact pure' (r := .d (.int k (if b' < a' then b' else a'))) (by simp [execOp, resolve, invoke, builtin, run_min_int2, hvx.int, hvy.int]) (wp_ret_inv h) (.d _ _ (.int _ _))
              · exact wp_fail_inv h
            · exact wp_fail_inv h
          · exact wp_fail_inv h
        · split at h
          · rename_i x y hxy
            have hargs : args = #[x, y] := by apply Array.ext'; simpa using hxy
            subst hargs
            split at h
            · rename_i k a' hx1
              split at h
              · rename_i k' b' hy1
                have hvx := hρ x
                have hvy := hρ y
                rw [hx1] at hvx
                rw [hy1] at hvy
                exact pure' (r := .d (.int k (if a' < b' then b' else a'))) (by simp [execOp, resolve, invoke, builtin, run_max_int2, hvx.int, hvy.int]) (wp_ret_inv h) (.d _ _ (.int _ _))
              · exact wp_fail_inv h
            · exact wp_fail_inv h
          · exact wp_fail_inv h
        · exact wp_fail_inv h
      | invoke _ _ => exact wp_fail_inv h
  | _ => exact wp_fail_inv h
end
end Aw

/-
  Aw, part Va: what an operation looks at: its operands' slots, and the objects that 'touch' tells.
-/
set_option linter.unusedSimpArgs false
set_option linter.unusedVariables false
namespace Aw
open Go Go.RowKit

section
variable {TT : Tr TI}
theorem sealK_go_congr {ob ob' : Nat → Option Ob} (h : ob = ob') (l : List AV) (k : List DV → Ws → Eff) : sealK.go ob l k = sealK.go ob' l k := by rw [h]

theorem argsK_congr {ob : Nat → Option Ob} {ρ ρ' : Operand → AV} : ∀ {l : List Operand} {ks : List Nat} {k : List Nat → List AV → Ws → Eff}, (∀ x ∈ l, ρ x = ρ' x) → argsK ob ρ ks l k = argsK ob ρ' ks l k := by
  intro l
  induction l with
  | nil => intro ks k h; rfl
  | cons o r ih =>
    intro ks k h
    have h1 : ρ o = ρ' o := h o (by simp)
    have h2 : ∀ x ∈ r, ρ x = ρ' x := fun x hx => h x (by simp [hx])
    simp only [argsK, h1]
    split <;> (try split) <;> simp only [ih h2]
theorem partsK_congr {ob : Nat → Option Ob} {ρ ρ' : Operand → AV} : ∀ {l : List (Nat × Operand)} {n : Nat} {k : List DV → Ws → Eff}, (∀ x ∈ l, ρ x.2 = ρ' x.2) → partsK ob ρ n l k = partsK ob ρ' n l k := by
  intro l
  induction l with
  | nil => intro n k h; rfl
  | cons p r ih =>
    intro n k h
    obtain ⟨i, o⟩ := p
    have h1 : ρ o = ρ' o := h (i, o) (by simp)
    have h2 : ∀ x ∈ r, ρ x.2 = ρ' x.2 := fun x hx => h x (by simp [hx])
    simp only [partsK, h1]
    split
    · congr 1; funext x ws; exact ih h2
    · rfl
theorem fillK_congr {ps : List (Nat × Nat)} {ρ ρ' : Operand → AV} : ∀ {l : List (Nat × Operand)} {cs : List AV} {k : List AV → Eff}, (∀ x ∈ l, ρ x.2 = ρ' x.2) → fillK ps ρ cs l k = fillK ps ρ' cs l k := by
  intro l
  induction l with
  | nil => intro n k h; rfl
  | cons p r ih =>
    intro n k h
    obtain ⟨i, o⟩ := p
    have h1 : ρ o = ρ' o := h (i, o) (by simp)
    have h2 : ∀ x ∈ r, ρ x.2 = ρ' x.2 := fun x hx => h x (by simp [hx])
    simp only [fillK, h1, ih h2]

theorem opE_congr {ob : Nat → Option Ob} {ρ ρ' : Operand → AV} (o : Oper) (h : ∀ x ∈ o.op.operands, ρ x = ρ' x) : opE TT ob ρ o = opE TT ob ρ' o := by
  obtain ⟨dst, op, ty, pos, after, guard⟩ := o
  have pairs : ∀ ps : Array (Nat × Operand), (∀ x ∈ (ps.toList.map (·.2)).toArray, ρ x = ρ' x) → ∀ x ∈ ps.toList, ρ x.2 = ρ' x.2 := fun ps hp x hx =>
    hp _ (by simp only [List.mem_toArray, List.mem_map]; exact ⟨x, hx, rfl⟩)
  cases op with
  | call c =>
    simp only [opE]
    simp only [Op.operands, Call.operands] at h
    have hargs : ∀ x ∈ c.args.toList, ρ x = ρ' x := fun x hx => h x (by simp [Array.mem_toList_iff.1 hx])
    cases dst with
    | none => rfl
    | some d =>
      simp only
      split
      · rename_i f hc
        rw [hc] at h
        have hf : ρ f = ρ' f := h f (by simp)
        rw [hf]
        split
        · simp only [callE, argsK_congr hargs]
        · simp only [callC, argsK_congr hargs]
        · rfl
      · rename_i b hc
        split
        · split
          · rename_i x hx
            rw [hx] at hargs
            have := hargs x (by simp)
            simp only [this]
          · rfl
        · split
          · rename_i s x hx
            rw [hx] at hargs
            have h1 := hargs s (by simp)
            have h2 := hargs x (by simp)
            simp only [h1, h2]
          · rfl
        · split
          · rename_i s x hx
            rw [hx] at hargs
            have h1 := hargs s (by simp)
            have h2 := hargs x (by simp)
            simp only [h1, h2]
          · rfl
        · split
          · rename_i s x hx
            rw [hx] at hargs
            have h1 := hargs s (by simp)
            have h2 := hargs x (by simp)
            simp only [h1, h2]
          · rfl
        · rfl
      · rfl
  | build T ps =>
    simp only [Op.operands] at h
    simp only [opE, fillK_congr (pairs ps h)]
  | buildSlice T n ps =>
    simp only [Op.operands] at h
    simp only [opE, partsK_congr (pairs ps h)]
  | slice T x lo hi mx =>
    simp only [Op.operands] at h
    have hx : ρ x = ρ' x := h x (by simp)
    have hlo : evO ρ lo = evO ρ' lo := by
      cases lo with
      | none => rfl
      | some y => have := h y (by simp); simp [evO, this]
    have hhi : evO ρ hi = evO ρ' hi := by
      cases hi with
      | none => rfl
      | some y => have := h y (by simp); simp [evO, this]
    simp only [opE, hx, hlo, hhi]
  | next x s =>
    simp only [Op.operands] at h
    have hx : ρ x = ρ' x := h x (by simp)
    cases s <;> simp only [opE, hx]
  | _ => simp only [opE] <;> first | rfl | (simp only [Op.operands] at h; simp_all [opE]; done)

theorem sealK_ob {ob ob' : Nat → Option Ob} {v : AV} {ks : List Nat} (ht : akey v = some ks) (h : ∀ k ∈ ks, ob k = ob' k) (k : DV → Ws → Eff) : sealK ob v k = sealK ob' v k := by
  cases v <;> simp only [akey] at ht <;> simp only [sealK]
  · rename_i key; cases ht; rw [h key (by simp)]
  · cases ht
theorem appArg_ob {ob ob' : Nat → Option Ob} {v : AV} {ks : List Nat} (ht : akey v = some ks) (h : ∀ k ∈ ks, ob k = ob' k) (n : Nat) (k : Prop → List DV → Eff) : appArg ob n v k = appArg ob' n v k := by
  cases v with
  | d x => cases x <;> rfl
  | lst key => simp only [akey] at ht; cases ht; simp only [appArg]; rw [h key (by simp)]
  | _ => rfl
theorem argsK_ob {ob ob' : Nat → Option Ob} {ρ : Operand → AV} : ∀ {l : List Operand} {ks : List Nat} {k k' : List Nat → List AV → Ws → Eff}, allData ρ l = true → (∀ vs, k ks vs [] = k' ks vs []) → argsK ob ρ ks l k = argsK ob' ρ ks l k' := by
  intro l
  induction l with
  | nil => intro ks k k' _ hk; exact hk []
  | cons o r ih =>
    intro ks k k' h hk
    simp only [allData] at h
    split at h
    · rename_i hd
      simp only [argsK]
      generalize ρ o = v at hd
      cases v <;> simp only [isData] at hd
      · simp only [sealK]; exact ih h fun vs => hk _
      · simp only [sealK]; exact ih h fun vs => hk _
      all_goals cases hd
    · cases h
theorem argsK_ptr {ob ob' : Nat → Option Ob} {ρ : Operand → AV} : ∀ {l : List Operand} {pk ks : List Nat} {k k' : List Nat → List AV → Ws → Eff}, ptrKeys ρ l = some pk →
    (∀ ks' vs, (∀ x ∈ ks', x ∈ ks ∨ x ∈ pk) → k ks' vs [] = k' ks' vs []) → argsK ob ρ ks l k = argsK ob' ρ ks l k' := by
  intro l
  induction l with
  | nil => intro pk ks k k' _ hk; exact hk ks [] fun x hx => .inl hx
  | cons o r ih =>
    intro pk ks k k' h hk
    simp only [ptrKeys] at h
    simp only [argsK]
    generalize ρ o = v at h
    cases v with
    | d x => simp only [sealK] at h ⊢; exact ih h fun ks' vs hx => hk _ _ hx
    | nil a => simp only [sealK] at h ⊢; exact ih h fun ks' vs hx => hk _ _ hx
    | ptr key off =>
      simp only at h ⊢
      split at h
      · rename_i l hl
        cases h
        split
        · exact ih hl fun ks' vs hx => hk _ _ fun x hm => (hx x hm).imp id (List.mem_cons_of_mem _)
        · rw [outL_eq, outL_eq]
          refine ih hl fun ks' vs hx => hk _ _ fun x hm => ?_
          rcases hx x hm with h | h
          · rcases List.mem_append.1 h with h | h
            · exact .inl h
            · simp at h; subst h; exact .inr (List.mem_cons_self ..)
          · exact .inr (List.mem_cons_of_mem _ h)
      · cases h
    | _ => cases h
theorem passK_ob {ob ob' : Nat → Option Ob} : ∀ {cs : List AV} {us : List Nat} {k : List Nat → List PV → Ws → Eff}, allDataL cs = true → passK ob us cs k = passK ob' us cs k := by
  intro cs
  induction cs with
  | nil => intro us k _; rfl
  | cons c r ih =>
    intro us k h
    simp only [allDataL] at h
    split at h
    · rename_i hd
      cases c <;> simp only [isData] at hd
      · simp only [passK]; exact ih h
      · simp only [passK]; exact ih h
      all_goals cases hd
    · cases h
theorem boxesData_spec {ob : Nat → Option Ob} : ∀ {l ks : List Nat}, boxesData ob l = some ks → ∀ k ∈ l, k ∈ ks ∧ boxData ob k = true := by
  intro l
  induction l with
  | nil => intro ks _ k hk; cases hk
  | cons a r ih =>
    intro ks h k hk
    simp only [boxesData] at h
    split at h
    · rename_i ha
      split at h
      · rename_i l hl
        cases h
        rcases List.mem_cons.1 hk with e | e
        · subst e; exact ⟨List.mem_cons_self .., ha⟩
        · exact ⟨List.mem_cons_of_mem _ (ih hl k e).1, (ih hl k e).2⟩
      · cases h
    · cases h
theorem callE_ob {ob ob' : Nat → Option Ob} {ρ : Operand → AV} {d : Nat} {f : FuncId} {l : List Operand} {pk ks : List Nat} (h : ptrKeys ρ l = some pk) (hb : boxesData ob pk = some ks) (hk : ∀ k ∈ ks, ob k = ob' k) :
    callE ob ρ d f l = callE ob' ρ d f l := by
  unfold callE
  refine argsK_ptr h fun ks' vs hx => ?_
  have hin : ∀ x ∈ ks', x ∈ pk := fun x hm => (hx x hm).resolve_left (by simp)
  split
  · rfl
  · rename_i key
    obtain ⟨h1, h2⟩ := boxesData_spec hb key (hin key (by simp))
    have e : obW ob [] key = obW ob' [] key := hk key h1
    rw [← e]
    have h3 : boxData (obW ob []) key = true := h2
    simp only [boxData] at h3
    split
    · rename_i cs hcs
      rw [hcs] at h3
      exact passK_ob h3
    · rfl
  · rfl
theorem partsK_ob {ob ob' : Nat → Option Ob} {ρ : Operand → AV} : ∀ {l : List (Nat × Operand)} {n : Nat} {k : List DV → Ws → Eff}, allData ρ (l.map Prod.snd) = true → partsK ob ρ n l k = partsK ob' ρ n l k := by
  intro l
  induction l with
  | nil => intro n k _; rfl
  | cons p r ih =>
    intro n k h
    obtain ⟨i, o⟩ := p
    simp only [List.map, allData] at h
    split at h
    · rename_i hd
      simp only [partsK]
      split
      · generalize ρ o = v at hd
        cases v <;> simp only [isData] at hd
        · simp only [sealK]; exact ih h
        · simp only [sealK]; exact ih h
        all_goals cases hd
      · rfl
    · cases h

theorem loadE_ob {ob ob' : Nat → Option Ob} {T : Nat} {v : AV} {ks : List Nat} (ht : akey v = some ks) (h : ∀ k ∈ ks, ob k = ob' k) : loadE TT ob T v = loadE TT ob' T v := by
  cases v <;> simp only [akey] at ht <;> simp only [loadE]
  · rename_i key off; cases ht; rw [h key (by simp)]
  · rename_i key i j; cases ht; rw [h key (by simp)]
  · rename_i c key off; cases c <;> rfl

theorem app2_inv {a b : Option (List Nat)} {ks : List Nat} (h : app2 a b = some ks) : ∃ x y, a = some x ∧ b = some y ∧ ks = x ++ y := by
  cases a <;> cases b <;> simp [app2] at h
  exact ⟨_, _, rfl, rfl, h.symm⟩

theorem opE_ob {ob ob' : Nat → Option Ob} {ρ : Operand → AV} (o : Oper) {ks : List Nat} (ht : touch ob ρ o = some ks) (h : ∀ k ∈ ks, ob k = ob' k) : opE TT ob ρ o = opE TT ob' ρ o := by
  obtain ⟨dst, op, ty, pos, after, guard⟩ := o
  have dk : ∀ {d : Option Nat} {ks : List Nat}, dkey d = some ks → (∀ k ∈ ks, ob k = ob' k) → ∃ d', d = some d' ∧ ob d' = ob' d' := by
    intro d ks hd hk
    cases d with
    | none => cases hd
    | some d => cases hd; exact ⟨d, rfl, hk d (by simp)⟩
  cases op with
  | move x => rfl
  | assign x => rfl
  | pick c a b => rfl
  | binOp op T x y T' => rfl
  | unOp op T x => rfl
  | extract x i => rfl
  | field T x f => rfl
  | index T x i => rfl
  | build T ps => rfl
  | load T x => simp only [touch] at ht; simp only [opE]; exact loadE_ob ht h
  | nilCheck x =>
    simp only [touch] at ht; simp only [opE]
    generalize ρ x = v at *
    cases v with
    | lp key i j => simp only [lkey] at ht; cases ht; simp only []; rw [h key (by simp)]
    | d x => cases x <;> rfl
    | _ => rfl
  | fieldAddr T x f =>
    simp only [touch] at ht; simp only [opE]
    generalize ρ x = v at *
    split
    · cases v with
      | lp key i j => simp only [lkey] at ht; cases ht; simp only []; rw [h key (by simp)]
      | _ => rfl
    · rfl
  | convert s d x =>
    simp only [touch] at ht; simp only [opE]
    simp only [appArg_ob ht h]
  | indexAddr T x i =>
    simp only [touch] at ht; simp only [opE]
    generalize ρ x = v at *
    cases v with
    | lst key => simp only [akey] at ht; cases ht; simp only []; rw [h key (by simp)]
    | d x => cases x <;> rfl
    | _ => rfl
  | slice T x lo hi mx =>
    simp only [touch] at ht; simp only [opE]
    simp only [sealK_ob ht h]
  | alloc T =>
    simp only [touch] at ht; simp only [opE]
    obtain ⟨d, rfl, hd⟩ := dk ht h
    simp only [hd]
  | box T x =>
    simp only [touch] at ht; simp only [opE]
    obtain ⟨d, rfl, hd⟩ := dk ht h
    simp only [hd]
  | buildSlice T n ps =>
    simp only [touch] at ht
    split at ht
    · rename_i hall
      simp only [opE]
      obtain ⟨d, rfl, hd⟩ := dk ht h
      simp only [hd, partsK_ob hall (ob := ob) (ob' := ob')]
    · cases ht
  | store T a x =>
    simp only [touch] at ht
    split at ht
    · rename_i k j hk
      cases ht
      simp only [opE, hk, storeE]
      rw [h k (by simp)]
    · cases ht
  | call c =>
    simp only [touch] at ht
    simp only [opE]
    cases dst with
    | none => rfl
    | some d =>
      simp only
      split at ht
      · rename_i hc
        simp only [hc]
        split at ht
        · rename_i x hx
          have : ∀ T, lenE T ob (ρ x) = lenE T ob' (ρ x) := by
            intro T
            generalize ρ x = v at *
            cases T with
            | slice e => cases v with
              | lst key => simp only [akey] at ht; cases ht; simp only [lenE]; rw [h key (by simp)]
              | d x => cases x <;> rfl
              | _ => rfl
            | _ => rfl
          simp only [this]
        · cases ht
      · rename_i hc
        simp only [hc]
        split at ht
        · rename_i s x hx
          obtain ⟨xs, ys, h1, h2, rfl⟩ := app2_inv ht
          have ha : ∀ sT, appendE TT ob d sT (ρ s) (ρ x) = appendE TT ob' d sT (ρ s) (ρ x) := by
            intro sT
            have hx' := @appArg_ob ob ob' (ρ x) ys h2 (fun k hk => h k (List.mem_append_right _ hk))
            have hs' : ∀ k ∈ xs, ob k = ob' k := fun k hk => h k (List.mem_append_left _ hk)
            unfold appendE
            simp only [hx']
            generalize ρ s = v at *
            cases v with
            | lst key => simp only [akey] at h1; cases h1; simp only [hs' key (by simp)]
            | _ => rfl
          simp only [ha]
        · cases ht
      · rename_i hc
        simp only [hc]
      · rename_i hc
        simp only [hc]
      · rename_i f hc
        simp only [hc]
        split at ht
        · cases ht
        · rename_i hnc
          split at ht
          · rename_i pk hpk
            split
            · exact callE_ob hpk ht h
            · rename_i hf'; exact absurd hf' (hnc _ _ _)
            · rfl
          · cases ht
      · cases ht
  | _ => simp only [touch] at ht; cases ht
end
end Aw
