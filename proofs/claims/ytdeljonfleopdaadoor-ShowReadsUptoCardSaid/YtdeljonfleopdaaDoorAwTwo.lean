/-
  The evaluator is sound at each operation; no condition.
-/
import Derived.Test.YtdeljonfleopdaaDoorAwOne
import Derived.Laws.Rows
import Derived.Laws.CopyRow
import Derived.Great.BuildSlice
import Derived.Laws.Slices
set_option linter.unusedSectionVars false
set_option linter.unusedSimpArgs false
set_option linter.unusedVariables false
/-
  Aw, part H: values made data: own lists sealed.
-/
namespace Aw
open Go Go.RowKit

/-- The same objects, but for what lists are still own. -/
def Like (ob ob' : Nat → Option Ob) : Prop :=
  ∀ key n xs o, ob key = some (.list n xs o) → ∃ o', ob' key = some (.list n xs o')
theorem Like.refl (ob : Nat → Option Ob) : Like ob ob := fun _ _ _ o h => ⟨o, h⟩

/-- A list of seals, of lists that are there. -/
def SealWs (ob : Nat → Option Ob) (ws : Ws) : Prop :=
  ∀ e ∈ ws, ∃ key n xs o, e = .upd key (.list n xs false) ∧ ob key = some (.list n xs o)
theorem SealWs.nil (ob : Nat → Option Ob) : SealWs ob [] := by intro e h; cases h
theorem SealWs.append {ob : Nat → Option Ob} {a b : Ws} (ha : SealWs ob a) (hb : SealWs ob b) : SealWs ob (a ++ b) := by
  intro e h
  rcases List.mem_append.1 h with h | h
  · exact ha e h
  · exact hb e h

/-- A value and its datum, once these lists are sealed. -/
inductive SealOf (ob : Nat → Option Ob) : AV → DV → Ws → Prop where
  | d (x : DV) : SealOf ob (.d x) x []
  | nil (k : Nat) : SealOf ob (.nil k) (.sl []) []
  | lst (key n : Nat) (xs : List DV) (o : Bool) (ho : ob key = some (.list n xs o)) : SealOf ob (.lst key) (.sl xs) [.upd key (.list n xs false)]
  | agg (cs : List AV) (xs : List DV) (wss : List Ws) (h1 : cs.length = xs.length) (h2 : cs.length = wss.length)
      (h3 : ∀ (i : Nat) (c : AV) (x : DV) (ws : Ws), cs[i]? = some c → xs[i]? = some x → wss[i]? = some ws → SealOf ob c x ws)
      (h4 : ∀ c ∈ cs, ∀ l, c ≠ .agg l) : SealOf ob (.agg cs) (.agg xs) wss.flatten

section
variable {CG : CGT} {K : AV → Ws → Prop}
theorem sealK_go_inv {ob : Nat → Option Ob} {cs : List AV} {k : List DV → Ws → Eff} (h : (sealK.go ob cs k).wp CG K) :
    ∃ xs wss, (k xs (List.flatten wss)).wp CG K ∧ cs.length = xs.length ∧ cs.length = wss.length ∧
      (∀ (i : Nat) (c : AV) (x : DV) (ws : Ws), cs[i]? = some c → xs[i]? = some x → wss[i]? = some ws → SealOf ob c x ws) ∧ ∀ c ∈ cs, ∀ l, c ≠ .agg l := by
  induction cs generalizing k with
  | nil => exact ⟨[], [], h, rfl, rfl, by simp, by simp⟩
  | cons c cs ih =>
    have step : ∀ (x : DV) (ws : Ws), SealOf ob c x ws → (∀ l, c ≠ .agg l) → (sealK.go ob cs fun xs ws' => k (x :: xs) (ws ++ ws')).wp CG K →
        ∃ xs wss, (k xs (List.flatten wss)).wp CG K ∧ (c :: cs).length = xs.length ∧ (c :: cs).length = wss.length ∧
          (∀ (i : Nat) (c' : AV) (x : DV) (ws : Ws), (c :: cs)[i]? = some c' → xs[i]? = some x → wss[i]? = some ws → SealOf ob c' x ws) ∧ ∀ c' ∈ c :: cs, ∀ l, c' ≠ .agg l := by
      intro x ws hs hn hk
      obtain ⟨xs, wss, h1, h2, h3, h4, h5⟩ := ih hk
      refine ⟨x :: xs, ws :: wss, by simpa using h1, by simp [h2], by simp [h3], fun i c' x' ws' hc hx hw => ?_, fun c' hc' => ?_⟩
      · cases i with
        | zero => simp at hc hx hw; subst hc; subst hx; subst hw; exact hs
        | succ i => exact h4 i c' x' ws' (by simpa using hc) (by simpa using hx) (by simpa using hw)
      · rcases List.mem_cons.1 hc' with rfl | hc'
        · exact hn
        · exact h5 c' hc'
    cases c with
    | d x => exact step x [] (.d x) (by simp) (by simpa [sealK.go] using h)
    | nil a => exact step (.sl []) [] (.nil a) (by simp) (by simpa [sealK.go] using h)
    | lst key =>
      simp only [sealK.go] at h
      split at h
      · rename_i n xs o ho
        exact step (.sl xs) [.upd key (.list n xs false)] (.lst key n xs o ho) (by simp) (by simpa using h)
      · exact absurd h (by simp [Eff.wp])
    | _ => exact absurd h (by simp [sealK.go, Eff.wp])

theorem sealK_inv {ob : Nat → Option Ob} {v : AV} {k : DV → Ws → Eff} (h : (sealK ob v k).wp CG K) :
    ∃ x ws, (k x ws).wp CG K ∧ SealOf ob v x ws := by
  cases v with
  | d x => exact ⟨x, [], h, .d x⟩
  | nil a => exact ⟨.sl [], [], h, .nil a⟩
  | lst key =>
    simp only [sealK] at h
    split at h
    · rename_i n xs o ho
      exact ⟨_, _, h, .lst key n xs o ho⟩
    · exact absurd h (by simp [Eff.wp])
  | agg cs =>
    simp only [sealK] at h
    obtain ⟨xs, wss, h1, h2, h3, h4, h5⟩ := sealK_go_inv h
    exact ⟨_, _, h1, .agg cs xs wss h2 h3 h4 h5⟩
  | _ => exact absurd h (by simp [sealK, Eff.wp])
end

theorem SealOf.ws {ob : Nat → Option Ob} {v : AV} {x : DV} {ws : Ws} (h : SealOf ob v x ws) : SealWs ob ws := by
  induction h with
  | d x => exact .nil ob
  | nil k => exact .nil ob
  | lst key n xs o ho => intro e he; simp at he; subst he; exact ⟨key, n, xs, o, rfl, ho⟩
  | agg cs xs wss h1 h2 h3 h4 ih =>
    intro e he
    obtain ⟨ws, hw, he⟩ := List.mem_flatten.1 he
    obtain ⟨i, hi⟩ := List.getElem?_of_mem hw
    have hlt := (List.getElem?_eq_some_iff.1 hi).1
    exact ih i _ _ ws (List.getElem?_eq_getElem (by omega)) (List.getElem?_eq_getElem (by omega)) hi e he

/-- The lists of these seals are data. -/
def Sealed (G : Gh) (w : World) (ws : Ws) : Prop := ∀ key n xs, W.upd key (.list n xs false) ∈ ws → DRel G.S w (.sl xs) (G.LV key)

/-- The seals are set. -/
theorem seal_steps {W0 : World} {ob : Nat → Option Ob} {w : World} : ∀ (ws : Ws) {G : Gh} {ob1 : Nat → Option Ob}, Good W0 G ob1 w → Like ob ob1 → SealWs ob ws →
    ∃ G', Step W0 G ob1 w G' (obW ob1 ws) w ∧ Sealed G' w ws ∧ Like ob (obW ob1 ws) ∧ G'.LV = G.LV ∧ G'.B = G.B ∧ G'.ow = G.ow
  | [], G, ob1, hG, hl, _ => ⟨G, .refl hG, (by intro key n xs h; cases h), hl, rfl, rfl, rfl⟩
  | e :: ws, G, ob1, hG, hl, hs => by
    obtain ⟨key, n, xs, o, rfl, ho⟩ := hs e (List.mem_cons_self ..)
    obtain ⟨o1, ho1⟩ := hl key n xs o ho
    obtain ⟨G1, st1, hd1, hL1, hB1, how1⟩ := seal_step hG ho1
    have hl1 : Like ob (updO ob1 key (.list n xs false)) := by
      intro key' n' xs' o' h
      by_cases e : key' = key
      · subst e; rw [ho] at h; cases h; exact ⟨false, updO_self _ _ _⟩
      · rw [updO_ne _ _ e]; exact hl key' n' xs' o' h
    obtain ⟨G2, st2, hS2, hl2, hL2, hB2, how2⟩ := seal_steps ws st1.good hl1 (fun e he => hs e (List.mem_cons_of_mem _ he))
    refine ⟨G2, st1.trans st2, ?_, hl2, hL2.trans hL1, hB2.trans hB1, how2.trans how1⟩
    intro key' n' xs' h
    rcases List.mem_cons.1 h with h | h
    · cases h
      rw [hL2, hL1]
      exact st2.dmono hd1
    · exact hS2 key' n' xs' h

/-- A value whose lists are sealed is its datum. -/
theorem SealOf.rel {ob ob1 : Nat → Option Ob} {G : Gh} {w : World} {v : AV} {x : DV} {ws : Ws} (h : SealOf ob v x ws) (hl : Like ob ob1) (hs : Sealed G w ws) {u : Value}
    (hu : ARel G ob1 w v u) : DRel G.S w x u := by
  induction h generalizing u with
  | d x => cases hu; assumption
  | nil k => cases hu; exact .nilsl
  | lst key n xs o ho =>
    cases hu with
    | lst _ _ o1 ho1 ha hv =>
      obtain ⟨o', h'⟩ := hl key n xs o ho
      rw [h'] at ho1; cases ho1
      rw [hv _ _ _ rfl]
      exact hs key n xs (List.mem_cons_self ..)
  | agg cs xs wss h1 h2 h3 h4 ih =>
    cases hu with
    | agg _ vs hl' hr ha =>
      refine .agg xs vs (by omega) (fun i c v hc hv => ?_) (fun c hc => ?_)
      · have hi := (List.getElem?_eq_some_iff.1 hc).1
        refine ih i _ c _ (List.getElem?_eq_getElem (by omega)) hc (List.getElem?_eq_getElem (by omega)) (fun key n ys hm => hs key n ys ?_) (hr i _ v (List.getElem?_eq_getElem (by omega)) hv)
        exact List.mem_flatten.2 ⟨_, List.getElem_mem _, hm⟩
      · obtain ⟨i, hi⟩ := List.getElem?_of_mem hc
        have hlt := (List.getElem?_eq_some_iff.1 hi).1
        have hs3 := h3 i _ c _ (List.getElem?_eq_getElem (by omega : i < cs.length)) hi (List.getElem?_eq_getElem (by omega))
        generalize hcs : cs[i] = q at hs3
        generalize wss[i] = ws' at hs3
        have hna : ∀ l, q ≠ .agg l := h4 q (by rw [← hcs]; exact List.getElem_mem _)
        cases hs3 with
        | d x =>
          have hd := hr i _ _ (List.getElem?_eq_getElem (by omega)) (List.getElem?_eq_getElem (by omega))
          rw [hcs] at hd
          cases hd with
          | d _ _ hd =>
            have := ha _ (List.getElem_mem (by omega : i < vs.length))
            generalize vs[i] = z at hd this
            cases hd <;> first | rfl | simp [atomV] at this
        | nil k => rfl
        | lst => rfl
        | agg => exact absurd rfl (hna _)
end Aw

/-
  Aw, part I: each operation does what the evaluator says: those without memory.
-/
namespace Aw
open Go Go.RowKit

theorem ARel.dd {G : Gh} {ob : Nat → Option Ob} {w : World} {x : DV} {v : Value} (h : ARel G ob w (.d x) v) : DRel G.S w x v := by cases h; assumption
theorem ARel.int {G : Gh} {ob : Nat → Option Ob} {w : World} {k : IntKind} {n : Int} {v : Value} (h : ARel G ob w (.d (.int k n)) v) : v = .int k n := by
  have h := h.dd; cases h; rfl
theorem ARel.bool {G : Gh} {ob : Nat → Option Ob} {w : World} {b : Bool} {v : Value} (h : ARel G ob w (.d (.bool b)) v) : v = .bool b := by
  have h := h.dd; cases h; rfl
theorem ARel.str {G : Gh} {ob : Nat → Option Ob} {w : World} {s : List UInt8} {v : Value} (h : ARel G ob w (.d (.str s)) v) : v = .string ⟨s.toArray⟩ := by
  have h := h.dd; cases h; rfl
theorem ARel.fn {G : Gh} {ob : Nat → Option Ob} {w : World} {f : FuncId} {v : Value} (h : ARel G ob w (.d (.fn f)) v) : v = .func (.func f) #[] #[] := by
  have h := h.dd; cases h; rfl

section
variable {CG : CGT} {K : AV → Ws → Prop}
theorem need_inv {CG : CGT} {K : AV → Ws → Prop} {p : Prop} {e : Eff} (h : (Eff.need p e).wp CG K) : Need p (e.wp CG K) := h
theorem split_inv {CG : CGT} {K : AV → Ws → Prop} {b : Bool} {t e : Eff} (h : (Eff.split b t e).wp CG K) : Br b (t.wp CG K) (e.wp CG K) := h
theorem wp_ret_inv {v : AV} {ws : Ws} (h : (Eff.ret v ws).wp CG K) : K v ws := by
  have h' : outAV v (fun v => K v ws) := h
  rwa [outAV_eq] at h'
theorem wp_fail_inv {p : Prop} (h : (Eff.fail).wp CG K) : p := False.elim h

/-- A value of the operation's result. -/
def Is (K : AV → Ws → Prop) (val : Value) : Prop := ∃ r, K r [] ∧ ∀ (G : Gh) (ob : Nat → Option Ob) (w : World), ARel G ob w r val
theorem b1_inv {b : Bool} (h : (b1 b).wp CG K) : Is K (.bool b) := ⟨_, wp_ret_inv h, fun _ _ _ => .d _ _ (.bool b)⟩
theorem i1_inv {k : IntKind} {n : Int} (h : (i1 k n).wp CG K) : Is K (.int k n) := ⟨_, wp_ret_inv h, fun _ _ _ => .d _ _ (.int k n)⟩
theorem str_inv {s : List UInt8} (h : (Eff.ret (.d (.str s)) []).wp CG K) : Is K (.string ⟨s.toArray⟩) := ⟨_, wp_ret_inv h, fun _ _ _ => .d _ _ (.str s)⟩

variable {P : Program} {TT : Tr TI}
theorem binInt_sound {op : BinOp} {k : IntKind} {x y : Int} (h : (binInt op k x y).wp CG K) (T : TypeId) (w : World) :
    ∃ val, (binOp op T (.int k x) (.int k y)).run P w = .ok val w ∧ Is K val := by
  cases op with
  | add => exact ⟨_, by simp [binOp, Op.intArith], i1_inv h⟩
  | sub => exact ⟨_, by simp [binOp, Op.intArith], i1_inv h⟩
  | mul => exact ⟨_, by simp [binOp, Op.intArith], i1_inv h⟩
  | quo => exact ⟨_, by simp [binOp, Op.intDiv, h.l], i1_inv (CG := CG) h.r⟩
  | rem => exact ⟨_, by simp [binOp, Op.intDiv, h.l], i1_inv (CG := CG) h.r⟩
  | and => exact ⟨_, by simp [binOp, Op.intBits], i1_inv h⟩
  | or => exact ⟨_, by simp [binOp, Op.intBits], i1_inv h⟩
  | xor => exact ⟨_, by simp [binOp, Op.intBits], i1_inv h⟩
  | andNot => exact ⟨_, by simp [binOp, Op.intBits], i1_inv h⟩
  | eql => exact ⟨_, by simp [binOp, Op.intCmp], b1_inv h⟩
  | neq => exact ⟨_, by simp [binOp, Op.intCmp], b1_inv h⟩
  | lss => exact ⟨_, by simp [binOp, Op.intCmp], b1_inv h⟩
  | leq => exact ⟨_, by simp [binOp, Op.intCmp], b1_inv h⟩
  | gtr => exact ⟨_, by simp [binOp, Op.intCmp], b1_inv h⟩
  | geq => exact ⟨_, by simp [binOp, Op.intCmp], b1_inv h⟩
  | shl => exact wp_fail_inv h
  | shr => exact wp_fail_inv h
theorem shift_sound {op : BinOp} {k k' : IntKind} {x y : Int} (h : (shift op k x y).wp CG K) (T : TypeId) (w : World) :
    ∃ val, (binOp op T (.int k x) (.int k' y)).run P w = .ok val w ∧ Is K val := by
  cases op with
  | shl => exact ⟨_, by have := h.l; simp [binOp, Op.shift, Int.not_lt.2 this], i1_inv (CG := CG) h.r⟩
  | shr => exact ⟨_, by have := h.l; simp [binOp, Op.shift, Int.not_lt.2 this], i1_inv (CG := CG) h.r⟩
  | _ => exact wp_fail_inv h
theorem toList_mk (s : List UInt8) : (⟨s.toArray⟩ : ByteArray).toList = s := by simp
theorem size_mk (s : List UInt8) : (⟨s.toArray⟩ : ByteArray).size = s.length := by simp [ByteArray.size]
theorem binStr_sound {op : BinOp} {x y : List UInt8} (h : (binStr op x y).wp CG K) (T : TypeId) (w : World) :
    ∃ val, (binOp op T (.string ⟨x.toArray⟩) (.string ⟨y.toArray⟩)).run P w = .ok val w ∧ Is K val := by
  cases op with
  | add =>
    have hb : ¬ (((⟨x.toArray⟩ : ByteArray).size + (⟨y.toArray⟩ : ByteArray).size : Nat) : Int) > IntKind.i64.max := by
      rw [size_mk, size_mk]; have := h.l; show ¬ _ > (9223372036854775807 : Int); omega
    refine ⟨.string ⟨(x ++ y).toArray⟩, ?_, str_inv (CG := CG) h.r⟩
    simp only [binOp, Op.stringOp]
    rw [if_neg hb]
    have : (⟨x.toArray⟩ : ByteArray) ++ ⟨y.toArray⟩ = ⟨(x ++ y).toArray⟩ := by apply ByteArray.ext; simp
    rw [this]; rfl
  | eql => exact ⟨_, by simp only [binOp, Op.stringOp, toList_mk]; rfl, b1_inv h⟩
  | neq => exact ⟨_, by simp only [binOp, Op.stringOp, toList_mk]; rfl, b1_inv h⟩
  | lss => exact ⟨_, by simp only [binOp, Op.stringOp, toList_mk]; rfl, b1_inv h⟩
  | leq => exact ⟨_, by simp only [binOp, Op.stringOp, toList_mk]; rfl, b1_inv h⟩
  | gtr => exact ⟨_, by simp only [binOp, Op.stringOp, toList_mk]; rfl, b1_inv h⟩
  | geq => exact ⟨_, by simp only [binOp, Op.stringOp, toList_mk]; rfl, b1_inv h⟩
  | _ => exact wp_fail_inv h

theorem TOk.underlying_bool (hT : TOk P TT) {t : Nat} {i : TI} (h : TT.get t = some i) (hd : i.desc = .bool) : P.underlying t = some .bool := by
  obtain ⟨info, z, h1, h2, h3, h4, -⟩ := hT.row h
  rw [hd] at h4
  simp only [descOk] at h4
  split at h4
  · assumption
  · cases h4
theorem TOk.underlying_str (hT : TOk P TT) {t : Nat} {i : TI} (h : TT.get t = some i) (hd : i.desc = .str) : P.underlying t = some .string := by
  obtain ⟨info, z, h1, h2, h3, h4, -⟩ := hT.row h
  rw [hd] at h4
  simp only [descOk] at h4
  split at h4
  · assumption
  · cases h4
theorem TOk.underlying_int (hT : TOk P TT) {t : Nat} {i : TI} {k : IntKind} (h : TT.get t = some i) (hd : i.desc = .int k) : P.underlying t = some (.int k) := by
  obtain ⟨info, z, h1, h2, h3, h4, -⟩ := hT.row h
  rw [hd] at h4
  simp only [descOk] at h4
  split at h4
  · rename_i k' hu
    have e : k = k' := by simpa using h4
    rw [e]; exact hu
  · cases h4
theorem TOk.underlying_sl (hT : TOk P TT) {t e : Nat} {i : TI} (h : TT.get t = some i) (hd : i.desc = .slice e) : P.underlying t = some (.slice e) :=
  hT.underlying_slice (by simp [elemTy, h, hd])
theorem TOk.underlying_struct (hT : TOk P TT) {t : Nat} {i : TI} {fs : List (Nat × Nat)} (h : TT.get t = some i) (hd : i.desc = .struct fs) : ∃ gs, P.underlying t = some (.struct gs) ∧ fieldsOk fs gs.toList = true := by
  obtain ⟨info, z, h1, h2, h3, h4, -⟩ := hT.row h
  rw [hd] at h4
  simp only [descOk] at h4
  split at h4
  · rename_i gs hu; exact ⟨gs, hu, h4⟩
  · cases h4

theorem kEq_true {k k' : IntKind} (h : kEq k k' = true) : k = k' := by cases k <;> cases k' <;> first | rfl | cases h

/-- Cells, each read. -/
def CRel (S : Seal) (w : World) (xs : List DV) (us : List Value) : Prop := xs.length = us.length ∧ ∀ (i : Nat) (c : DV) (v : Value), xs[i]? = some c → us[i]? = some v → DRel S w c v
theorem CRel.part {S : Seal} {w : World} {xs : List DV} {us : List Value} (h : CRel S w xs us) (off n : Nat) : CRel S w ((xs.drop off).take n) ((us.drop off).take n) := by
  refine ⟨by simp [h.1], fun i c v hc hv => ?_⟩
  have hi : i < n := by have := (List.getElem?_eq_some_iff.1 hc).1; simp at this; omega
  rw [List.getElem?_take_of_lt hi, List.getElem?_drop] at hc hv
  exact h.2 _ c v hc hv
/-- The value of a type, of these cells. -/
def RepV (TT : Tr TI) (T : Nat) (us : List Value) (v : Value) : Prop := (isAgg TT T = some true ∧ v = .agg ⟨us⟩) ∨ (isAgg TT T = some false ∧ us = [v])
theorem eqD_shape {f T : Nat} {xs ys : List DV} {b : Bool} (h : eqD TT f T xs ys = some b) : isAgg TT T = some true ∨ (isAgg TT T = some false ∧ xs.length = 1 ∧ ys.length = 1) := by
  cases f with
  | zero => simp [eqD] at h
  | succ f =>
    simp only [eqD] at h
    split at h
    · rename_i i hi
      split at h
      · rename_i k hd
        split at h
        · split at h
          · exact .inr ⟨by simp [isAgg, hi, hd], rfl, rfl⟩
          · cases h
        · cases h
      · rename_i hd
        split at h
        · split at h
          · exact .inr ⟨by simp [isAgg, hi, hd], rfl, rfl⟩
          · cases h
        · cases h
      · rename_i fs hd; exact .inl (by simp [isAgg, hi, hd])
      · cases h
    · cases h
theorem run_part' (hT : TOk P TT) {ty n off : Nat} {us : List Value} {w : World} (hs : Aw.sz TT ty = some n) (h : isAgg TT ty = some true ∨ (isAgg TT ty = some false ∧ ((us.drop off).take n).length = 1)) :
    ∃ u, (part ty ⟨us⟩ off).run P w = .ok u w ∧ RepV TT ty ((us.drop off).take n) u := by
  rcases h with h | ⟨h, hl⟩
  · have e : (⟨us⟩ : Array Value).extract off (off + n) = ⟨(us.drop off).take n⟩ := by apply Array.ext'; simp
    exact ⟨.agg ⟨(us.drop off).take n⟩, by simp [part, hT.run_isAgg h, hT.run_sizeOf hs, e], .inl ⟨h, rfl⟩⟩
  · obtain ⟨u, hu⟩ := List.length_eq_one_iff.1 hl
    have h0 : us[off]? = some u := by
      have : ((us.drop off).take n)[0]? = some u := by rw [hu]; rfl
      have hn : 0 < n := by cases n with | zero => simp at hl | succ n => omega
      rw [List.getElem?_take_of_lt hn, List.getElem?_drop] at this
      simpa using this
    exact ⟨u, by simp [part, hT.run_isAgg h, h0], .inr ⟨h, hu⟩⟩
theorem eqFs_sound (hT : TOk P TT) {g : Nat → List DV → List DV → Option Bool} {d : Nat} {S : Seal} {w : World} (hsh : ∀ ty (as bs : List DV) b, g ty as bs = some b → isAgg TT ty = some true ∨ (isAgg TT ty = some false ∧ as.length = 1 ∧ bs.length = 1))
    (hg : ∀ ty (as bs : List DV) b us vs u v, g ty as bs = some b → CRel S w as us → CRel S w bs vs → RepV TT ty us u → RepV TT ty vs v → (Op.equalIn d ty u v).run P w = .ok b w)
    {xs ys : List DV} {us vs : List Value} (hx : CRel S w xs us) (hy : CRel S w ys vs) : ∀ (fs : List (Nat × Nat)) (gs : List Field) (b : Bool), fieldsOk fs gs = true → (gs.all fun f => f.name != "_") = true →
      eqFs TT g xs ys fs = some b → (Op.eqFields d ⟨us⟩ ⟨vs⟩ gs).run P w = .ok b w := by
  intro fs
  induction fs with
  | nil =>
    intro gs b hf hn h
    cases gs with
    | nil => simp [eqFs] at h; subst h; rfl
    | cons g gs => simp [fieldsOk] at hf
  | cons x fs ih =>
    intro gs b hf hn h
    obtain ⟨off, ty⟩ := x
    cases gs with
    | nil => simp [fieldsOk] at hf
    | cons gf gs =>
      simp only [fieldsOk, Bool.and_eq_true] at hf
      have ho := natEq_true hf.1.1
      have hty := natEq_true hf.1.2
      subst ho; subst hty
      simp only [List.all_cons, Bool.and_eq_true] at hn
      simp only [eqFs] at h
      split at h
      · rename_i n hsz
        split at h
        · rename_i b1 hb1
          split at h
          · rename_i c hc
            cases h
            have h1 := hsh _ _ _ _ hb1
            have hxl := (hx.part gf.offset n).1
            have hyl := (hy.part gf.offset n).1
            obtain ⟨u, hu, hru⟩ := run_part' (w := w) hT (us := us) (off := gf.offset) hsz (h1.imp id fun ⟨a, b, _⟩ => ⟨a, by omega⟩)
            obtain ⟨v, hv, hrv⟩ := run_part' (w := w) hT (us := vs) (off := gf.offset) hsz (h1.imp id fun ⟨a, _, b⟩ => ⟨a, by omega⟩)
            have he := hg _ _ _ _ _ _ _ _ hb1 (hx.part gf.offset n) (hy.part gf.offset n) hru hrv
            have hne : gf.name ≠ "_" := by simpa using hn.1
            simp only [Op.eqFields, hne, ne_eq, not_false_eq_true, if_true, Sem.run_bind, hu, hv, he, Result.andThen_ok]
            have hrest := ih gs c hf.2 hn.2 hc
            cases b1
            · simp
            · simpa using hrest
          · cases h
        · cases h
      · cases h
theorem eqD_sound (hT : TOk P TT) {S : Seal} {w : World} : ∀ (f d T : Nat) (xs ys : List DV) (b : Bool) (us vs : List Value) (u v : Value), eqD TT f T xs ys = some b → CRel S w xs us → CRel S w ys vs → RepV TT T us u → RepV TT T vs v →
    (Op.equalIn (d + f) T u v).run P w = .ok b w := by
  intro f
  induction f with
  | zero => intro d T xs ys b us vs u v h; simp [eqD] at h
  | succ f ih =>
    intro d T xs ys b us vs u v h hx hy hu hv
    simp only [eqD] at h
    split at h
    · rename_i i hi
      split at h
      · rename_i k hd
        have ha : isAgg TT T = some false := by simp [isAgg, hi, hd]
        rcases hu with ⟨hu, -⟩ | ⟨-, hu⟩
        · rw [ha] at hu; cases hu
        rcases hv with ⟨hv, -⟩ | ⟨-, hv⟩
        · rw [ha] at hv; cases hv
        subst hu; subst hv
        split at h
        · split at h
          · split at h
            · rename_i k1 a k2 b' hk
              have := kEq_true hk
              subst this
              cases h
              have e1 := hx.2 0 _ _ rfl rfl
              have e2 := hy.2 0 _ _ rfl rfl
              cases e1; cases e2
              exact run_equalIn_int w (d + f) T _ _ _ _ (hT.underlying_int hi hd)
            · cases h
          · cases h
        · cases h
      · rename_i hd
        have ha : isAgg TT T = some false := by simp [isAgg, hi, hd]
        rcases hu with ⟨hu, -⟩ | ⟨-, hu⟩
        · rw [ha] at hu; cases hu
        rcases hv with ⟨hv, -⟩ | ⟨-, hv⟩
        · rw [ha] at hv; cases hv
        subst hu; subst hv
        split at h
        · split at h
          · cases h
            have e1 := hx.2 0 _ _ rfl rfl
            have e2 := hy.2 0 _ _ rfl rfl
            cases e1; cases e2
            refine (run_equalIn_string w (d + f) T _ _ (hT.underlying_str hi hd)).trans ?_
            simp only [toList_mk]
          · cases h
        · cases h
      · rename_i fs hd
        have ha : isAgg TT T = some true := by simp [isAgg, hi, hd]
        rcases hu with ⟨-, hu⟩ | ⟨hu, -⟩
        case inr => rw [ha] at hu; cases hu
        rcases hv with ⟨-, hv⟩ | ⟨hv, -⟩
        case inr => rw [ha] at hv; cases hv
        subst hu; subst hv
        split at h
        · rename_i hc
          have hck := hT.cmp hi hc
          simp only [cmpOk, Bool.and_eq_true, Bool.not_eq_true'] at hck
          obtain ⟨gs, hgs, hfo⟩ := hT.underlying_struct hi hd
          have hfs : P.fieldsOf T = gs := by simp [Program.fieldsOf, hgs]
          rw [show d + (f + 1) = (d + f) + 1 from rfl, run_equalIn_struct w (d + f) T _ _ (by rw [hfs]; exact hgs) hck.1.1, hfs]
          exact eqFs_sound hT (fun ty as bs b h => eqD_shape h) (fun ty as bs b us vs u v h1 h2 h3 h4 h5 => ih d ty as bs b us vs u v h1 h2 h3 h4 h5) hx hy fs gs.toList b hfo (by rw [← hfs]; exact hck.2) h
        · cases h
      · cases h
    · cases h
theorem binop_sound (hT : TOk P TT) {op : BinOp} {T : Nat} {x y : AV} {ox oy : Operand} {u v : Value} (h : (binop TT op T x y).wp CG K) {G : Gh} {ob : Nat → Option Ob} {w : World}
    (hx : ARel G ob w x u) (hy : ARel G ob w y v) :
    ∃ val, (do eqGuard op T ox oy u v; binOp op T u v : Sem Value).run P w = .ok val w ∧ Is K val := by
  unfold binop at h
  split at h
  · rename_i k n
    obtain rfl := hx.int
    split at h
    · rename_i k' m
      obtain rfl := hy.int
      have hg : (eqGuard op T ox oy (.int k n) (.int k' m)).run P w = .ok () w := by
        cases op <;> simp [eqGuard]
      split at h
      · obtain ⟨val, h1, h2⟩ := shift_sound (P := P) (k' := k') h T w
        exact ⟨val, by simp [hg, h1], h2⟩
      · split at h
        · rename_i hk
          have := kEq_true hk
          subst this
          obtain ⟨val, h1, h2⟩ := binInt_sound (P := P) h T w
          exact ⟨val, by simp [hg, h1], h2⟩
        · exact wp_fail_inv h
    · exact wp_fail_inv h
  · rename_i s
    obtain rfl := hx.str
    split at h
    · rename_i t
      obtain rfl := hy.str
      have hg : (eqGuard op T ox oy (.string ⟨s.toArray⟩) (.string ⟨t.toArray⟩)).run P w = .ok () w := by
        cases op <;> simp [eqGuard]
      obtain ⟨val, h1, h2⟩ := binStr_sound (P := P) h T w
      exact ⟨val, by simp [hg, h1], h2⟩
    · exact wp_fail_inv h
  · rename_i a
    obtain rfl := hx.bool
    split at h
    · rename_i b
      obtain rfl := hy.bool
      have hg : (eqGuard op T ox oy (.bool a) (.bool b)).run P w = .ok () w := by
        cases op <;> simp [eqGuard]
      split at h
      · rename_i i hi
        split at h
        · rename_i hd
          have hu := hT.underlying_bool hi hd
          have he : (Op.equal T (.bool a) (.bool b)).run P w = .ok (a == b) w := by
            show (Op.equalIn (9999 + 1) T (.bool a) (.bool b)).run P w = _
            rw [Op.equalIn]
            simp [run_underlying hu]
          split at h
          · exact ⟨_, by simp only [Sem.run_bind, hg, Result.andThen_ok, binOp, he]; rfl, b1_inv h⟩
          · exact ⟨_, by simp only [Sem.run_bind, hg, Result.andThen_ok, binOp, he]; rfl, b1_inv h⟩
          · exact wp_fail_inv h
        · exact wp_fail_inv h
      · exact wp_fail_inv h
    · exact wp_fail_inv h
  · rename_i xs
    split at h
    · rename_i ys
      split at h
      · rename_i hag
        split at h
        case h_2 => exact wp_fail_inv h
        rename_i b hb
        have hdx := hx.dd
        have hdy := hy.dd
        cases hdx with
        | agg _ us hl hr ha => cases hdy with
          | agg _ vs hl' hr' ha' =>
            have hagg : isAgg TT T = some true ∧ P.eqGuardType P.depth T = false := by
              simp only [eqD] at hb
              split at hb
              · rename_i i hi
                split at hb
                · rename_i k hd
                  simp [isAgg, hi, hd] at hag
                · rename_i hd
                  simp [isAgg, hi, hd] at hag
                · rename_i fs hd
                  split at hb
                  · rename_i hc
                    have hck := hT.cmp hi hc
                    simp only [cmpOk, Bool.and_eq_true, Bool.not_eq_true'] at hck
                    exact ⟨by simp [isAgg, hi, hd], hck.1.2⟩
                  · cases hb
                · cases hb
              · cases hb
            have he := eqD_sound hT 8 9992 T xs ys b us vs _ _ hb ⟨hl, hr⟩ ⟨hl', hr'⟩ (.inl ⟨hagg.1, rfl⟩) (.inl ⟨hagg.1, rfl⟩)
            have hg := run_eqGuard_agg (P := P) w op T ox oy ⟨us⟩ ⟨vs⟩ hagg.2
            split at h
            · exact ⟨_, by simp only [Sem.run_bind, hg, Result.andThen_ok, run_eql_struct, he], b1_inv h⟩
            · exact ⟨_, by simp only [Sem.run_bind, hg, Result.andThen_ok, run_neq_struct, he], b1_inv h⟩
            · exact wp_fail_inv h
      · exact wp_fail_inv h
    · exact wp_fail_inv h
  · exact wp_fail_inv h

theorem unop_sound {op : UnOp} {x : AV} {u : Value} (h : (unop op x).wp CG K) {G : Gh} {ob : Nat → Option Ob} {w : World} (hx : ARel G ob w x u) :
    ∃ val, (Op.unary op u).run P w = .ok val w ∧ Is K val := by
  unfold unop at h
  split at h
  · split at h
    · obtain rfl := hx.bool; exact ⟨_, by simp [Op.unary], b1_inv h⟩
    · exact wp_fail_inv h
  · split at h
    · obtain rfl := hx.int; exact ⟨_, by simp only [Op.unary, Op.intArith]; rfl, i1_inv h⟩
    · exact wp_fail_inv h
  · exact wp_fail_inv h
end
end Aw

/-
  Aw, part J: loads and stores.
-/
namespace Aw
open Go Go.RowKit

/-- Cells of memory, sealed or not, that hold these data. -/
structure CellsV (S : Seal) (w : World) (cs : List DV) (b off : Nat) : Prop where
  v : ∀ (i : Nat) (c : DV), cs[i]? = some c → ∃ u, w.cell? ⟨b, off + i, none⟩ = some u ∧ DRel S w c u
  a : ∀ c ∈ cs, c.atom = true
theorem CellsAt.toV {S : Seal} {w : World} {cs : List DV} {b off : Nat} (h : CellsAt S w cs b off) : CellsV S w cs b off := ⟨h.v, h.a⟩
theorem CellsV.list {S : Seal} {w : World} {cs : List DV} {b off : Nat} (h : CellsV S w cs b off) :
    ∃ vs : List Value, vs.length = cs.length ∧ (∀ j u, vs[j]? = some u → w.cell? ⟨b, off + j, none⟩ = some u) ∧
      (∀ (j : Nat) (c : DV) (u : Value), cs[j]? = some c → vs[j]? = some u → DRel S w c u) := by
  induction cs generalizing off with
  | nil => exact ⟨[], rfl, by simp, by simp⟩
  | cons c cs ih =>
    obtain ⟨u, hu, hd⟩ := h.v 0 c rfl
    obtain ⟨vs, h1, h2, h3⟩ := ih (off := off + 1) ⟨fun i c hc => by have := h.v (i + 1) c (by simpa using hc); rwa [show off + (i + 1) = off + 1 + i by omega] at this, fun c hc => h.a c (List.mem_cons_of_mem _ hc)⟩
    refine ⟨u :: vs, by simp [h1], fun j v hv => ?_, fun j c' v hc hv => ?_⟩
    · cases j with
      | zero => simp at hv; subst hv; exact hu
      | succ j => have := h2 j v (by simpa using hv); rwa [show off + (j + 1) = off + 1 + j by omega]
    · cases j with
      | zero => simp at hc hv; subst hc; subst hv; exact hd
      | succ j => exact h3 j c' v (by simpa using hc) (by simpa using hv)
theorem CellsV.part {S : Seal} {w : World} {cs : List DV} {b off : Nat} (h : CellsV S w cs b off) (j n : Nat) : CellsV S w ((cs.drop j).take n) b (off + j) :=
  ⟨fun i c hc => by
    have hi : i < n := by have := (List.getElem?_eq_some_iff.1 hc).1; simp at this; omega
    rw [List.getElem?_take_of_lt hi, List.getElem?_drop] at hc
    have := h.v (j + i) c hc
    rwa [show off + (j + i) = off + j + i by omega] at this,
   fun c hc => h.a c (List.mem_of_mem_drop (List.mem_of_mem_take hc))⟩

section
variable {P : Program} {TT : Tr TI} (hT : TOk P TT)
include hT
theorem run_loadVar_agg {T n : Nat} (hs : Aw.sz TT T = some n) (ha : Aw.isAgg TT T = some true) {w : World} {b off : Nat} {vs : List Value} (hl : vs.length = n)
    (hv : ∀ j u, vs[j]? = some u → w.cell? ⟨b, off + j, none⟩ = some u) : (Instr.loadAt T (.pointer (some ⟨b, off, none⟩))).run P w = .ok (.agg ⟨vs⟩) w := by
  have h1 := run_loadCells_list (P := P) w ⟨b, off, none⟩ vs (fun j v h => by rw [addr_add]; exact hv j v h)
  rw [hl] at h1
  simp [Instr.loadAt, Instr.sureAddr, loadVar, hT.run_isAgg ha, hT.run_sizeOf hs, h1]
theorem run_loadVar_one {T : Nat} (ha : Aw.isAgg TT T = some false) {w : World} {b off : Nat} {u : Value}
    (hv : w.cell? ⟨b, off, none⟩ = some u) : (Instr.loadAt T (.pointer (some ⟨b, off, none⟩))).run P w = .ok u w := by
  simp [Instr.loadAt, Instr.sureAddr, loadVar, hT.run_isAgg ha, hv]
end

/-- A part of a datum, of type T. -/
def PartOf (TT : Tr TI) (T : Nat) (x : DV) (j : Nat) (r : DV) : Prop :=
  (∃ n, sz TT T = some n ∧ isAgg TT T = some true ∧ j + n ≤ x.cells.length ∧ r = .agg ((x.cells.drop j).take n)) ∨
  (isAgg TT T = some false ∧ x.cells[j]? = some r)

section
variable {CG : CGT} {K : AV → Ws → Prop} {TT : Tr TI}
theorem dAsTy_inv {T : Nat} {cs : List DV} {k : AV → Eff} (h : (dAsTy TT T cs k).wp CG K) :
    ∃ r, (k (.d r)).wp CG K ∧ ((isAgg TT T = some true ∧ r = .agg cs) ∨ (isAgg TT T = some false ∧ cs = [r])) := by
  unfold dAsTy at h
  split at h
  · exact ⟨_, h, .inl ⟨by assumption, rfl⟩⟩
  · split at h
    · exact ⟨_, h, .inr ⟨by assumption, rfl⟩⟩
    · exact wp_fail_inv h
  · exact wp_fail_inv h
theorem partK_inv {T : Nat} {x : DV} {j : Nat} {k : AV → Eff} (h : (partK TT T x j k).wp CG K) : ∃ r, (k (.d r)).wp CG K ∧ PartOf TT T x j r := by
  unfold partK at h
  split at h
  · rename_i n hn
    have atm : ∀ (x : DV), x.cells = [x] → (partAtom TT T x j k).wp CG K → ∃ r, (k (.d r)).wp CG K ∧ PartOf TT T x j r := by
      intro x hx h
      unfold partAtom at h
      split at h
      · split at h
        · rename_i ha
          exact ⟨x, h, .inr ⟨ha, by rw [hx]; rfl⟩⟩
        · exact wp_fail_inv h
      · exact wp_fail_inv h
    cases x with
    | agg cs =>
      obtain ⟨h1, h2⟩ := subK_inv h
      obtain ⟨r, h3, ⟨h4, h5⟩ | ⟨h4, h5⟩⟩ := dAsTy_inv h2
      · exact ⟨r, h3, .inl ⟨n, hn, h4, h1, h5⟩⟩
      · refine ⟨r, h3, .inr ⟨h4, ?_⟩⟩
        have : ((cs.drop j).take n)[0]? = some r := by rw [h5]; rfl
        have hn0 : 0 < n := by cases n with | zero => simp at h5 | succ n => omega
        rw [List.getElem?_take_of_lt hn0, List.getElem?_drop] at this
        simpa [DV.cells] using this
    | _ => exact atm _ rfl h
  · exact wp_fail_inv h
end

/-- A part of a datum is what is loaded there. -/
theorem load_part {P : Program} {TT : Tr TI} (hT : TOk P TT) {S : Seal} {w : World} {x r : DV} {b off j T : Nat} (h : CellsV S w x.cells b off) (hp : PartOf TT T x j r) :
    ∃ val, (Instr.loadAt T (.pointer (some ⟨b, off + j, none⟩))).run P w = .ok val w ∧ DRel S w r val := by
  rcases hp with ⟨n, h1, h2, h3, rfl⟩ | ⟨h1, h2⟩
  · have hpart := h.part j n
    obtain ⟨vs, hl, hv, hr⟩ := hpart.list
    have hlen : vs.length = n := by rw [hl]; simp; omega
    exact ⟨_, run_loadVar_agg hT h1 h2 hlen hv, .agg _ _ hl.symm hr hpart.a⟩
  · obtain ⟨u, hu, hd⟩ := h.v j r h2
    exact ⟨u, run_loadVar_one hT h1 hu, hd⟩

section
variable {CG : CGT} {K : AV → Ws → Prop} {TT : Tr TI}
theorem allD_some {cs : List AV} {xs : List DV} (h : allD cs = some xs) : cs = xs.map .d := by
  induction cs generalizing xs with
  | nil => simp [allD] at h; subst h; rfl
  | cons c cs ih =>
    cases c with
    | d x =>
      simp only [allD] at h
      split at h
      · rename_i r hr; cases h; simp [ih hr]
      · cases h
    | _ => simp [allD] at h
theorem mkAgg_inv {cs : List AV} {k : AV → Eff} (h : (mkAgg cs k).wp CG K) :
    ∃ r, (k r).wp CG K ∧ ∀ (G : Gh) (ob : Nat → Option Ob) (w : World) (us : List Value), ARels G ob w cs us → ARel G ob w r (.agg ⟨us⟩) := by
  unfold mkAgg at h
  split at h
  · rename_i xs hx
    refine ⟨_, h, fun G ob w us ⟨hl, hr, ha⟩ => ?_⟩
    rw [allD_some hx] at hl hr
    refine .d _ _ (.agg xs us (by simpa using hl) (fun i c v hc hv => ?_) (fun c hc => ?_))
    · exact (hr i (.d c) v (by simp [hc]) hv).dd
    · obtain ⟨i, hi⟩ := List.getElem?_of_mem hc
      have hlt := (List.getElem?_eq_some_iff.1 hi).1
      have hd := (hr i (.d c) (us[i]'(by simp at hl; omega)) (by simp [hi]) (List.getElem?_eq_getElem _)).dd
      have := ha _ (List.getElem_mem (by simp at hl; omega : i < us.length))
      generalize us[i]'(by simp at hl; omega) = z at hd this
      cases hd <;> first | rfl | simp [atomV] at this
  · exact ⟨_, h, fun G ob w us ⟨hl, hr, ha⟩ => .agg _ _ hl hr ha⟩
theorem asTy_inv {T : Nat} {cs : List AV} {k : AV → Eff} (h : (asTy TT T cs k).wp CG K) :
    (isAgg TT T = some true ∧ ∃ r, (k r).wp CG K ∧ ∀ (G : Gh) (ob : Nat → Option Ob) (w : World) (us : List Value), ARels G ob w cs us → ARel G ob w r (.agg ⟨us⟩)) ∨
    (isAgg TT T = some false ∧ ∃ r, cs = [r] ∧ (k r).wp CG K) := by
  unfold asTy at h
  split at h
  · exact .inl ⟨by assumption, mkAgg_inv h⟩
  · split at h
    · exact .inr ⟨by assumption, _, rfl, h⟩
    · exact wp_fail_inv h
  · exact wp_fail_inv h
end

/-- The sealed or unsealed cells of an element of an own list. -/
theorem elem_cells {S : Seal} {w : World} {k : Nat} {xs : List DV} {own : Bool} {b cap : Nat} (h : ListB S w k xs own b cap) {i : Nat} {x : DV} (hx : xs[i]? = some x) :
    CellsV S w x.cells b (i * k) := by
  obtain ⟨cells, T, h1, h2, h3⟩ := h.blk
  have hw : x.width = k := h.wid x (List.mem_of_getElem? hx)
  refine ⟨fun j c hc => ?_, fun c hc => h.atm c (List.mem_flatMap.2 ⟨x, List.mem_of_getElem? hx, hc⟩)⟩
  have hj : j < k := by rw [← hw]; exact (List.getElem?_eq_some_iff.1 hc).1
  obtain ⟨u, hu, hd⟩ := h3 (i * k + j) c ((flat_get h.wid hx j hj).trans hc)
  exact ⟨u, (cell?_of_cells h1).trans hu, hd⟩

section
variable {CG : CGT} {K : AV → Ws → Prop} {P : Program} {TT : Tr TI} (hT : TOk P TT) {W0 : World} {G : Gh} {ob : Nat → Option Ob} {w : World} (hG : Good W0 G ob w)
include hT hG
theorem load_sound {T : Nat} {p : AV} {u : Value} (h : (loadE TT ob T p).wp CG K) (hp : ARel G ob w p u) :
    ∃ val r, (Instr.loadAt T u).run P w = .ok val w ∧ K r [] ∧ ARel G ob w r val := by
  unfold loadE at h
  split at h
  · rename_i key off
    split at h
    · rename_i cs ho
      obtain ⟨how, ⟨vs, T', hb, hl, hr, ha⟩, hf⟩ := (hG.key key).box cs ho
      cases hp with
      | ptr _ _ _ o ho' hv =>
        subst hv
        split at h
        · rename_i n hn
          obtain ⟨h1, h2⟩ := subK_inv h
          have hpart : ∀ j u, ((vs.drop off).take n)[j]? = some u → w.cell? ⟨G.B key, off + j, none⟩ = some u := by
            intro j u hu
            have hj : j < n := by have := (List.getElem?_eq_some_iff.1 hu).1; simp at this; omega
            rw [List.getElem?_take_of_lt hj, List.getElem?_drop] at hu
            rw [cell?_of_cells hb]; simpa using hu
          have hrel : ARels G ob w ((cs.drop off).take n) ((vs.drop off).take n) := by
            refine ⟨by simp [hl], fun i c u hc hu => ?_, fun u hu => ha u (List.mem_of_mem_drop (List.mem_of_mem_take hu))⟩
            have hi : i < n := by have := (List.getElem?_eq_some_iff.1 hu).1; simp at this; omega
            rw [List.getElem?_take_of_lt hi, List.getElem?_drop] at hc hu
            exact hr _ c u hc hu
          rcases asTy_inv h2 with ⟨h3, r, h4, h5⟩ | ⟨h3, r, h4, h5⟩
          · exact ⟨_, r, run_loadVar_agg hT hn h3 (by simp; omega) hpart, wp_ret_inv h4, h5 _ _ _ _ hrel⟩
          · rw [h4] at hrel
            obtain ⟨g1, g2, g3⟩ := hrel
            have hlt : 0 < ((vs.drop off).take n).length := by rw [← g1]; simp
            have hu := List.getElem?_eq_getElem hlt
            exact ⟨_, r, run_loadVar_one hT h3 (hpart 0 _ hu), wp_ret_inv h5, g2 0 r _ rfl hu⟩
        · exact wp_fail_inv h
    · exact wp_fail_inv h
  · rename_i x j
    obtain ⟨r, h1, h2⟩ := partK_inv h
    cases hp with
    | ep _ _ b off hc =>
      obtain ⟨val, h3, h4⟩ := load_part hT hc.toV h2
      exact ⟨val, _, h3, wp_ret_inv h1, .d _ _ h4⟩
  · rename_i key i j
    split at h
    · rename_i k xs own ho
      cases hp with
      | lp _ _ _ _ o ho' hv =>
        rw [ho] at ho'; cases ho'
        obtain ⟨hi, b, cap, hL, rfl⟩ := hv _ _ _ rfl
        have hx := List.getElem?_eq_getElem hi
        obtain ⟨r, h1, h2⟩ := partK_inv (h.el _ hx)
        rcases (hG.key key).list k xs own ho with ⟨e, _⟩ | ⟨b', cap', hL', how, hB⟩
        · subst e; simp at hi
        · rw [hL] at hL'; cases hL'
          obtain ⟨val, h3, h4⟩ := load_part hT (elem_cells hB hx) h2
          exact ⟨val, _, h3, wp_ret_inv h1, .d _ _ h4⟩
    · exact wp_fail_inv h
  · split at h
    · rename_i hn
      split at h
      · rename_i hg
        cases hp with
        | clo _ key off b o _ x ho hs hc hv =>
          subst hv
          exact ⟨_, _, run_loadVar_one hT hg hc, wp_ret_inv h, .ptr _ _ _ x ho rfl⟩
      · exact wp_fail_inv h
    · exact wp_fail_inv h
  · exact wp_fail_inv h
end
end Aw

/-
  Aw, part K: stores.
-/
namespace Aw
open Go Go.RowKit

theorem obW_append (ob : Nat → Option Ob) (a b : Ws) : obW ob (a ++ b) = obW (obW ob a) b := by
  induction a generalizing ob with
  | nil => rfl
  | cons e a ih => cases e <;> exact ih _
theorem obW_other {ob : Nat → Option Ob} {ws : Ws} {key : Nat} (h : wsHas key ws = false) : obW ob ws key = ob key := by
  induction ws generalizing ob with
  | nil => rfl
  | cons e ws ih =>
    cases e with
    | new n o =>
      simp only [wsHas] at h
      split at h
      · cases h
      · rename_i hn
        show obW (updO ob n o) ws key = _
        rw [ih h]; simp [updO, hn]
    | upd n o =>
      simp only [wsHas] at h
      split at h
      · cases h
      · rename_i hn
        show obW (updO ob n o) ws key = _
        rw [ih h]; simp [updO, hn]

theorem flat_set {xs : List DV} {k : Nat} (h : ∀ x ∈ xs, x.width = k) {i : Nat} (hi : i < xs.length) {x : DV} (hx : x.width = k) (p : Nat) :
    (flat (xs.set i x))[p]? = if i * k ≤ p ∧ p < i * k + k then x.cells[p - i * k]? else (flat xs)[p]? := by
  induction xs generalizing i p with
  | nil => simp at hi
  | cons y ys ih =>
    have hy : y.cells.length = k := h y (List.mem_cons_self ..)
    have hxc : x.cells.length = k := hx
    cases i with
    | zero =>
      simp only [List.set_cons_zero, flat_cons]
      by_cases hp : p < k
      · rw [List.getElem?_append_left (by omega), if_pos (by omega)]; simp
      · rw [List.getElem?_append_right (by omega), List.getElem?_append_right (by omega), if_neg (by omega), hy, hxc]
    | succ i =>
      simp only [List.set_cons_succ, flat_cons]
      have hm : (i + 1) * k = i * k + k := Nat.succ_mul ..
      by_cases hp : p < k
      · rw [List.getElem?_append_left (by omega), List.getElem?_append_left (by omega), if_neg (by omega)]
      · rw [List.getElem?_append_right (by omega), List.getElem?_append_right (by omega), ih (fun z hz => h z (List.mem_cons_of_mem _ hz)) (by simpa using hi)]
        rw [hm, hy]
        have e : (i * k ≤ p - k ∧ p - k < i * k + k) ↔ (i * k + k ≤ p ∧ p < i * k + k + k) := by omega
        simp only [e]
        have e2 : p - k - i * k = p - (i * k + k) := by omega
        rw [e2]

/-- The cells of a row of which a stretch is replaced. -/
theorem splice_get (cur : List Value) (o : Nat) (vs : List Value) (h : o + vs.length ≤ cur.length) (i : Nat) :
    (cur.take o ++ vs ++ cur.drop (o + vs.length))[i]? = if o ≤ i ∧ i < o + vs.length then vs[i - o]? else cur[i]? := by
  have h1 : (cur.take o).length = o := by simp; omega
  by_cases a : i < o
  · rw [if_neg (by omega), List.append_assoc, List.getElem?_append_left (by omega), List.getElem?_take_of_lt a]
  · by_cases b : i < o + vs.length
    · rw [if_pos (by omega), List.append_assoc, List.getElem?_append_right (by omega), h1, List.getElem?_append_left (by omega)]
    · rw [if_neg (by omega), List.getElem?_append_right (by simp; omega), List.getElem?_drop]
      congr 1
      simp; omega
theorem splice_length (cur : List Value) (o : Nat) (vs : List Value) (h : o + vs.length ≤ cur.length) : (cur.take o ++ vs ++ cur.drop (o + vs.length)).length = cur.length := by
  simp; omega

theorem cells_atomV {u : Value} {cs : List AV} {G : Gh} {ob : Nat → Option Ob} {w : World} (h : ARels G ob w cs u.cells.toList) : ∀ v ∈ u.cells.toList, v.oneCell' = true :=
  fun v hv => oneCell_of_atomV (h.2.2 v hv)

theorem run_storeAt {P : Program} {TT : Tr TI} (hT : TOk P TT) {T n : Nat} (hs : Aw.sz TT T = some n) {w : World} {b off : Nat} {cur : Array Value} {T' : TypeId} (hb : w.heap[b]? = some (.cells cur T' (0, 0)))
    {u : Value} (hn : u.cells.size = n) (hl : off + n ≤ cur.size) (ha : ∀ v ∈ u.cells.toList, v.oneCell' = true) :
    (Instr.storeAt T (.pointer (some ⟨b, off, none⟩)) u).run P w = .ok () (w.setRow b (cur.toList.take off ++ u.cells.toList ++ cur.toList.drop (off + n)).toArray) := by
  have hl' : off + 0 + u.cells.toList.length ≤ cur.size := by simp [hn]; omega
  have h1 := run_storeCells_at P b off T' u.cells.toList 0 cur w hb hl' ha
  simp only [Nat.add_zero, Array.length_toList, hn] at h1
  simp [Instr.storeAt, Instr.sureAddr, storeVar, hT.run_sizeOf hs, hn, h1]

section
variable {CG : CGT} {K : AV → Ws → Prop} {P : Program} {TT : Tr TI} (hT : TOk P TT) {W0 : World} {G : Gh} {ob : Nat → Option Ob} {w : World} (hG : Good W0 G ob w)
include hT hG

theorem store_box {T n key off : Nat} {cs cs' vs : List AV} (hs : Aw.sz TT T = some n) (ho : ob key = some (.box cs)) {u : Value} (hv : ARels G ob w vs u.cells.toList) (hn : vs.length = n)
    (hlen : off + vs.length ≤ cs.length) (hl' : cs'.length = cs.length) (hget : ∀ i, cs'[i]? = if off ≤ i ∧ i < off + vs.length then vs[i - off]? else cs[i]?) :
    ∃ w', (Instr.storeAt T (.pointer (some ⟨G.B key, off, none⟩)) u).run P w = .ok () w' ∧ Step W0 G ob w G (updO ob key (.box cs')) w' := by
  obtain ⟨how, ⟨us, T', hb, hl, hr, ha⟩, hf⟩ := (hG.key key).box cs ho
  have hun : u.cells.size = n := by rw [← hn, hv.1]; simp
  have hun' : u.cells.toList.length = vs.length := hv.1.symm
  have hle : off + u.cells.toList.length ≤ us.length := by rw [hun', ← hl]; exact hlen
  have hrun := run_storeAt hT hs hb hun (by simp; rw [← hl, ← hn]; exact hlen) (cells_atomV hv)
  have hn' : n = u.cells.toList.length := by rw [hun', hn]
  refine ⟨_, hrun, write_step hG ho how (by simp) (by simp) rfl rfl (fun b' hb' => setRow_other _ _ _ _ hb') (fun i hi => absurd hi (hf i)) (fun k xs own e => by cases e) ?_⟩
  intro hm hdm
  refine ⟨fun cs'' h => ?_, fun s pos h => ?_, fun k' xs' own' h => ?_⟩ <;> rw [updO_self] at h <;> cases h
  refine ⟨how, ⟨_, T', setRow_heap _ _ _ _ _ _ hb, ?_, fun i c v hc hv' => ?_, fun v hv' => ?_⟩, hf⟩
  · simp only [hn']; rw [splice_length _ _ _ hle, hl', hl]
  · simp only [hn'] at hv'
    rw [splice_get _ _ _ hle, hun'] at hv'
    rw [hget i] at hc
    split at hc
    · rename_i hcond
      rw [if_pos hcond] at hv'
      exact hm _ _ (hv.2.1 _ c v hc hv')
    · rename_i hcond
      rw [if_neg hcond] at hv'
      exact hm _ _ (hr i c v hc hv')
  · simp only [hn'] at hv'
    rcases List.mem_append.1 hv' with hv' | hv'
    · rcases List.mem_append.1 hv' with hv' | hv'
      · exact ha v (List.mem_of_mem_take hv')
      · exact hv.2.2 v hv'
    · exact ha v (List.mem_of_mem_drop hv')

theorem store_list {T n key i j k : Nat} {xs : List DV} {x' : DV} {cs : List DV} (hs : Aw.sz TT T = some n) (ho : ob key = some (.list k xs true)) {u p : Value} (hp : ARel G ob w (.lp key i j) p)
    (hn : cs.length = n) (hu : cs.length = u.cells.size) (hr : ∀ (q : Nat) (c : DV) (v : Value), cs[q]? = some c → u.cells.toList[q]? = some v → DRel G.S w c v) (ha : ∀ c ∈ cs, c.atom = true)
    (hjk : j + n ≤ k) (hx' : x'.width = k) (hxa : ∀ c ∈ x'.cells, c.atom = true)
    (hget : ∀ q, q < k → ∀ x, xs[i]? = some x → x'.cells[q]? = if j ≤ q ∧ q < j + n then cs[q - j]? else x.cells[q]?) :
    ∃ w', (Instr.storeAt T p u).run P w = .ok () w' ∧ Step W0 G ob w G (updO ob key (.list k (xs.set i x') true)) w' := by
  cases hp with
  | lp _ _ _ _ o ho' hv =>
    rw [ho] at ho'; cases ho'
    obtain ⟨hi, b, cap, hL, rfl⟩ := hv _ _ _ rfl
    rcases (hG.key key).list k xs true ho with ⟨e, _⟩ | ⟨b', cap', hL', how, hB⟩
    · subst e; simp at hi
    · rw [hL] at hL'; cases hL'
      obtain ⟨cells, T', hb, hsz, hc⟩ := hB.blk
      have hle : i * k + k ≤ cap * k := by
        have : (i + 1) * k ≤ cap * k := Nat.mul_le_mul_right _ (by have := hB.le; omega)
        rwa [Nat.succ_mul] at this
      have hun : u.cells.size = n := by omega
      have hun' : u.cells.toList.length = n := by simp [hun]
      have hlen : (i * k + j) + u.cells.toList.length ≤ cells.toList.length := by rw [hun', Array.length_toList (xs := cells), hsz]; omega
      have hatm : ∀ v ∈ u.cells.toList, v.oneCell' = true := fun v hv' => by
        obtain ⟨q, hq⟩ := List.getElem?_of_mem hv'
        have hlt := (List.getElem?_eq_some_iff.1 hq).1
        exact oneCell_of_atomV ((hr q _ v (List.getElem?_eq_getElem (by omega)) hq).atomV (ha _ (List.getElem_mem _)))
      have hrun := run_storeAt (off := i * k + j) hT hs hb hun (by rw [hsz]; omega) hatm
      refine ⟨_, hrun, write_step hG ho how (by simp) (by simp) rfl rfl (fun b' hb' => setRow_other _ _ _ _ hb') (fun q hq => ?_) (fun k' xs' own' e => ?_) ?_⟩
      · by_cases hq' : q < cap * k
        · exact absurd hq (hB.mine rfl q hq')
        · rw [cell?_of_cells (setRow_heap _ _ _ _ _ _ hb), cell?_of_cells hb]
          rw [Array.getElem?_eq_none (by simp; omega), Array.getElem?_eq_none (by omega)]
      · cases e; exact ⟨xs, true, rfl, by simp⟩
      · intro hm hdm
        refine ⟨fun cs'' h => ?_, fun s pos h => ?_, fun k' xs' own' h => ?_⟩ <;> rw [updO_self] at h <;> cases h
        refine .inr ⟨b, cap, by simpa using hL, how, by simpa using hB.le, fun y hy => ?_, ⟨_, T', setRow_heap _ _ _ _ _ _ hb, ?_, fun q c hq => ?_⟩, fun c hc' => ?_, fun q h1 h2 => hB.mine rfl q h2, fun _ q h2 => hB.mine rfl q h2⟩
        · rcases List.mem_or_eq_of_mem_set hy with hy | rfl
          · exact hB.wid y hy
          · exact hx'
        · have := splice_length _ _ _ hlen
          rw [hun'] at this
          simpa [hsz] using this
        · rw [flat_set hB.wid hi hx'] at hq
          have hsp := splice_get _ _ _ hlen q
          rw [hun'] at hsp
          simp only [List.getElem?_toArray, hsp]
          split at hq
          · rename_i hcond
            have hxe := hget (q - i * k) (by omega) _ (List.getElem?_eq_getElem hi)
            rw [hxe] at hq
            by_cases hin : j ≤ q - i * k ∧ q - i * k < j + n
            · rw [if_pos hin] at hq
              rw [if_pos (by omega)]
              have e : q - (i * k + j) = q - i * k - j := by omega
              rw [e]
              have hlt : q - i * k - j < u.cells.toList.length := by omega
              exact ⟨_, List.getElem?_eq_getElem hlt, hdm _ _ (hr _ c _ hq (List.getElem?_eq_getElem hlt))⟩
            · rw [if_neg hin] at hq
              rw [if_neg (by omega)]
              obtain ⟨v, hv', hd⟩ := hc q c (by
                have := flat_get hB.wid (List.getElem?_eq_getElem hi) (q - i * k) (by omega)
                rw [show i * k + (q - i * k) = q by omega] at this
                rw [this]; exact hq)
              exact ⟨v, by simpa using hv', hdm _ _ hd⟩
          · rename_i hcond
            rw [if_neg (by omega)]
            obtain ⟨v, hv', hd⟩ := hc q c hq
            exact ⟨v, by simpa using hv', hdm _ _ hd⟩
        · obtain ⟨y, hy, hc2⟩ := List.mem_flatMap.1 hc'
          rcases List.mem_or_eq_of_mem_set hy with hy | hy
          · exact hB.atm c (List.mem_flatMap.2 ⟨y, hy, hc2⟩)
          · exact hxa c (hy ▸ hc2)
end
end Aw

/-
  Aw, part L: the operations on memory, each against the evaluator.
-/
namespace Aw
open Go Go.RowKit

theorem dcellsK_eq (x : DV) (k : List DV → Eff) : dcellsK x k = k x.cells := by cases x <;> rfl
theorem and2_true {a b : Bool} (h : and2 a b = true) : a = true ∧ b = true := by cases a <;> cases b <;> first | exact ⟨rfl, rfl⟩ | cases h

/-- Sealing first, then what follows. -/
theorem seal_first {W0 : World} {G : Gh} {ob : Nat → Option Ob} {w : World} (hG : Good W0 G ob w) {v : AV} {x : DV} {ws : Ws} (h : SealOf ob v x ws) :
    ∃ G', Step W0 G ob w G' (obW ob ws) w ∧ (∀ u, ARel G ob w v u → DRel G'.S w x u) := by
  obtain ⟨G', st, hs, hl, hL, -⟩ := seal_steps ws hG (Like.refl ob) h.ws
  exact ⟨G', st, fun u hu => h.rel hl hs (st.mono hu)⟩

section
variable {CG : CGT} {K : AV → Ws → Prop} {P : Program} {TT : Tr TI} (hT : TOk P TT) {W0 : World} {G : Gh} {ob : Nat → Option Ob} {w : World} (hG : Good W0 G ob w)
include hT hG
theorem storeE_sound {T : Nat} {p v : AV} {up uv : Value} (h : (storeE TT ob T p v).wp CG K) (hp : ARel G ob w p up) (hv : ARel G ob w v uv) :
    ∃ w' G' ws, (Instr.storeAt T up uv).run P w = .ok () w' ∧ K .junk ws ∧ Step W0 G ob w G' (obW ob ws) w' := by
  unfold storeE at h
  split at h
  · exact wp_fail_inv h
  · rename_i n hn
    split at h
    · rename_i key off
      split at h
      · rename_i cs ho
        obtain ⟨vs, h1, h2⟩ := cellsK_inv h
        split at h1
        · rename_i hlen
          obtain ⟨h3, cs', h4, h5, h6⟩ := setK_inv h1
          cases hp with
          | ptr _ _ _ o ho' hu =>
            subst hu
            obtain ⟨w', h7, h8⟩ := store_box hT hG hn ho (h2 G ob w uv hv) (natEq_true hlen) h3 h5 h6
            exact ⟨w', G, _, h7, wp_ret_inv h4, h8⟩
        · exact wp_fail_inv h1
      · exact wp_fail_inv h
    · rename_i key i j
      split at h
      · rename_i k xs ho
        obtain ⟨x, ws, h1, h2⟩ := sealK_inv h
        split at h1
        · exact wp_fail_inv h1
        · rename_i hws
          obtain ⟨G1, st1, hx1⟩ := seal_first hG h2
          have hdx := hx1 uv hv
          obtain ⟨c1, c2, c3⟩ := hdx.cells
          have ho1 : obW ob ws key = some (.list k xs true) := by rw [obW_other hws]; exact ho
          have hp1 := st1.mono hp
          have hc2 : ∀ (q : Nat) (c : DV) (v : Value), x.cells[q]? = some c → uv.cells.toList[q]? = some v → DRel G1.S w c v := fun q c v hc hv => c2 q c v hc (by simpa using hv)
          rw [dcellsK_eq] at h1
          split at h1
          · exact wp_fail_inv h1
          · rename_i hcl
            have hcn := natEq_true hcl
            split at h1
            · rename_i hand
              obtain ⟨hnk, hj⟩ := and2_true hand
              have hnk := natEq_true hnk
              have hj := natEq_true hj
              subst hnk; subst hj
              obtain ⟨w', h7, h8⟩ := store_list hT st1.good (x' := x) hn ho1 hp1 hcn c1 hc2 c3 (by omega) hcn c3 (fun q hq y hy => by rw [if_pos (by omega)]; simp)
              exact ⟨w', G1, _, h7, wp_ret_inv h1, by rw [obW_append]; exact st1.trans h8⟩
            · cases hp with
              | lp _ _ _ _ o ho' hlv =>
                rw [ho] at ho'; cases ho'
                obtain ⟨hi, -⟩ := hlv _ _ _ rfl
                have hxi := List.getElem?_eq_getElem hi
                have h9 := h1.el _ hxi
                dsimp only at h9
                split at h9
                · rename_i ys hys
                  obtain ⟨h3, ys', h4, h5, h6⟩ := setK_inv h9
                  rcases (hG.key key).list k xs true ho with ⟨e, _⟩ | ⟨b', cap', hL', how, hB⟩
                  · subst e; simp at hi
                  · have hwid : ys.length = k := by have := hB.wid _ (List.getElem_mem hi); rw [hys] at this; exact this
                    have hatm : ∀ c ∈ ys, c.atom = true := fun c hc => hB.atm c (List.mem_flatMap.2 ⟨_, List.getElem_mem hi, by rw [hys]; exact hc⟩)
                    obtain ⟨w', h7, h8⟩ := store_list hT st1.good (x' := .agg ys') hn ho1 hp1 hcn c1 hc2 c3 (by omega) (by show ys'.length = k; omega)
                      (fun c hc => by
                        obtain ⟨q, hq⟩ := List.getElem?_of_mem (show c ∈ ys' from hc)
                        rw [h6 q] at hq
                        split at hq
                        · exact c3 c (List.mem_of_getElem? hq)
                        · exact hatm c (List.mem_of_getElem? hq))
                      (fun q hq y hy => by
                        rw [hxi, hys] at hy; cases hy
                        show ys'[q]? = _
                        rw [h6 q, hcn]; rfl)
                    exact ⟨w', G1, _, h7, wp_ret_inv h4, by rw [obW_append]; exact st1.trans h8⟩
                · exact wp_fail_inv (CG := CG) (K := K) h9
      · exact wp_fail_inv h
    · exact wp_fail_inv h

omit hG in
theorem TOk.run_zero {t : Nat} {i : TI} (h : TT.get t = some i) (w : World) : ∃ z, (zeroValue t).run P w = .ok z w ∧ zsOk i.zero z.cells.toList = true ∧ (∀ G ob w, ARels G ob w i.zero z.cells.toList) := by
  obtain ⟨info, z, h1, h2, h3, h4, h5, h6, -⟩ := hT.row h
  obtain ⟨h7, h8⟩ := zsOk_rel h6
  refine ⟨z, by simp [zeroValue, typeInfo, h1, h5], h6, fun G ob w => ⟨h7, fun i c u hc hu => (zOk_rel (h8 i c u hc hu) G ob w).1, fun u hu => ?_⟩⟩
  obtain ⟨q, hq⟩ := List.getElem?_of_mem hu
  have hlt := (List.getElem?_eq_some_iff.1 hq).1
  exact (zOk_rel (h8 q _ u (List.getElem?_eq_getElem (by omega)) hq) G ob w).2

theorem alloc_sound {T d : Nat} {i : TI} (hd : ob d = none) (hi : TT.get T = some i) :
    ∃ val w' G', (Instr.alloc T true (.tuple #[])).run P w = .ok val w' ∧ Step W0 G ob w G' (updO ob d (.box i.zero)) w' ∧ ARel G' (updO ob d (.box i.zero)) w' (.ptr d 0) val := by
  obtain ⟨z, h1, h2, h3⟩ := hT.run_zero hi w
  obtain ⟨h4, h5, h6⟩ := h3 G ob w
  obtain ⟨G', h7, h8⟩ := box_step hG hd i.zero z.cells.toList T h4 h5 h6
  refine ⟨_, _, G', ?_, h7, h8⟩
  simp [Instr.alloc, h1, newVar, newRow]

omit hT in
theorem box_sound {T d : Nat} {cs : List AV} (hd : ob d = none) {u : Value} (hu : ARels G ob w cs u.cells.toList) :
    ∃ val w' G', (Instr.box T u).run P w = .ok val w' ∧ Step W0 G ob w G' (updO ob d (.box cs)) w' ∧ ARel G' (updO ob d (.box cs)) w' (.ptr d 0) val := by
  obtain ⟨G', h7, h8⟩ := box_step hG hd cs u.cells.toList T hu.1 hu.2.1 hu.2.2
  refine ⟨_, _, G', ?_, h7, h8⟩
  simp [Instr.box, newVar, newRow]
end
end Aw

/-
  Aw, part M: literals of structs and slices.
-/
namespace Aw
open Go Go.RowKit

section
variable {CG : CGT} {K : AV → Ws → Prop} {P : Program} {TT : Tr TI} (hT : TOk P TT)
include hT
theorem places_mapM {fs : List (Nat × Nat)} {gs : List Field} {ps : List (Nat × Nat)} (h : places TT fs = some ps) (hf : fieldsOk fs gs = true) :
    gs.mapM (fun f => (P.info? f.type).map fun i => (f.offset, i.size)) = some ps := by
  induction fs generalizing gs ps with
  | nil => cases gs with
    | nil => simp [places] at h; subst h; rfl
    | cons g gs => simp [fieldsOk] at hf
  | cons x fs ih =>
    obtain ⟨off, ty⟩ := x
    cases gs with
    | nil => simp [fieldsOk] at hf
    | cons g gs =>
      simp only [fieldsOk, Bool.and_eq_true] at hf
      simp only [places] at h
      split at h
      · rename_i n hn
        split at h
        · rename_i ps' hps
          cases h
          obtain ⟨info, h1, h2⟩ := hT.sz hn
          have e1 := natEq_true hf.1.1
          have e2 := natEq_true hf.1.2
          simp [List.mapM_cons, e2, h1, ih hps hf.2, e1, h2]
        · cases h
      · cases h

omit hT in
theorem fillK_inv {ps : List (Nat × Nat)} {ρ : Operand → AV} {a : Act} {G : Gh} {ob : Nat → Option Ob} {w : World} (hρ : ∀ x, ARel G ob w (ρ x) (a.eval x)) :
    ∀ {parts : List (Nat × Operand)} {cs : List AV} {k : List AV → Eff} {us : Array Value}, (fillK ps ρ cs parts k).wp CG K → ARels G ob w cs us.toList →
      ∃ cs' us', (k cs').wp CG K ∧ ARels G ob w cs' us' ∧ Instr.fill (ps.toArray[·]?) us (parts.map fun (i, x) => (i, a.eval x)) = some ⟨us'⟩
  | [], cs, k, us, h, hu => ⟨cs, us.toList, h, hu, rfl⟩
  | (f, o) :: r, cs, k, us, h, hu => by
    simp only [fillK] at h
    split at h
    · rename_i off n hf
      obtain ⟨vs, h1, h2⟩ := cellsK_inv h
      split at h1
      · rename_i hlen
        obtain ⟨h3, cs', h4, h5, h6⟩ := setK_inv h1
        have hv := h2 G ob w _ (hρ o)
        have hn := natEq_true hlen
        have hsz : (a.eval o).cells.size = n := by have := hv.1; simp at this; omega
        obtain ⟨g1, g2⟩ := Go.Great.foldl_set off (a.eval o).cells.toList 0 us
        have hcs : cs.length = us.size := by simpa using hu.1
        let us1 : Array Value := ((a.eval o).cells.toList.zipIdx 0).foldl (fun cs (x : Value × Nat) => cs.setIfInBounds (off + x.2) x.1) us
        have hrel : ARels G ob w cs' us1.toList := by
          have hget : ∀ i, us1.toList[i]? = if off ≤ i ∧ i < off + vs.length then (a.eval o).cells.toList[i - off]? else us.toList[i]? := by
            intro i
            have := g2 i
            simp only [Nat.add_zero] at this
            rw [Array.getElem?_toList, this, hv.1]
            by_cases hc : off ≤ i ∧ i < off + (a.eval o).cells.toList.length
            · rw [if_pos ⟨hc.1, hc.2, by have := hv.1; omega⟩, if_pos hc]
            · rw [if_neg (fun h => hc ⟨h.1, h.2.1⟩), if_neg hc]; simp
          refine ⟨?_, fun i c u hc hu' => ?_, fun u hu' => ?_⟩
          · rw [h5, hcs]; exact g1.symm
          · rw [h6 i] at hc
            rw [hget i] at hu'
            split at hc
            · rename_i hcond; rw [if_pos hcond] at hu'; exact hv.2.1 _ c u hc hu'
            · rename_i hcond; rw [if_neg hcond] at hu'; exact hu.2.1 i c u hc hu'
          · obtain ⟨i, hi⟩ := List.getElem?_of_mem hu'
            rw [hget i] at hi
            split at hi
            · exact hv.2.2 u (List.mem_of_getElem? hi)
            · exact hu.2.2 u (List.mem_of_getElem? hi)
        obtain ⟨cs2, us2, r1, r2, r3⟩ := fillK_inv hρ h4 hrel
        refine ⟨cs2, us2, r1, r2, ?_⟩
        simp only [List.map_cons]
        unfold Instr.fill
        have hps : ps.toArray[f]? = some (off, n) := by simpa using hf
        simp only [hps]
        rw [if_neg (by simp [hsz]; omega)]
        rw [← r3]
        congr 1
        rw [← Array.foldl_toList, Array.toList_zipIdx]
      · exact wp_fail_inv h1
    · exact wp_fail_inv h

theorem build_sound {T : Nat} {i : TI} {fs ps : List (Nat × Nat)} (hi : TT.get T = some i) (hd : i.desc = .struct fs) (hp : places TT fs = some ps) {ρ : Operand → AV} {a : Act} {G : Gh}
    {ob : Nat → Option Ob} {w : World} (hρ : ∀ x, ARel G ob w (ρ x) (a.eval x)) {parts : Array (Nat × Operand)}
    (h : (fillK ps ρ i.zero parts.toList fun cs => mkAgg cs fun v => .ret v []).wp CG K) :
    ∃ val r, (Instr.build T (parts.map fun (i, x) => (i, a.eval x))).run P w = .ok val w ∧ K r [] ∧ ARel G ob w r val := by
  obtain ⟨info, z, h1, h2, h3, h4, h5, h6, -⟩ := hT.row hi
  obtain ⟨gs, hu, hf⟩ := hT.underlying_struct hi hd
  have hz : ARels G ob w i.zero z.cells.toList := by
    obtain ⟨h7, h8⟩ := zsOk_rel h6
    refine ⟨h7, fun i c u hc hu => (zOk_rel (h8 i c u hc hu) G ob w).1, fun u hu => ?_⟩
    obtain ⟨q, hq⟩ := List.getElem?_of_mem hu
    have hlt := (List.getElem?_eq_some_iff.1 hq).1
    exact (zOk_rel (h8 q _ u (List.getElem?_eq_getElem (by omega)) hq) G ob w).2
  obtain ⟨cs', us', r1, r2, r3⟩ := fillK_inv hρ h hz
  obtain ⟨r, r4, r5⟩ := mkAgg_inv r1
  refine ⟨.agg ⟨us'⟩, r, run_build w T _ ⟨us'⟩ ?_, wp_ret_inv r4, r5 G ob w us' r2⟩
  unfold Program.built
  simp only [h1, hu, h5, places_mapM hT hp hf]
  rw [Array.toList_map]
  exact r3

omit hT in
/-- The parts of a literal of a slice. -/
theorem partsK_inv {ob : Nat → Option Ob} {ρ : Operand → AV} : ∀ {parts : List (Nat × Operand)} {n : Nat} {k : List DV → Ws → Eff}, (partsK ob ρ n parts k).wp CG K →
    ∃ (os : List Operand) (xs : List DV) (wss : List Ws), (k xs wss.flatten).wp CG K ∧ parts = (os.zipIdx n).map (fun x => (x.2, x.1)) ∧ os.length = xs.length ∧ os.length = wss.length ∧
      ∀ (i : Nat) (o : Operand) (x : DV) (ws : Ws), os[i]? = some o → xs[i]? = some x → wss[i]? = some ws → SealOf ob (ρ o) x ws
  | [], n, k, h => ⟨[], [], [], h, rfl, rfl, rfl, by simp⟩
  | (i, o) :: r, n, k, h => by
    simp only [partsK] at h
    split at h
    · rename_i hi
      have hi := natEq_true hi
      subst hi
      obtain ⟨x, ws, h1, h2⟩ := sealK_inv h
      obtain ⟨os, xs, wss, h3, h4, h5, h6, h7⟩ := partsK_inv h1
      refine ⟨o :: os, x :: xs, ws :: wss, by simpa using h3, by rw [h4]; simp [List.zipIdx_cons], by simp [h5], by simp [h6], fun j o' x' ws' ho hx hw => ?_⟩
      cases j with
      | zero => simp at ho hx hw; subst ho; subst hx; subst hw; exact h2
      | succ j => exact h7 j o' x' ws' (by simpa using ho) (by simpa using hx) (by simpa using hw)
    · exact wp_fail_inv h

theorem buildSlice_sound {T e len d k : Nat} (he : elemTy TT T = some e) (hk : Aw.sz TT e = some (k + 1)) {W0 : World} {G : Gh} {ob : Nat → Option Ob} {w : World} (hG : Good W0 G ob w) {ρ : Operand → AV} {a : Act}
    (hρ : ∀ x, ARel G ob w (ρ x) (a.eval x)) {parts : Array (Nat × Operand)} (hlen : parts.size = len) (hsm : len * (k + 1) ≤ 16777216)
    (hdn : ob d = none)
    (h : (partsK ob ρ 0 parts.toList fun xs ws => .need (∀ x ∈ xs, x.width = k + 1) (.ret (.lst d) (ws ++ [.new d (.list (k + 1) xs true)]))).wp CG K) :
    ∃ val w' G' ws, (Instr.buildSlice T len (parts.map fun (i, x) => (i, a.eval x))).run P w = .ok val w' ∧ K (.lst d) ws ∧ Step W0 G ob w G' (obW ob ws) w' ∧ ARel G' (obW ob ws) w' (.lst d) val := by
  obtain ⟨os, xs, wss, h1, h2, h3, h4, h5⟩ := partsK_inv h
  have hw := h1.l
  have hkk := wp_ret_inv (need_inv h1).r
  have hsw : SealWs ob wss.flatten := by
    intro e he
    obtain ⟨ws, hws, he⟩ := List.mem_flatten.1 he
    obtain ⟨i, hi⟩ := List.getElem?_of_mem hws
    have hlt := (List.getElem?_eq_some_iff.1 hi).1
    exact (h5 i _ _ ws (List.getElem?_eq_getElem (by omega)) (List.getElem?_eq_getElem (by omega)) hi).ws e he
  obtain ⟨G1, st1, hs1, hl1, -⟩ := seal_steps wss.flatten hG (Like.refl ob) hsw
  have hd1 : obW ob wss.flatten d = none := by
    have : ∀ (ws : Ws) (ob1 : Nat → Option Ob), SealWs ob ws → ob1 d = none → obW ob1 ws d = none := by
      intro ws
      induction ws with
      | nil => intro ob1 _ h; exact h
      | cons e ws ih =>
        intro ob1 hs h
        obtain ⟨key, n, xs, o, rfl, ho⟩ := hs e (List.mem_cons_self ..)
        refine ih _ (fun e he => hs e (List.mem_cons_of_mem _ he)) ?_
        rw [updO_ne _ _ (fun e => by rw [e, ho] at hdn; cases hdn)]; exact h
    exact this _ _ hsw hdn
  let vs : List Value := os.map a.eval
  have hvs : ∀ (i : Nat) (x : DV) (u : Value), xs[i]? = some x → vs[i]? = some u → DRel G1.S w x u := by
    intro i x u hx hu
    have hi := (List.getElem?_eq_some_iff.1 hx).1
    have ho := List.getElem?_eq_getElem (by omega : i < os.length)
    have hue : a.eval os[i] = u := by simpa [vs, List.getElem?_map, ho] using hu
    rw [← hue]
    exact (h5 i _ x _ ho hx (List.getElem?_eq_getElem (by omega))).rel hl1 (fun key n ys hm => hs1 key n ys (List.mem_flatten.2 ⟨_, List.getElem_mem _, hm⟩)) (st1.mono (hρ _))
  have hvl : vs.length = len := by rw [← hlen, ← Array.length_toList, h2]; simp [vs]
  have hvw : ∀ v ∈ vs, v.cells.size = k + 1 := by
    intro v hv
    obtain ⟨i, hi⟩ := List.getElem?_of_mem hv
    have hlt := (List.getElem?_eq_some_iff.1 hi).1
    have hx := List.getElem?_eq_getElem (by simp [vs] at hlt; omega : i < xs.length)
    rw [← (hvs i _ v hx hi).cells.1]
    exact hw _ (List.mem_of_getElem? hx)
  have hflat : ∀ (i : Nat) (c : DV), (flat xs)[i]? = some c → ∃ u, (vs.flatMap fun v => v.cells.toList).toArray[i]? = some u ∧ DRel G1.S w c u := by
    have : ∀ (xs : List DV) (vs : List Value), xs.length = vs.length → (∀ (i : Nat) (x : DV) (u : Value), xs[i]? = some x → vs[i]? = some u → DRel G1.S w x u) →
        ∀ (i : Nat) (c : DV), (flat xs)[i]? = some c → ∃ u, (vs.flatMap fun v => v.cells.toList)[i]? = some u ∧ DRel G1.S w c u := by
      intro xs
      induction xs with
      | nil => intro vs _ _ i c hc; simp [flat] at hc
      | cons x xs ih =>
        intro vs hl hr i c hc
        cases vs with
        | nil => simp at hl
        | cons v vs =>
          obtain ⟨c1, c2, c3⟩ := (hr 0 x v rfl rfl).cells
          rw [flat_cons] at hc
          rw [List.flatMap_cons]
          by_cases hi : i < x.cells.length
          · rw [List.getElem?_append_left hi] at hc
            rw [List.getElem?_append_left (by simp; omega)]
            have hlt : i < v.cells.toList.length := by simp; omega
            exact ⟨_, List.getElem?_eq_getElem hlt, c2 i c _ hc (by simp)⟩
          · rw [List.getElem?_append_right (by omega)] at hc
            rw [List.getElem?_append_right (by simp; omega)]
            have e : i - v.cells.toList.length = i - x.cells.length := by simp [c1]
            rw [e]
            exact ih vs (by simpa using hl) (fun i x u hx hu => hr (i + 1) x u (by simpa using hx) (by simpa using hu)) _ c hc
    intro i c hc
    simpa using this xs vs (by simp [vs, h3]) hvs i c hc
  have hatm : ∀ c ∈ flat xs, c.atom = true := by
    intro c hc
    obtain ⟨x, hx, hc⟩ := List.mem_flatMap.1 hc
    obtain ⟨i, hi⟩ := List.getElem?_of_mem hx
    have hlt := (List.getElem?_eq_some_iff.1 hi).1
    exact (hvs i x _ hi (List.getElem?_eq_getElem (by simp [vs]; omega))).cells.2.2 c hc
  have hcsz : (vs.flatMap fun v => v.cells.toList).toArray.size = len * (k + 1) := by
    have : ∀ (vs : List Value), (∀ v ∈ vs, v.cells.size = k + 1) → (vs.flatMap fun v => v.cells.toList).length = vs.length * (k + 1) := by
      intro vs
      induction vs with
      | nil => intro _; simp
      | cons v vs ih =>
        intro h
        rw [List.flatMap_cons, List.length_append, ih (fun v hv => h v (List.mem_cons_of_mem _ hv)), List.length_cons, Nat.succ_mul]
        have := h v (List.mem_cons_self ..)
        simp [this]; omega
    have := this vs hvw
    rw [hvl] at this
    simpa using this
  have hxl : xs.length = len := by rw [← h3]; simpa [vs] using hvl
  obtain ⟨G2, st2, hr2⟩ := list_step st1.good hd1 (k + 1) xs true (vs.flatMap fun v => v.cells.toList).toArray e len (by omega) hw hcsz hatm hflat
  obtain ⟨info, z, hie, hsz2, hzr⟩ : ∃ info z, P.info? e = some info ∧ info.size = k + 1 ∧ info.zero = some z := by
    unfold Aw.sz at hk
    split at hk
    · rename_i i hi
      obtain ⟨info, z, g1, g2, g3, g4, g5, -⟩ := hT.row hi
      have hk' := Option.some.inj hk
      exact ⟨info, z, g1, by omega, g5⟩
    · cases hk
  have hpl : (parts.map fun (i, x) => (i, a.eval x)).toList = (vs.zipIdx 0).map fun x => (x.2, x.1) := by
    rw [Array.toList_map, h2, List.map_map]
    simp only [vs, List.zipIdx_map, List.map_map]
    rfl
  refine ⟨.slice (some ⟨w.heap.size, 0, none⟩) len len, _, G2, _, ?_, hkk, by rw [obW_append]; exact st1.trans st2, by rw [obW_append]; rw [hxl] at hr2; exact hr2⟩
  have hfill : Instr.fill (fun i => some (i * info.size, info.size)) ((Array.range (len * info.size)).map (z.cells[· % z.cells.size]!)) (parts.map fun (i, x) => (i, a.eval x)).toList =
      some (vs.flatMap fun v => v.cells.toList).toArray := by
    rw [hpl, hsz2]
    exact Go.Great.fill_whole (by omega) vs _ hvw (by simp [hvl])
  by_cases h0 : len * info.size = 0
  · have hl0 : len = 0 := by rw [hsz2] at h0; rcases Nat.mul_eq_zero.1 h0 with h | h <;> omega
    subst hl0
    have hv0 : vs = [] := List.eq_nil_of_length_eq_zero hvl
    have hp0 : (parts.map fun (i, x) => (i, a.eval x)).toList = [] := by rw [hpl, hv0]; rfl
    have hpe : parts = #[] := Array.eq_empty_of_size_eq_zero hlen
    rw [hv0, hpe]
    simp [Instr.buildSlice, run_underlying (hT.underlying_slice he), Go.sizeOf, typeInfo, hie, newRow, Instr.fill]
    congr 2
    exact Array.eq_empty_of_size_eq_zero (by simp)
  · exact run_buildSlice w T e len _ _ info z (hT.underlying_slice he) hie hzr (by rw [hsz2]; omega) h0 hfill
end
end Aw

/-
  Aw, part N: slices, strings, the walk over a string, append.
-/
set_option linter.unusedSimpArgs false
set_option linter.unusedVariables false
namespace Aw
open Go Go.RowKit

theorem extract_mk (s : List UInt8) (l h : Nat) : (⟨s.toArray⟩ : ByteArray).extract l h = ⟨((s.take h).drop l).toArray⟩ := by
  apply ByteArray.ext
  rw [ByteArray.data_extract]
  apply Array.ext'
  simp [List.drop_take]

section
variable {CG : CGT} {K : AV → Ws → Prop} {P : Program} {TT : Tr TI} (hT : TOk P TT)
include hT

theorem sliceStr_sound {T : Nat} {i : TI} (hi : TT.get T = some i) (hd : i.desc = .str) {s : List UInt8} {lo hi' : Option Operand} {ρ : Operand → AV} {a : Act} {G : Gh} {ob : Nat → Option Ob} {w : World}
    (hρ : ∀ x, ARel G ob w (ρ x) (a.eval x)) (h : (sliceStr s (evO ρ lo) (evO ρ hi')).wp CG K) :
    ∃ val, (Instr.sliceAt T (.string ⟨s.toArray⟩) (lo.map a.eval) (hi'.map a.eval) none).run P w = .ok val w ∧ Is K val := by
  have hu := hT.underlying_str hi hd
  unfold sliceStr at h
  cases lo with
  | none =>
    cases hi' with
    | none =>
      refine ⟨_, ?_, str_inv h⟩
      have e : (⟨s.toArray⟩ : ByteArray).extract 0 (⟨s.toArray⟩ : ByteArray).size = ⟨s.toArray⟩ := by rw [extract_mk, size_mk]; simp
      simp [Instr.sliceAt, Instr.slice, run_underlying hu, Instr.sliceBounds, e]
    | some ho =>
      simp only [evO] at h
      split at h
      · rename_i hh; cases hh
      · rename_i k n hn
        have hv := hρ ho
        have hn' : ρ ho = .d (.int k n) := by simpa using hn
        rw [hn'] at hv
        obtain ⟨h0, h1⟩ := h.l
        refine ⟨_, ?_, str_inv (need_inv h).r⟩
        have hb := run_sliceBound (P := P) (w := w) k n (⟨s.toArray⟩ : ByteArray).size .sliceAlen h0 (by rw [size_mk]; exact h1)
        have e : (⟨s.toArray⟩ : ByteArray).extract 0 n.toNat = ⟨(s.take n.toNat).toArray⟩ := by rw [extract_mk]; simp
        simp [Instr.sliceAt, Instr.slice, run_underlying hu, Instr.sliceBounds, hv.int, hb, e]
      · exact wp_fail_inv h
  | some lo =>
    simp only [evO] at h
    split at h
    · rename_i hh; cases hh
    · rename_i k l hl
      have hvl := hρ lo
      have hl' : ρ lo = .d (.int k l) := by simpa using hl
      rw [hl'] at hvl
      cases hi' with
      | none =>
        obtain ⟨h0, h1⟩ := h.l
        refine ⟨_, ?_, str_inv (need_inv h).r⟩
        have hb := run_sliceBound (P := P) (w := w) k l (⟨s.toArray⟩ : ByteArray).size .sliceB h0 (by rw [size_mk]; exact h1)
        have e : (⟨s.toArray⟩ : ByteArray).extract l.toNat (⟨s.toArray⟩ : ByteArray).size = ⟨(s.drop l.toNat).toArray⟩ := by rw [extract_mk, size_mk]; simp
        simp [Instr.sliceAt, Instr.slice, run_underlying hu, Instr.sliceBounds, hvl.int, hb, e]
      | some ho =>
        simp only at h
        split at h
        · rename_i hh; cases hh
        · rename_i k' n hn
          have hv := hρ ho
          have hn' : ρ ho = .d (.int k' n) := by simpa using hn
          rw [hn'] at hv
          obtain ⟨h0, h1, h2⟩ := h.l
          refine ⟨_, ?_, str_inv (need_inv h).r⟩
          have hb := run_sliceBound (P := P) (w := w) k' n (⟨s.toArray⟩ : ByteArray).size .sliceAlen (by omega) (by rw [size_mk]; exact h2)
          have hb' := run_sliceBound (P := P) (w := w) k l n.toNat .sliceB h0 (by omega)
          simp [Instr.sliceAt, Instr.slice, run_underlying hu, Instr.sliceBounds, hvl.int, hv.int, hb, hb', extract_mk]
        · exact wp_fail_inv h
    · exact wp_fail_inv h
end
end Aw
