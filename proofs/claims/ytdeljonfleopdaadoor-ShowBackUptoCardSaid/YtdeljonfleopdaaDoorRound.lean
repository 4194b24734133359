/-
  What is printed is read as it was; plain laws; no condition but those that stand in each.
-/
import Derived.Test.YtdeljonfleopdaaDoorLexer
set_option linter.unusedSectionVars false
set_option linter.unusedSimpArgs false
set_option linter.unusedVariables false
namespace Go.Proofs.L08
open Go Aw Go.Proofs
/-! What the words of a printed formula are read aa. -/
structure Tok where
  kind : Int
  text : List UInt8
  num : Int
def Wd.tok (w : Wd) : Tok := ⟨w.kind, w.text, w.num⟩
def sg (s : List UInt8) : Tok := ⟨2, s, 0⟩
def wrapT (least binds : Nat) (ts : List Tok) : List Tok := if binds < least then [sg [91]] ++ ts ++ [sg [93]] else ts
def opS (k : Int) : List UInt8 := if k = 3 then [43] else if k = 4 then [45] else [42]
def RT.toks : RT → List Tok
  | .num n => [⟨1, [], n⟩]
  | .name s => [⟨0, s, 0⟩]
  | .neg a => [sg [45]] ++ wrapT 2 a.binds a.toks
  | .bin k a b => wrapT (if k = 5 then 1 else 0) a.binds a.toks ++ [sg (opS k)] ++ wrapT (if k = 5 then 2 else 1) b.binds b.toks
def relS (k : Int) : List UInt8 :=
  if k = 3 then [97, 110, 100] else if k = 4 then [111, 114] else if k = 5 then [45, 62] else if k = 6 then [60, 45, 62]
  else if k = 9 then [60, 61] else if k = 10 then [60] else if k = 11 then [62, 61] else if k = 12 then [62] else if k = 13 then [61] else if k = 14 then [33, 61] else [126]
def RF.toks : RF → List Tok
  | .con k => [sg (if k = 0 then [116, 114, 117, 101] else [102, 97, 108, 115, 101])]
  | .nt a => [sg [110, 111, 116]] ++ a.toks
  | .bin k a b => [sg [40]] ++ a.toks ++ [sg (relS k)] ++ b.toks ++ [sg [41]]
  | .qu k s a => [sg (if k = 7 then [101, 120] else [97, 108, 108]), ⟨0, s, 0⟩, sg [46]] ++ a.toks
  | .rel k a b => a.toks ++ [sg (relS k)] ++ b.toks
  | .cong a b m => a.toks ++ [sg [126]] ++ b.toks ++ [sg [109, 111, 100], ⟨1, [], m⟩]
section
variable (eb ec fb fc : Int)
/-- A reader without a fault. -/
def rd (ws : List Wd) : R := ⟨ws, eb, ec, 0, fb, fc⟩
def nxS (ws : List Wd) : List UInt8 := match ws with
  | w :: _ => if w.kind = 2 then w.text else []
  | [] => []
theorem rd_sgn (ws : List Wd) : (rd eb ec fb fc ws).sgnOf = nxS ws := by cases ws <;> rfl
theorem rd_take_no {ws : List Wd} {l : List (List UInt8)} (h : nxS ws ∉ l) : (rd eb ec fb fc ws).take l = ([], rd eb ec fb fc ws) := by
  unfold R.take
  rw [if_neg (by simp [rd])]
  have h1 : takeL (rd eb ec fb fc ws) l = [] ∧ takeR (rd eb ec fb fc ws) l = rd eb ec fb fc ws := by
    induction l with
    | nil => exact ⟨rfl, rfl⟩
    | cons s l ih =>
      have hs : ¬ (rd eb ec fb fc ws).sgnOf = s := by rw [rd_sgn]; intro e; exact h (by rw [e]; exact List.mem_cons_self ..)
      rw [takeL, takeR, if_neg hs, if_neg hs]
      exact ih fun hm => h (List.mem_cons_of_mem _ hm)
  rw [h1.1, h1.2]
theorem rd_take_yes {w : Wd} {ws : List Wd} {l : List (List UInt8)} (hk : w.kind = 2) (h : w.text ∈ l) : (rd eb ec fb fc (w :: ws)).take l = (w.text, rd eb ec fb fc ws) := by
  unfold R.take
  rw [if_neg (by simp [rd])]
  have hsg : (rd eb ec fb fc (w :: ws)).sgnOf = w.text := by rw [rd_sgn]; simp [nxS, hk]
  have h1 : takeL (rd eb ec fb fc (w :: ws)) l = w.text ∧ takeR (rd eb ec fb fc (w :: ws)) l = rd eb ec fb fc ws := by
    induction l with
    | nil => cases h
    | cons s l ih =>
      rw [takeL, takeR, hsg]
      by_cases hs : w.text = s
      · rw [if_pos hs, if_pos hs]; exact ⟨hs.symm, rfl⟩
      · rw [if_neg hs, if_neg hs]
        rcases List.mem_cons.1 h with h | h
        · exact absurd h hs
        · exact ih h
  rw [h1.1, h1.2]
theorem rd_need {w : Wd} {ws : List Wd} {s : List UInt8} (hk : w.kind = 2) (h : w.text = s) (hne : s ≠ []) : (rd eb ec fb fc (w :: ws)).need s = rd eb ec fb fc ws := by
  unfold R.need
  rw [rd_take_yes eb ec fb fc hk (l := [s]) (by rw [h]; exact List.mem_cons_self ..)]
  simp only
  rw [if_neg (by rw [h]; exact hne)]
theorem rd_word {w : Wd} {ws : List Wd} {k : Int} (hk : w.kind = k) : (rd eb ec fb fc (w :: ws)).word k = (w, rd eb ec fb fc ws) := by
  unfold R.word
  rw [if_neg (by simp [rd])]
  simp [rd, hk, R.next]
theorem loopT_fuel {k : List UInt8 → Int} {l : List (List UInt8)} {nx : R → T × R} (hne : ∀ s ∈ l, s ≠ []) (hnx : ∀ r, (nx r).2.ws.length ≤ r.ws.length) :
    ∀ (n m : Nat) (t : T) (r : R), r.ws.length < n → r.ws.length < m → loopT k l nx n t r = loopT k l nx m t r := by
  intro n
  induction n with
  | zero => intro m t r h; omega
  | succ n ih =>
    intro m t r h1 h2
    obtain ⟨m', rfl⟩ : ∃ m', m = m' + 1 := ⟨m - 1, by omega⟩
    rw [loopT, loopT]
    split
    · rfl
    · rename_i hs
      have := (R.take_some hne hs).1
      have := hnx (r.take l).2
      exact ih _ _ _ (by omega) (by omega)
theorem loopF_fuel {s : List UInt8} {k : Int} {nx : R → F × R} (hne : s ≠ []) (hnx : ∀ r, (nx r).2.ws.length ≤ r.ws.length) :
    ∀ (n m : Nat) (t : F) (r : R), r.ws.length < n → r.ws.length < m → loopF s k nx n t r = loopF s k nx m t r := by
  intro n
  induction n with
  | zero => intro m t r h; omega
  | succ n ih =>
    intro m t r h1 h2
    obtain ⟨m', rfl⟩ : ∃ m', m = m' + 1 := ⟨m - 1, by omega⟩
    rw [loopF, loopF]
    split
    · rfl
    · rename_i hs
      have := (R.take_some (by simpa using hne) hs).1
      have := hnx (r.take [s]).2
      exact ih _ _ _ (by omega) (by omega)
theorem loopT_stop {k : List UInt8 → Int} {l : List (List UInt8)} {nx : R → T × R} {n : Nat} {t : T} {ws : List Wd} (h : nxS ws ∉ l) : loopT k l nx (n + 1) t (rd eb ec fb fc ws) = (t, rd eb ec fb fc ws) := by
  rw [loopT, rd_take_no eb ec fb fc h, if_pos rfl]
theorem loopF_stop {s : List UInt8} {k : Int} {nx : R → F × R} {n : Nat} {t : F} {ws : List Wd} (h : nxS ws ≠ s) : loopF s k nx (n + 1) t (rd eb ec fb fc ws) = (t, rd eb ec fb fc ws) := by
  rw [loopF, rd_take_no eb ec fb fc (by simpa using h), if_pos rfl]
theorem loopT_go {k : List UInt8 → Int} {l : List (List UInt8)} {nx : R → T × R} {n : Nat} {t : T} {w : Wd} {ws : List Wd} (hk : w.kind = 2) (h : w.text ∈ l) (hne : w.text ≠ []) :
    loopT k l nx (n + 1) t (rd eb ec fb fc (w :: ws)) = loopT k l nx n (T.bin (k w.text) t (nx (rd eb ec fb fc ws)).1) (nx (rd eb ec fb fc ws)).2 := by
  rw [loopT, rd_take_yes eb ec fb fc hk h, if_neg hne]
theorem loopF_go {s : List UInt8} {k : Int} {nx : R → F × R} {n : Nat} {t : F} {w : Wd} {ws : List Wd} (hk : w.kind = 2) (h : w.text = s) (hne : s ≠ []) :
    loopF s k nx (n + 1) t (rd eb ec fb fc (w :: ws)) = loopF s k nx n (F.bin k t (nx (rd eb ec fb fc ws)).1) (nx (rd eb ec fb fc ws)).2 := by
  rw [loopF, rd_take_yes eb ec fb fc hk (l := [s]) (by simp [h]), if_neg (by simp only; rw [h]; exact hne)]
theorem tok_inv {w : Wd} {t : Tok} (h : w.tok = t) : w.kind = t.kind ∧ w.text = t.text ∧ w.num = t.num := by subst h; exact ⟨rfl, rfl, rfl⟩
theorem toks_cons {aa : List Wd} {t : Tok} {ts : List Tok} (h : aa.map Wd.tok = [t] ++ ts) : ∃ w l, aa = w :: l ∧ w.kind = t.kind ∧ w.text = t.text ∧ w.num = t.num ∧ l.map Wd.tok = ts := by
  cases aa with
  | nil => cases h
  | cons w l =>
    simp only [List.map_cons, List.singleton_append, List.cons.injEq] at h
    obtain ⟨h1, h2, h3⟩ := tok_inv h.1
    exact ⟨w, l, rfl, h1, h2, h3, h.2⟩
theorem toks_app {aa : List Wd} {t1 t2 : List Tok} (h : aa.map Wd.tok = t1 ++ t2) : ∃ a1 a2, aa = a1 ++ a2 ∧ a1.map Wd.tok = t1 ∧ a2.map Wd.tok = t2 := List.map_eq_append_iff.1 h
/-- What a term's tokens are read aa, at each level. -/
structure TLaw (a : RT) : Prop where
  trm : ∀ (n : Nat) (aa rest : List Wd), aa.map Wd.tok = a.toks → nxS rest ≠ [42] → (aa ++ rest).length < n →
    (pz n).trm (rd eb ec fb fc (aa ++ rest)) = loopT sumK [[43], [45]] (pz (n - 1)).prd (rest.length + 1) a.t (rd eb ec fb fc rest)
  prd : ∀ (n : Nat) (aa rest : List Wd), aa.map Wd.tok = wrapT 1 a.binds a.toks → (aa ++ rest).length < n →
    (pz n).prd (rd eb ec fb fc (aa ++ rest)) = loopT (fun _ => 5) [[42]] (pz (n - 1)).fac (rest.length + 1) a.t (rd eb ec fb fc rest)
  fac : ∀ (n : Nat) (aa rest : List Wd), aa.map Wd.tok = wrapT 2 a.binds a.toks → (aa ++ rest).length < n → (pz n).fac (rd eb ec fb fc (aa ++ rest)) = (a.t, rd eb ec fb fc rest)
/-- In brackets. -/
theorem bracket {a : RT} (h : ∀ (n : Nat) (aa rest : List Wd), aa.map Wd.tok = a.toks → nxS rest ≠ [42] → (aa ++ rest).length < n →
    (pz n).trm (rd eb ec fb fc (aa ++ rest)) = loopT sumK [[43], [45]] (pz (n - 1)).prd (rest.length + 1) a.t (rd eb ec fb fc rest))
    (n : Nat) (aa rest : List Wd) (ht : aa.map Wd.tok = [sg [91]] ++ a.toks ++ [sg [93]]) (hn : (aa ++ rest).length < n) : (pz n).fac (rd eb ec fb fc (aa ++ rest)) = (a.t, rd eb ec fb fc rest) := by
  rw [List.append_assoc] at ht
  obtain ⟨w, l, rfl, k1, k2, -, hl⟩ := toks_cons ht
  obtain ⟨a1, a2, rfl, hl1, hl2⟩ := toks_app hl
  rw [← List.append_nil [sg [93]]] at hl2
  obtain ⟨v, l2, rfl, v1, v2, -, hl3⟩ := toks_cons hl2
  obtain rfl : l2 = [] := by simpa using hl3
  obtain ⟨m, rfl⟩ : ∃ m, n = m + 1 := ⟨n - 1, by omega⟩
  simp only [List.cons_append, List.append_assoc, List.nil_append, List.length_cons, List.length_append] at hn ⊢
  replace k2 : w.text = [91] := k2
  show pFac (pz m) _ = _
  unfold pFac
  rw [rd_take_yes eb ec fb fc k1 (by rw [k2]; decide)]
  simp only
  rw [if_pos k2, h m a1 (v :: rest) hl1 (by simp [nxS, v1, v2, sg]) (by simp; omega)]
  rw [loopT_stop eb ec fb fc (by simp [nxS, v1, v2, sg])]
  simp only
  rw [rd_need eb ec fb fc (s := [93]) v1 v2 (by decide)]
/-- Out of a factor: the other levels. -/
theorem TLaw.of_fac {a : RT} (hb : a.binds = 2) (h : ∀ (n : Nat) (aa rest : List Wd), aa.map Wd.tok = a.toks → (aa ++ rest).length < n → (pz n).fac (rd eb ec fb fc (aa ++ rest)) = (a.t, rd eb ec fb fc rest)) : TLaw eb ec fb fc a := by
  have hp : ∀ (n : Nat) (aa rest : List Wd), aa.map Wd.tok = a.toks → (aa ++ rest).length < n →
      (pz n).prd (rd eb ec fb fc (aa ++ rest)) = loopT (fun _ => 5) [[42]] (pz (n - 1)).fac (rest.length + 1) a.t (rd eb ec fb fc rest) := by
    intro n aa rest ht hn
    obtain ⟨m, rfl⟩ : ∃ m, n = m + 1 := ⟨n - 1, by omega⟩
    have h1 : pFac (pz m) (rd eb ec fb fc (aa ++ rest)) = (a.t, rd eb ec fb fc rest) := h (m + 1) aa rest ht hn
    show pPrd (pz m) _ = _
    unfold pPrd
    rw [h1]
    rfl
  refine ⟨fun n aa rest ht hs hn => ?_, fun n aa rest ht hn => ?_, fun n aa rest ht hn => ?_⟩
  · obtain ⟨m, rfl⟩ : ∃ m, n = m + 1 := ⟨n - 1, by omega⟩
    have h1 : pPrd (pz m) (rd eb ec fb fc (aa ++ rest)) = _ := hp (m + 1) aa rest ht hn
    rw [loopT_stop eb ec fb fc (by simpa using hs)] at h1
    show pTrm (pz m) _ = _
    unfold pTrm
    rw [h1]
    rfl
  · rw [hb] at ht; exact hp n aa rest ht hn
  · rw [hb] at ht; exact h n aa rest ht hn
theorem opS_ne (k : Int) : opS k ≠ [] := by unfold opS; split; decide; split <;> decide
theorem RT.law (a : RT) : a.Good → TLaw eb ec fb fc a := by
  induction a with
  | num v =>
    intro _
    refine TLaw.of_fac eb ec fb fc rfl fun n aa rest ht hn => ?_
    obtain ⟨w, l, rfl, k1, k2, k3, hl⟩ := toks_cons (ts := []) ht
    obtain rfl : l = [] := by simpa using hl
    obtain ⟨m, rfl⟩ : ∃ m, n = m + 1 := ⟨n - 1, by omega⟩
    show pFac (pz m) (rd eb ec fb fc (w :: rest)) = _
    have hns : nxS (w :: rest) = [] := by simp [nxS, k1]
    unfold pFac
    rw [rd_take_no eb ec fb fc (by rw [hns]; decide)]
    simp only
    rw [if_neg (by decide), if_neg (by decide), if_neg, rd_word eb ec fb fc k1]
    · simp only [k3]; rfl
    · simp [R.isK, rd, R.bad, k1]
  | name s =>
    intro _
    refine TLaw.of_fac eb ec fb fc rfl fun n aa rest ht hn => ?_
    obtain ⟨w, l, rfl, k1, k2, k3, hl⟩ := toks_cons (ts := []) ht
    obtain rfl : l = [] := by simpa using hl
    obtain ⟨m, rfl⟩ : ∃ m, n = m + 1 := ⟨n - 1, by omega⟩
    show pFac (pz m) (rd eb ec fb fc (w :: rest)) = _
    have hns : nxS (w :: rest) = [] := by simp [nxS, k1]
    unfold pFac
    rw [rd_take_no eb ec fb fc (by rw [hns]; decide)]
    simp only
    rw [if_neg (by decide), if_neg (by decide), if_pos, rd_word eb ec fb fc k1]
    · simp only [k2]; rfl
    · simp [R.isK, rd, R.bad, k1]
  | neg x ih =>
    intro h
    have hx := ih h
    refine TLaw.of_fac eb ec fb fc rfl fun n aa rest ht hn => ?_
    obtain ⟨w, l, rfl, k1, k2, k3, hl⟩ := toks_cons ht
    obtain ⟨m, rfl⟩ : ∃ m, n = m + 1 := ⟨n - 1, by omega⟩
    replace k2 : w.text = [45] := k2
    show pFac (pz m) (rd eb ec fb fc (w :: (l ++ rest))) = _
    unfold pFac
    rw [rd_take_yes eb ec fb fc k1 (by rw [k2]; decide)]
    simp only
    rw [if_neg (by rw [k2]; decide), if_pos k2, hx.fac m l rest hl (by simp at hn ⊢; omega)]
    rfl
  | bin k x y ihx ihy =>
    intro h
    have hx := ihx h.2.1
    have hy := ihy h.2.2
    have hT : ∀ (n : Nat) (aa rest : List Wd), aa.map Wd.tok = (RT.bin k x y).toks → nxS rest ≠ [42] → (aa ++ rest).length < n →
        (k = 5 → (pz n).prd (rd eb ec fb fc (aa ++ rest)) = loopT (fun _ => 5) [[42]] (pz (n - 1)).fac (rest.length + 1) (RT.bin k x y).t (rd eb ec fb fc rest)) →
        (pz n).trm (rd eb ec fb fc (aa ++ rest)) = loopT sumK [[43], [45]] (pz (n - 1)).prd (rest.length + 1) (RT.bin k x y).t (rd eb ec fb fc rest) := by
      intro n aa rest ht hs hn h5
      obtain ⟨m, rfl⟩ : ∃ m, n = m + 1 := ⟨n - 1, by omega⟩
      by_cases hk : k = 5
      · have h1 : pPrd (pz m) (rd eb ec fb fc (aa ++ rest)) = _ := h5 hk
        rw [loopT_stop eb ec fb fc (by simpa using hs)] at h1
        show pTrm (pz m) _ = _
        unfold pTrm
        rw [h1]
        rfl
      · rw [RT.toks, if_neg hk, if_neg hk, List.append_assoc] at ht
        obtain ⟨a1, a2, rfl, h1, h2⟩ := toks_app ht
        obtain ⟨w, l, rfl, k1, k2, k3, hl⟩ := toks_cons h2
        simp only [List.append_assoc, List.cons_append, List.length_append, List.length_cons] at hn ⊢
        have hop : opS k = [43] ∧ sumK (opS k) = k ∨ opS k = [45] ∧ sumK (opS k) = k := by
          rcases h.1 with rfl | rfl | rfl
          · exact .inl ⟨rfl, rfl⟩
          · exact .inr ⟨rfl, rfl⟩
          · exact absurd rfl hk
        have k2' : w.text = opS k := k2
        rw [hx.trm (m + 1) a1 (w :: (l ++ rest)) (by simpa [wrapT] using h1) (by rw [nxS, if_pos (by rw [k1]; rfl), k2']; rcases hop with ⟨e, -⟩ | ⟨e, -⟩ <;> rw [e] <;> decide) (by simp; omega)]
        rw [loopT_go eb ec fb fc (by rw [k1]; rfl) (by rw [k2']; rcases hop with ⟨e, -⟩ | ⟨e, -⟩ <;> rw [e] <;> decide) (by rw [k2']; exact opS_ne k)]
        have h3 := hy.prd m l rest hl (by simp; omega)
        rw [Nat.add_sub_cancel, h3, loopT_stop eb ec fb fc (by simpa using hs)]
        simp only
        have e5 : sumK w.text = k := by rw [k2']; rcases hop with ⟨-, e⟩ | ⟨-, e⟩ <;> exact e
        rw [e5]
        exact loopT_fuel (by decide) (pz_le m).prd _ _ _ _ (by simp [rd]; omega) (by simp [rd])
    have hP : k = 5 → ∀ (n : Nat) (aa rest : List Wd), aa.map Wd.tok = (RT.bin k x y).toks → (aa ++ rest).length < n →
        (pz n).prd (rd eb ec fb fc (aa ++ rest)) = loopT (fun _ => 5) [[42]] (pz (n - 1)).fac (rest.length + 1) (RT.bin k x y).t (rd eb ec fb fc rest) := by
      intro hk n aa rest ht hn
      obtain ⟨m, rfl⟩ : ∃ m, n = m + 1 := ⟨n - 1, by omega⟩
      rw [RT.toks, if_pos hk, if_pos hk, List.append_assoc] at ht
      obtain ⟨a1, a2, rfl, h1, h2⟩ := toks_app ht
      obtain ⟨w, l, rfl, k1, k2, k3, hl⟩ := toks_cons h2
      simp only [List.append_assoc, List.cons_append, List.length_append, List.length_cons] at hn ⊢
      have k2' : w.text = [42] := by rw [k2, hk]; rfl
      rw [hx.prd (m + 1) a1 (w :: (l ++ rest)) h1 (by simp; omega)]
      rw [loopT_go eb ec fb fc (by rw [k1]; rfl) (by rw [k2']; decide) (by rw [k2']; decide)]
      have h3 := hy.fac m l rest hl (by simp; omega)
      rw [Nat.add_sub_cancel, h3]
      simp only
      subst hk
      exact loopT_fuel (by decide) (pz_le m).fac _ _ _ _ (by simp [rd]; omega) (by simp [rd])
    have hTT : ∀ (n : Nat) (aa rest : List Wd), aa.map Wd.tok = (RT.bin k x y).toks → nxS rest ≠ [42] → (aa ++ rest).length < n →
        (pz n).trm (rd eb ec fb fc (aa ++ rest)) = loopT sumK [[43], [45]] (pz (n - 1)).prd (rest.length + 1) (RT.bin k x y).t (rd eb ec fb fc rest) :=
      fun n aa rest ht hs hn => hT n aa rest ht hs hn fun hk => hP hk n aa rest ht hn
    refine ⟨hTT, fun n aa rest ht hn => ?_, fun n aa rest ht hn => ?_⟩
    · by_cases hk : k = 5
      · have hb : wrapT 1 (RT.bin k x y).binds (RT.bin k x y).toks = (RT.bin k x y).toks := by simp [wrapT, RT.binds, hk]
        rw [hb] at ht
        exact hP hk n aa rest ht hn
      · have hb : wrapT 1 (RT.bin k x y).binds (RT.bin k x y).toks = [sg [91]] ++ (RT.bin k x y).toks ++ [sg [93]] := by simp [wrapT, RT.binds, hk]
        rw [hb] at ht
        obtain ⟨m, rfl⟩ : ∃ m, n = m + 1 := ⟨n - 1, by omega⟩
        have h1 : pFac (pz m) (rd eb ec fb fc (aa ++ rest)) = _ := bracket eb ec fb fc hTT (m + 1) aa rest ht hn
        show pPrd (pz m) _ = _
        unfold pPrd
        rw [h1]
        rfl
    · have hb : wrapT 2 (RT.bin k x y).binds (RT.bin k x y).toks = [sg [91]] ++ (RT.bin k x y).toks ++ [sg [93]] := by
        unfold wrapT
        rw [if_pos]
        simp only [RT.binds]; split <;> omega
      rw [hb] at ht
      exact bracket eb ec fb fc hTT n aa rest ht hn
end
end Go.Proofs.L08

namespace Go.Proofs.L08
open Go Aw Go.Proofs
section
variable (eb ec fb fc : Int)
theorem trm_all {a : RT} (ha : a.Good) (n : Nat) (aa rest : List Wd) (ht : aa.map Wd.tok = a.toks) (h1 : nxS rest ∉ [[42], [43], [45]]) (hn : (aa ++ rest).length ≤ n) :
    pTrm (pz n) (rd eb ec fb fc (aa ++ rest)) = (a.t, rd eb ec fb fc rest) := by
  have h := (a.law eb ec fb fc ha).trm (n + 1) aa rest ht (by intro e; rw [e] at h1; simp at h1) (by omega)
  rw [loopT_stop eb ec fb fc (by intro e; apply h1; simp at e ⊢; rcases e with e | e <;> simp [e])] at h
  exact h
theorem RT.toks_head (a : RT) : a.Good → ∀ (aa rest : List Wd), aa.map Wd.tok = a.toks → nxS (aa ++ rest) = [] ∨ nxS (aa ++ rest) = [45] ∨ nxS (aa ++ rest) = [91] := by
  induction a with
  | num n =>
    intro _ aa rest ht
    obtain ⟨w, l, rfl, k1, k2, k3, hl⟩ := toks_cons (ts := []) ht
    left; simp [nxS, k1]
  | name n =>
    intro _ aa rest ht
    obtain ⟨w, l, rfl, k1, k2, k3, hl⟩ := toks_cons (ts := []) ht
    left; simp [nxS, k1]
  | neg x ih =>
    intro _ aa rest ht
    obtain ⟨w, l, rfl, k1, k2, k3, hl⟩ := toks_cons ht
    right; left; simp [nxS, k1, k2, sg]
  | bin k x y ihx ihy =>
    intro h aa rest ht
    rw [RT.toks, List.append_assoc] at ht
    obtain ⟨a1, a2, rfl, h1, h2⟩ := toks_app ht
    rw [List.append_assoc]
    generalize (if k = 5 then 1 else 0) = le at h1
    unfold wrapT at h1
    split at h1
    · rw [List.append_assoc] at h1
      obtain ⟨w, l, rfl, k1, k2, k3, hl⟩ := toks_cons h1
      right; right; simp [nxS, k1, k2, sg]
    · exact ihx h.2.1 a1 _ h1
theorem rel_of (k : Int) (h : k = 9 ∨ k = 10 ∨ k = 11 ∨ k = 12 ∨ k = 13 ∨ k = 14) : relS k ∈ relSigns ∧ relOf (relS k) = k ∧ relS k ≠ [] ∧ relS k ∉ [[42], [43], [45]] ∧ k ≠ 15 := by
  rcases h with rfl | rfl | rfl | rfl | rfl | rfl <;> decide
theorem atm_una {n : Nat} {ws : List Wd} (h : nxS ws = [] ∨ nxS ws = [45] ∨ nxS ws = [91]) : pUna (pz n) (rd eb ec fb fc ws) = pAtm (pz n) (rd eb ec fb fc ws) := by
  unfold pUna
  rw [rd_take_no eb ec fb fc (by rcases h with h | h | h <;> rw [h] <;> decide)]
  simp only
  rw [if_neg (by decide), if_neg (by decide), if_neg (by decide), if_neg (by decide), if_neg (by decide), if_neg (by decide)]
/-- What may stand behind a formula: no sign that goes on. -/
abbrev Ends (rest : List Wd) : Prop := nxS rest ∉ [[42], [43], [45]]
structure FLaw (a : RF) : Prop where
  una : ∀ (n : Nat) (aa rest : List Wd), aa.map Wd.tok = a.toks → Ends rest → (aa ++ rest).length ≤ n → pUna (pz n) (rd eb ec fb fc (aa ++ rest)) = (a.f, rd eb ec fb fc rest)
variable {eb ec fb fc}
theorem FLaw.nd {a : RF} (h : FLaw eb ec fb fc a) (n : Nat) (aa rest : List Wd) (ht : aa.map Wd.tok = a.toks) (he : Ends rest) (h1 : nxS rest ≠ [97, 110, 100]) (hn : (aa ++ rest).length ≤ n) :
    pNd (pz n) (rd eb ec fb fc (aa ++ rest)) = (a.f, rd eb ec fb fc rest) := by
  unfold pNd
  rw [h.una n aa rest ht he hn]
  exact loopF_stop eb ec fb fc h1
theorem FLaw.orr {a : RF} (h : FLaw eb ec fb fc a) (n : Nat) (aa rest : List Wd) (ht : aa.map Wd.tok = a.toks) (he : Ends rest) (h1 : nxS rest ≠ [97, 110, 100]) (h2 : nxS rest ≠ [111, 114]) (hn : (aa ++ rest).length ≤ n) :
    pOrr (pz n) (rd eb ec fb fc (aa ++ rest)) = (a.f, rd eb ec fb fc rest) := by
  unfold pOrr
  rw [h.nd n aa rest ht he h1 hn]
  exact loopF_stop eb ec fb fc h2
theorem FLaw.imp {a : RF} (h : FLaw eb ec fb fc a) (n : Nat) (aa rest : List Wd) (ht : aa.map Wd.tok = a.toks) (he : Ends rest) (h1 : nxS rest ≠ [97, 110, 100]) (h2 : nxS rest ≠ [111, 114]) (h3 : nxS rest ≠ [45, 62]) (hn : (aa ++ rest).length ≤ n) :
    pImp (pz n) (rd eb ec fb fc (aa ++ rest)) = (a.f, rd eb ec fb fc rest) := by
  unfold pImp
  simp only
  rw [h.orr n aa rest ht he h1 h2 hn, rd_take_no eb ec fb fc (by simpa using h3), if_pos rfl]
theorem FLaw.frm {a : RF} (h : FLaw eb ec fb fc a) (n : Nat) (aa rest : List Wd) (ht : aa.map Wd.tok = a.toks) (he : Ends rest) (h1 : nxS rest ≠ [97, 110, 100]) (h2 : nxS rest ≠ [111, 114]) (h3 : nxS rest ≠ [45, 62]) (h4 : nxS rest ≠ [60, 45, 62]) (hn : (aa ++ rest).length ≤ n) :
    pFrm (pz n) (rd eb ec fb fc (aa ++ rest)) = (a.f, rd eb ec fb fc rest) := by
  unfold pFrm
  rw [h.imp n aa rest ht he h1 h2 h3 hn]
  exact loopF_stop eb ec fb fc h4
/-- Two parts in brackets. -/
theorem FLaw.two {a b : RF} (ha : FLaw eb ec fb fc a) (hb : FLaw eb ec fb fc b) (k : Int) (hk : k = 3 ∨ k = 4 ∨ k = 5 ∨ k = 6) (n : Nat) (w v : Wd) (a1 b1 rest : List Wd) (h1 : a1.map Wd.tok = a.toks) (h2 : b1.map Wd.tok = b.toks)
    (w1 : w.kind = 2) (w2 : w.text = relS k) (v1 : v.kind = 2) (v2 : v.text = [41]) (hn : (a1 ++ w :: (b1 ++ v :: rest)).length ≤ n) (hn0 : 0 < n) :
    pFrm (pz n) (rd eb ec fb fc (a1 ++ w :: (b1 ++ v :: rest))) = (F.bin k a.f b.f, rd eb ec fb fc (v :: rest)) := by
  obtain ⟨m, rfl⟩ : ∃ m, n = m + 1 := ⟨n - 1, by omega⟩
  have nv : nxS (v :: rest) = [41] := by simp [nxS, v1, v2]
  have nw : nxS (w :: (b1 ++ v :: rest)) = relS k := by simp [nxS, w1, w2]
  have ev : Ends (v :: rest) := by unfold Ends; rw [nv]; decide
  have ew : Ends (w :: (b1 ++ v :: rest)) := by unfold Ends; rw [nw]; rcases hk with rfl | rfl | rfl | rfl <;> decide
  have hn2 : (b1 ++ v :: rest).length ≤ m := by simp at hn ⊢; omega
  have v_una := hb.una m b1 (v :: rest) h2 ev hn2
  have v_nd := hb.nd m b1 (v :: rest) h2 ev (by rw [nv]; decide) hn2
  have v_orr := hb.orr m b1 (v :: rest) h2 ev (by rw [nv]; decide) (by rw [nv]; decide) hn2
  have v_imp := hb.imp m b1 (v :: rest) h2 ev (by rw [nv]; decide) (by rw [nv]; decide) (by rw [nv]; decide) hn2
  have u := ha.una (m + 1) a1 (w :: (b1 ++ v :: rest)) h1 ew hn
  rcases hk with rfl | rfl | rfl | rfl
  · -- and
    have hnd : pNd (pz (m + 1)) (rd eb ec fb fc (a1 ++ w :: (b1 ++ v :: rest))) = (F.bin 3 a.f b.f, rd eb ec fb fc (v :: rest)) := by
      unfold pNd
      rw [u]
      simp only
      have hx : (pz (m + 1)).una (rd eb ec fb fc (b1 ++ v :: rest)) = (b.f, rd eb ec fb fc (v :: rest)) := v_una
      rw [loopF_go eb ec fb fc w1 (by rw [w2]; decide) (by decide), hx]
      obtain ⟨j, hj⟩ : ∃ j, (rd eb ec fb fc (w :: (b1 ++ v :: rest))).ws.length = j + 1 := ⟨_, rfl⟩
      rw [hj]
      exact loopF_stop eb ec fb fc (by rw [nv]; decide)
    unfold pFrm pImp pOrr
    simp only
    rw [hnd]
    simp only
    rw [loopF_stop eb ec fb fc (by rw [nv]; decide), rd_take_no eb ec fb fc (by rw [nv]; decide)]
    simp only [if_true]
    exact loopF_stop eb ec fb fc (by rw [nv]; decide)
  · -- or
    have hnd : pNd (pz (m + 1)) (rd eb ec fb fc (a1 ++ w :: (b1 ++ v :: rest))) = _ := ha.nd (m + 1) a1 _ h1 ew (by rw [nw]; decide) hn
    have hor : pOrr (pz (m + 1)) (rd eb ec fb fc (a1 ++ w :: (b1 ++ v :: rest))) = (F.bin 4 a.f b.f, rd eb ec fb fc (v :: rest)) := by
      unfold pOrr
      rw [hnd]
      simp only
      have hx : (pz (m + 1)).nd (rd eb ec fb fc (b1 ++ v :: rest)) = (b.f, rd eb ec fb fc (v :: rest)) := v_nd
      rw [loopF_go eb ec fb fc w1 (by rw [w2]; decide) (by decide), hx]
      obtain ⟨j, hj⟩ : ∃ j, (rd eb ec fb fc (w :: (b1 ++ v :: rest))).ws.length = j + 1 := ⟨_, rfl⟩
      rw [hj]
      exact loopF_stop eb ec fb fc (by rw [nv]; decide)
    unfold pFrm pImp
    simp only
    rw [hor]
    simp only
    rw [rd_take_no eb ec fb fc (by rw [nv]; decide)]
    simp only [if_true]
    exact loopF_stop eb ec fb fc (by rw [nv]; decide)
  · -- implies
    have hor : pOrr (pz (m + 1)) (rd eb ec fb fc (a1 ++ w :: (b1 ++ v :: rest))) = _ := ha.orr (m + 1) a1 _ h1 ew (by rw [nw]; decide) (by rw [nw]; decide) hn
    have him : pImp (pz (m + 1)) (rd eb ec fb fc (a1 ++ w :: (b1 ++ v :: rest))) = (F.bin 5 a.f b.f, rd eb ec fb fc (v :: rest)) := by
      unfold pImp
      simp only
      rw [hor]
      simp only
      have hx : (pz (m + 1)).imp (rd eb ec fb fc (b1 ++ v :: rest)) = (b.f, rd eb ec fb fc (v :: rest)) := v_imp
      have w2' : w.text = [45, 62] := by rw [w2]; decide
      rw [rd_take_yes eb ec fb fc w1 (by rw [w2']; decide)]
      simp only
      rw [if_neg (by rw [w2']; decide), hx]
    unfold pFrm
    rw [him]
    exact loopF_stop eb ec fb fc (by rw [nv]; decide)
  · -- iff
    have him : pImp (pz (m + 1)) (rd eb ec fb fc (a1 ++ w :: (b1 ++ v :: rest))) = _ := ha.imp (m + 1) a1 _ h1 ew (by rw [nw]; decide) (by rw [nw]; decide) (by rw [nw]; decide) hn
    unfold pFrm
    rw [him]
    simp only
    have hx : (pz (m + 1)).imp (rd eb ec fb fc (b1 ++ v :: rest)) = (b.f, rd eb ec fb fc (v :: rest)) := v_imp
    rw [loopF_go eb ec fb fc w1 (by rw [w2]; decide) (by decide), hx]
    obtain ⟨j, hj⟩ : ∃ j, (rd eb ec fb fc (w :: (b1 ++ v :: rest))).ws.length = j + 1 := ⟨_, rfl⟩
    rw [hj]
    exact loopF_stop eb ec fb fc (by rw [nv]; decide)
theorem RF.law (a : RF) : a.Good → FLaw eb ec fb fc a := by
  induction a with
  | con k =>
    intro h
    refine ⟨fun n aa rest ht he hn => ?_⟩
    obtain ⟨w, l, rfl, k1, k2, k3, hl⟩ := toks_cons (ts := []) ht
    obtain rfl : l = [] := by simpa using hl
    rcases h with rfl | rfl
    · replace k2 : w.text = [116, 114, 117, 101] := k2
      show pUna (pz n) (rd eb ec fb fc (w :: rest)) = _
      unfold pUna
      rw [rd_take_yes eb ec fb fc k1 (by rw [k2]; decide), k2]
      simp only
      rw [if_neg (by decide), if_neg (by decide), if_neg (by decide), if_neg (by decide), if_pos (by first | trivial | rfl | decide)]
      rfl
    · replace k2 : w.text = [102, 97, 108, 115, 101] := k2
      show pUna (pz n) (rd eb ec fb fc (w :: rest)) = _
      unfold pUna
      rw [rd_take_yes eb ec fb fc k1 (by rw [k2]; decide), k2]
      simp only
      rw [if_neg (by decide), if_neg (by decide), if_neg (by decide), if_neg (by decide), if_neg (by decide), if_pos (by first | trivial | rfl | decide)]
      rfl
  | nt x ih =>
    intro h
    have hx := ih h
    refine ⟨fun n aa rest ht he hn => ?_⟩
    obtain ⟨w, l, rfl, k1, k2, k3, hl⟩ := toks_cons ht
    obtain ⟨m, rfl⟩ : ∃ m, n = m + 1 := ⟨n - 1, by simp at hn; omega⟩
    replace k2 : w.text = [110, 111, 116] := k2
    have hu : (pz (m + 1)).una (rd eb ec fb fc (l ++ rest)) = _ := hx.una m l rest hl he (by simp at hn ⊢; omega)
    show pUna (pz (m + 1)) (rd eb ec fb fc (w :: (l ++ rest))) = _
    unfold pUna
    rw [rd_take_yes eb ec fb fc k1 (by rw [k2]; decide), k2]
    simp only
    rw [if_pos (by first | trivial | rfl | decide), hu]
    rfl
  | bin k x y ihx ihy =>
    intro h
    have hx := ihx h.2.1
    have hy := ihy h.2.2
    refine ⟨fun n aa rest ht he hn => ?_⟩
    simp only [RF.toks, List.append_assoc] at ht
    obtain ⟨w, l, rfl, k1, k2, -, hl⟩ := toks_cons ht
    obtain ⟨a1, a2, rfl, h1, h2⟩ := toks_app hl
    obtain ⟨u, l2, rfl, u1, u2, -, hl2⟩ := toks_cons h2
    obtain ⟨b1, b2, rfl, h3, h4⟩ := toks_app hl2
    rw [← List.append_nil [sg [41]]] at h4
    obtain ⟨v, l3, rfl, v1, v2, -, hl3⟩ := toks_cons h4
    obtain rfl : l3 = [] := by simpa using hl3
    replace k2 : w.text = [40] := k2
    replace u2 : u.text = relS k := u2
    replace v2 : v.text = [41] := v2
    simp only [List.cons_append, List.append_assoc, List.nil_append, List.length_cons, List.length_append] at hn ⊢
    obtain ⟨m, rfl⟩ : ∃ m, n = m + 1 := ⟨n - 1, by omega⟩
    have hf : (pz (m + 1)).frm (rd eb ec fb fc (a1 ++ u :: (b1 ++ v :: rest))) = _ := hx.two hy k h.1 m u v a1 b1 rest h1 h3 u1 u2 v1 v2 (by simp; omega) (by omega)
    unfold pUna
    rw [rd_take_yes eb ec fb fc k1 (by rw [k2]; decide), k2]
    simp only
    rw [if_neg (by decide), if_neg (by decide), if_neg (by decide), if_pos (by first | trivial | rfl | decide), hf]
    simp only
    rw [rd_need eb ec fb fc (s := [41]) v1 v2 (by decide)]
    rfl
  | qu k s x ih =>
    intro h
    have hx := ih h.2.2.2
    refine ⟨fun n aa rest ht he hn => ?_⟩
    obtain ⟨w, l, rfl, k1, k2, -, hl⟩ := toks_cons (ts := [⟨0, s, 0⟩] ++ ([sg [46]] ++ x.toks)) ht
    obtain ⟨u, l2, rfl, u1, u2, -, hl2⟩ := toks_cons hl
    obtain ⟨v, l3, rfl, v1, v2, -, hl3⟩ := toks_cons hl2
    replace v2 : v.text = [46] := v2
    replace u2 : u.text = s := u2
    simp only [List.cons_append, List.length_cons, List.length_append] at hn ⊢
    obtain ⟨m, rfl⟩ : ∃ m, n = m + 1 := ⟨n - 1, by omega⟩
    obtain ⟨m, rfl⟩ : ∃ j, m = j + 1 := ⟨m - 1, by omega⟩
    have hu := hx.una (m + 1) l3 rest hl3 he (by simp; omega)
    have nv : nxS (v :: (l3 ++ rest)) = [46] := by simp [nxS, v1, v2, sg]
    have hq : ∀ k', (pz (m + 1 + 1)).qua k' (rd eb ec fb fc (u :: v :: (l3 ++ rest))) = (F.un k' s x.f, rd eb ec fb fc rest) := by
      intro k'
      show pQua (pz (m + 1)) k' _ = _
      unfold pQua
      simp only
      rw [rd_word eb ec fb fc u1]
      simp only
      rw [rd_take_no eb ec fb fc (by rw [nv]; decide)]
      simp only
      rw [if_pos (by first | trivial | rfl | decide), rd_need eb ec fb fc (s := [46]) v1 v2 (by decide), hu, u2]
    rcases h.1 with rfl | rfl
    · replace k2 : w.text = [101, 120] := k2
      unfold pUna
      rw [rd_take_yes eb ec fb fc k1 (by rw [k2]; decide), k2]
      simp only
      rw [if_neg (by decide), if_pos (by first | trivial | rfl | decide)]
      exact hq 7
    · replace k2 : w.text = [97, 108, 108] := k2
      unfold pUna
      rw [rd_take_yes eb ec fb fc k1 (by rw [k2]; decide), k2]
      simp only
      rw [if_neg (by decide), if_neg (by decide), if_pos (by first | trivial | rfl | decide)]
      exact hq 8
  | rel k a b =>
    intro h
    obtain ⟨r1, r2, r3, r4, r5⟩ := rel_of k h.1
    refine ⟨fun n aa rest ht he hn => ?_⟩
    simp only [RF.toks, List.append_assoc] at ht
    obtain ⟨a1, a2, rfl, h1, h2⟩ := toks_app ht
    obtain ⟨u, b1, rfl, u1, u2, -, h3⟩ := toks_cons h2
    replace u2 : u.text = relS k := u2
    simp only [List.cons_append, List.append_assoc] at hn ⊢
    have nu : nxS (u :: (b1 ++ rest)) = relS k := by simp [nxS, u1, u2, sg]
    rw [atm_una eb ec fb fc (a.toks_head h.2.1 a1 _ h1)]
    unfold pAtm
    simp only
    rw [trm_all eb ec fb fc h.2.1 n a1 (u :: (b1 ++ rest)) h1 (by rw [nu]; exact r4) hn]
    simp only
    rw [rd_take_yes eb ec fb fc u1 (by rw [u2]; exact r1), u2]
    simp only
    rw [if_neg r3, trm_all eb ec fb fc h.2.2 n b1 rest h3 he (by simp at hn ⊢; omega), r2, if_neg r5]
    rfl
  | cong a b md =>
    intro h
    refine ⟨fun n aa rest ht he hn => ?_⟩
    simp only [RF.toks, List.append_assoc] at ht
    obtain ⟨a1, a2, rfl, h1, h2⟩ := toks_app ht
    obtain ⟨u, b1, rfl, u1, u2, -, h3⟩ := toks_cons h2
    obtain ⟨b1, b2, rfl, h4, h5⟩ := toks_app h3
    obtain ⟨v, l3, rfl, v1, v2, -, h6⟩ := toks_cons (ts := [⟨1, [], md⟩]) h5
    obtain ⟨x, l4, rfl, x1, x2, x3, h7⟩ := toks_cons (ts := []) h6
    obtain rfl : l4 = [] := by simpa using h7
    replace u2 : u.text = [126] := u2
    replace v2 : v.text = [109, 111, 100] := v2
    simp only [List.cons_append, List.append_assoc, List.nil_append] at hn ⊢
    have nu : nxS (u :: (b1 ++ v :: x :: rest)) = [126] := by simp [nxS, u1, u2, sg]
    have nv : nxS (v :: x :: rest) = [109, 111, 100] := by simp [nxS, v1, v2, sg]
    rw [atm_una eb ec fb fc (a.toks_head h.1 a1 _ h1)]
    unfold pAtm
    simp only
    rw [trm_all eb ec fb fc h.1 n a1 (u :: (b1 ++ v :: x :: rest)) h1 (by rw [nu]; decide) hn]
    simp only
    rw [rd_take_yes eb ec fb fc u1 (by rw [u2]; decide), u2]
    simp only
    rw [if_pos (by decide : relOf [126] = 15), if_neg (by decide : ¬ ([126] : List UInt8) = []), trm_all eb ec fb fc h.2.1 n b1 (v :: x :: rest) h4 (by rw [nv]; decide) (by simp at hn ⊢; omega)]
    have hm : pMod (rd eb ec fb fc (v :: x :: rest)) = (md, rd eb ec fb fc rest) := by
      unfold pMod
      simp only
      rw [rd_need eb ec fb fc (s := [109, 111, 100]) v1 v2 (by decide)]
      have hno : (rd eb ec fb fc (x :: rest)).nought = false := by
        have hmd := h.2.2.1
        have x3' : x.num = md := x3
        simp [R.nought, rd, x3']
        omega
      rw [hno, if_neg (by simp), rd_word eb ec fb fc x1]
      simp only [x3]
    simp only
    rw [hm]
    rfl
end
/-- The words of a printed formula are read as the formula. -/
theorem rdForm_law (a : RF) (ha : a.Good) (eb ec : Int) (ws : List Wd) (ht : ws.map Wd.tok = a.toks) : rdForm ⟨ws, eb, ec, 0, 0, 0⟩ = (a.f, ⟨[], eb, ec, 0, 0, 0⟩) := by
  have h := (RF.law (eb := eb) (ec := ec) (fb := 0) (fc := 0) a ha).frm ws.length ws [] ht (by decide) (by decide) (by decide) (by decide) (by decide) (by simp)
  rw [List.append_nil] at h
  exact h
end Go.Proofs.L08

namespace Go.Proofs.L08
open Go Aw Go.Proofs
/-! Characters of a text put together. -/
theorem udec_drop (s : List UInt8) (q p : Nat) : udec (s.drop q) p = udec s (q + p) := by
  rw [udec_decN, udec_decN]
  have g : ∀ i, (s.drop q).getD i 0 = s.getD (q + i) 0 := fun i => by simp [List.getD_eq_getElem?_getD]
  rw [g, g, g, g, List.length_drop]
  have e : ∀ j : Nat, (p + j < s.length - q) = (q + p + j < s.length) := fun j => propext ⟨fun h => by omega, fun h => by omega⟩
  unfold decN
  simp only [e, ← Nat.add_assoc]
theorem udec_app (a b : List UInt8) (p : Nat) (hp : p < a.length) (h : (udec a p).1 ≠ 65533) : udec (a ++ b) p = udec a p := by
  rw [udec_decN] at h
  rw [udec_decN, udec_decN]
  have g : ∀ i, i < a.length → (a ++ b).getD i 0 = a.getD i 0 := fun i hi => by simp [List.getD_eq_getElem?_getD, List.getElem?_append_left hi]
  have g1 := fun h1 : p + 1 < a.length => g (p + 1) h1
  have g2 := fun h1 : p + 2 < a.length => g (p + 2) h1
  have g3 := fun h1 : p + 3 < a.length => g (p + 3) h1
  rw [g p hp]
  have hl : (a ++ b).length = a.length + b.length := List.length_append
  have b0 := (a.getD p 0).toNat_lt
  generalize (a.getD p 0).toNat = x0 at *
  generalize (a ++ b).length = lb at *
  by_cases c0 : x0 < 128
  · unfold decN; rw [if_pos c0, if_pos c0]
  unfold decN at h ⊢
  rw [if_neg c0] at h ⊢
  rw [if_neg c0]
  by_cases c1 : x0 / 32 = 6 ∧ p + 1 < a.length ∧ (a.getD (p + 1) 0).toNat / 64 = 2
  · rw [if_pos c1, g1 c1.2.1, if_pos (by omega)]
  rw [if_neg c1] at h ⊢
  by_cases c2 : x0 / 16 = 14 ∧ (p + 1 < a.length ∧ (a.getD (p + 1) 0).toNat / 64 = 2) ∧ (p + 2 < a.length ∧ (a.getD (p + 2) 0).toNat / 64 = 2)
  · rw [if_pos c2, g1 c2.2.1.1, g2 c2.2.2.1, if_neg (by omega), if_pos (by omega)]
  rw [if_neg c2] at h ⊢
  by_cases c3 : x0 / 8 = 30 ∧ (p + 1 < a.length ∧ (a.getD (p + 1) 0).toNat / 64 = 2) ∧ (p + 2 < a.length ∧ (a.getD (p + 2) 0).toNat / 64 = 2) ∧ (p + 3 < a.length ∧ (a.getD (p + 3) 0).toNat / 64 = 2)
  · rw [if_pos c3, g1 c3.2.1.1, g2 c3.2.2.1.1, g3 c3.2.2.2.1, if_neg (by omega), if_neg (by omega), if_pos (by omega)]
  · rw [if_neg c3] at h; exact absurd rfl h
/-- A run ends here. -/
def StopR (q : Int → Bool) (rest : List UInt8) : Prop := rest = [] ∨ ∃ b l, rest = b :: l ∧ b.toNat < 128 ∧ q (b.toNat : Int) = false
theorem udec_first (b : UInt8) (l : List UInt8) (h : b.toNat < 128) : udec (b :: l) 0 = (b.toNat, 1) := by
  have := (udec_spec (b :: l) 0).1 (by simpa using h)
  exact Prod.ext (by simpa using this.1) this.2
theorem udec_byte (s : List UInt8) (p : Nat) (h : (s.getD p 0).toNat < 128) : udec s p = ((s.getD p 0).toNat, 1) := by
  have := (udec_spec s p).1 h
  exact Prod.ext this.1 this.2
theorem runAt_stop {q : Int → Bool} {a rest : List UInt8} (h : StopR q rest) (f : Nat) (hf : (a ++ rest).length ≤ a.length + f) : runAt q (a ++ rest) f a.length = a.length := by
  rcases h with rfl | ⟨b, l, rfl, h1, h2⟩
  · cases f with
    | zero => simp [runAt]
    | succ f => rw [runAt, if_neg (by simp)]; simp
  · obtain ⟨f, rfl⟩ : ∃ g, f = g + 1 := ⟨f - 1, by simp at hf; omega⟩
    have hg : ((a ++ b :: l).getD a.length 0) = b := by simp [List.getD_eq_getElem?_getD]
    rw [runAt, if_pos (by simp), udec_byte _ _ (by rw [hg]; exact h1), hg]
    simp only
    rw [if_neg (by rw [h2]; simp)]
theorem run_ascii (q : Int → Bool) (a rest : List UInt8) (ha : ∀ b ∈ a, b.toNat < 128 ∧ q (b.toNat : Int) = true) (h : StopR q rest) : runOf q (a ++ rest) = a.length := by
  have key : ∀ (k p f : Nat), p + k = a.length → (a ++ rest).length ≤ p + f → runAt q (a ++ rest) f p = a.length := by
    intro k
    induction k with
    | zero => intro p f hp hf; have : p = a.length := by omega
              subst this; exact runAt_stop h f hf
    | succ k ih =>
      intro p f hp hf
      have hlt : p < a.length := by omega
      obtain ⟨f, rfl⟩ : ∃ g, f = g + 1 := ⟨f - 1, by simp at hf; omega⟩
      have hg : (a ++ rest).getD p 0 = a[p] := by simp [List.getD_eq_getElem?_getD, List.getElem?_append_left hlt, hlt]
      have hb := ha a[p] (List.getElem_mem hlt)
      rw [runAt, if_pos (by simp; omega), udec_byte _ _ (by rw [hg]; exact hb.1), hg]
      simp only
      rw [if_pos hb.2]
      exact ih (p + 1) f (by omega) (by omega)
  exact key a.length 0 _ (by omega) (by omega)
theorem runAt_name (s rest : List UInt8) (h : StopR isRest rest) (m : Nat) : ∀ (f p n g : Nat), nameAt s f p n = some m → p ≤ s.length → s.length ≤ p + f → (s ++ rest).length ≤ p + g →
    runAt isRest (s ++ rest) g p = s.length ∧ Lib.runeCountFrom ⟨s.toArray⟩ f p + n = m := by
  have hsz : (⟨s.toArray⟩ : ByteArray).size = s.length := by simp [ByteArray.size]
  intro f
  induction f with
  | zero =>
    intro p n g hn hp hf hg
    have : p = s.length := by omega
    subst this
    rw [nameAt] at hn
    cases hn
    exact ⟨runAt_stop h g hg, by rw [Lib.runeCountFrom]; omega⟩
  | succ f ih =>
    intro p n g hn hp hf hg
    by_cases hlt : p < s.length
    · rw [nameAt, if_pos hlt] at hn
      by_cases hb : (n = 0 ∧ isStart (udec s p).1 = false) ∨ isRest (udec s p).1 = false
      · rw [if_pos hb] at hn; cases hn
      · rw [if_neg hb] at hn
        have hr : isRest (udec s p).1 = true := by
          cases hr : isRest (udec s p).1 with
          | true => rfl
          | false => exact absurd (.inr hr) hb
        have hne : (udec s p).1 ≠ 65533 := by intro e; rw [e] at hr; revert hr; decide
        obtain ⟨g, rfl⟩ : ∃ j, g = j + 1 := ⟨g - 1, by simp at hg; omega⟩
        have hw := udec_wide s p
        have he := udec_end s p hlt
        obtain ⟨h1, h2⟩ := ih (p + (udec s p).2) (n + 1) g hn he (by omega) (by omega)
        refine ⟨?_, ?_⟩
        · rw [runAt, if_pos (by simp; omega), udec_app s rest p hlt hne, if_pos hr]
          exact h1
        · rw [Lib.runeCountFrom, if_pos (by rw [hsz]; exact hlt)]
          have : Utf8.decode ⟨s.toArray⟩ p = udec s p := rfl
          rw [this]; omega
    · have : p = s.length := by omega
      subst this
      rw [nameAt_end (Nat.le_refl _)] at hn
      cases hn
      refine ⟨runAt_stop h g hg, ?_⟩
      rw [Lib.runeCountFrom, if_neg (by rw [hsz]; exact hlt)]; omega
structure NameFacts (s : List UInt8) : Prop where
  ne : s ≠ []
  cnt : rcount s ≤ 16
  res : reserved s = false
  st : isStart (udec s 0).1 = true
  good : (udec s 0).1 ≠ 65533
theorem name_facts {s : List UInt8} (h : nameOk s = true) : NameFacts s ∧ ∀ rest, StopR isRest rest → runOf isRest (s ++ rest) = s.length := by
  unfold nameOk at h
  cases hn : nameAt s s.length 0 0 with
  | none => rw [hn] at h; cases h
  | some m =>
    rw [hn] at h
    simp only [Bool.and_eq_true, decide_eq_true_eq, Bool.not_eq_true'] at h
    have key := fun rest (hs : StopR isRest rest) => runAt_name s rest hs m s.length 0 0 (s ++ rest).length hn (by omega) (by omega) (by omega)
    have hc := (key [] (.inl rfl)).2
    have hne : s ≠ [] := by
      intro e; subst e
      have : Lib.runeCountFrom ⟨([] : List UInt8).toArray⟩ 0 0 = 0 := rfl
      rw [show ([] : List UInt8).length = 0 from rfl, this] at hc
      omega
    have hst : isStart (udec s 0).1 = true ∧ (udec s 0).1 ≠ 65533 := by
      have hl : 0 < s.length := by cases s with | nil => exact absurd rfl hne | cons => simp
      obtain ⟨k, hk⟩ : ∃ k, s.length = k + 1 := ⟨s.length - 1, by omega⟩
      rw [hk, nameAt, if_pos hl] at hn
      by_cases hb : ((0 : Nat) = 0 ∧ isStart (udec s 0).1 = false) ∨ isRest (udec s 0).1 = false
      · rw [if_pos hb] at hn; cases hn
      · have h1 : isStart (udec s 0).1 = true := by
          cases hr : isStart (udec s 0).1 with
          | true => rfl
          | false => exact absurd (.inl ⟨rfl, hr⟩) hb
        exact ⟨h1, by intro e; rw [e] at h1; revert h1; decide⟩
    exact ⟨⟨hne, by show Lib.runeCountFrom ⟨s.toArray⟩ (ByteArray.size ⟨s.toArray⟩) 0 ≤ 16; rw [show ByteArray.size ⟨s.toArray⟩ = s.length from by simp [ByteArray.size]]; omega, h.2, hst.1, hst.2⟩, fun rest hs => (key rest hs).1⟩
/-! Blanks. -/
theorem runAt_shift (q : Int → Bool) (s : List UInt8) (d : Nat) : ∀ (f g p : Nat), (s.length ≤ d + p + f) → s.length ≤ d + p + g → d ≤ s.length → d + runAt q (s.drop d) f p = runAt q s g (d + p) := by
  intro f
  induction f with
  | zero =>
    intro g p h1 h2 hd
    rw [runAt, List.length_drop]
    cases g with
    | zero => rw [runAt]; omega
    | succ g => rw [runAt, if_neg (by omega)]; omega
  | succ f ih =>
    intro g p h1 h2 hd
    rw [runAt, List.length_drop, udec_drop]
    by_cases hlt : d + p < s.length
    · obtain ⟨g, rfl⟩ : ∃ j, g = j + 1 := ⟨g - 1, by omega⟩
      rw [if_pos (by omega), runAt, if_pos hlt]
      by_cases hq : q (udec s (d + p)).1 = true
      · have hw := udec_wide s (d + p)
        rw [if_pos hq, if_pos hq, ih g _ (by omega) (by omega) hd, Nat.add_assoc]
      · rw [if_neg hq, if_neg hq]
    · rw [if_neg (by omega)]
      cases g with
      | zero => rw [runAt]; omega
      | succ g => rw [runAt, if_neg hlt]; omega
theorem blank_cons (v : List UInt8) : runOf isBlankR (32 :: v) = 1 + runOf isBlankR v := by
  unfold runOf
  have h1 : runAt isBlankR (32 :: v) (v.length + 1) 0 = runAt isBlankR (32 :: v) v.length 1 := by
    rw [runAt, if_pos (by simp), udec_first 32 v (by decide)]
    rw [if_pos (by decide)]
    rfl
  rw [show (32 :: v).length = v.length + 1 from rfl, h1]
  exact (runAt_shift isBlankR (32 :: v) 1 v.length v.length 0 (by simp; omega) (by simp; omega) (by simp)).symm
theorem blank_none (u : List UInt8) (h : u = [] ∨ isBlankR (udec u 0).1 = false) : runOf isBlankR u = 0 := by
  rcases h with rfl | h
  · rfl
  · cases u with
    | nil => rfl
    | cons b l =>
      unfold runOf
      rw [List.length_cons, runAt, if_pos (by simp), if_neg (by rw [h]; simp)]
end Go.Proofs.L08

namespace Go.Proofs.L08
open Go Aw Go.Proofs
/-- The words of a text that begins with no blank. -/
inductive Lx : List UInt8 → List Tok → Prop where
  | nil : Lx [] []
  | cons (u v : List UInt8) (t : Tok) (ts : List Tok) (hu : u ≠ []) (he : (wordM u).2.2 = 0) (ht : (wordM u).1.tok = t) (hv : u.drop (wordM u).2.1 = v) (h : Lx (v.drop (runOf isBlankR v)) ts) : Lx u (t :: ts)
def Lxb (v : List UInt8) (ts : List Tok) : Prop := Lx (v.drop (runOf isBlankR v)) ts
theorem Lxb.nil : Lxb [] [] := Lx.nil
theorem Lxb.sp {v : List UInt8} {ts : List Tok} (h : Lxb v ts) : Lxb (32 :: v) ts := by
  unfold Lxb
  rw [blank_cons, Nat.add_comm, List.drop_succ_cons]
  exact h
theorem Lxb.tok {w rest : List UInt8} {wd : Wd} {t : Tok} {ts : List Tok} (h : Lxb rest ts) (hw : wordM (w ++ rest) = (wd, w.length, 0)) (ht : wd.tok = t) (hne : w ≠ []) (hb : isBlankR (udec (w ++ rest) 0).1 = false) : Lxb (w ++ rest) (t :: ts) := by
  unfold Lxb
  rw [blank_none _ (.inr hb), List.drop_zero]
  exact .cons _ rest t ts (by simp [hne]) (by rw [hw]) (by rw [hw]; exact ht) (by rw [hw]; simp) h
theorem lexM_Lx (s : List UInt8) : ∀ (f a c d : Nat) (acc : List Wd) (ts : List Tok), Lx (s.drop a) ts → a ≤ s.length → s.length < a + f →
    ∃ ws, lexM s f a c d acc = .ok (acc ++ ws) ∧ ws.map Wd.tok = ts := by
  intro f
  induction f with
  | zero => intro a c d acc ts h ha hf; omega
  | succ f ih =>
    intro a c d acc ts h ha hf
    rw [lexM]
    by_cases hlt : a < s.length
    · rw [if_pos hlt]
      simp only
      generalize hu : s.drop a = u at *
      cases h with
      | nil => have := congrArg List.length hu; simp at this; omega
      | cons _ v t ts hu' he ht hv hx =>
        rw [if_neg (by rw [he]; simp)]
        have hwl := wordM_len u hu' he
        have hul : u.length = s.length - a := by rw [← hu, List.length_drop]
        have hd : s.drop (a + (wordM u).2.1) = v := by rw [← hv, ← hu, List.drop_drop]
        have hbl := runOf_le isBlankR v
        have hvl : v.length = s.length - (a + (wordM u).2.1) := by rw [← hd, List.length_drop]
        rw [hd]
        obtain ⟨ws, h1, h2⟩ := ih (a + (wordM u).2.1 + runOf isBlankR v) (c + rcount ((s.take a).drop d)) a
          (acc ++ [⟨(wordM u).1.kind, (wordM u).1.text, (wordM u).1.num, a, (c + rcount ((s.take a).drop d) : Nat)⟩]) ts (by rw [← List.drop_drop, hd]; exact hx) (by omega) (by omega)
        refine ⟨_ :: ws, by rw [h1, List.append_assoc]; rfl, ?_⟩
        rw [List.map_cons, h2]
        congr 1
    · rw [if_neg hlt]
      have : s.drop a = [] := List.drop_eq_nil_of_le (by omega)
      rw [this] at h
      cases h with
      | nil => exact ⟨[], by simp, rfl⟩
      | cons _ v t ts hu' => exact absurd rfl hu'
theorem lexW_Lx (s : List UInt8) (ts : List Tok) (hl : s.length ≤ 4096) (h : Lxb s ts) : ∃ ws, lexW s = .ok ws ∧ ws.map Wd.tok = ts := by
  unfold lexW
  rw [if_neg (by omega)]
  have := runOf_le isBlankR s
  obtain ⟨ws, h1, h2⟩ := lexM_Lx s (s.length + 1) (runOf isBlankR s) 0 0 [] ts h this (by omega)
  exact ⟨ws, by rw [h1, List.nil_append], h2⟩
/-! The words one by one. -/
abbrev Brk (rest : List UInt8) : Prop := StopR isRest rest
theorem Brk.digit {rest : List UInt8} (h : Brk rest) : StopR isDigitR rest := by
  rcases h with h | ⟨b, l, h1, h2, h3⟩
  · exact .inl h
  · refine .inr ⟨b, l, h1, h2, ?_⟩
    simp only [isRest, isDigitR, Bool.or_eq_false_iff, decide_eq_false_iff_not] at h3 ⊢
    omega
theorem not_blank {r : Int} (h : isStart r = true ∨ isDigitR r = true) : isBlankR r = false := by
  simp only [isStart, isDigitR, isBlankR, decide_eq_true_eq, decide_eq_false_iff_not] at *
  omega
theorem word_name {s rest : List UInt8} (h : nameOk s = true) (hb : Brk rest) : wordM (s ++ rest) = (⟨0, s, 0, 0, 0⟩, s.length, 0) ∧ isBlankR (udec (s ++ rest) 0).1 = false := by
  obtain ⟨f, hr⟩ := name_facts h
  have hl : 0 < s.length := by cases s with | nil => exact absurd rfl f.ne | cons => simp
  have hu := udec_app s rest 0 hl f.good
  refine ⟨?_, by rw [hu]; exact not_blank (.inl f.st)⟩
  unfold wordM
  simp only
  rw [hu, if_neg (by intro e; exact f.good e.1), if_pos f.st, hr rest hb]
  have ht : (s ++ rest).take s.length = s := by simp
  rw [ht]
  have : nameM s = (⟨0, s, 0, 0, 0⟩, 0) := by
    unfold nameM
    rw [if_neg (by rw [f.res]; simp), if_neg (by have := f.cnt; omega)]
  rw [this]
theorem word_res {w rest : List UInt8} (hw : w ∈ resWords) (hb : Brk rest) : wordM (w ++ rest) = (⟨2, w, 0, 0, 0⟩, w.length, 0) ∧ isBlankR (udec (w ++ rest) 0).1 = false := by
  have h1 : ∀ w ∈ resWords, (∀ b ∈ w, b.toNat < 128 ∧ isRest (b.toNat : Int) = true) ∧ reserved w = true ∧ w ≠ [] ∧ isStart ((w.getD 0 0).toNat : Int) = true := by decide
  obtain ⟨a1, a2, a3, a4⟩ := h1 w hw
  have hr := run_ascii isRest w rest a1 hb
  have hl : 0 < w.length := by cases w with | nil => exact absurd rfl a3 | cons => simp
  have hg : (w ++ rest).getD 0 0 = w.getD 0 0 := by simp [List.getD_eq_getElem?_getD, List.getElem?_append_left hl]
  have hm : w.getD 0 0 ∈ w := by simp [List.getD_eq_getElem?_getD, hl]
  have hu : udec (w ++ rest) 0 = ((w.getD 0 0).toNat, 1) := by
    have := udec_byte (w ++ rest) 0 (by rw [hg]; exact (a1 _ hm).1)
    rw [hg] at this; exact this
  refine ⟨?_, by rw [hu]; exact not_blank (.inl a4)⟩
  unfold wordM
  simp only
  rw [hu]
  simp only
  rw [if_neg (by have := (a1 _ hm).1; omega), if_pos a4, hr]
  have ht : (w ++ rest).take w.length = w := by simp
  rw [ht]
  have : nameM w = (⟨2, w, 0, 0, 0⟩, 0) := by unfold nameM; rw [if_pos a2]
  rw [this]
/-! Numbers. -/
theorem dec_small {u : Nat} (h : u < 10) : Lib.decDigits u = [UInt8.ofNat (48 + u)] := by rw [Lib.decDigits, dif_pos h]
theorem dec_big {u : Nat} (h : ¬ u < 10) : Lib.decDigits u = Lib.decDigits (u / 10) ++ [UInt8.ofNat (48 + u % 10)] := by rw [Lib.decDigits, dif_neg h]
theorem digit_toNat {x : Nat} (h : x < 10) : (UInt8.ofNat (48 + x)).toNat = 48 + x := by
  rw [UInt8.toNat_ofNat']; omega
theorem dec_digits : ∀ (k u : Nat), u ≤ k → ∀ b ∈ Lib.decDigits u, 48 ≤ b.toNat ∧ b.toNat ≤ 57 := by
  intro k
  induction k with
  | zero => intro u h b hb; rw [dec_small (by omega)] at hb; obtain rfl := List.mem_singleton.1 hb; rw [digit_toNat (by omega)]; omega
  | succ k ih =>
    intro u h b hb
    by_cases hu : u < 10
    · rw [dec_small hu] at hb; obtain rfl := List.mem_singleton.1 hb; rw [digit_toNat hu]; omega
    · rw [dec_big hu] at hb
      rcases List.mem_append.1 hb with hb | hb
      · exact ih (u / 10) (by omega) b hb
      · obtain rfl := List.mem_singleton.1 hb; rw [digit_toNat (by omega)]; omega
theorem numOf_app (a b : List UInt8) : ∀ n v, numOf a n = some v → numOf (a ++ b) n = numOf b v := by
  induction a with
  | nil => intro n v h; rw [numOf] at h; cases h; rfl
  | cons x a ih =>
    intro n v h
    rw [List.cons_append, numOf]
    rw [numOf] at h
    split at h
    · cases h
    · rename_i hlt
      rw [if_neg hlt]
      exact ih _ _ h
theorem numOf_dec : ∀ (k u : Nat), u ≤ k → u ≤ 9223372036854775807 → numOf (Lib.decDigits u) 0 = some u := by
  intro k
  induction k with
  | zero =>
    intro u h hu
    rw [dec_small (by omega), numOf, digit_toNat (by omega), if_neg (by omega), numOf]
    congr 1; omega
  | succ k ih =>
    intro u h hu
    by_cases hs : u < 10
    · rw [dec_small hs, numOf, digit_toNat (by omega), if_neg (by omega), numOf]
      congr 1; omega
    · rw [dec_big hs, numOf_app _ _ _ _ (ih (u / 10) (by omega) (by omega)), numOf, digit_toNat (by omega), if_neg (by omega), numOf]
      congr 1; omega
theorem dec_ne (u : Nat) : Lib.decDigits u ≠ [] := by
  by_cases h : u < 10
  · rw [dec_small h]; simp
  · rw [dec_big h]; simp
theorem word_num {n : Int} {rest : List UInt8} (h0 : 0 ≤ n) (h1 : n ≤ 9223372036854775807) (hb : Brk rest) :
    wordM (Lib.itoa n ++ rest) = (⟨1, [], n, 0, 0⟩, (Lib.itoa n).length, 0) ∧ isBlankR (udec (Lib.itoa n ++ rest) 0).1 = false ∧ Lib.itoa n ≠ [] := by
  have hi : Lib.itoa n = Lib.decDigits n.toNat := by unfold Lib.itoa; rw [if_neg (by omega)]
  rw [hi]
  have hd := dec_digits n.toNat n.toNat (Nat.le_refl _)
  have hv := numOf_dec n.toNat n.toNat (Nat.le_refl _) (by omega)
  have hne := dec_ne n.toNat
  generalize Lib.decDigits n.toNat = w at *
  have hq : ∀ b ∈ w, b.toNat < 128 ∧ isDigitR (b.toNat : Int) = true := fun b hb => by
    have := hd b hb
    exact ⟨by omega, by simp only [isDigitR, decide_eq_true_eq]; omega⟩
  have hr := run_ascii isDigitR w rest hq hb.digit
  have hl : 0 < w.length := by cases w with | nil => exact absurd rfl hne | cons => simp
  have hg : (w ++ rest).getD 0 0 = w.getD 0 0 := by simp [List.getD_eq_getElem?_getD, List.getElem?_append_left hl]
  have hm : w.getD 0 0 ∈ w := by simp [List.getD_eq_getElem?_getD, hl]
  have hu : udec (w ++ rest) 0 = ((w.getD 0 0).toNat, 1) := by
    have := udec_byte (w ++ rest) 0 (by rw [hg]; exact (hq _ hm).1)
    rw [hg] at this; exact this
  have hdm := hd _ hm
  refine ⟨?_, by rw [hu]; exact not_blank (.inr (hq _ hm).2), hne⟩
  unfold wordM
  simp only
  rw [hu]
  simp only
  rw [if_neg (by omega), if_neg, if_pos (hq _ hm).2, hr]
  · have ht : (w ++ rest).take w.length = w := by simp
    rw [ht, hv]
    simp only
    rw [Int.toNat_of_nonneg h0]
  · simp only [isStart, decide_eq_true_eq]; omega
end Go.Proofs.L08

namespace Go.Proofs.L08
open Go Aw Go.Proofs
/-- A sign that begins with an ASCII byte, by what the list of signs says. -/
theorem word_sign {b : UInt8} {l g : List UInt8} (h1 : b.toNat < 128) (h2 : isStart (b.toNat : Int) = false) (h3 : isDigitR (b.toNat : Int) = false) (h4 : plainR (b.toNat : Int) = [])
    (hf : signsL.find? (fun g => Lib.hasPrefix (b :: l) g) = some g) : wordM (b :: l) = (⟨2, g, 0, 0, 0⟩, g.length, 0) := by
  unfold wordM
  simp only
  rw [udec_first b l h1]
  simp only
  rw [if_neg (by omega), if_neg (by rw [h2]; simp), if_neg (by rw [h3]; simp), if_neg (by rw [h4]; simp), hf]
theorem sign_tok {g : List UInt8} {b : UInt8} {w l rest : List UInt8} {ts : List Tok} (hg : g = b :: w) (h1 : b.toNat < 128) (h2 : isStart (b.toNat : Int) = false) (h3 : isDigitR (b.toNat : Int) = false) (h4 : plainR (b.toNat : Int) = []) (h5 : isBlankR (b.toNat : Int) = false)
    (hf : signsL.find? (fun g' => Lib.hasPrefix (g ++ rest) g') = some g) (h : Lxb rest ts) : Lxb (g ++ rest) (sg g :: ts) := by
  subst hg
  refine h.tok (wd := ⟨2, b :: w, 0, 0, 0⟩) ?_ rfl (by simp) (by rw [List.cons_append, udec_first b _ h1]; exact h5)
  rw [List.cons_append] at hf ⊢
  exact word_sign h1 h2 h3 h4 hf
theorem pre_cons (a b : UInt8) (l m : List UInt8) : Lib.hasPrefix (a :: l) (b :: m) = (b == a && Lib.hasPrefix l m) := rfl
theorem pre_nil (l : List UInt8) : Lib.hasPrefix l [] = true := by cases l <;> rfl
theorem pre_no (b : UInt8) (m : List UInt8) : Lib.hasPrefix [] (b :: m) = false := rfl
theorem Lxb.lbr {rest : List UInt8} {ts : List Tok} (h : Lxb rest ts) : Lxb ([91] ++ rest) (sg [91] :: ts) :=
  sign_tok (l := []) rfl (by decide) (by decide) (by decide) (by decide) (by decide) (by simp [signsL, pre_cons, pre_nil]) h
theorem Lxb.rbr {rest : List UInt8} {ts : List Tok} (h : Lxb rest ts) : Lxb ([93] ++ rest) (sg [93] :: ts) :=
  sign_tok (l := []) rfl (by decide) (by decide) (by decide) (by decide) (by decide) (by simp [signsL, pre_cons, pre_nil]) h
theorem Lxb.lpar {rest : List UInt8} {ts : List Tok} (h : Lxb rest ts) : Lxb ([40] ++ rest) (sg [40] :: ts) :=
  sign_tok (l := []) rfl (by decide) (by decide) (by decide) (by decide) (by decide) (by simp [signsL, pre_cons, pre_nil]) h
theorem Lxb.rpar {rest : List UInt8} {ts : List Tok} (h : Lxb rest ts) : Lxb ([41] ++ rest) (sg [41] :: ts) :=
  sign_tok (l := []) rfl (by decide) (by decide) (by decide) (by decide) (by decide) (by simp [signsL, pre_cons, pre_nil]) h
theorem Lxb.dot {rest : List UInt8} {ts : List Tok} (h : Lxb rest ts) : Lxb ([46] ++ rest) (sg [46] :: ts) :=
  sign_tok (l := []) rfl (by decide) (by decide) (by decide) (by decide) (by decide) (by simp [signsL, pre_cons, pre_nil]) h
theorem Lxb.minus {rest : List UInt8} {ts : List Tok} (h : Lxb rest ts) (hne : rest.getD 0 0 ≠ 62) : Lxb ([45] ++ rest) (sg [45] :: ts) := by
  refine sign_tok (l := []) rfl (by decide) (by decide) (by decide) (by decide) (by decide) ?_ h
  have : Lib.hasPrefix rest [62] = false := by
    cases rest with
    | nil => rfl
    | cons b l =>
      rw [pre_cons, pre_nil]
      simp at hne ⊢
      exact fun e => hne e.symm
  simp [signsL, pre_cons, pre_nil, this]
/-- A sign between blanks. -/
theorem Lxb.between {g rest : List UInt8} {ts : List Tok} (hg : g ∈ signsL) (h : Lxb rest ts) : Lxb ([32] ++ g ++ [32] ++ rest) (sg g :: ts) := by
  have h' := h.sp
  rw [List.append_assoc, List.append_assoc]
  refine Lxb.sp ?_
  show Lxb (g ++ (32 :: rest)) (sg g :: ts)
  have key : ∀ g ∈ signsL, ∃ b w, g = b :: w ∧ b.toNat < 128 ∧ isStart (b.toNat : Int) = false ∧ isDigitR (b.toNat : Int) = false ∧ plainR (b.toNat : Int) = [] ∧ isBlankR (b.toNat : Int) = false := by
    intro g hg
    simp only [signsL, List.mem_cons, List.not_mem_nil, or_false] at hg
    rcases hg with rfl | rfl | rfl | rfl | rfl | rfl | rfl | rfl | rfl | rfl | rfl | rfl | rfl | rfl | rfl | rfl | rfl | rfl <;> exact ⟨_, _, rfl, by decide, by decide, by decide, by decide, by decide⟩
  obtain ⟨b, w, e, k1, k2, k3, k4, k5⟩ := key g hg
  refine sign_tok (l := []) e k1 k2 k3 k4 k5 ?_ h'
  clear e k1 k2 k3 k4 k5 key
  simp only [signsL, List.mem_cons, List.not_mem_nil, or_false] at hg
  rcases hg with rfl | rfl | rfl | rfl | rfl | rfl | rfl | rfl | rfl | rfl | rfl | rfl | rfl | rfl | rfl | rfl | rfl | rfl <;> simp [signsL, pre_cons, pre_nil]
theorem Lxb.word {w rest : List UInt8} {ts : List Tok} (hw : w ∈ resWords) (hb : Brk rest) (h : Lxb rest ts) : Lxb (w ++ rest) (sg w :: ts) := by
  obtain ⟨h1, h2⟩ := word_res hw hb
  exact h.tok h1 rfl (by intro e; subst e; revert hw; decide) h2
theorem brk_sp (rest : List UInt8) : Brk (32 :: rest) := .inr ⟨32, rest, rfl, by decide, by decide⟩
theorem brk_of {b : UInt8} (rest : List UInt8) (h1 : b.toNat < 128) (h2 : isRest (b.toNat : Int) = false) : Brk (b :: rest) := .inr ⟨b, rest, rfl, h1, h2⟩
/-- A term's text is no end of an arrow. -/
theorem RT.show_head (a : RT) : a.Good → ∀ rest, (a.show ++ rest).getD 0 0 ≠ 62 := by
  have app : ∀ (w rest : List UInt8), w ≠ [] → (w ++ rest).getD 0 0 = w.getD 0 0 := by
    intro w rest h
    cases w with
    | nil => exact absurd rfl h
    | cons b l => rfl
  induction a with
  | num n =>
    intro h rest
    obtain ⟨-, -, hne⟩ := word_num (rest := []) h.1 h.2 (.inl rfl)
    have hi : Lib.itoa n = Lib.decDigits n.toNat := by unfold Lib.itoa; have := h.1; rw [if_neg (by omega)]
    rw [RT.show, app _ _ hne]
    have hd := dec_digits n.toNat n.toNat (Nat.le_refl _)
    rw [hi] at hne ⊢
    have hm : (Lib.decDigits n.toNat).getD 0 0 ∈ Lib.decDigits n.toNat := by
      cases hw : Lib.decDigits n.toNat with
      | nil => exact absurd hw hne
      | cons b l => simp
    have := hd _ hm
    intro e; rw [e] at this; revert this; decide
  | name s =>
    intro h rest
    obtain ⟨f, -⟩ := name_facts h.1
    rw [RT.show, app _ _ f.ne]
    intro e
    have := udec_byte s 0 (by rw [e]; decide)
    have hs := f.st
    rw [this, e] at hs
    revert hs; decide
  | neg x ih => intro h rest; rw [RT.show]; simp
  | bin k x y ihx ihy =>
    intro h rest
    rw [RT.show, List.append_assoc, List.append_assoc]
    unfold wrapP
    generalize (if k = 5 then 1 else 0) = le
    split
    · simp
    · exact ihx h.2.1 _
theorem wrap_head {a : RT} (h : a.Good) (n : Nat) (rest : List UInt8) : (wrapP n a.binds a.show ++ rest).getD 0 0 ≠ 62 := by
  unfold wrapP
  split
  · simp
  · exact a.show_head h rest
theorem wrap_lex {a : RT} (h : ∀ rest ts, Brk rest → Lxb rest ts → Lxb (a.show ++ rest) (a.toks ++ ts)) (n : Nat) (rest : List UInt8) (ts : List Tok) (hb : Brk rest) (hx : Lxb rest ts) :
    Lxb (wrapP n a.binds a.show ++ rest) (wrapT n a.binds a.toks ++ ts) := by
  unfold wrapP wrapT
  split
  · rw [List.append_assoc, List.append_assoc, List.append_assoc, List.append_assoc]
    exact (h ([93] ++ rest) (sg [93] :: ts) (brk_of _ (by decide) (by decide)) hx.rbr).lbr
  · exact h rest ts hb hx
theorem RT.lex (a : RT) : a.Good → ∀ rest ts, Brk rest → Lxb rest ts → Lxb (a.show ++ rest) (a.toks ++ ts) := by
  induction a with
  | num n =>
    intro h rest ts hb hx
    obtain ⟨h1, h2, h3⟩ := word_num h.1 h.2 hb
    exact hx.tok h1 rfl h3 h2
  | name s =>
    intro h rest ts hb hx
    obtain ⟨h1, h2⟩ := word_name h.1 hb
    exact hx.tok h1 rfl (name_facts h.1).1.ne h2
  | neg x ih =>
    intro h rest ts hb hx
    have h1 := wrap_lex (ih h) 2 rest ts hb hx
    rw [RT.show, RT.toks, List.append_assoc, List.append_assoc]
    exact h1.minus (wrap_head (a := x) h 2 rest)
  | bin k x y ihx ihy =>
    intro h rest ts hb hx
    have h1 := wrap_lex (ihy h.2.2) (if k = 5 then 2 else 1) rest ts hb hx
    have hop : op2 k = [32] ++ opS k ++ [32] ∧ opS k ∈ signsL := by
      rcases h.1 with rfl | rfl | rfl <;> decide
    have h2 := h1.between hop.2
    rw [RT.show, RT.toks, hop.1, List.append_assoc, List.append_assoc]
    have h3 := wrap_lex (ihx h.2.1) (if k = 5 then 1 else 0) _ _ (brk_sp _) h2
    simpa [List.append_assoc] using h3
theorem RF.lex (a : RF) : a.Good → ∀ rest ts, Brk rest → Lxb rest ts → Lxb (a.show ++ rest) (a.toks ++ ts) := by
  have words : ∀ w ∈ ([[97, 110, 100], [111, 114]] : List (List UInt8)), w ∈ resWords := by decide
  induction a with
  | con k =>
    intro h rest ts hb hx
    rcases h with rfl | rfl
    · exact hx.word (by decide) hb
    · exact hx.word (by decide) hb
  | nt x ih =>
    intro h rest ts hb hx
    have h1 := (ih h rest ts hb hx).sp
    have h2 := h1.word (w := [110, 111, 116]) (by decide) (brk_sp _)
    rw [RF.show, RF.toks]
    exact h2
  | bin k x y ihx ihy =>
    intro h rest ts hb hx
    have h1 := ihy h.2.2 ([41] ++ rest) (sg [41] :: ts) (brk_of _ (by decide) (by decide)) hx.rpar
    have h2 : Lxb (sgn k ++ (y.show ++ ([41] ++ rest))) (sg (relS k) :: (y.toks ++ (sg [41] :: ts))) ∧ Brk (sgn k ++ (y.show ++ ([41] ++ rest))) := by
      rcases h.1 with rfl | rfl | rfl | rfl
      · exact ⟨(h1.sp.word (w := [97, 110, 100]) (by decide) (brk_sp _)).sp, brk_sp _⟩
      · exact ⟨(h1.sp.word (w := [111, 114]) (by decide) (brk_sp _)).sp, brk_sp _⟩
      · exact ⟨h1.between (g := [45, 62]) (by decide), brk_sp _⟩
      · exact ⟨h1.between (g := [60, 45, 62]) (by decide), brk_sp _⟩
    have h3 := (ihx h.2.1 _ _ h2.2 h2.1).lpar
    rw [RF.show, RF.toks]
    simpa [List.append_assoc] using h3
  | qu k s x ih =>
    intro h rest ts hb hx
    have h1 := (ih h.2.2.2 rest ts hb hx).sp.dot
    have hbd : Brk ([46] ++ (32 :: (x.show ++ rest))) := brk_of _ (by decide) (by decide)
    obtain ⟨w1, w2⟩ := word_name h.2.1 hbd
    have h2 := h1.tok w1 (t := ⟨0, s, 0⟩) rfl (name_facts h.2.1).1.ne w2
    rw [RF.show, RF.toks]
    rcases h.1 with rfl | rfl
    · have h3 := h2.sp.word (w := [101, 120]) (by decide) (brk_sp _)
      simpa [List.append_assoc] using h3
    · have h3 := h2.sp.word (w := [97, 108, 108]) (by decide) (brk_sp _)
      simpa [List.append_assoc] using h3
  | rel k a b =>
    intro h rest ts hb hx
    have h1 := b.lex h.2.2 rest ts hb hx
    have hop : sgn k = [32] ++ relS k ++ [32] ∧ relS k ∈ signsL := by
      rcases h.1 with rfl | rfl | rfl | rfl | rfl | rfl <;> decide
    have h3 := a.lex h.2.1 _ _ (brk_sp _) (h1.between hop.2)
    rw [RF.show, RF.toks, hop.1]
    simpa [List.append_assoc] using h3
  | cong a b m =>
    intro h rest ts hb hx
    obtain ⟨w1, w2, w3⟩ := word_num (rest := rest) (by have := h.2.2.1; omega) h.2.2.2 hb
    have h0 := (hx.tok w1 (t := ⟨1, [], m⟩) rfl w3 w2).sp.word (w := [109, 111, 100]) (by decide) (brk_sp _)
    have h1 := b.lex h.2.1 _ _ (brk_sp _) h0.sp
    have h3 := a.lex h.1 _ _ (brk_sp _) (h1.between (g := [126]) (by decide))
    rw [RF.show, RF.toks]
    simpa [List.append_assoc] using h3
/-- The text of a right formula is read as that formula. -/
theorem parse_show (a : RF) (ha : a.Good) (hl : a.show.length ≤ 4096) (hc : chk a.f = 0) : parseM a.show = (a.f, 0, 0, 0) := by
  have h1 := a.lex ha [] [] (.inl rfl) Lxb.nil
  rw [List.append_nil, List.append_nil] at h1
  obtain ⟨ws, e1, e2⟩ := lexW_Lx _ _ hl h1
  have e3 : openM a.show = ⟨ws, a.show.length, rcount a.show, 0, 0, 0⟩ := by unfold openM; rw [e1]
  unfold parseM
  simp only
  rw [e3, rdForm_law a ha _ _ ws e2]
  simp only [R.fin, if_true, hc]
end Go.Proofs.L08
