/-
  Part 2 of what the proof stands on: Sp9.
-/
import Derived.Test.YtnmbpmomilehoaaGreatDoorK1
namespace Go.Proofs.YtnmbpmomilehoaaGreatDoor

theorem spanK_app {p : UInt8 → Bool} {x : UInt8} (hx : p x = false) (l t : B) : spanK p (l ++ x :: t) = spanK p l := by
  induction l with
  | nil => simp [spanK, hx]
  | cons c r ih => rw [List.cons_append, spanK, spanK, ih]
theorem numK_app {x : UInt8} (hx : numC x = false) (l t : B) : numK (l ++ x :: t) = numK l := by
  induction l with
  | nil => simp [numK, hx]
  | cons c r ih => rw [List.cons_append, numK, numK, ih]
theorem take_app_le (l s : B) (n : Nat) (h : n ≤ l.length) : (l ++ s).take n = l.take n := List.take_append_of_le_length h
theorem drop_app_le (l s : B) (n : Nat) (h : n ≤ l.length) : (l ++ s).drop n = l.drop n ++ s := List.drop_append_of_le_length h
theorem numT_app {x : UInt8} (hx : numC x = false) (l t : B) : numT (l ++ x :: t) = numT l := by
  unfold numT
  rw [numK_app hx, take_app_le _ _ _ (numK_le l)]
def skipB (l : B) : B := l.drop (spanK spC l)
theorem skipB_cons (c : UInt8) (r : B) : skipB (c :: r) = if spC c = true then skipB r else c :: r := by
  unfold skipB
  rw [spanK]
  cases spC c <;> simp
theorem parF_app (r s : B) (hs : parF (skipB s) = false) : parF (skipB (r ++ s)) = parF (skipB r) := by
  induction r with
  | nil => rw [List.nil_append, hs]; rfl
  | cons c r ih =>
    rw [List.cons_append, skipB_cons, skipB_cons]
    split
    · exact ih
    · rfl
theorem nameT_app {x : UInt8} (hx : goC x = false) (l t : B) (hp : parF (skipB (x :: t)) = false) : nameT (l ++ x :: t) = nameT l := by
  unfold nameT
  simp only []
  have hk := spanK_le goC l
  rw [spanK_app hx, take_app_le _ _ _ hk, drop_app_le _ _ _ hk]
  have := parF_app (l.drop (spanK goC l)) (x :: t) hp
  unfold skipB at this
  rw [this]
theorem isPre_app (p l t : B) (x : UInt8) (h : ∀ c ∈ p, c ≠ x) : p.isPrefixOf (l ++ x :: t) = p.isPrefixOf l := by
  induction p generalizing l with
  | nil => rfl
  | cons c r ih =>
    cases l with
    | nil =>
      have := h c List.mem_cons_self
      simp [List.isPrefixOf, this]
    | cons d q =>
      rw [List.cons_append, List.isPrefixOf, List.isPrefixOf, ih q (fun z hz => h z (List.mem_cons_of_mem _ hz))]
theorem signs_no (k : Fin 9) : ∀ c ∈ signsB (k.1 : Int), c ≠ 32 ∧ c ≠ 44 ∧ c ≠ 34 := by
  revert k; decide
theorem failGo_app (l t : B) (x : UInt8) (fs : List Nat) (hf : ∀ f ∈ fs, f < 9) (hx : x = 32 ∨ x = 44) : failGo (l ++ x :: t) fs = failGo l fs := by
  induction fs with
  | nil => rfl
  | cons f r ih =>
    rw [failGo, failGo, ih (fun z hz => hf z (List.mem_cons_of_mem _ hz)), isPre_app _ _ _ _ (fun c hc => by
      have := signs_no ⟨f, hf f List.mem_cons_self⟩ c hc
      rcases hx with rfl | rfl
      · exact this.1
      · exact this.2.1)]
theorem failT_app (l t : B) (x : UInt8) (hx : x = 32 ∨ x = 44) : failT (l ++ x :: t) = failT l := failGo_app l t x _ (by decide) hx
theorem opN_app (c : UInt8) (r t : B) (x : UInt8) (hx : x = 32 ∨ x = 44) : opN (c :: r ++ x :: t) = opN (c :: r) := by
  cases r with
  | nil => rcases hx with rfl | rfl <;> simp [opN]
  | cons d q => rfl
theorem opN_le1 (c : UInt8) (r : B) : opN (c :: r) ≤ (c :: r).length := by
  cases r with
  | nil => simp [opN]
  | cons d q => simp only [opN]; split <;> simp
theorem textGo_no (s : B) (h : ∀ c ∈ s, c ≠ 34) : textGo s = none := by
  induction s with
  | nil => rfl
  | cons c r ih =>
    have hc := h c List.mem_cons_self
    have hr := ih (fun z hz => h z (List.mem_cons_of_mem _ hz))
    cases r with
    | nil => rw [textGo, if_neg hc]
    | cons d q => rw [textGo, if_neg hc, hr]; rfl
theorem textGo_some (n : Nat) : ∀ (q b r : B) (x : UInt8) (t : B), q.length ≤ n → x ≠ 34 → textGo q = some (b, r) → textGo (q ++ x :: t) = some (b, r ++ x :: t) := by
  induction n with
  | zero =>
    intro q b r x t hq hx h
    cases q with
    | nil => simp [textGo] at h
    | cons c q => simp at hq
  | succ n ih =>
    intro q b r x t hq hx h
    match q with
    | [] => simp [textGo] at h
    | [c] =>
      simp only [textGo] at h
      by_cases hc : c = 34
      · rw [if_pos hc] at h
        simp only [Option.some.injEq, Prod.mk.injEq] at h
        obtain ⟨rfl, rfl⟩ := h
        show textGo (c :: x :: t) = _
        rw [textGo, if_pos hc, if_neg hx]; rfl
      · rw [if_neg hc] at h; cases h
    | c :: d :: s =>
      simp only [List.length_cons] at hq
      show textGo (c :: d :: (s ++ x :: t)) = _
      rw [textGo] at h ⊢
      by_cases hc : c = 34
      · rw [if_pos hc] at h ⊢
        by_cases hd : d = 34
        · rw [if_pos hd] at h ⊢
          cases ht : textGo s with
          | none => rw [ht] at h; cases h
          | some p =>
            rw [ht] at h
            simp only [Option.map_some, Option.some.injEq, Prod.mk.injEq] at h
            obtain ⟨rfl, rfl⟩ := h
            rw [ih s p.1 p.2 x t (by omega) hx ht]; rfl
        · rw [if_neg hd] at h ⊢
          simp only [Option.some.injEq, Prod.mk.injEq] at h
          obtain ⟨rfl, rfl⟩ := h
          rfl
      · rw [if_neg hc] at h ⊢
        cases ht : textGo (d :: s) with
        | none => rw [ht] at h; cases h
        | some p =>
          rw [ht] at h
          simp only [Option.map_some, Option.some.injEq, Prod.mk.injEq] at h
          obtain ⟨rfl, rfl⟩ := h
          have := ih (d :: s) p.1 p.2 x t (by simp; omega) hx ht
          rw [List.cons_append] at this
          rw [this]; rfl
theorem textGo_none' (n : Nat) : ∀ (q s : B), q.length ≤ n → (∀ c ∈ s, c ≠ 34) → textGo q = none → textGo (q ++ s) = none := by
  induction n with
  | zero =>
    intro q s hq hs h
    cases q with
    | nil => exact textGo_no s hs
    | cons c q => simp at hq
  | succ n ih =>
    intro q s hq hs h
    match q with
    | [] => exact textGo_no s hs
    | [c] =>
      simp only [textGo] at h
      by_cases hc : c = 34
      · rw [if_pos hc] at h; cases h
      · exact textGo_no _ (fun z hz => by
          rcases List.mem_cons.1 hz with rfl | hz
          · exact hc
          · exact hs z hz)
    | c :: d :: r =>
      simp only [List.length_cons] at hq
      show textGo (c :: d :: (r ++ s)) = _
      rw [textGo] at h ⊢
      by_cases hc : c = 34
      · rw [if_pos hc] at h ⊢
        by_cases hd : d = 34
        · rw [if_pos hd] at h ⊢
          cases ht : textGo r with
          | some p => rw [ht] at h; cases h
          | none => rw [ih r s (by omega) hs ht]; rfl
        · rw [if_neg hd] at h; cases h
      · rw [if_neg hc] at h ⊢
        cases ht : textGo (d :: r) with
        | some p => rw [ht] at h; cases h
        | none =>
          have := ih (d :: r) s (by simp; omega) hs ht
          rw [List.cons_append] at this
          rw [this]; rfl
theorem textT_app (c : UInt8) (r t : B) (x : UInt8) (hx : x ≠ 34) (h : (textT (c :: r)).2.2 = 0 ∨ ∀ d ∈ x :: t, d ≠ 34) : textT (c :: r ++ x :: t) = textT (c :: r) := by
  unfold textT at h ⊢
  rw [List.cons_append, List.drop_succ_cons, List.drop_zero]
  rw [List.drop_succ_cons, List.drop_zero] at h ⊢
  cases hg : textGo r with
  | none =>
    rw [hg] at h
    rcases h with h | h
    · simp at h
    · rw [textGo_none' _ _ _ (Nat.le_refl _) h hg]
  | some p =>
    obtain ⟨b, q⟩ := p
    rw [textGo_some _ _ _ _ x t (Nat.le_refl _) hx hg]
    simp only []
    have : (c :: (r ++ x :: t)).length - (q ++ x :: t).length = (c :: r).length - q.length := by simp only [List.length_cons, List.length_append]; omega
    rw [this]
theorem oneT_app (c : UInt8) (r t : B) (x : UInt8) (hx : x = 32 ∨ x = 44) (hp : parF (skipB (x :: t)) = false) (h : (oneT (c :: r)).2.2 = 0 ∨ ∀ d ∈ x :: t, d ≠ 34) : oneT (c :: r ++ x :: t) = oneT (c :: r) := by
  have hn : numC x = false := by rcases hx with rfl | rfl <;> decide
  have hg : goC x = false := by rcases hx with rfl | rfl <;> decide
  have hq : x ≠ 34 := by rcases hx with rfl | rfl <;> decide
  rw [List.cons_append]
  rw [oneT] at h
  rw [oneT, oneT, ← List.cons_append]
  by_cases h1 : isDig c = true
  · rw [if_pos h1, if_pos h1]; exact numT_app hn _ _
  · rw [if_neg h1] at h
    rw [if_neg h1, if_neg h1]
    by_cases h2 : c = 34
    · rw [if_pos h2] at h
      rw [if_pos h2, if_pos h2]; exact textT_app c r t x hq h
    · rw [if_neg h2, if_neg h2]
      by_cases h3 : c = 35
      · rw [if_pos h3, if_pos h3]; exact failT_app _ _ _ hx
      · rw [if_neg h3, if_neg h3]
        by_cases h4 : isLet c = true ∨ c = 95 ∨ c = 36 ∨ c = 91
        · rw [if_pos h4, if_pos h4]; exact nameT_app hg _ _ hp
        · rw [if_neg h4, if_neg h4]
          by_cases h5 : hasB opB c = true
          · rw [if_pos h5, if_pos h5, opN_app c r t x hx, take_app_le _ _ _ (opN_le1 c r)]
          · rw [if_neg h5, if_neg h5]
end Go.Proofs.YtnmbpmomilehoaaGreatDoor
