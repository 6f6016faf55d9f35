/-
  Part 11 of what the proof stands on: Sp17, W5.
-/
import Derived.Test.YtnmbpmomilehoaaGreatDoorK10
import Derived.Test.YtnmbpmomilehoaaGreatDoorK9
namespace Go.Proofs.YtnmbpmomilehoaaGreatDoor

def TokS.bare (t : TokS) : TokS := { t with at_ := 0 }
def opens : List TokS → Bool
  | [] => false
  | t :: _ => decide (t.kind = 6)
def firstB : B → UInt8
  | [] => 32
  | c :: _ => c
/-- what may stand behind a token that is shown; does it open? -/
def TailOk (tail : B) (op : Bool) : Prop := (tail = [] ∧ op = false) ∨ ∃ r, tail = 32 :: r ∧ parF (skipB r) = op
structure TokOk (t : TokS) (op : Bool) : Prop where
  ne : showT t ≠ []
  ns : firstB (showT t) ≠ 32
  op6 : firstB (showT t) = 40 ↔ t.kind = 6
  back : ∀ tail, TailOk tail op → oneT (showT t ++ tail) = (t.bare, (showT t).length, 0)
inductive Ok : List TokS → Prop
  | nil : Ok []
  | cons {t : TokS} {r : List TokS} : TokOk t (opens r) → Ok r → Ok (t :: r)
theorem tail_skip {tail : B} {op : Bool} (h : TailOk tail op) : parF (skipB tail) = op := by
  rcases h with ⟨rfl, rfl⟩ | ⟨r, rfl, h⟩
  · rfl
  · rw [skipB_cons, if_pos (by decide)]; exact h
theorem join_first {t : TokS} {r : List TokS} (h : TokOk t (opens r)) : ∃ c s, joinT (t :: r) = c :: s ∧ c ≠ 32 ∧ (c = 40 ↔ t.kind = 6) := by
  have h1 := h.ne
  have h2 := h.ns
  have h3 := h.op6
  cases hs : showT t with
  | nil => exact absurd hs h1
  | cons c s =>
    rw [hs] at h2 h3
    cases r with
    | nil => exact ⟨c, s, hs, h2, h3⟩
    | cons u q => exact ⟨c, s ++ 32 :: joinT (u :: q), by rw [joinT, hs]; rfl, h2, h3⟩
theorem join_opens {ts : List TokS} (h : Ok ts) : parF (skipB (joinT ts)) = opens ts := by
  cases h with
  | nil => rfl
  | @cons t r h1 _ =>
    obtain ⟨c, s, hc, h32, h40⟩ := join_first h1
    rw [hc, skipB_cons, if_neg (by unfold spC; simpa using h32)]
    show decide (c = 40) = decide (t.kind = 6)
    simp only [h40]
theorem bare_at (t : TokS) (j : Int) : ({ t.bare with at_ := j } : TokS).bare = t.bare := rfl
/-- the tokens of what is joined -/
theorem join_back {ts : List TokS} (h : Ok ts) : ∀ j : Nat, ∃ ts', Lx j (joinT ts) ts' none ∧ ts'.map TokS.bare = ts.map TokS.bare := by
  induction h with
  | nil => exact fun j => ⟨[], .nil j, rfl⟩
  | @cons t r h1 hr ih =>
    intro j
    obtain ⟨c, s, hc, h32, _⟩ := join_first h1
    cases r with
    | nil =>
      have hb := h1.back [] (.inl ⟨rfl, rfl⟩)
      rw [List.append_nil] at hb
      have e : joinT [t] = showT t := rfl
      rw [e] at hc
      have e1 : oneT (c :: s) = (t.bare, (showT t).length, 0) := by rw [← hc]; exact hb
      have hx := Lx.tok (i := j) (c := c) (r := s) (ts := []) (o := none) h32 (by rw [e1]) (by rw [e1]; simp only []; rw [← hc, List.drop_length]; exact .nil _)
      rw [e1] at hx
      refine ⟨[{ t.bare with at_ := (j : Int) }], ?_, rfl⟩
      rw [e, hc]; exact hx
    | cons u q =>
      have hjo := join_opens hr
      have hb := h1.back (32 :: joinT (u :: q)) (.inr ⟨_, rfl, hjo⟩)
      have e : joinT (t :: u :: q) = showT t ++ 32 :: joinT (u :: q) := rfl
      rw [e] at hc
      have e1 : oneT (c :: s) = (t.bare, (showT t).length, 0) := by rw [← hc]; exact hb
      obtain ⟨ts', g1, g2⟩ := ih (j + (showT t).length + 1)
      have hx := Lx.tok (i := j) (c := c) (r := s) (ts := ts') (o := none) h32 (by rw [e1]) (by rw [e1]; simp only []; rw [← hc, List.drop_left]; exact .sp g1)
      rw [e1] at hx
      refine ⟨{ t.bare with at_ := (j : Int) } :: ts', ?_, ?_⟩
      · rw [e, hc]; exact hx
      · rw [List.map_cons, g2]; rfl
theorem oneT_cons (b : UInt8) (r : B) : oneT (b :: r) = if isDig b = true then numT (b :: r)
    else if b = 34 then textT (b :: r)
    else if b = 35 then failT (b :: r)
    else if isLet b = true ∨ b = 95 ∨ b = 36 ∨ b = 91 then nameT (b :: r)
    else if hasB opB b = true then ({ TokS.zero with kind := 5, text := (b :: r).take (opN (b :: r)) }, opN (b :: r), 0)
    else if b = 40 then ({ TokS.zero with kind := 6 }, 1, 0)
    else if b = 41 then ({ TokS.zero with kind := 7 }, 1, 0)
    else if b = 44 then ({ TokS.zero with kind := 8 }, 1, 0)
    else (TokS.zero, 0, 4) := rfl
def begN (c : UInt8) : Prop := isLet c = true ∨ c = 95 ∨ c = 36 ∨ c = 91
instance (c : UInt8) : Decidable (begN c) := by unfold begN; infer_instance
set_option maxRecDepth 100000 in
theorem begN_facts (c : UInt8) (h : begN c) : ¬ isDig c = true ∧ c ≠ 34 ∧ c ≠ 35 ∧ c ≠ 32 ∧ c ≠ 40 ∧ goC c = true := by
  have := ofNat256 (P := fun c => decide (begN c → ¬ isDig c = true ∧ c ≠ 34 ∧ c ≠ 35 ∧ c ≠ 32 ∧ c ≠ 40 ∧ goC c = true)) (by decide) c
  exact of_decide_eq_true this h
theorem oneT_name {c : UInt8} (h : begN c) (r : B) : oneT (c :: r) = nameT (c :: r) := by
  obtain ⟨h1, h2, h3, _⟩ := begN_facts c h
  rw [oneT_cons, if_neg h1, if_neg h2, if_neg h3, if_pos (show isLet c = true ∨ c = 95 ∨ c = 36 ∨ c = 91 from h)]
theorem nameT_at (s tail : B) (hs : s.all goC = true) (ht : tail = [] ∨ ∃ r, tail = 32 :: r) : nameT (s ++ tail) =
    (if nameB s = true ∧ parF (skipB tail) = true then ({ TokS.zero with kind := 4, text := upB s }, s.length, 0)
     else if (full4 s).2 = 0 then ({ TokS.zero with kind := 3, ref := (full4 s).1 }, s.length, 0)
     else if (full4 s).2 ≠ 4 then (TokS.zero, 0, (full4 s).2)
     else if nameB s = true then ({ TokS.zero with kind := 4, text := upB s }, s.length, 0)
     else (TokS.zero, 0, 4)) := by
  have h0 : spanK goC tail = 0 := by
    rcases ht with rfl | ⟨r, rfl⟩
    · rfl
    · rw [spanK, if_neg (by decide)]
  have h1 : spanK goC (s ++ tail) = s.length := by rw [spanK_full hs, h0]; rfl
  unfold nameT
  simp only []
  rw [h1, List.take_left, List.drop_left]
  rfl
theorem tail_form {tail : B} {op : Bool} (h : TailOk tail op) : tail = [] ∨ ∃ r, tail = 32 :: r := by
  rcases h with ⟨rfl, _⟩ | ⟨r, rfl, _⟩
  · exact .inl rfl
  · exact .inr ⟨r, rfl⟩
/-- a word, shown -/
theorem word_ok {t : B} {op : Bool} (hn : nameB t = true) (h : op = true ∨ (full4 t).2 = 4) : TokOk { TokS.zero with kind := 4, text := upB t } op := by
  have hnu : nameB (upB t) = true := by rw [nameB_up]; exact hn
  obtain ⟨c, r, hc, hl⟩ := name_ne hnu
  have hb : begN c := by rcases hl with h | h; exact .inl h; exact .inr (.inl h)
  obtain ⟨_, _, _, f1, f2, _⟩ := begN_facts c hb
  have hs : showT { TokS.zero with kind := 4, text := upB t } = upB t := rfl
  refine ⟨by rw [hs, hc]; simp, by rw [hs, hc]; exact f1, by rw [hs, hc]; exact ⟨fun e => absurd e f2, fun e => by simp at e⟩, fun tail ht => ?_⟩
  rw [hs]
  have e : upB t ++ tail = c :: (r ++ tail) := by rw [hc]; rfl
  rw [e, oneT_name hb, ← e, nameT_at _ _ (name_go hnu) (tail_form ht), up_idem, tail_skip ht]
  by_cases ho : op = true
  · rw [if_pos ⟨hnu, ho⟩]; rfl
  · have h4 : (full4 (upB t)).2 = 4 := full4_up4 hn (by rcases h with h | h; exact absurd h ho; exact h)
    rw [if_neg (fun e => ho e.2), if_neg (by rw [h4]; decide), if_neg (by rw [h4]; decide), if_pos hnu]; rfl
theorem textR_first (f : FullS) (h : goodR f = true) : ∃ c r, textR f = c :: r ∧ begN c := by
  obtain ⟨hs, hb, hc⟩ := goodR_parts h
  rw [textR_eq f h]
  by_cases h1 : f.book = []
  · rw [h1, if_pos (by rfl), List.nil_append]
    by_cases h2 : f.sheet = []
    · rw [h2, if_pos (by rfl), List.nil_append]
      unfold tailT
      rw [refText_eq _ (cellsGood_a hc)]
      cases f.a.fc with
      | true => exact ⟨36, _, rfl, .inr (.inr (.inl rfl))⟩
      | false =>
        obtain ⟨⟨c0, c1⟩, _⟩ := cellR_bd (cellsGood_a hc)
        obtain ⟨⟨l1, _⟩, la, _⟩ := cols_facts f.a.col c0 c1
        cases hx : colsR f.a.col with
        | nil => rw [hx] at l1; simp at l1
        | cons c t =>
          rw [hx, List.all_cons, Bool.and_eq_true] at la
          exact ⟨c, _, rfl, .inl la.1⟩
    · have hn : nameB f.sheet = true := by rcases hs with h | h; exact absurd h h2; exact h
      have he2 : ¬ f.sheet.isEmpty = true := by simpa using h2
      obtain ⟨c, t, hx, hl⟩ := name_ne hn
      rw [if_neg he2, hx]
      exact ⟨c, _, rfl, by rcases hl with h | h; exact .inl h; exact .inr (.inl h)⟩
  · have he2 : ¬ f.book.isEmpty = true := by simpa using h1
    rw [if_neg he2]
    exact ⟨91, _, rfl, .inr (.inr (.inr rfl))⟩
theorem textR_go (f : FullS) (h : goodR f = true) : (textR f).all goC = true := by
  obtain ⟨hs, hb, hc⟩ := goodR_parts h
  rw [textR_eq f h, List.all_append, List.all_append]
  have h1 : (tailT f).all goC = true := by rw [List.all_eq_true]; exact fun c hc => (tail_no f c hc).2.2.2
  rw [h1, Bool.and_true, Bool.and_eq_true]
  constructor
  · split
    · rfl
    · rename_i he
      have hn : nameB f.book = true := by rcases hb with h | h; exact absurd (by rw [h]; rfl) he; exact h.1
      rw [List.all_append, List.all_append, name_go hn]; decide
  · split
    · rfl
    · rename_i he
      have hn : nameB f.sheet = true := by rcases hs with h | h; exact absurd (by rw [h]; rfl) he; exact h
      rw [List.all_append, name_go hn]; decide
/-- a reference, shown -/
theorem ref_ok {t : B} {f : FullS} {op : Bool} (hf : full4 t = (f, 0)) (h : ¬ (nameB t = true ∧ op = true)) : TokOk { TokS.zero with kind := 3, ref := f } op := by
  have hg := (full4_some hf).1
  obtain ⟨c, r, hc, hb⟩ := textR_first f hg
  obtain ⟨_, _, _, f1, f2, _⟩ := begN_facts c hb
  have hs : showT { TokS.zero with kind := 3, ref := f } = textR f := rfl
  refine ⟨by rw [hs, hc]; simp, by rw [hs, hc]; exact f1, by rw [hs, hc]; exact ⟨fun e => absurd e f2, fun e => by simp at e⟩, fun tail ht => ?_⟩
  rw [hs]
  have e : textR f ++ tail = c :: (r ++ tail) := by rw [hc]; rfl
  rw [e, oneT_name hb, ← e, nameT_at _ _ (textR_go f hg) (tail_form ht), tail_skip ht, full_back f hg]
  rw [if_neg (fun e => h ⟨text_name hf e.1, e.2⟩), if_pos rfl]; rfl
/-- a number, shown -/
theorem num_ok {v : Int} {op : Bool} (h0 : 0 ≤ v) (h1 : v ≤ 9000000000000000000) : TokOk { TokS.zero with num := v } op := by
  obtain ⟨hp, ha, c, r, hc, hd⟩ := num_back v h0 h1
  have hs : showT { TokS.zero with num := v } = text01 v := rfl
  have hb := isDig_bd hd
  refine ⟨by rw [hs, hc]; simp, ?_, ?_, fun tail ht => ?_⟩
  · rw [hs, hc]; intro e; have e' : c = 32 := e; rw [e'] at hb; simp at hb
  · rw [hs, hc]
    refine ⟨fun e => ?_, fun e => by simp [TokS.zero] at e⟩
    have e' : c = 40 := e
    rw [e'] at hb; simp at hb
  · rw [hs]
    have e : text01 v ++ tail = c :: (r ++ tail) := by rw [hc]; rfl
    rw [e, oneT_cons, if_pos hd, ← e]
    have hk : numK (text01 v ++ tail) = (text01 v).length := by
      rcases tail_form ht with rfl | ⟨q, rfl⟩
      · rw [List.append_nil]; exact numK_all _ ha
      · rw [numK_app (by decide)]; exact numK_all _ ha
    unfold numT
    rw [hk, List.take_left, hp]; rfl
/-- a text, shown -/
theorem str_ok {b : B} {op : Bool} (hl : ¬ 255 < b.length) : TokOk { TokS.zero with kind := 1, text := b } op := by
  have hs : showT { TokS.zero with kind := 1, text := b } = 34 :: (quoteB b ++ [34]) := rfl
  refine ⟨by rw [hs]; simp, by rw [hs]; show (34 : UInt8) ≠ 32; decide, by rw [hs]; exact ⟨fun e => absurd (show (34 : UInt8) = 40 from e) (by decide), fun e => by simp at e⟩, fun tail ht => ?_⟩
  rw [hs, List.cons_append, oneT_cons, if_neg (by decide), if_pos rfl]
  have hg : textGo (quoteB b ++ [34] ++ tail) = some (b, tail) := by
    rcases tail_form ht with rfl | ⟨q, rfl⟩
    · rw [List.append_nil]; exact quote_back b
    · have := textGo_some _ _ _ _ 32 q (Nat.le_refl _) (by decide) (quote_back b)
      simpa using this
  unfold textT
  rw [List.drop_succ_cons, List.drop_zero, hg]
  simp only []
  rw [if_neg hl]
  have : (34 :: (quoteB b ++ [34] ++ tail)).length - tail.length = (34 :: (quoteB b ++ [34])).length := by
    simp only [List.length_cons, List.length_append, List.length_nil]; omega
  rw [this]; rfl
theorem fail_self (k : Fin 9) : k.1 ≠ 0 → failT (signsB (k.1 : Int)) = ({ TokS.zero with kind := 2, fail := (k.1 : Int) }, (signsB (k.1 : Int)).length, 0) ∧ ∃ r, signsB (k.1 : Int) = 35 :: r := by
  intro h
  obtain ⟨k, hk⟩ := k
  rcases (show k = 0 ∨ k = 1 ∨ k = 2 ∨ k = 3 ∨ k = 4 ∨ k = 5 ∨ k = 6 ∨ k = 7 ∨ k = 8 by omega) with rfl | rfl | rfl | rfl | rfl | rfl | rfl | rfl | rfl
  · exact absurd rfl h
  all_goals exact ⟨rfl, _, rfl⟩
/-- an error in signs, shown -/
theorem sign_ok {k : Nat} {op : Bool} (h1 : 1 ≤ k) (h2 : k < 9) : TokOk { TokS.zero with kind := 2, fail := (k : Int) } op := by
  obtain ⟨hf, r, hr⟩ := fail_self ⟨k, h2⟩ (by simp; omega)
  have hs : showT { TokS.zero with kind := 2, fail := (k : Int) } = signsB (k : Int) := rfl
  simp only [] at hf hr
  refine ⟨by rw [hs, hr]; simp, by rw [hs, hr]; show (35 : UInt8) ≠ 32; decide, by rw [hs, hr]; exact ⟨fun e => absurd (show (35 : UInt8) = 40 from e) (by decide), fun e => by simp at e⟩, fun tail ht => ?_⟩
  rw [hs]
  have e : signsB (k : Int) ++ tail = 35 :: (r ++ tail) := by rw [hr]; rfl
  rw [e, oneT_cons, if_neg (by decide), if_neg (by decide), if_pos rfl, ← e]
  have : failT (signsB (k : Int) ++ tail) = failT (signsB (k : Int)) := by
    rcases tail_form ht with rfl | ⟨q, rfl⟩
    · rw [List.append_nil]
    · exact failT_app _ _ _ (.inl rfl)
  rw [this, hf]; rfl
set_option maxRecDepth 100000 in
theorem op_facts (c : UInt8) (h : hasB opB c = true) : ¬ isDig c = true ∧ c ≠ 34 ∧ c ≠ 35 ∧ ¬ (isLet c = true ∨ c = 95 ∨ c = 36 ∨ c = 91) ∧ c ≠ 32 ∧ c ≠ 40 := by
  have := ofNat256 (P := fun c => decide (hasB opB c = true → ¬ isDig c = true ∧ c ≠ 34 ∧ c ≠ 35 ∧ ¬ (isLet c = true ∨ c = 95 ∨ c = 36 ∨ c = 91) ∧ c ≠ 32 ∧ c ≠ 40)) (by decide) c
  exact of_decide_eq_true this h
/-- an operator, shown -/
theorem op_ok {c : UInt8} {r : B} {op : Bool} (h : hasB opB c = true) : TokOk { TokS.zero with kind := 5, text := (c :: r).take (opN (c :: r)) } op := by
  obtain ⟨g1, g2, g3, g4, g5, g6⟩ := op_facts c h
  obtain ⟨w, hw, hwo⟩ : ∃ w, (c :: r).take (opN (c :: r)) = c :: w ∧ (∀ tail, (tail = [] ∨ ∃ q, tail = 32 :: q) → opN (c :: (w ++ tail)) = (c :: w).length) := by
    cases r with
    | nil =>
      refine ⟨[], rfl, fun tail ht => ?_⟩
      rcases ht with rfl | ⟨q, rfl⟩
      · rfl
      · show opN (c :: 32 :: q) = 1
        simp [opN]
    | cons d q =>
      by_cases hc : d = 61 ∧ (c = 60 ∨ c = 62) ∨ c = 60 ∧ d = 62
      · refine ⟨[d], by rw [opN, if_pos hc]; rfl, fun tail _ => ?_⟩
        show opN (c :: d :: tail) = 2
        rw [opN, if_pos hc]
      · refine ⟨[], by rw [opN, if_neg hc]; rfl, fun tail ht => ?_⟩
        rcases ht with rfl | ⟨q, rfl⟩
        · rfl
        · show opN (c :: 32 :: q) = 1
          simp [opN]
  rw [hw]
  have hs : showT { TokS.zero with kind := 5, text := c :: w } = c :: w := rfl
  refine ⟨by rw [hs]; simp, by rw [hs]; exact g5, by rw [hs]; exact ⟨fun e => absurd e g6, fun e => by simp at e⟩, fun tail ht => ?_⟩
  rw [hs, List.cons_append, oneT_cons, if_neg g1, if_neg g2, if_neg g3, if_neg g4, if_pos h, hwo tail (tail_form ht)]
  have : (c :: (w ++ tail)).take (c :: w).length = c :: w := by rw [← List.cons_append, List.take_left]
  rw [this]; rfl
/-- what a token that was read shows -/
theorem one_ok {c : UInt8} {r : B} (he : (oneT (c :: r)).2.2 = 0) (op : Bool) (hop : op = parF (skipB ((c :: r).drop (oneT (c :: r)).2.1))) : TokOk (oneT (c :: r)).1 op := by
  rw [oneT_cons] at he hop ⊢
  by_cases h1 : isDig c = true
  · rw [if_pos h1] at he ⊢
    have hk : numK (c :: r) = numK r + 1 := by rw [numK, if_pos (num_dig h1)]
    have hd : dashF ((c :: r).take (numK (c :: r))) = false := by
      have := isDig_bd h1
      rw [hk, List.take_succ_cons]
      simp [dashF]; omega
    obtain ⟨h0, h9⟩ := parse_range _ he hd
    exact num_ok h0 h9
  · rw [if_neg h1] at he hop ⊢
    by_cases h2 : c = 34
    · rw [if_pos h2] at he ⊢
      unfold textT at he ⊢
      cases hg : textGo ((c :: r).drop 1) with
      | none => rw [hg] at he; simp at he
      | some p =>
        rw [hg] at he
        simp only [] at he ⊢
        split at he
        · simp at he
        · rename_i hl
          rw [if_neg hl]; exact str_ok hl
    · rw [if_neg h2] at he hop ⊢
      by_cases h3 : c = 35
      · rw [if_pos h3] at he ⊢
        have key : ∀ fs : List Nat, (∀ f ∈ fs, 1 ≤ f ∧ f < 9) → (failGo (c :: r) fs).2.2 = 0 → ∃ f ∈ fs, (failGo (c :: r) fs).1 = { TokS.zero with kind := 2, fail := (f : Int) } := by
          intro fs
          induction fs with
          | nil => intro _ h; simp [failGo] at h
          | cons f q ih =>
            intro hf h
            rw [failGo] at h ⊢
            split at h
            · rename_i hp
              rw [if_pos hp]; exact ⟨f, List.mem_cons_self, rfl⟩
            · rename_i hp
              rw [if_neg hp]
              obtain ⟨g, hg, e⟩ := ih (fun z hz => hf z (List.mem_cons_of_mem _ hz)) h
              exact ⟨g, List.mem_cons_of_mem _ hg, e⟩
        have hall : ∀ f ∈ [1, 2, 3, 4, 5, 6, 7, 8], 1 ≤ f ∧ f < 9 := by decide
        obtain ⟨f, hf, e⟩ := key _ hall he
        show TokOk (failGo (c :: r) [1, 2, 3, 4, 5, 6, 7, 8]).1 op
        rw [e]
        exact sign_ok (hall f hf).1 (hall f hf).2
      · rw [if_neg h3] at he hop ⊢
        by_cases h4 : isLet c = true ∨ c = 95 ∨ c = 36 ∨ c = 91
        · rw [if_pos h4] at he hop ⊢
          obtain ⟨n, hn⟩ : ∃ n, n = spanK goC (c :: r) := ⟨_, rfl⟩
          obtain ⟨t, ht⟩ : ∃ t, t = (c :: r).take n := ⟨_, rfl⟩
          have hN : nameT (c :: r) = (if nameB t = true ∧ parF (skipB ((c :: r).drop n)) = true then ({ TokS.zero with kind := 4, text := upB t }, n, 0)
             else if (full4 t).2 = 0 then ({ TokS.zero with kind := 3, ref := (full4 t).1 }, n, 0)
             else if (full4 t).2 ≠ 4 then (TokS.zero, 0, (full4 t).2)
             else if nameB t = true then ({ TokS.zero with kind := 4, text := upB t }, n, 0)
             else (TokS.zero, 0, 4)) := by rw [ht, hn]; rfl
          rw [hN] at he hop ⊢
          by_cases c1 : nameB t = true ∧ parF (skipB ((c :: r).drop n)) = true
          · rw [if_pos c1] at hop ⊢
            exact word_ok c1.1 (.inl (by rw [hop]; exact c1.2))
          · rw [if_neg c1] at he hop ⊢
            by_cases c2 : (full4 t).2 = 0
            · rw [if_pos c2] at hop ⊢
              exact ref_ok (t := t) (Prod.ext rfl c2) (by rw [hop]; exact c1)
            · rw [if_neg c2] at he hop ⊢
              by_cases c3 : (full4 t).2 ≠ 4
              · rw [if_pos c3] at he; exact absurd he c2
              · rw [if_neg c3] at he hop ⊢
                by_cases c4 : nameB t = true
                · rw [if_pos c4]
                  exact word_ok c4 (.inr (by simpa using c3))
                · rw [if_neg c4] at he; simp at he
        · rw [if_neg h4] at he hop ⊢
          by_cases h5 : hasB opB c = true
          · rw [if_pos h5]; exact op_ok h5
          · rw [if_neg h5] at he hop ⊢
            have one : ∀ (k : Int) (b : UInt8), showT { TokS.zero with kind := k } = [b] → b ≠ 32 → (b = 40 ↔ k = 6) → (∀ tail, oneT (b :: tail) = ({ TokS.zero with kind := k }, 1, 0)) → TokOk { TokS.zero with kind := k } op := by
              intro k b hs h32 h40 ho
              refine ⟨by rw [hs]; simp, by rw [hs]; exact h32, by rw [hs]; exact h40, fun tail _ => ?_⟩
              rw [hs]
              exact ho tail
            by_cases h6 : c = 40
            · rw [if_pos h6]
              exact one 6 40 rfl (by decide) (by simp) (fun tail => by rw [oneT_cons]; rfl)
            · rw [if_neg h6] at he ⊢
              by_cases h7 : c = 41
              · rw [if_pos h7]
                exact one 7 41 rfl (by decide) (by decide) (fun tail => by rw [oneT_cons]; rfl)
              · rw [if_neg h7] at he ⊢
                by_cases h8 : c = 44
                · rw [if_pos h8]
                  exact one 8 44 rfl (by decide) (by decide) (fun tail => by rw [oneT_cons]; rfl)
                · rw [if_neg h8] at he; simp at he
theorem kind6 {c : UInt8} {r : B} (he : (oneT (c :: r)).2.2 = 0) : (oneT (c :: r)).1.kind = 6 ↔ c = 40 := by
  have hk := one_ok he _ rfl
  by_cases h40 : c = 40
  · subst h40
    exact ⟨fun _ => rfl, fun _ => rfl⟩
  · refine ⟨fun h => ?_, fun h => absurd h h40⟩
    exfalso
    rw [oneT_cons] at he h
    by_cases h1 : isDig c = true
    · rw [if_pos h1] at h; simp [numT, TokS.zero] at h
    · rw [if_neg h1] at he h
      by_cases h2 : c = 34
      · rw [if_pos h2] at h
        unfold textT at h
        split at h
        · simp [TokS.zero] at h
        · split at h <;> simp [TokS.zero] at h
      · rw [if_neg h2] at he h
        by_cases h3 : c = 35
        · rw [if_pos h3] at h
          have key : ∀ fs : List Nat, (failGo (c :: r) fs).1.kind ≠ 6 := by
            intro fs
            induction fs with
            | nil => simp [failGo, TokS.zero]
            | cons f q ih => rw [failGo]; split; simp; exact ih
          exact key _ h
        · rw [if_neg h3] at he h
          by_cases h4 : isLet c = true ∨ c = 95 ∨ c = 36 ∨ c = 91
          · rw [if_pos h4] at h
            unfold nameT at h
            simp only [] at h
            split at h
            · simp at h
            · split at h
              · simp at h
              · split at h
                · simp [TokS.zero] at h
                · split at h <;> simp [TokS.zero] at h
          · rw [if_neg h4] at he h
            by_cases h5 : hasB opB c = true
            · rw [if_pos h5] at h; simp at h
            · rw [if_neg h5, if_neg h40] at he h
              by_cases h7 : c = 41
              · rw [if_pos h7] at h; simp at h
              · rw [if_neg h7] at he h
                by_cases h8 : c = 44
                · rw [if_pos h8] at h; simp at h
                · rw [if_neg h8] at he; simp at he
theorem lx_opens {i : Nat} {l : B} {ts : List TokS} {o : Option (Nat × Int)} (h : Lx i l ts o) (ho : o = none) : opens ts = parF (skipB l) := by
  induction h with
  | nil i => rfl
  | @sp i r ts o _ ih => rw [ih ho, skipB_cons, if_pos (by decide)]
  | @tok i c r ts o hc he _ _ =>
    rw [skipB_cons, if_neg (by unfold spC; simpa using hc)]
    show decide ((oneT (c :: r)).1.kind = 6) = decide (c = 40)
    simp only [kind6 he]
  | err hc he => cases ho
theorem lx_ok {i : Nat} {l : B} {ts : List TokS} {o : Option (Nat × Int)} (h : Lx i l ts o) (ho : o = none) : Ok ts := by
  induction h with
  | nil i => exact .nil
  | sp _ ih => exact ih ho
  | @tok i c r ts o hc he hx ih =>
    refine .cons ?_ (ih ho)
    have h1 := one_ok he (opens ts) (lx_opens hx ho)
    exact ⟨h1.ne, h1.ns, h1.op6, h1.back⟩
  | err hc he => cases ho
/-- what the law LexBack asks -/
theorem lexR_back (l : B) (hl : l.length ≤ 512) (h : (lexR l).2.2 = 0) (hj : (joinT (lexR l).1).length ≤ 512) :
    ∃ ts', lexR (joinT (lexR l).1) = (ts', 0, 0) ∧ ts'.map TokS.bare = (lexR l).1.map TokS.bare := by
  obtain ⟨ts, o, hx, he⟩ := Lx_total _ l 0 (Nat.le_refl _)
  have e := hx.lexR hl
  cases o with
  | some q =>
    obtain ⟨p, hp, hp2⟩ := he (by simp)
    cases hp
    rw [e] at h; exact absurd h hp2
  | none =>
    rw [e] at hj ⊢
    obtain ⟨ts', g1, g2⟩ := join_back (lx_ok hx rfl) 0
    exact ⟨ts', g1.lexR hj, g2⟩
theorem joinT_bare (ts : List TokS) : joinT (ts.map TokS.bare) = joinT ts := by
  induction ts with
  | nil => rfl
  | cons t r ih =>
    cases r with
    | nil => rfl
    | cons u q =>
      have e : showT t.bare = showT t := rfl
      simp only [List.map_cons, joinT, e] at ih ⊢; rw [ih]
theorem joinT_same {a b : List TokS} (h : a.map TokS.bare = b.map TokS.bare) : joinT a = joinT b := by rw [← joinT_bare a, h, joinT_bare]
end Go.Proofs.YtnmbpmomilehoaaGreatDoor

namespace Go.Proofs.YtnmbpmomilehoaaGreatDoor
open Go.RowKit

theorem lx_JoinM (a : Option Addr) (c n : Nat) (ts : List TokS) (J : B) (w : World) (hl : ts.length = n) (hJ : joinT ts = J) (hT : TokR w a c ts) (hG : Glob w) (hn : ts.length ≤ 1000) (hs : ∀ t ∈ ts, t.fits 1000) :
    Calls Tryz.prog 12 #[.slice a n c] w fun e w' => e = .returned (.string (mkB J)) ∧ Below w.heap.size w w' := by
  subst hl
  subst hJ
  have h1 := joinT_len ts 1000 hs
  have h2 : ts.length * (2 * 1000 + 61) ≤ 1000 * (2 * 1000 + 61) := Nat.mul_le_mul_right _ hn
  exact lx_Join a c ts w hT hG (by omega) (fun t ht => fits_small (hs t ht) (by omega)) (by omega)
set_option maxRecDepth 100000 in
set_option maxHeartbeats 6400000 in
theorem l5_LexBack (l : B) (hl : l.length ≤ 9223372036854775807) (w : World) (hG : Glob w) : Calls Tryz.prog 5 #[.string (mkB l)] w fun e w' => e = .returned (.bool true) ∧ Below w.heap.size w w' := by
  have hms := mkB_size; have hma := mkB_append; have hmx := mkB_extract; have hmt := mkB_toList; have hmtl := subB_tail; have hmhd := subB_head
  obtain ⟨a, ha, ha1⟩ : ∃ a : Nat, a = min l.length 250 ∧ min (l.length : Int) 250 = (a : Int) := ⟨_, rfl, by omega⟩
  have hal : a ≤ l.length := by omega
  obtain ⟨s, hs⟩ : ∃ s, l.take a = s := ⟨_, rfl⟩
  have hs1 : s.length ≤ 250 := by rw [← hs, List.length_take]; omega
  clear ha
  have hbk := lexR_back s (by omega)
  have hbd := lexR_bounds s
  have her := lexR_err s
  obtain ⟨⟨T1, a1, e1⟩, hx1⟩ : ∃ q, q = lexR s := ⟨_, rfl⟩
  rw [← hx1] at hbk hbd her
  have HX1 := Lib.hid hx1
  simp only [] at hbk hbd her
  clear hx1
  by_cases he : e1 = 0
  · subst he
    have HBD := Lib.hid hbd.2
    have hTn := hbd.1
    obtain ⟨J, hJ⟩ : ∃ J, joinT T1 = J := ⟨_, rfl⟩
    rw [hJ] at hbk
    have HJ := Lib.hid hJ
    by_cases hj : J.length ≤ 512
    · obtain ⟨M, hx2, hmb⟩ := hbk (by first | exact trivial | rfl) hj
      have hml : M.length = T1.length := by have := congrArg List.length hmb; simpa using this
      have HX2 := Lib.hid hx2
      have HMB := Lib.hid (show M.map TokS.bareT = T1.map TokS.bareT from hmb)
      have HML := Lib.hid hml
      clear hbk hbd her hx2 hmb hml hJ
      go_enter Tryz.func5, Tryz.ntmps5
      go_wp2_with (first | (go_at_call 8; refine (lx_Lex J w3 (by omega) (hG.below hB3)).mono ?_; rw [HX2.out]; rintro e w4 ⟨hb_w4, v4, rfl, hT4⟩; have hB4 := Bel.trans hB3 hb_w4; obtain ⟨aq, cq, hv4, hR4, hL4, hp4⟩ := hT4.left; rw [HML.out] at hv4; subst hv4; have HR4 := Lib.hid hR4; have HL4 := Lib.hid hL4; have HP4 := Lib.hid hp4; clear hT4 hR4 hL4 hp4) | (go_at_call 12; refine (lx_JoinM ap cp T1.length T1 J w2 rfl HJ.out (HR1.out.below hb_w2) (hG.below hB2) (by omega) (fun t ht => (HBD.out t ht).1.le (by omega))).mono ?_; rintro e w3 ⟨rfl, hb_w3⟩; have hB3 := Bel.trans hB2 hb_w3) | (go_at_call 10; refine (l5_wakes w1 (hG.below hb_w1)).mono ?_; rintro e w2 ⟨rfl, hb_w2⟩; have hB2 := Bel.trans hb_w1 hb_w2) | (go_at_call_of 8 (Value.string (mkB s)); refine (lx_Lex s _ (by omega) hG).mono ?_; rw [← HX1.out]; rintro e w1 ⟨hb_w1, v1, rfl, hT1⟩; obtain ⟨ap, cp, rfl, hR1, hL1, hp1⟩ := hT1.left; have HR1 := Lib.hid hR1; have HP1 := Lib.hid hp1; clear hT1 hR1 hL1 hp1))
      go_loopw [10, 56] (fun _ v wr => ∃ i : Nat, i ≤ T1.length ∧ v = .int .i64 i ∧ LeftT wr w3.heap.size w4.heap.size aq M i ∧ TokR wr aq cq (T1.take i ++ M.drop i) ∧ TokR wr ap cp T1 ∧ Below w.heap.size w wr) (fun _ v _ => T1.length - (intOf v).toNat)
      case atStart => exact ⟨0, by omega, rfl, HL4.out, by simpa using HR4.out, ((HR1.out.below hb_w2).below hb_w3).below hb_w4, hB4⟩
      case round =>
        have hz1 := hb_w1.size
        have hz2 := hb_w2.size
        have hz3 := hb_w3.size
        clear hb_w2 hb_w3 hb_w4 hB2 hB3 hB4 HL4 HR4
        obtain ⟨i, hi, rfl, hL, hQ, hR, hB⟩ := hrel
        by_cases hlt : i < T1.length
        · obtain ⟨bb, oo, rfl, q1, q2, q3, hc, hf⟩ := hL i (by rw [HML.out]; exact hlt) (Nat.le_refl _)
          obtain ⟨b2, o2, rfl, q4, hcm⟩ := hR.at_ i hlt
          obtain ⟨t0, ht0⟩ : ∃ t0, t0 = T1[i] := ⟨_, rfl⟩
          obtain ⟨tm, htm⟩ : ∃ tm, tm = M[i]'(by rw [HML.out]; exact hlt) := ⟨_, rfl⟩
          have hbi : tm.bareT = t0.bareT := by
            have := congrArg (·[i]?) HMB.out
            simp only [List.getElem?_map, List.getElem?_eq_getElem hlt, List.getElem?_eq_getElem (show i < M.length by rw [HML.out]; exact hlt), Option.map_some, Option.some.injEq] at this
            rw [ht0, htm]; exact this
          have h9 := congrArg (fun t : TokS => ({ t with at_ := tm.at_ } : TokS)) hbi
          have hmi : tm = { t0 with at_ := tm.at_ } := h9
          clear h9
          rw [← htm, hmi] at hc
          generalize tm.at_ = m0 at hc hmi
          have hlenQ : i < (T1.take i ++ M.drop i).length := by rw [List.length_append, List.length_take, List.length_drop, HML.out]; omega
          have hQ2 := hQ.put i hlenQ t0.at_
          rw [ht0, mix_step HML.out hlt HMB.out hlenQ, ← ht0] at hQ2
          rw [← ht0] at hcm
          have hat : wr.cell? ⟨b2, o2 + i * 16 + 15, none⟩ = some (.int .i64 t0.at_) := hcm 15 _ rfl
          have hat2 : wr.cell? ⟨bb, oo + i * 16 + 15, none⟩ = some (.int .i64 m0) := hc 15 _ rfl
          have hfr : wr.frozen? ⟨bb, oo + i * 16 + 15, none⟩ = false := hf _
          have hne : b2 < bb := by have := (HP1.out _ rfl).2; simp only [] at this; omega
          have hU := tok_up_cells (w := wr) (b := bb) (o := oo + i * 16) (t := { t0 with at_ := m0 }) (d := t0.at_) hc
          have hL2 := hL.step (oo + i * 16 + 15) (by omega) (.int .i64 t0.at_)
          have hR2 := hR.set ⟨bb, oo + i * 16 + 15, none⟩ (fun p hp => by cases hp; simp only []; omega) (.int .i64 t0.at_)
          have hB2 := bel_set hB (p := ⟨bb, oo + i * 16 + 15, none⟩) (by simp only []; omega) (.int .i64 t0.at_)
          have hM : ∀ j v, t0.cells[j]? = some v → (wr.setCell ⟨bb, oo + i * 16 + 15, none⟩ (.int .i64 t0.at_)).cell? ⟨b2, o2 + i * 16 + j, none⟩ = some v := fun j v hv => by
            rw [World.cell?_setCell_other _ _ _ _ (by intro e; have := congrArg Addr.block e; simp only [] at this; omega)]
            exact hcm j v hv
          have HU := Lib.hid hU
          have HM := Lib.hid hM
          have HL2 := Lib.hid hL2
          have HR3 := Lib.hid hR2
          have HQ2 := Lib.hid hQ2
          have HB2 := Lib.hid hB2
          clear hU hM hL2 hR2 hB2 hQ2 hL hR hQ hc hcm hf ht0 hmi hlenQ hbi htm
          go_upto_region 15 with (fail)
          obtain ⟨W2, hW2⟩ : ∃ W2, W2 = wr.setCell ⟨bb, oo + i * 16 + 15, none⟩ (.int .i64 t0.at_) := ⟨_, rfl⟩
          rw [← hW2] at HU HM HL2 HR3 HQ2 HB2 ⊢
          clear hW2 hat hfr hat2
          obtain ⟨kk, tx, nu, fa, ⟨bk, sh, ⟨ac, ar, afc, afr⟩, ⟨bc, br, bfc, bfr⟩, wd⟩, ii⟩ := t0
          have p0 : W2.cell? ⟨bb, oo + i * 16, none⟩ = some (.int .i64 kk) := HU.out 0 _ rfl
          have m0 : W2.cell? ⟨b2, o2 + i * 16, none⟩ = some (.int .i64 kk) := HM.out 0 _ rfl
          have p1 : W2.cell? ⟨bb, oo + i * 16 + 1, none⟩ = some (.string (mkB tx)) := HU.out 1 _ rfl
          have m1 : W2.cell? ⟨b2, o2 + i * 16 + 1, none⟩ = some (.string (mkB tx)) := HM.out 1 _ rfl
          have p2 : W2.cell? ⟨bb, oo + i * 16 + 2, none⟩ = some (.int .i64 nu) := HU.out 2 _ rfl
          have m2 : W2.cell? ⟨b2, o2 + i * 16 + 2, none⟩ = some (.int .i64 nu) := HM.out 2 _ rfl
          have p3 : W2.cell? ⟨bb, oo + i * 16 + 3, none⟩ = some (.int .i64 fa) := HU.out 3 _ rfl
          have m3 : W2.cell? ⟨b2, o2 + i * 16 + 3, none⟩ = some (.int .i64 fa) := HM.out 3 _ rfl
          have p4 : W2.cell? ⟨bb, oo + i * 16 + 4, none⟩ = some (.string (mkB bk)) := HU.out 4 _ rfl
          have m4 : W2.cell? ⟨b2, o2 + i * 16 + 4, none⟩ = some (.string (mkB bk)) := HM.out 4 _ rfl
          have p5 : W2.cell? ⟨bb, oo + i * 16 + 5, none⟩ = some (.string (mkB sh)) := HU.out 5 _ rfl
          have m5 : W2.cell? ⟨b2, o2 + i * 16 + 5, none⟩ = some (.string (mkB sh)) := HM.out 5 _ rfl
          have p6 : W2.cell? ⟨bb, oo + i * 16 + 6, none⟩ = some (.int .i64 ac) := HU.out 6 _ rfl
          have m6 : W2.cell? ⟨b2, o2 + i * 16 + 6, none⟩ = some (.int .i64 ac) := HM.out 6 _ rfl
          have p7 : W2.cell? ⟨bb, oo + i * 16 + 7, none⟩ = some (.int .i64 ar) := HU.out 7 _ rfl
          have m7 : W2.cell? ⟨b2, o2 + i * 16 + 7, none⟩ = some (.int .i64 ar) := HM.out 7 _ rfl
          have p8 : W2.cell? ⟨bb, oo + i * 16 + 8, none⟩ = some (.bool afc) := HU.out 8 _ rfl
          have m8 : W2.cell? ⟨b2, o2 + i * 16 + 8, none⟩ = some (.bool afc) := HM.out 8 _ rfl
          have p9 : W2.cell? ⟨bb, oo + i * 16 + 9, none⟩ = some (.bool afr) := HU.out 9 _ rfl
          have m9 : W2.cell? ⟨b2, o2 + i * 16 + 9, none⟩ = some (.bool afr) := HM.out 9 _ rfl
          have p10 : W2.cell? ⟨bb, oo + i * 16 + 10, none⟩ = some (.int .i64 bc) := HU.out 10 _ rfl
          have m10 : W2.cell? ⟨b2, o2 + i * 16 + 10, none⟩ = some (.int .i64 bc) := HM.out 10 _ rfl
          have p11 : W2.cell? ⟨bb, oo + i * 16 + 11, none⟩ = some (.int .i64 br) := HU.out 11 _ rfl
          have m11 : W2.cell? ⟨b2, o2 + i * 16 + 11, none⟩ = some (.int .i64 br) := HM.out 11 _ rfl
          have p12 : W2.cell? ⟨bb, oo + i * 16 + 12, none⟩ = some (.bool bfc) := HU.out 12 _ rfl
          have m12 : W2.cell? ⟨b2, o2 + i * 16 + 12, none⟩ = some (.bool bfc) := HM.out 12 _ rfl
          have p13 : W2.cell? ⟨bb, oo + i * 16 + 13, none⟩ = some (.bool bfr) := HU.out 13 _ rfl
          have m13 : W2.cell? ⟨b2, o2 + i * 16 + 13, none⟩ = some (.bool bfr) := HM.out 13 _ rfl
          have p14 : W2.cell? ⟨bb, oo + i * 16 + 14, none⟩ = some (.bool wd) := HU.out 14 _ rfl
          have m14 : W2.cell? ⟨b2, o2 + i * 16 + 14, none⟩ = some (.bool wd) := HM.out 14 _ rfl
          have p15 : W2.cell? ⟨bb, oo + i * 16 + 15, none⟩ = some (.int .i64 ii) := HU.out 15 _ rfl
          have m15 : W2.cell? ⟨b2, o2 + i * 16 + 15, none⟩ = some (.int .i64 ii) := HM.out 15 _ rfl
          go_quiet (fail)
          go_wp2
          go_roundw
          case rel => exact ⟨i + 1, by omega, by go_num, HL2.out.below (below_drewN (Below.refl _ _) _), HQ2.out.below (below_drewN (Below.refl _ _) _), HR3.out.below (below_drewN (Below.refl _ _) _), below_drewN HB2.out _⟩
          case measure => simp [intOf]; omega
        · obtain rfl : i = T1.length := by omega
          have hQ2 : TokR wr aq cq T1 := by
            have e : T1.take T1.length ++ M.drop T1.length = T1 := by rw [List.take_length, ← HML.out, List.drop_length, List.append_nil]
            rw [e] at hQ; exact hQ
          have HQ2 := Lib.hid hQ2
          clear hL hR hQ hQ2
          go_wp2_with (first | (go_at_call 12; refine (lx_JoinM aq cq T1.length T1 J wr rfl HJ.out HQ2.out (hG.below hB) (by omega) (fun t ht => (HBD.out t ht).1.le (by omega))).mono ?_; rintro e w7 ⟨rfl, hb_w7⟩))
          go_ret
          exact ⟨ret_b (by first | rfl | simp), Bel.trans hB hb_w7⟩
    · have hj2 : 512 < J.length := by omega
      have hjl : J.length ≤ 1000000 := by
        rw [← hJ]
        have h1 := joinT_len T1 1000 (fun t ht => (HBD.out t ht).1.le (by omega))
        have h2 : T1.length * (2 * 1000 + 61) ≤ 400 * (2 * 1000 + 61) := Nat.mul_le_mul_right _ (by omega)
        omega
      clear hbk hbd her hJ hj
      go_enter Tryz.func5, Tryz.ntmps5
      go_wp2_with (first | (go_at_call 12; refine (lx_JoinM ap cp T1.length T1 J w2 rfl HJ.out (HR1.out.below hb_w2) (hG.below hB2) (by omega) (fun t ht => (HBD.out t ht).1.le (by omega))).mono ?_; rintro e w3 ⟨rfl, hb_w3⟩; have hB3 := Bel.trans hB2 hb_w3) | (go_at_call 10; refine (l5_wakes w1 (hG.below hb_w1)).mono ?_; rintro e w2 ⟨rfl, hb_w2⟩; have hB2 := Bel.trans hb_w1 hb_w2) | (go_at_call_of 8 (Value.string (mkB s)); refine (lx_Lex s _ (by omega) hG).mono ?_; rw [← HX1.out]; rintro e w1 ⟨hb_w1, v1, rfl, hT1⟩; obtain ⟨ap, cp, rfl, hR1, hL1, hp1⟩ := hT1.left; have HR1 := Lib.hid hR1; have HP1 := Lib.hid hp1; clear hT1 hR1 hL1 hp1))
      go_ret
      exact ⟨rfl, hB3⟩
  · obtain ⟨hT0, ha0, ha2⟩ := her he
    subst hT0
    have e1a : (e1 == 0) = false := by simpa using he
    have e1b : (e1 != 0) = true := by simpa using he
    have hlz : ([] : List TokS).length = 0 := rfl
    clear hbk hbd her he
    go_enter Tryz.func5, Tryz.ntmps5
    go_wp2_with (first | (go_at_call 10; refine (l5_wakes w2 (hG.below hB2)).mono ?_; rintro e w3 ⟨rfl, hb_w3⟩; have hB3 := Bel.trans hB2 hb_w3) | (go_at_call 10; refine (l5_wakes w1 (hG.below hb_w1)).mono ?_; rintro e w2 ⟨rfl, hb_w2⟩; have hB2 := Bel.trans hb_w1 hb_w2) | (go_at_call_of 8 (Value.string (mkB s)); refine (lx_Lex s _ (by omega) hG).mono ?_; rw [← HX1.out]; rintro e w1 ⟨hb_w1, v1, rfl, hT1⟩; obtain ⟨ap, cp, rfl, hR1, hL1, hp1⟩ := hT1.left; have HR1 := Lib.hid hR1; have HP1 := Lib.hid hp1; clear hT1 hR1 hL1 hp1))
    go_ret
    exact ⟨rfl, hB3⟩
end Go.Proofs.YtnmbpmomilehoaaGreatDoor
