/-
  Part 1 of what the proof stands on: Sp, Sp1, Sp2, Sp3, Sp4, Sp5, SpF, Sp7, Sp8, Sp6.
-/
import Derived.RowKit
import Derived.Lib.Strings
import Derived.Lib.SmallJoins
import Derived.Lib.Atoi
import Derived.Lib.ParseIntB
import Derived.Lib.SlTrimSet
namespace Go.Proofs.YtnmbpmomilehoaaGreatDoor

abbrev B := List UInt8
def mkB (l : B) : ByteArray := ⟨l.toArray⟩
theorem mkB_data (l : B) : (mkB l).data.toList = l := by simp [mkB]
theorem mkB_of (s : ByteArray) : mkB s.data.toList = s := by cases s; simp [mkB]
theorem mkB_size (l : B) : (mkB l).size = l.length := by rw [Lib.size_eq, mkB_data]
theorem mkB_append (a b : B) : mkB a ++ mkB b = mkB (a ++ b) := by
  rw [← mkB_of (mkB a ++ mkB b), Joins.data_append, mkB_data, mkB_data]
/-- A piece of a text, by its ends. -/
def subB (l : B) (a b : Nat) : B := (l.drop a).take (b - a)
theorem mkB_extract (l : B) (a b : Nat) : (mkB l).extract a b = mkB (subB l a b) := by
  rw [Lib.extract_eq, mkB_data]; rfl
theorem subB_tail (l : B) (a : Nat) : subB l a l.length = l.drop a := by
  unfold subB; rw [List.take_of_length_le (by simp)]
theorem subB_head (l : B) (b : Nat) : subB l 0 b = l.take b := by simp [subB]
theorem mkB_toList (l : B) : (mkB l).toList = l := by rw [Lib.toList_data, mkB_data]
theorem mkB_at (l : B) (k : Nat) (h : k < (mkB l).size) : (mkB l)[k] = l[k]'(by rw [← mkB_size]; exact h) := rfl
theorem drop_cons (l : B) (k : Nat) (h : k < l.length) : l.drop k = l[k] :: l.drop (k + 1) := List.drop_eq_getElem_cons h
theorem drop_nil (l : B) (k : Nat) (h : ¬ k < l.length) : l.drop k = [] := by rw [List.drop_eq_nil_iff]; omega
theorem mkB_inj {a b : B} (h : mkB a = mkB b) : a = b := by rw [← mkB_data a, h, mkB_data]
theorem size_len (s : ByteArray) : s.size = s.data.toList.length := Lib.size_eq s
theorem drop_at (s : ByteArray) (k : Nat) (h : k < s.size) : s.data.toList.drop k = s[k] :: s.data.toList.drop (k + 1) := by
  rw [List.drop_eq_getElem_cons (by rw [← size_len]; exact h)]; rfl
theorem drop_end (s : ByteArray) (k : Nat) (h : ¬ k < s.size) : s.data.toList.drop k = [] := by
  rw [List.drop_eq_nil_iff, ← size_len]; omega

def isDig (c : UInt8) : Bool := decide (48 ≤ c.toNat ∧ c.toNat ≤ 57)
def isLet (c : UInt8) : Bool := decide ((65 ≤ c.toNat ∧ c.toNat ≤ 90) ∨ (97 ≤ c.toNat ∧ c.toNat ≤ 122))
/-- may a byte stand in a name, at a place? -/
def nameC (c : UInt8) (first : Bool) : Bool := isLet c || decide ((c.toNat : Int) = 95) || (isDig c && !first)
def nameL : B → Bool → Bool
  | [], _ => true
  | c :: r, first => nameC c first && nameL r false
def nameB (s : B) : Bool := decide (1 ≤ s.length ∧ s.length ≤ 16) && nameL s true

/-- A cell as a formula names it. -/
structure RefS where
  col : Int
  row : Int
  fc : Bool
  fr : Bool
deriving DecidableEq
def RefS.zero : RefS := ⟨0, 0, false, false⟩
def cellR (col row : Int) : Bool := decide ((0 ≤ col ∧ col < 64) ∧ (0 ≤ row ∧ row < 1024))
def upI (c : UInt8) : Int := if 97 ≤ (c.toNat : Int) then (c.toNat : Int) - 32 else c.toNat
def letR : B → Int → Int → B × Int × Int
  | [], n, col => ([], n, col)
  | c :: r, n, col => if n < 4 ∧ isLet c = true then letR r (n + 1) (26 * col + (upI c - 65) + 1) else (c :: r, n, col)
def rowR : B → Int → Option Int
  | [], row => some row
  | c :: r, row => if isDig c = true then rowR r (10 * row + ((c.toNat : Int) - 48)) else none
def dolR : B → Bool × B
  | [] => (false, [])
  | c :: r => if (c.toNat : Int) = 36 then (true, r) else (false, c :: r)
def noughtR : B → Bool
  | [] => false
  | c :: _ => decide ((c.toNat : Int) = 48)
def ref1R (s : B) : RefS × Bool :=
  let d := dolR s
  let l := letR d.2 0 0
  if l.2.1 < 1 ∨ 3 < l.2.1 then (RefS.zero, false) else
  let f := dolR l.1
  if (f.2.length : Int) < 1 ∨ 5 < (f.2.length : Int) ∨ noughtR f.2 = true then (RefS.zero, false) else
  match rowR f.2 0 with
  | none => (RefS.zero, false)
  | some row => (⟨l.2.2 - 1, row - 1, d.1, f.1⟩, true)
def areaR (a b : RefS) : Bool := cellR a.col a.row && cellR b.col b.row && decide (a.col ≤ b.col ∧ a.row ≤ b.row ∧ (b.col - a.col + 1) * (b.row - a.row + 1) ≤ 4096)
theorem cellR_bd {c r : Int} (h : cellR c r = true) : (0 ≤ c ∧ c < 64) ∧ (0 ≤ r ∧ r < 1024) := of_decide_eq_true h
theorem dol_at (l : B) (k : Nat) : (¬ k < l.length ∧ dolR (l.drop k) = (false, l.drop k)) ∨
    (∃ h : k < l.length, (((l[k]).toNat : Int) == 36) = true ∧ dolR (l.drop k) = (true, l.drop (k + 1))) ∨
    (∃ h : k < l.length, (((l[k]).toNat : Int) == 36) = false ∧ dolR (l.drop k) = (false, l.drop k)) := by
  by_cases h : k < l.length
  · by_cases hc : (((l[k]).toNat : Int) == 36) = true
    · exact .inr (.inl ⟨h, hc, by rw [drop_cons l k h, dolR, if_pos (by simpa using hc)]⟩)
    · exact .inr (.inr ⟨h, by simpa using hc, by rw [drop_cons l k h, dolR, if_neg (by simpa using hc)]⟩)
  · exact .inl ⟨h, by rw [drop_nil l k h]; rfl⟩
theorem letR_stop (l : B) (m c : Int) (h : ∀ x r, l = x :: r → ¬ (m < 4 ∧ isLet x = true)) : letR l m c = (l, m, c) := by
  cases l with
  | nil => rfl
  | cons x r => rw [letR, if_neg (h x r rfl)]
theorem isLet_bd {c : UInt8} (h : isLet c = true) : (65 ≤ (c.toNat : Int) ∧ (c.toNat : Int) ≤ 90) ∨ (97 ≤ (c.toNat : Int) ∧ (c.toNat : Int) ≤ 122) := by
  simp [isLet] at h; omega
theorem isLet_up {c : UInt8} (h : isLet c = true) : ((65 ≤ (c.toNat : Int) ∧ (c.toNat : Int) ≤ 90) ∧ upI c = (c.toNat : Int)) ∨ ((97 ≤ (c.toNat : Int) ∧ (c.toNat : Int) ≤ 122) ∧ upI c = (c.toNat : Int) - 32) := by
  rcases isLet_bd h with h | h
  · exact .inl ⟨h, by unfold upI; rw [if_neg (by omega)]⟩
  · exact .inr ⟨h, by unfold upI; rw [if_pos (by omega)]⟩
theorem isDig_bd {c : UInt8} (h : isDig c = true) : 48 ≤ (c.toNat : Int) ∧ (c.toNat : Int) ≤ 57 := by
  simp [isDig] at h; omega
/-- does a text begin with the sign of what is fixed? -/
def dolF : B → Bool
  | [] => false
  | c :: _ => (c.toNat : Int) == 36
theorem dolR_eq (l : B) : dolR l = (dolF l, if dolF l = true then l.drop 1 else l) := by
  cases l with
  | nil => rfl
  | cons c r => simp only [dolR, dolF]; by_cases h : (c.toNat : Int) = 36 <;> simp [h]
/-- What a formula names, with its sheet and its book. -/
structure FullS where
  book : B
  sheet : B
  a : RefS
  b : RefS
  wide : Bool
deriving DecidableEq
def FullS.zero : FullS := ⟨[], [], RefS.zero, RefS.zero, false⟩
def goodR (f : FullS) : Bool :=
  (f.sheet.isEmpty || nameB f.sheet) && (f.book.isEmpty || (nameB f.book && !f.sheet.isEmpty)) &&
    (if f.wide = true then areaR f.a f.b else decide (f.b = RefS.zero) && cellR f.a.col f.a.row)
end Go.Proofs.YtnmbpmomilehoaaGreatDoor

namespace Go.Proofs.YtnmbpmomilehoaaGreatDoor

/-- the digits of a number, the lowest first; none of 0 -/
def digN (n : Nat) : List Int := if h : n = 0 then [] else ((n % 10 : Nat) : Int) :: digN (n / 10)
termination_by n
decreasing_by omega
def valL : List Int → Int
  | [] => 0
  | x :: r => x + 10 * valL r
def Dig (xs : List Int) : Prop := ∀ x, x ∈ xs → 0 ≤ x ∧ x ≤ 9
theorem digN_zero : digN 0 = [] := by rw [digN]; rfl
theorem digN_pos {n : Nat} (h : n ≠ 0) : digN n = ((n % 10 : Nat) : Int) :: digN (n / 10) := by rw [digN, dif_neg h]
theorem digN_dig (n : Nat) : Dig (digN n) := by
  induction n using Nat.strongRecOn with
  | _ n ih =>
    intro x hx
    by_cases h : n = 0
    · subst h; rw [digN_zero] at hx; simp at hx
    · rw [digN_pos h] at hx
      rcases List.mem_cons.mp hx with rfl | hx
      · omega
      · exact ih (n / 10) (by omega) x hx
theorem valL_digN (n : Nat) : valL (digN n) = n := by
  induction n using Nat.strongRecOn with
  | _ n ih =>
    by_cases h : n = 0
    · subst h; rw [digN_zero]; rfl
    · rw [digN_pos h, valL, ih (n / 10) (by omega)]; omega
theorem valL_append (a b : List Int) : valL (a ++ b) = valL a + 10 ^ a.length * valL b := by
  induction a with
  | nil => simp [valL]
  | cons x r ih =>
    rw [List.cons_append, valL, ih, valL, List.length_cons, Int.pow_succ, Int.mul_add]
    rw [show (10 : Int) ^ r.length * 10 * valL b = 10 * (10 ^ r.length * valL b) by rw [Int.mul_comm ((10 : Int) ^ r.length) 10, Int.mul_assoc]]
    omega
theorem valL_nonneg {xs : List Int} (h : ∀ x, x ∈ xs → 0 ≤ x) : 0 ≤ valL xs := by
  induction xs with
  | nil => simp [valL]
  | cons x r ih =>
    have := ih (fun y hy => h y (List.mem_cons_of_mem _ hy))
    have := h x List.mem_cons_self
    simp only [valL]; omega
theorem digN_of (xs : List Int) (h : Dig xs) (hl : xs = [] ∨ ∃ y z, xs = y ++ [z] ∧ z ≠ 0) : xs = digN (valL xs).toNat := by
  induction xs with
  | nil => simp [valL, digN_zero]
  | cons x r ih =>
    have hx := h x List.mem_cons_self
    have hr : Dig r := fun y hy => h y (List.mem_cons_of_mem _ hy)
    have hv := valL_nonneg (fun y hy => (hr y hy).1)
    rcases hl with hl | ⟨y, z, hy, hz⟩
    · simp at hl
    · have hl2 : r = [] ∨ ∃ y z, r = y ++ [z] ∧ z ≠ 0 := by
        cases y with
        | nil => simp at hy; exact .inl hy.2
        | cons y0 y => simp at hy; exact .inr ⟨y, z, hy.2, hz⟩
      have e := ih hr hl2
      have hne : (valL (x :: r)).toNat ≠ 0 := by
        simp only [valL]
        rcases hl2 with rfl | ⟨y', z', rfl, hz'⟩
        · cases y with
          | nil => simp at hy; subst hy; simp [valL]; omega
          | cons y0 y => simp at hy
        · have hzd := hr z' (by simp)
          have hy' := valL_nonneg (xs := y') (fun q hq => (hr q (by simp [hq])).1)
          rw [valL_append] at hv ⊢
          have hp : 1 ≤ (10 : Int) ^ y'.length := by
            have := Int.pow_pos (n := 10) (m := y'.length) (by omega)
            omega
          have hz1 : 1 ≤ z' := by omega
          have : 1 ≤ (10 : Int) ^ y'.length * valL [z'] := by
            simp only [valL, Int.mul_zero, Int.add_zero]
            calc (1 : Int) = 1 * 1 := rfl
              _ ≤ (10 : Int) ^ y'.length * z' := Int.mul_le_mul hp hz1 (by omega) (by omega)
          omega
      rw [digN_pos hne]
      congr 1
      · simp only [valL]; omega
      · rw [e]; congr 1; rw [← e]; simp only [valL]; omega
/-- how many digits stay without noughts above -/
def trimN : List Int → Nat
  | [] => 0
  | x :: r => if trimN r = 0 then (if x = 0 then 0 else 1) else trimN r + 1
theorem trimN_le (xs : List Int) : trimN xs ≤ xs.length := by
  induction xs with
  | nil => simp [trimN]
  | cons x r ih => simp only [trimN]; split <;> (try split) <;> simp <;> omega
theorem trimN_digN (xs : List Int) (h : Dig xs) : xs.take (trimN xs) = digN (valL xs).toNat := by
  have key : ∀ xs : List Int, valL (xs.take (trimN xs)) = valL xs ∧ (xs.take (trimN xs) = [] ∨ ∃ y z, xs.take (trimN xs) = y ++ [z] ∧ z ≠ 0) := by
    intro xs
    induction xs with
    | nil => simp [trimN]
    | cons x r ih =>
      obtain ⟨h1, h2⟩ := ih
      simp only [trimN]
      by_cases h0 : trimN r = 0
      · rw [if_pos h0]
        rw [h0] at h1
        have hr0 : valL r = 0 := by rw [← h1]; simp [valL]
        by_cases hx : x = 0
        · rw [if_pos hx]; subst hx; simp [valL, hr0]
        · rw [if_neg hx]
          refine ⟨by simp [valL, hr0], .inr ⟨[], x, by simp, hx⟩⟩
      · rw [if_neg h0]
        refine ⟨by rw [List.take_succ_cons, valL, h1, valL], .inr ?_⟩
        rcases h2 with h2 | ⟨y, z, h2, hz⟩
        · exfalso
          cases r with
          | nil => simp [trimN] at h0
          | cons q r => rw [List.take_eq_nil_iff] at h2; simp at h2; omega
        · exact ⟨x :: y, z, by rw [List.take_succ_cons, h2]; rfl, hz⟩
  obtain ⟨h1, h2⟩ := key xs
  rw [digN_of (xs.take (trimN xs)) (fun x hx => h x (List.mem_of_mem_take hx)) h2, h1]
theorem valL_lt {xs : List Int} (h : Dig xs) : valL xs < 10 ^ xs.length := by
  induction xs with
  | nil => simp [valL]
  | cons x r ih =>
    have := ih (fun y hy => h y (List.mem_cons_of_mem _ hy))
    have := h x List.mem_cons_self
    rw [valL, List.length_cons, Int.pow_succ]; omega
theorem valL_split (xs : List Int) (i : Nat) (h : i < xs.length) : valL xs = valL (xs.take i) + 10 ^ i * (xs.getD i 0 + 10 * valL (xs.drop (i + 1))) := by
  have e : xs = xs.take i ++ (xs.getD i 0 :: xs.drop (i + 1)) := by
    rw [List.getD_eq_getElem?_getD, List.getElem?_eq_getElem h, Option.getD_some, ← List.drop_eq_getElem_cons h, List.take_append_drop]
  conv => lhs; rw [e]
  rw [valL_append, List.length_take, Nat.min_eq_left (by omega)]; rfl
theorem pow10_mono {a b : Nat} (h : a ≤ b) : (10 : Int) ^ a ≤ 10 ^ b := by
  obtain ⟨d, rfl⟩ := Nat.exists_eq_add_of_le h
  have h1 : (1 : Int) ≤ 10 ^ d := by have := Int.pow_pos (n := 10) (m := d) (by omega); omega
  have h2 : (0 : Int) ≤ 10 ^ a := by have := Int.pow_pos (n := 10) (m := a) (by omega); omega
  rw [Int.pow_add]
  have := Int.mul_le_mul_of_nonneg_left h1 h2
  omega
theorem digN_len_lt {x y : Nat} (h : (digN x).length < (digN y).length) : x < y := by
  have h1 := valL_lt (digN_dig x)
  rw [valL_digN] at h1
  have hy : ∀ y : Nat, y ≠ 0 → (10 : Int) ^ ((digN y).length - 1) ≤ y := by
    intro y
    induction y using Nat.strongRecOn with
    | _ y ih =>
      intro hy
      rw [digN_pos hy, List.length_cons]
      by_cases h9 : y / 10 = 0
      · rw [h9, digN_zero]; simp; omega
      · have := ih (y / 10) (by omega) h9
        have hl : 1 ≤ (digN (y / 10)).length := by rw [digN_pos h9]; simp
        rw [show (digN (y / 10)).length + 1 - 1 = ((digN (y / 10)).length - 1) + 1 by omega, Int.pow_succ]
        omega
  have hy0 : y ≠ 0 := by intro e; subst e; rw [digN_zero] at h; simp at h
  have h2 := hy y hy0
  have h3 : (10 : Int) ^ (digN x).length ≤ 10 ^ ((digN y).length - 1) := pow10_mono (by omega)
  omega
theorem digN_dlt {x y i : Nat} (hl : (digN x).length = (digN y).length) (hi : i < (digN x).length) (hd : (digN x).drop (i + 1) = (digN y).drop (i + 1)) (h : (digN x).getD i 0 < (digN y).getD i 0) : x < y := by
  have e1 := valL_split (digN x) i hi
  have e2 := valL_split (digN y) i (by omega)
  rw [valL_digN] at e1 e2
  rw [← hd] at e2
  have b1 := valL_lt (xs := (digN x).take i) (fun z hz => digN_dig x z (List.mem_of_mem_take hz))
  rw [List.length_take, Nat.min_eq_left (by omega)] at b1
  have b2 := valL_nonneg (xs := (digN y).take i) (fun z hz => (digN_dig y z (List.mem_of_mem_take hz)).1)
  have b3 : (10 : Int) ^ i * ((digN x).getD i 0 + 10 * valL ((digN x).drop (i + 1)) + 1) ≤ 10 ^ i * ((digN y).getD i 0 + 10 * valL ((digN x).drop (i + 1))) :=
    Int.mul_le_mul_of_nonneg_left (by omega) (Int.le_of_lt (Int.pow_pos (by omega)))
  rw [Int.mul_add (10 ^ i) _ 1, Int.mul_one] at b3
  omega
theorem digN_len_le {n k : Nat} (h : n < 10 ^ k) : (digN n).length ≤ k := by
  induction k generalizing n with
  | zero => simp at h; subst h; rw [digN_zero]; simp
  | succ k ih =>
    by_cases h0 : n = 0
    · subst h0; rw [digN_zero]; simp
    · rw [digN_pos h0, List.length_cons]
      have := ih (n := n / 10) (by rw [Nat.pow_succ] at h; omega)
      omega
def okN (x : Int) : Bool := decide (-9000000000000000000 ≤ x ∧ x ≤ 9000000000000000000)
end Go.Proofs.YtnmbpmomilehoaaGreatDoor

namespace Go.Proofs.YtnmbpmomilehoaaGreatDoor

/-- where a byte stands first -/
def idxB : B → UInt8 → Option Nat
  | [], _ => none
  | c :: r, b => if c = b then some 0 else (idxB r b).map (· + 1)
theorem idxB_lt {l : B} {b : UInt8} {i : Nat} (h : idxB l b = some i) : i < l.length := by
  induction l generalizing i with
  | nil => simp [idxB] at h
  | cons c r ih =>
    rw [idxB] at h
    split at h
    · simp at h; subst h; simp
    · cases hr : idxB r b with
      | none => simp [hr] at h
      | some j => simp [hr] at h; subst h; have := ih hr; simp; omega
/-- does a text begin with an opening bracket? -/
def brkF : B → Bool
  | [] => false
  | c :: _ => (c.toNat : Int) == 91
/-- the book that a text begins with, and what stands behind it -/
def bookR (l : B) : Option (B × B) :=
  if brkF l = true then
    match idxB l 93 with
    | none => none
    | some i => if nameB (subB l 1 i) = true then some (subB l 1 i, l.drop (i + 1)) else none
  else some ([], l)
/-- the sheet, and what stands behind it -/
def sheetR (l : B) : Option (B × B) :=
  match idxB l 33 with
  | none => some ([], l)
  | some i => if nameB (l.take i) = true then some (l.take i, l.drop (i + 1)) else none
def cornR (a b : RefS) : RefS × RefS :=
  (⟨if b.col < a.col then b.col else a.col, if b.row < a.row then b.row else a.row, if b.col < a.col then b.fc else a.fc, if b.row < a.row then b.fr else a.fr⟩,
   ⟨if b.col < a.col then a.col else b.col, if b.row < a.row then a.row else b.row, if b.col < a.col then a.fc else b.fc, if b.row < a.row then a.fr else b.fr⟩)
/-- the cells that a text names, of a book and a sheet; the error -/
def cellsR (book sheet l : B) : FullS × Int :=
  match idxB l 58 with
  | none =>
    if (ref1R l).2 = true then
      if cellR (ref1R l).1.col (ref1R l).1.row = true then (⟨book, sheet, (ref1R l).1, RefS.zero, false⟩, 0) else (FullS.zero, 3)
    else (FullS.zero, 4)
  | some k =>
    if (ref1R (l.take k)).2 = true then
      if (ref1R (l.drop (k + 1))).2 = true then
        if cellR (ref1R (l.take k)).1.col (ref1R (l.take k)).1.row = true ∧ cellR (ref1R (l.drop (k + 1))).1.col (ref1R (l.drop (k + 1))).1.row = true then
          if areaR (cornR (ref1R (l.take k)).1 (ref1R (l.drop (k + 1))).1).1 (cornR (ref1R (l.take k)).1 (ref1R (l.drop (k + 1))).1).2 = true then
            (⟨book, sheet, (cornR (ref1R (l.take k)).1 (ref1R (l.drop (k + 1))).1).1, (cornR (ref1R (l.take k)).1 (ref1R (l.drop (k + 1))).1).2, true⟩, 0)
          else (FullS.zero, 7)
        else (FullS.zero, 3)
      else (FullS.zero, 4)
    else (FullS.zero, 4)
def full4 (l : B) : FullS × Int :=
  match bookR l with
  | none => (FullS.zero, 4)
  | some (book, r) =>
    match sheetR r with
    | none => (FullS.zero, 4)
    | some (sheet, r) => if book.isEmpty = false ∧ sheet.isEmpty = true then (FullS.zero, 4) else cellsR book sheet r
end Go.Proofs.YtnmbpmomilehoaaGreatDoor

namespace Go.Proofs.YtnmbpmomilehoaaGreatDoor

def u8 (n : Int) : UInt8 := UInt8.ofNat n.toNat
theorem mkB_nil : mkB [] = ⟨#[]⟩ := rfl
def allR (s : B) : Bool := decide (1 ≤ s.length ∧ s.length ≤ 18) && s.all isDig
def numR (n : Nat) (neg : Bool) : Int × Int := if 9000000000000000000 < n then (0, 5) else (if neg = true then -(n : Int) else n, 0)
def nearR (X Y : Nat) : Nat := X / Y + (if 2 * (X % Y) < Y then 0 else 1)
def dgs (l : B) : List Int := l.reverse.map fun c => (c.toNat : Int) - 48
def numB (l : B) : Nat := (valL (dgs l)).toNat
def dashF : B → Bool
  | [] => false
  | c :: _ => (c.toNat : Int) == 45
def undash (l : B) : B := if dashF l = true then l.drop 1 else l
/-- how many bytes stand ahead of a full stop -/
def dotN : B → Nat
  | [] => 0
  | c :: r => if (c.toNat : Int) = 46 then 0 else dotN r + 1
theorem dotN_le (l : B) : dotN l ≤ l.length := by
  induction l with
  | nil => simp [dotN]
  | cons c r ih => simp only [dotN]; split <;> simp <;> omega
/-- the digits behind the full stop; none where there is none -/
def partB (l : B) : B := l.drop (dotN l + 1)
def parse01 (l : B) : Int × Int :=
  let s := undash l
  if allR (s.take (dotN s)) = true ∧ (dotN s < s.length → allR (partB s) = true) then numR (nearR (numB (s.take (dotN s) ++ partB s) * 10000) (10 ^ (partB s).length)) (dashF l) else (0, 4)
def pad5 (xs : List Int) : List Int := xs ++ List.replicate (5 - xs.length) 0
def showD (xs : List Int) : B := xs.reverse.map fun x => u8 (48 + x)
/-- how many noughts the four places end with -/
def zerosN : List Int → Nat
  | [] => 0
  | x :: r => if x = 0 then zerosN r + 1 else 0
def text01 (a : Int) : B :=
  if okN a = true then
    (if a < 0 then [45] else []) ++ showD ((pad5 (digN a.natAbs)).drop 4) ++
      (if zerosN ((pad5 (digN a.natAbs)).take 4) < 4 then [46] ++ showD (((pad5 (digN a.natAbs)).take 4).drop (zerosN ((pad5 (digN a.natAbs)).take 4))) else [])
  else []
def upC (c : UInt8) : UInt8 := if 97 ≤ c.toNat ∧ c.toNat ≤ 122 then c - 32 else c
def upB (l : B) : B := l.map upC
def colsR (n : Int) : B := if n < 26 then [u8 (65 + n)] else [u8 (65 + (n / 26 - 1)), u8 (65 + n % 26)]
def decR (n : Nat) : B := if n < 10 then [u8 (48 + n)] else decR (n / 10) ++ [u8 (48 + (n % 10 : Nat))]
def refTextR (r : RefS) : B :=
  if cellR r.col r.row = true then (if r.fc = true then [36] else []) ++ colsR r.col ++ (if r.fr = true then [36] else []) ++ decR (r.row + 1).toNat else []
def textR (f : FullS) : B :=
  if goodR f = true then
    (if f.book.isEmpty = true then [] else [91] ++ f.book ++ [93]) ++ ((if f.sheet.isEmpty = true then [] else f.sheet ++ [33]) ++ refTextR f.a) ++ (if f.wide = true then [58] ++ refTextR f.b else [])
  else []
def RefS.val (r : RefS) : Value := .agg #[.int .i64 r.col, .int .i64 r.row, .bool r.fc, .bool r.fr]
def FullS.val (f : FullS) : Value := .agg #[.string (mkB f.book), .string (mkB f.sheet), .int .i64 f.a.col, .int .i64 f.a.row, .bool f.a.fc, .bool f.a.fr, .int .i64 f.b.col, .int .i64 f.b.row, .bool f.b.fc, .bool f.b.fr, .bool f.wide]
structure TokS where
  kind : Int
  text : B
  num : Int
  fail : Int
  ref : FullS
  at_ : Int
deriving DecidableEq
def TokS.val (t : TokS) : Value := .agg #[.int .i64 t.kind, .string (mkB t.text), .int .i64 t.num, .int .i64 t.fail, .string (mkB t.ref.book), .string (mkB t.ref.sheet), .int .i64 t.ref.a.col, .int .i64 t.ref.a.row, .bool t.ref.a.fc, .bool t.ref.a.fr, .int .i64 t.ref.b.col, .int .i64 t.ref.b.row, .bool t.ref.b.fc, .bool t.ref.b.fr, .bool t.ref.wide, .int .i64 t.at_]
def TokS.zero : TokS := ⟨0, [], 0, 0, FullS.zero, 0⟩
/-- a byte of a number -/
def numC (c : UInt8) : Bool := decide ((c.toNat : Int) = 46 ∨ (48 ≤ (c.toNat : Int) ∧ (c.toNat : Int) ≤ 57))
def numK : B → Nat
  | [] => 0
  | c :: r => if numC c = true then numK r + 1 else 0
theorem numK_le : ∀ l : B, numK l ≤ l.length
  | [] => by simp [numK]
  | c :: r => by have := numK_le r; unfold numK; split <;> simp <;> omega
def numT (l : B) : TokS × Nat × Int := ({ TokS.zero with num := (parse01 (l.take (numK l))).1 }, numK l, (parse01 (l.take (numK l))).2)
/-- does a byte stand in a text? -/
def hasB : B → UInt8 → Bool
  | [], _ => false
  | c :: r, b => if c = b then true else hasB r b
def signsB (f : Int) : B :=
  if f = 1 then [35, 68, 73, 86, 47, 48, 33] else if f = 2 then [35, 78, 85, 77, 33] else if f = 3 then [35, 86, 65, 76, 85, 69, 33] else
  if f = 4 then [35, 82, 69, 70, 33] else if f = 5 then [35, 78, 65, 77, 69, 63] else if f = 6 then [35, 78, 47, 65] else if f = 7 then [35, 67, 89, 67, 76, 69, 33] else
  if f = 8 then [35, 76, 73, 78, 75, 33] else []

/-- what stands in a text's quotes, and what is behind them; from behind the first quote -/
def textGo : B → Option (B × B)
  | [] => none
  | [c] => if c = 34 then some ([], []) else none
  | c :: d :: r => if c = 34 then (if d = 34 then (textGo r).map fun p => (34 :: p.1, p.2) else some ([], d :: r)) else (textGo (d :: r)).map fun p => (c :: p.1, p.2)
def textT (l : B) : TokS × Nat × Int :=
  match textGo (l.drop 1) with
  | none => (TokS.zero, 0, 4)
  | some (b, r) => if 255 < b.length then (TokS.zero, 0, 7) else ({ TokS.zero with kind := 1, text := b }, l.length - r.length, 0)
def failGo (l : B) : List Nat → TokS × Nat × Int
  | [] => (TokS.zero, 0, 4)
  | f :: r => if (signsB f).isPrefixOf l = true then ({ TokS.zero with kind := 2, fail := f }, (signsB f).length, 0) else failGo l r
def failT (l : B) : TokS × Nat × Int := failGo l [1, 2, 3, 4, 5, 6, 7, 8]
/-- a byte of a name, or of a reference -/
def goC (c : UInt8) : Bool := isLet c || isDig c || hasB [95, 36, 91, 93, 33, 58] c
def spanK (p : UInt8 → Bool) : B → Nat
  | [] => 0
  | c :: r => if p c = true then spanK p r + 1 else 0
theorem spanK_le (p : UInt8 → Bool) : ∀ l : B, spanK p l ≤ l.length
  | [] => by simp [spanK]
  | c :: r => by have := spanK_le p r; unfold spanK; split <;> simp <;> omega
def spC (c : UInt8) : Bool := decide (c = 32)
def parF : B → Bool
  | [] => false
  | c :: _ => decide (c = 40)
def nameT (l : B) : TokS × Nat × Int :=
  let n := spanK goC l
  let t := l.take n
  let r := l.drop n
  if nameB t = true ∧ parF (r.drop (spanK spC r)) = true then ({ TokS.zero with kind := 4, text := upB t }, n, 0)
  else if (full4 t).2 = 0 then ({ TokS.zero with kind := 3, ref := (full4 t).1 }, n, 0)
  else if (full4 t).2 ≠ 4 then (TokS.zero, 0, (full4 t).2)
  else if nameB t = true then ({ TokS.zero with kind := 4, text := upB t }, n, 0)
  else (TokS.zero, 0, 4)
def opB : B := [43, 45, 42, 47, 94, 38, 61, 37, 60, 62]
def opN : B → Nat
  | b :: d :: _ => if d = 61 ∧ (b = 60 ∨ b = 62) ∨ b = 60 ∧ d = 62 then 2 else 1
  | _ => 1
def oneT (l : B) : TokS × Nat × Int :=
  match l with
  | [] => (TokS.zero, 0, 4)
  | b :: _ =>
    if isDig b = true then numT l
    else if b = 34 then textT l
    else if b = 35 then failT l
    else if isLet b = true ∨ b = 95 ∨ b = 36 ∨ b = 91 then nameT l
    else if hasB opB b = true then ({ TokS.zero with kind := 5, text := l.take (opN l) }, opN l, 0)
    else if b = 40 then ({ TokS.zero with kind := 6 }, 1, 0)
    else if b = 41 then ({ TokS.zero with kind := 7 }, 1, 0)
    else if b = 44 then ({ TokS.zero with kind := 8 }, 1, 0)
    else (TokS.zero, 0, 4)
/-- the tokens from a place on: so many bytes at most -/
def lexL : Nat → Nat → B → List TokS → List TokS × Int × Int
  | 0, _, _, acc => (acc, 0, 0)
  | _ + 1, _, [], acc => (acc, 0, 0)
  | k + 1, i, c :: r, acc =>
    if c = 32 then lexL k (i + 1) r acc
    else if (oneT (c :: r)).2.2 = 0 then lexL k (i + (oneT (c :: r)).2.1) ((c :: r).drop (oneT (c :: r)).2.1) (acc ++ [{ (oneT (c :: r)).1 with at_ := i }])
    else ([], i, (oneT (c :: r)).2.2)
def lexR (l : B) : List TokS × Int × Int := if 512 < l.length then ([], 0, 7) else lexL l.length 0 l []
def quoteB : B → B
  | [] => []
  | c :: r => if c = 34 then 34 :: 34 :: quoteB r else c :: quoteB r
def showT (t : TokS) : B :=
  if t.kind = 0 then text01 t.num
  else if t.kind = 1 then [34] ++ quoteB t.text ++ [34]
  else if t.kind = 2 then signsB t.fail
  else if t.kind = 3 then textR t.ref
  else if t.kind = 4 ∨ t.kind = 5 then t.text
  else if t.kind = 6 then [40]
  else if t.kind = 7 then [41]
  else if t.kind = 8 then [44]
  else []
def joinT : List TokS → B
  | [] => []
  | [t] => showT t
  | t :: u :: r => showT t ++ 32 :: joinT (u :: r)
end Go.Proofs.YtnmbpmomilehoaaGreatDoor

namespace Go.Proofs.YtnmbpmomilehoaaGreatDoor

def digS : B := [48, 49, 50, 51, 52, 53, 54, 55, 56, 57]
def letS : B := [65, 66, 67, 68, 69, 70, 71, 72, 73, 74, 75, 76, 77, 78, 79, 80, 81, 82, 83, 84, 85, 86, 87, 88, 89, 90, 97, 98, 99, 100, 101, 102, 103, 104, 105, 106, 107, 108, 109, 110, 111, 112, 113, 114, 115, 116, 117, 118, 119, 120, 121, 122]
def nameS : B := letS ++ digS ++ [95]
theorem ofNat_all {P : UInt8 → Prop} (h : ∀ n : Fin 256, P (UInt8.ofNat n.1)) (c : UInt8) : P c := by
  have := h ⟨c.toNat, c.toNat_lt⟩
  simpa using this
set_option maxRecDepth 100000 in
theorem hasB_dig (c : UInt8) : hasB digS c = isDig c := ofNat_all (P := fun c => hasB digS c = isDig c) (by decide) c
set_option maxRecDepth 100000 in
theorem hasB_let (c : UInt8) : hasB letS c = isLet c := ofNat_all (P := fun c => hasB letS c = isLet c) (by decide) c
theorem hasB_append (a b : B) (c : UInt8) : hasB (a ++ b) c = (hasB a c || hasB b c) := by
  induction a with
  | nil => rfl
  | cons d r ih => rw [List.cons_append, hasB, hasB]; split <;> simp [ih]
set_option maxRecDepth 100000 in
theorem hasB_name (c : UInt8) : hasB nameS c = (isLet c || decide ((c.toNat : Int) = 95) || isDig c) := by
  rw [nameS, hasB_append, hasB_append, hasB_dig, hasB_let]
  have : hasB [95] c = decide ((c.toNat : Int) = 95) := ofNat_all (P := fun c => hasB [95] c = decide ((c.toNat : Int) = 95)) (by decide) c
  rw [this, Bool.or_assoc, Bool.or_assoc, Bool.or_comm (isDig c)]
theorem spanK_all (p : UInt8 → Bool) (l : B) : decide (spanK p l = l.length) = l.all p := by
  induction l with
  | nil => rfl
  | cons c r ih =>
    rw [List.all_cons, ← ih, spanK]
    cases h : p c
    · simp
    · simp
theorem spanK_none (p : UInt8 → Bool) (l : B) : decide (spanK p l = 0) = !(match l with | [] => false | c :: _ => p c) := by
  cases l with
  | nil => rfl
  | cons c r => rw [spanK]; cases h : p c <;> simp [h]
theorem nameL_all (l : B) : nameL l false = l.all (hasB nameS) := by
  induction l with
  | nil => rfl
  | cons c r ih => rw [nameL, List.all_cons, ih, hasB_name, nameC]; simp
theorem nameB_run (l : B) : nameB l = (decide (1 ≤ l.length ∧ l.length ≤ 16) && decide (spanK (hasB nameS) l = l.length) && decide (spanK (hasB digS) l = 0)) := by
  rw [spanK_all, spanK_none, nameB, Bool.and_assoc]
  congr 1
  cases l with
  | nil => rfl
  | cons c r =>
    rw [nameL, List.all_cons, nameL_all, hasB_name]
    show (nameC c true && r.all (hasB nameS)) = (((isLet c || decide ((c.toNat : Int) = 95) || isDig c) && r.all (hasB nameS)) && !hasB digS c)
    rw [hasB_dig, nameC]
    cases hd : isDig c with
    | false => cases r.all (hasB nameS) <;> cases isLet c <;> cases decide ((c.toNat : Int) = 95) <;> rfl
    | true =>
      have hb := isDig_bd hd
      have h1 : isLet c = false := by unfold isLet; rw [decide_eq_false_iff_not]; omega
      have h2 : decide ((c.toNat : Int) = 95) = false := decide_eq_false (by omega)
      rw [h1, h2]; cases r.all (hasB nameS) <;> rfl
theorem nameS_low : ∀ c ∈ nameS, c.toNat < 128 := by decide
theorem digS_low : ∀ c ∈ digS, c.toNat < 128 := by decide
/-- a text around the first place of a byte -/
def cutAt (l : B) (c : UInt8) : B × B × Bool :=
  match idxB l c with
  | none => (l, [], false)
  | some i => (l.take i, l.drop (i + 1), true)
end Go.Proofs.YtnmbpmomilehoaaGreatDoor

namespace Go.Proofs.YtnmbpmomilehoaaGreatDoor

def digV (c : UInt8) : Nat := c.toNat - 48
def valD (acc : Nat) (l : B) : Nat := l.foldl (fun a c => a * 10 + digV c) acc
theorem valD_cons (acc : Nat) (c : UInt8) (r : B) : valD acc (c :: r) = valD (acc * 10 + (c.toNat - 48)) r := by
  unfold valD; rw [List.foldl_cons]; rfl
theorem decFrom_dig (l : B) (acc : Nat) (h : l.all isDig = true) : Lib.decFrom acc l = some (valD acc l) := by
  induction l generalizing acc with
  | nil => rfl
  | cons c r ih =>
    rw [List.all_cons, Bool.and_eq_true] at h
    have hc := isDig_bd h.1
    have hv : Lib.digitVal c = some (c.toNat - 48) := by unfold Lib.digitVal; rw [if_pos (by omega)]
    rw [Lib.decFrom, hv, valD_cons]
    exact ih _ h.2
theorem atoi_dig (l : B) (h : l.all isDig = true) (h0 : l ≠ []) : Lib.atoi l = some ((valD 0 l : Nat) : Int) := by
  cases l with
  | nil => exact absurd rfl h0
  | cons c r =>
    have hc := isDig_bd (by rw [List.all_cons, Bool.and_eq_true] at h; exact h.1)
    have h1 : ¬ (c == 45) = true := by intro e; have := beq_iff_eq.1 e; subst this; exact absurd hc.1 (by decide)
    have h2 : ¬ (c == 43) = true := by intro e; have := beq_iff_eq.1 e; subst this; exact absurd hc.1 (by decide)
    rw [Lib.atoi, if_neg h1, if_neg h2, Lib.decNat, if_neg (by simp), decFrom_dig _ _ h]; rfl
theorem valD_lt (l : B) (acc k : Nat) (h : l.all isDig = true) (ha : acc < 10 ^ k) : valD acc l < 10 ^ (k + l.length) := by
  induction l generalizing acc k with
  | nil => exact ha
  | cons c r ih =>
    rw [List.all_cons, Bool.and_eq_true] at h
    have hc := isDig_bd h.1
    rw [valD_cons]
    have := ih (acc * 10 + (c.toNat - 48)) (k + 1) h.2 (by rw [Nat.pow_succ]; omega)
    rw [List.length_cons]; rw [show k + (r.length + 1) = k + 1 + r.length by omega]; exact this
theorem parseM_dig (l : B) (acc k : Nat) (h : l.all isDig = true) (ha : acc < 10 ^ k) (hk : k + l.length ≤ 18) : Lib.parseUintM (2 ^ 64 - 1) acc l = .ok (valD acc l) := by
  induction l generalizing acc k with
  | nil => rfl
  | cons c r ih =>
    rw [List.all_cons, Bool.and_eq_true] at h
    rw [List.length_cons] at hk
    have hc := isDig_bd h.1
    have hp : (10 : Nat) ^ k ≤ 10 ^ 17 := Nat.pow_le_pow_right (by omega) (by omega)
    have hq : (10 : Nat) ^ 17 = 100000000000000000 := by decide
    rw [Lib.parseUintM, if_pos (by omega), if_neg (by omega), if_neg (by omega), valD_cons]
    exact ih _ (k + 1) h.2 (by rw [Nat.pow_succ]; omega) (by omega)
theorem parseB_dig (l : B) (h : l.all isDig = true) (h0 : l ≠ []) (hl : l.length ≤ 18) : Lib.parseUintB 64 l = .ok (valD 0 l) := by
  rw [Lib.parseUintB, if_neg h0]
  exact parseM_dig l 0 0 h (by simp) (by omega)
theorem rowR_dig (l : B) (acc : Nat) : rowR l (acc : Int) = if l.all isDig = true then some ((valD acc l : Nat) : Int) else none := by
  induction l generalizing acc with
  | nil => rfl
  | cons c r ih =>
    rw [rowR, List.all_cons]
    cases hd : isDig c with
    | false => rw [if_neg (by simp), if_neg (by simp)]
    | true =>
      have hc := isDig_bd hd
      rw [if_pos rfl, valD_cons, show (10 * (acc : Int) + ((c.toNat : Int) - 48)) = ((acc * 10 + (c.toNat - 48) : Nat) : Int) by omega, ih, Bool.true_and]
theorem numB_valD (l : B) (h : l.all isDig = true) : numB l = valD 0 l := by
  have key : ∀ (l : B) (acc : Nat), l.all isDig = true → ((valD acc l : Nat) : Int) = (acc : Int) * 10 ^ l.length + valL (dgs l) := by
    intro l
    induction l with
    | nil => intro acc _; simp [valD, dgs, valL]
    | cons c r ih =>
      intro acc h
      rw [List.all_cons, Bool.and_eq_true] at h
      have hc := isDig_bd h.1
      rw [valD_cons, ih _ h.2]
      have e : dgs (c :: r) = dgs r ++ [(c.toNat : Int) - 48] := by simp [dgs]
      have el : (dgs r).length = r.length := by simp [dgs]
      rw [e, valL_append, el, List.length_cons, Int.pow_succ]
      have : (((acc * 10 + (c.toNat - 48) : Nat)) : Int) = (acc : Int) * 10 + ((c.toNat : Int) - 48) := by omega
      rw [this, Int.add_mul]
      simp only [valL, Int.mul_zero, Int.add_zero]
      rw [Int.mul_comm ((10 : Int) ^ r.length) ((c.toNat : Int) - 48), Int.mul_assoc, Int.mul_comm 10 ((10 : Int) ^ r.length)]
      omega
  have := key l 0 h
  unfold numB
  rw [Int.natCast_zero, Int.zero_mul, Int.zero_add] at this
  omega

/-! a cell's name -/
theorem hasP_dol (l : B) : Lib.hasPrefix l [36] = (dolR l).1 := by
  cases l with
  | nil => rfl
  | cons c r =>
    simp only [Lib.hasPrefix, List.isPrefixOf, dolR]
    by_cases h : c = 36
    · subst h; rfl
    · have h2 : ¬ (c.toNat : Int) = 36 := fun e => h (UInt8.toNat_inj.1 (by show c.toNat = 36; omega))
      rw [if_neg h2]
      have : ¬ (36 : UInt8) = c := fun e => h e.symm
      simp [this]
theorem trimP_dol (l : B) : Lib.trimPrefix l [36] = (dolR l).2 := by
  rw [Lib.trimPrefix, hasP_dol, dolR_eq]; rfl
def colF (acc : Int) : B → Int
  | [] => acc
  | c :: r => colF (26 * acc + (upI c - 65) + 1) r
theorem letR_few (l : B) (m c : Int) (h : m + spanK isLet l ≤ 3) : letR l m c = (l.drop (spanK isLet l), m + spanK isLet l, colF c (l.take (spanK isLet l))) := by
  induction l generalizing m c with
  | nil => simp [letR, spanK, colF]
  | cons x r ih =>
    rw [spanK] at h ⊢
    cases hx : isLet x with
    | false =>
      rw [letR, if_neg (by simp [hx])]; simp [colF]
    | true =>
      rw [if_pos hx] at h
      rw [letR, if_pos ⟨by omega, hx⟩, ih _ _ (by omega)]
      simp only [if_true, List.drop_succ_cons, List.take_succ_cons, colF]
      congr 2
      omega
theorem letR_many (l : B) (m c : Int) (h : 4 ≤ m + spanK isLet l) (hm : m ≤ 4) : 3 < (letR l m c).2.1 := by
  induction l generalizing m c with
  | nil => simp [spanK] at h; simp [letR]; omega
  | cons x r ih =>
    rw [spanK] at h
    rw [letR]
    by_cases hc : m < 4 ∧ isLet x = true
    · rw [if_pos hc.2] at h
      rw [if_pos hc]
      exact ih _ _ (by omega) (by omega)
    · rw [if_neg hc]
      show 3 < m
      cases hx : isLet x with
      | false => rw [hx] at h; simp at h; omega
      | true => simp [hx] at hc; omega
/-- perhaps the sign of what is fixed, then from one to so many bytes of a set; what stands behind -/
def partR (p : UInt8 → Bool) (most : Nat) (l : B) : B × Bool × B × Bool :=
  let r := (dolR l).2
  let n := spanK p r
  if n < 1 ∨ most < n then ([], false, [], false) else (r.take n, (dolR l).1, r.drop n, true)
theorem partR_no {p : UInt8 → Bool} {most : Nat} {l : B} (h : spanK p (dolR l).2 < 1 ∨ most < spanK p (dolR l).2) : partR p most l = ([], false, [], false) := by unfold partR; simp only []; rw [if_pos h]
theorem partR_yes {p : UInt8 → Bool} {most : Nat} {l : B} (h : ¬ (spanK p (dolR l).2 < 1 ∨ most < spanK p (dolR l).2)) : partR p most l = ((dolR l).2.take (spanK p (dolR l).2), (dolR l).1, (dolR l).2.drop (spanK p (dolR l).2), true) := by unfold partR; simp only []; rw [if_neg h]
theorem spanK_take (p : UInt8 → Bool) (l : B) : (l.take (spanK p l)).all p = true := by
  induction l with
  | nil => rfl
  | cons c r ih =>
    rw [spanK]
    cases h : p c
    · rfl
    · simp [h, ih]
theorem spanK_drop (p : UInt8 → Bool) (l : B) : l.drop (spanK p l) = [] ↔ l.all p = true := by
  have := spanK_all p l
  have h2 := spanK_le p l
  rw [List.drop_eq_nil_iff]
  cases h : l.all p with
  | true => rw [h] at this; simp at this; simp; omega
  | false => rw [h] at this; simp at this; simp; omega
/-- the program's way to a cell -/
theorem ref1R_part (l : B) : ref1R l = 
    (let p := partR isLet 3 l
     let q := partR isDig 5 p.2.2.1
     if p.2.2.2 = false then (RefS.zero, false) else
     if q.2.2.2 = false ∨ q.2.2.1 ≠ [] ∨ noughtR q.1 = true then (RefS.zero, false) else
     (⟨colF 0 p.1 - 1, (valD 0 q.1 : Int) - 1, p.2.1, q.2.1⟩, true)) := by
  unfold ref1R
  simp only []
  by_cases h1 : spanK isLet (dolR l).2 < 1 ∨ 3 < spanK isLet (dolR l).2
  · rw [partR_no h1, if_pos rfl]
    rcases h1 with h1 | h1
    · rw [letR_few _ _ _ (by omega), if_pos (by left; simp only []; omega)]
    · rw [if_pos (.inr (letR_many _ _ _ (by omega) (by omega)))]
  · rw [partR_yes h1, letR_few _ _ _ (by omega)]
    simp only []
    rw [if_neg (by omega), if_neg (c := true = false) (by simp)]
    generalize hr : (dolR l).2.drop (spanK isLet (dolR l).2) = r
    have hd : (dolR r).2 ≠ [] → noughtR ((dolR r).2.take (spanK isDig (dolR r).2)) = true → noughtR (dolR r).2 = true := by
      intro _ h
      generalize (dolR r).2 = x at h ⊢
      cases x with
      | nil => simp [noughtR] at h
      | cons c t =>
        rw [spanK] at h
        split at h
        · simpa [noughtR] using h
        · simp [noughtR] at h
    have hd2 : noughtR (dolR r).2 = true → noughtR ((dolR r).2.take (spanK isDig (dolR r).2)) = true := by
      intro h
      generalize (dolR r).2 = x at h ⊢
      cases x with
      | nil => simp [noughtR] at h
      | cons c t =>
        simp only [noughtR, decide_eq_true_eq] at h
        rw [spanK, if_pos (by unfold isDig; rw [decide_eq_true_eq]; omega)]
        simpa [noughtR] using h
    by_cases h2 : spanK isDig (dolR r).2 < 1 ∨ 5 < spanK isDig (dolR r).2
    · rw [partR_no h2]
      rw [if_pos (Or.inl rfl)]
      split
      · rfl
      · rename_i h3
        have hn := spanK_all isDig (dolR r).2
        have h4 : ¬ (dolR r).2.all isDig = true := by
          intro e
          rw [e] at hn
          simp at hn
          omega
        have := rowR_dig (dolR r).2 0
        rw [if_neg h4] at this
        rw [show rowR (dolR r).2 0 = none from this]
    · rw [partR_yes h2]
      simp only []
      by_cases h5 : (dolR r).2.all isDig = true
      · have h6 := (spanK_drop isDig (dolR r).2).2 h5
        have h7 : spanK isDig (dolR r).2 = (dolR r).2.length := by have := spanK_all isDig (dolR r).2; rw [h5] at this; simpa using this
        have hrow := rowR_dig (dolR r).2 0
        rw [if_pos h5] at hrow
        rw [h7, List.take_length, List.drop_length]
        by_cases h8 : noughtR (dolR r).2 = true
        · rw [if_pos (.inr (.inr h8)), if_pos (.inr (.inr h8))]
        · rw [if_neg (by rw [h7] at h2; simp [h8]; omega), if_neg (by simp [h8]), show rowR (dolR r).2 0 = _ from hrow]
      · have h6 : (dolR r).2.drop (spanK isDig (dolR r).2) ≠ [] := fun e => h5 ((spanK_drop isDig (dolR r).2).1 e)
        rw [if_pos (c := _ ∨ _ ∨ _) (Or.inr (Or.inl h6))]
        split
        · rfl
        · have := rowR_dig (dolR r).2 0
          rw [if_neg h5] at this
          rw [show rowR (dolR r).2 0 = none from this]
end Go.Proofs.YtnmbpmomilehoaaGreatDoor

namespace Go.Proofs.YtnmbpmomilehoaaGreatDoor

theorem near_add (n X Y : Nat) (hY : 0 < Y) : nearR (n * Y + X) Y = n + nearR X Y := by
  unfold nearR
  rw [Nat.mul_comm n Y, Nat.mul_add_div hY, Nat.mul_add_mod, Nat.add_assoc]
theorem near_scale (c X Y : Nat) (hc : 0 < c) : nearR (c * X) (c * Y) = nearR X Y := by
  unfold nearR
  rw [Nat.mul_div_mul_left _ _ hc, Nat.mul_mod_mul_left]
  congr 1
  have e : 2 * (c * (X % Y)) = c * (2 * (X % Y)) := by rw [← Nat.mul_assoc, Nat.mul_comm 2 c, Nat.mul_assoc]
  rw [e]
  by_cases h : 2 * (X % Y) < Y
  · rw [if_pos h, if_pos (Nat.mul_lt_mul_of_pos_left h hc)]
  · rw [if_neg h, if_neg]
    have := Nat.mul_le_mul_left c (Nat.le_of_not_lt h)
    omega
theorem near_c (q r c : Nat) (h : r < c) : nearR (q * c + r) (10 * c) = (q + 5) / 10 := by
  have hb : q % 10 < 10 := Nat.mod_lt _ (by omega)
  have e : q * c + r = (10 * c) * (q / 10) + ((q % 10) * c + r) := by
    have h1 : q * c = (10 * (q / 10) + q % 10) * c := by rw [Nat.div_add_mod]
    rw [h1, Nat.add_mul, Nat.mul_right_comm, Nat.add_assoc]
  have h9 : (q % 10) * c ≤ 9 * c := Nat.mul_le_mul_right c (by omega)
  have hs : (q % 10) * c + r < 10 * c := by omega
  unfold nearR
  rw [e, Nat.mul_add_div (by omega), Nat.mul_add_mod, Nat.div_eq_of_lt hs, Nat.mod_eq_of_lt hs]
  by_cases h5 : q % 10 < 5
  · have h4 : (q % 10) * c ≤ 4 * c := Nat.mul_le_mul_right c (by omega)
    rw [if_pos (by omega)]; omega
  · have h4 : 5 * c ≤ (q % 10) * c := Nat.mul_le_mul_right c (by omega)
    rw [if_neg (by omega)]; omega
theorem valD_app (a b : B) (acc : Nat) : valD acc (a ++ b) = valD (valD acc a) b := by unfold valD; rw [List.foldl_append]
theorem valD_acc (l : B) (acc : Nat) : valD acc l = acc * 10 ^ l.length + valD 0 l := by
  induction l generalizing acc with
  | nil => simp [valD]
  | cons c r ih =>
    rw [valD_cons, valD_cons, ih, ih (0 * 10 + (c.toNat - 48)), List.length_cons, Nat.pow_succ, Nat.add_mul, Nat.zero_mul, Nat.zero_add, Nat.mul_assoc, Nat.mul_comm 10 (10 ^ r.length)]
    omega
theorem valD_zeros (k : Nat) : valD 0 (List.replicate k 48) = 0 := by
  induction k with
  | zero => rfl
  | succ k ih => rw [List.replicate_succ, valD_cons]; exact ih
/-- the five digits behind the full stop, as the program takes them -/
def fiveD (part : B) : B := (part ++ [48, 48, 48, 48, 48]).take 5
theorem fiveD_dig {part : B} (h : part.all isDig = true) : (fiveD part).all isDig = true := by
  rw [List.all_eq_true] at h ⊢
  intro c hc
  have := List.mem_of_mem_take hc
  rcases List.mem_append.1 this with h1 | h1
  · exact h c h1
  · simp at h1; subst h1; decide
theorem fiveD_len (part : B) : (fiveD part).length = 5 := by simp [fiveD]
theorem near_five (part : B) (h : part.all isDig = true) : nearR (valD 0 part * 10000) (10 ^ part.length) = (valD 0 (fiveD part) + 5) / 10 := by
  by_cases hk : part.length ≤ 5
  · have e : fiveD part = part ++ List.replicate (5 - part.length) 48 := by
      unfold fiveD
      rw [List.take_append, List.take_of_length_le hk]
      congr 1
      rcases (show part.length = 0 ∨ part.length = 1 ∨ part.length = 2 ∨ part.length = 3 ∨ part.length = 4 ∨ part.length = 5 by omega) with h | h | h | h | h | h <;> rw [h] <;> rfl
    rw [e, valD_app, valD_acc (List.replicate _ 48), valD_zeros, List.length_replicate, Nat.add_zero]
    have hp : 0 < 10 ^ (5 - part.length) := Nat.pow_pos (by omega)
    rw [← near_scale (10 ^ (5 - part.length)) _ _ hp, ← Nat.pow_add, show 5 - part.length + part.length = 5 by omega, ← Nat.mul_assoc, Nat.mul_comm (10 ^ (5 - part.length))]
    have := near_c (valD 0 part * 10 ^ (5 - part.length)) 0 10000 (by omega)
    rw [Nat.add_zero] at this
    exact this
  · have e : fiveD part = part.take 5 := by unfold fiveD; rw [List.take_append_of_le_length (by omega)]
    obtain ⟨j, hj⟩ : ∃ j, part.length = j + 5 := ⟨part.length - 5, by omega⟩
    have hdl : (part.drop 5).length = j := by rw [List.length_drop]; omega
    have e2 : valD 0 part = valD 0 (part.take 5) * 10 ^ j + valD 0 (part.drop 5) := by
      have h1 := List.take_append_drop 5 part
      have h2 := valD_app (part.take 5) (part.drop 5) 0
      rw [h1] at h2
      rw [h2, valD_acc, hdl]
    have h3 : valD 0 (part.drop 5) < 10 ^ j := by
      have := valD_lt (part.drop 5) 0 0 (by rw [List.all_eq_true] at h ⊢; exact fun c hc => h c (List.mem_of_mem_drop hc)) (by simp)
      rwa [Nat.zero_add, hdl] at this
    have e3 : (10 : Nat) ^ (j + 5) = 10000 * (10 * 10 ^ j) := by
      rw [Nat.pow_add, show (10 : Nat) ^ 5 = 100000 by decide]; omega
    rw [e, hj, Nat.mul_comm _ 10000, e3, near_scale 10000 _ _ (by omega), e2]
    exact near_c _ _ _ h3
theorem cutAt_dot (l : B) : cutAt l 46 = (l.take (dotN l), l.drop (dotN l + 1), decide (dotN l < l.length)) := by
  unfold cutAt
  have key : idxB l 46 = if dotN l < l.length then some (dotN l) else none := by
    induction l with
    | nil => rfl
    | cons c r ih =>
      rw [idxB, dotN]
      by_cases h : c = 46
      · subst h; simp
      · have h2 : ¬ (c.toNat : Int) = 46 := fun e => h (UInt8.toNat_inj.1 (by show c.toNat = 46; omega))
        rw [if_neg h, if_neg h2, ih]
        by_cases h3 : dotN r < r.length
        · rw [if_pos h3, if_pos (by rw [List.length_cons]; omega)]; rfl
        · rw [if_neg h3, if_neg (by rw [List.length_cons]; omega)]; rfl
  rw [key]
  have hl := dotN_le l
  by_cases h : dotN l < l.length
  · rw [if_pos h]; simp [h]
  · rw [if_neg h]
    have : dotN l = l.length := by omega
    simp [this]
/-- what the program reads -/
def parseP (below : Bool) (whole part : B) (point : Bool) : Int × Int :=
  if allR whole = true ∧ (point = true → allR part = true) then
    if 900000000000000 < valD 0 whole ∨ 9000000000000000000 < valD 0 whole * 10000 + (valD 0 (fiveD part) + 5) / 10 then (0, 5)
    else (if below = true then -((valD 0 whole * 10000 + (valD 0 (fiveD part) + 5) / 10 : Nat) : Int) else ((valD 0 whole * 10000 + (valD 0 (fiveD part) + 5) / 10 : Nat) : Int), 0)
  else (0, 4)
theorem parseP_eq (l : B) : parse01 l = parseP (dashF l) (cutAt (undash l) 46).1 (cutAt (undash l) 46).2.1 (cutAt (undash l) 46).2.2 := by
  rw [cutAt_dot]
  unfold parse01 parseP
  simp only [decide_eq_true_eq]
  show (if allR ((undash l).take (dotN (undash l))) = true ∧ (dotN (undash l) < (undash l).length → allR (partB (undash l)) = true) then _ else _) = if allR ((undash l).take (dotN (undash l))) = true ∧ (dotN (undash l) < (undash l).length → allR (partB (undash l)) = true) then _ else _
  split
  · rename_i h
    generalize hw : (undash l).take (dotN (undash l)) = whole at *
    have hp : (undash l).drop (dotN (undash l) + 1) = partB (undash l) := rfl
    rw [hp]
    have hd : (partB (undash l)).all isDig = true := by
      by_cases hc : dotN (undash l) < (undash l).length
      · have := h.2 hc
        simp only [allR, Bool.and_eq_true] at this; exact this.2
      · have : partB (undash l) = [] := by unfold partB; rw [List.drop_eq_nil_iff]; omega
        rw [this]; rfl
    generalize partB (undash l) = part at *
    have hwd : whole.all isDig = true := by have := h.1; simp only [allR, Bool.and_eq_true] at this; exact this.2
    have e1 : numB (whole ++ part) = valD 0 whole * 10 ^ part.length + valD 0 part := by
      rw [numB_valD _ (by rw [List.all_append, hwd, hd]; rfl), valD_app, valD_acc]
    rw [e1, Nat.add_mul, Nat.mul_right_comm, near_add _ _ _ (Nat.pow_pos (by omega)), near_five part hd]
    unfold numR
    have hm : (valD 0 (fiveD part) + 5) / 10 < 100000 := by
      have := valD_lt (fiveD part) 0 0 (fiveD_dig hd) (by simp)
      rw [fiveD_len] at this
      have h5 : (10 : Nat) ^ (0 + 5) = 100000 := by decide
      omega
    by_cases hc : 9000000000000000000 < valD 0 whole * 10000 + (valD 0 (fiveD part) + 5) / 10
    · rw [if_pos hc, if_pos (.inr hc)]
    · rw [if_neg hc, if_neg (c := _ ∨ _) (by omega)]
  · rfl
theorem hasP_dash (l : B) : Lib.hasPrefix l [45] = dashF l := by
  cases l with
  | nil => rfl
  | cons c r =>
    simp only [Lib.hasPrefix, List.isPrefixOf, dashF]
    by_cases h : c = 45
    · subst h; rfl
    · have h2 : ¬ (c.toNat : Int) = 45 := fun e => h (UInt8.toNat_inj.1 (by show c.toNat = 45; omega))
      have : ¬ (45 : UInt8) = c := fun e => h e.symm
      rw [beq_false_of_ne this, beq_false_of_ne h2]; rfl
theorem trimP_dash (l : B) : Lib.trimPrefix l [45] = undash l := by rw [Lib.trimPrefix, hasP_dash]; rfl
theorem dropW_nil (p : UInt8 → Bool) (l : B) : l.dropWhile p = [] ↔ ∀ x ∈ l, p x = true := by
  induction l with
  | nil => simp
  | cons c r ih =>
    rw [List.dropWhile_cons]
    cases h : p c
    · simp [h]
    · simp [h, ih]
theorem takeW_mem {p : UInt8 → Bool} {l : B} {c : UInt8} (h : c ∈ l.takeWhile p) : p c = true := by
  induction l with
  | nil => simp at h
  | cons d r ih =>
    rw [List.takeWhile_cons] at h
    cases hd : p d
    · simp [hd] at h
    · simp only [hd, if_true, List.mem_cons] at h
      rcases h with rfl | h
      · exact hd
      · exact ih h
theorem trimS_nil (l cs : B) : Lib.trimS l cs = [] ↔ l.all (cs.contains ·) = true := by
  unfold Lib.trimS Lib.trimLeftS Lib.trimRightS
  rw [dropW_nil]
  rw [List.all_eq_true]
  constructor
  · intro h c hc
    have h1 := List.takeWhile_append_dropWhile (p := (cs.contains ·)) (l := l.reverse)
    have h2 : c ∈ l.reverse := List.mem_reverse.2 hc
    rw [← h1] at h2
    rcases List.mem_append.1 h2 with h3 | h3
    · exact takeW_mem (p := (cs.contains ·)) h3
    · exact h c (List.mem_reverse.2 h3)
  · intro h c hc
    exact h c (List.mem_reverse.1 ((List.dropWhile_sublist _).subset (List.mem_reverse.1 hc)))
set_option maxRecDepth 100000 in
theorem contains_dig (c : UInt8) : digS.contains c = isDig c := ofNat_all (P := fun c => digS.contains c = isDig c) (by decide) c
theorem trimS_dig (l : B) : (Lib.trimS l digS).isEmpty = l.all isDig := by
  rw [Bool.eq_iff_iff, List.isEmpty_iff, trimS_nil, show (fun c => digS.contains c) = isDig from funext contains_dig]
end Go.Proofs.YtnmbpmomilehoaaGreatDoor

namespace Go.Proofs.YtnmbpmomilehoaaGreatDoor


theorem skip_sp (k : Nat) (i : Nat) (l : B) (acc : List TokS) (h : l.length ≤ k) : lexL k i l acc = lexL (k - spanK spC l) (i + spanK spC l) (l.drop (spanK spC l)) acc := by
  induction l generalizing k i with
  | nil => simp [spanK]
  | cons c r ih =>
    rw [spanK]
    cases hc : spC c with
    | false => simp
    | true =>
      cases k with
      | zero => simp at h
      | succ k =>
        have hc2 : c = 32 := of_decide_eq_true hc
        rw [lexL, if_pos hc2, ih k (i + 1) (by simp at h; omega)]
        simp only [if_true, List.drop_succ_cons]
        congr 1 <;> omega
theorem drop_ne (l : B) (c : UInt8) (r : B) (h : l.drop (spanK spC l) = c :: r) : c ≠ 32 := by
  induction l with
  | nil => simp [spanK] at h
  | cons d q ih =>
    rw [spanK] at h
    cases hd : spC d with
    | false =>
      simp [hd] at h
      intro e; subst e
      obtain ⟨rfl, _⟩ := h
      simp [spC] at hd
    | true =>
      simp only [hd, if_true, List.drop_succ_cons] at h
      exact ih h
theorem lexL_yes {k i : Nat} {c : UInt8} {r : B} {acc : List TokS} (hc : c ≠ 32) (h : (oneT (c :: r)).2.2 = 0) : lexL (k + 1) i (c :: r) acc = lexL k (i + (oneT (c :: r)).2.1) ((c :: r).drop (oneT (c :: r)).2.1) (acc ++ [{ (oneT (c :: r)).1 with at_ := i }]) := by
  rw [lexL, if_neg hc, if_pos h]
theorem lexL_no {k i : Nat} {c : UInt8} {r : B} {acc : List TokS} (hc : c ≠ 32) (h : (oneT (c :: r)).2.2 ≠ 0) : lexL (k + 1) i (c :: r) acc = ([], (i : Int), (oneT (c :: r)).2.2) := by
  rw [lexL, if_neg hc, if_neg h]
theorem lexL_nil (k i : Nat) (acc : List TokS) : lexL k i [] acc = (acc, 0, 0) := by cases k <;> rfl
end Go.Proofs.YtnmbpmomilehoaaGreatDoor

namespace Go.Proofs.YtnmbpmomilehoaaGreatDoor

theorem textGo_len (n : Nat) : ∀ (q b r : B), q.length ≤ n → textGo q = some (b, r) → r.length < q.length := by
  induction n with
  | zero =>
    intro q b r hq h
    cases q with
    | nil => simp [textGo] at h
    | cons c t => simp at hq
  | succ n ih =>
    intro q b r hq h
    match q with
    | [] => simp [textGo] at h
    | [c] =>
      simp only [textGo] at h
      split at h
      · simp only [Option.some.injEq, Prod.mk.injEq] at h
        obtain ⟨_, rfl⟩ := h
        simp
      · cases h
    | c :: d :: t =>
      simp only [textGo] at h
      simp only [List.length_cons] at hq ⊢
      split at h
      · split at h
        · cases ht : textGo t with
          | none => simp [ht] at h
          | some p =>
            simp only [ht, Option.map_some, Option.some.injEq, Prod.mk.injEq] at h
            obtain ⟨_, rfl⟩ := h
            have := ih t p.1 p.2 (by omega) ht
            omega
        · simp only [Option.some.injEq, Prod.mk.injEq] at h
          obtain ⟨_, rfl⟩ := h
          simp
      · cases ht : textGo (d :: t) with
        | none => simp [ht] at h
        | some p =>
          simp only [ht, Option.map_some, Option.some.injEq, Prod.mk.injEq] at h
          obtain ⟨_, rfl⟩ := h
          have := ih (d :: t) p.1 p.2 (by simp; omega) ht
          simp only [List.length_cons] at this
          omega
theorem textT_pos (l : B) (h : (textT l).2.2 = 0) (_h1 : l ≠ []) : 1 ≤ (textT l).2.1 := by
  unfold textT at h ⊢
  cases ht : textGo (l.drop 1) with
  | none => rw [ht] at h; simp at h
  | some p =>
    obtain ⟨b, r⟩ := p
    rw [ht] at h
    simp only [] at h ⊢
    split at h
    · simp at h
    · rename_i hb
      rw [if_neg hb]
      have := textGo_len _ _ _ _ (Nat.le_refl _) ht
      rw [List.length_drop] at this
      show 1 ≤ l.length - r.length
      omega
end Go.Proofs.YtnmbpmomilehoaaGreatDoor

namespace Go.Proofs.YtnmbpmomilehoaaGreatDoor
theorem decR_len (n : Nat) (h : n < 10000) : (decR n).length ≤ 4 := by
  unfold decR; split
  · simp
  · unfold decR; split
    · simp
    · unfold decR; split
      · simp
      · unfold decR; rw [if_pos (by omega)]; simp
theorem colsR_len (n : Int) : (colsR n).length ≤ 2 := by unfold colsR; split <;> simp
end Go.Proofs.YtnmbpmomilehoaaGreatDoor
