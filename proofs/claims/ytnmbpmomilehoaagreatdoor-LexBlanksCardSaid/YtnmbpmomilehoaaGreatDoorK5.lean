/-
  Part 5 of what the proof stands on: P12, L2, L3, L4, L5, L6, L6b.
-/
import Derived.Lib.Builder
import Derived.Lib.AppendStr
import Derived.Lib.UnsafeStr
import Derived.Shelf.Strings.Builder1
import Derived.Test.YtnmbpmomilehoaaGreatDoorK4
import Derived.Test.YtnmbpmomilehoaaGreatDoorK3
namespace Go.Proofs.YtnmbpmomilehoaaGreatDoor
open Go.RowKit

theorem cutAt_lens (l : B) (c : UInt8) : (cutAt l c).1.length ≤ l.length ∧ (cutAt l c).2.1.length ≤ l.length := by
  unfold cutAt
  split
  · simp
  · simp only [List.length_take, List.length_drop]; omega
theorem allR_bds {l : B} (h : allR l = true) : (1 ≤ l.length ∧ l.length ≤ 18) ∧ l.all isDig = true := by
  simp only [allR, Bool.and_eq_true, decide_eq_true_eq] at h; exact h
theorem undash_len (l : B) : (undash l).length ≤ l.length := by unfold undash; split <;> simp
set_option maxRecDepth 100000 in
set_option maxHeartbeats 3200000 in
theorem fx_Parse (l : B) (w : World) (hs : l.length ≤ 1000000) (hG : Glob w) : Calls Tryz.prog 62 #[.string (mkB l)] w fun e w' => e = .returned (.tuple #[.int .i64 (parse01 l).1, .int .i64 (parse01 l).2]) ∧ Below w.heap.size w w' := by
  have hms := mkB_size; have hma := mkB_append; have hmx := mkB_extract; have hmt := mkB_toList; have hmtl := subB_tail; have hmhd := subB_head
  have k1 : (⟨#[45]⟩ : ByteArray) = mkB [45] := rfl
  have k2 : (⟨#[46]⟩ : ByteArray) = mkB [46] := rfl
  have k3 : (⟨#[48, 48, 48, 48, 48]⟩ : ByteArray) = mkB [48, 48, 48, 48, 48] := rfl
  have hz := parseP_eq l
  have hul := undash_len l
  obtain ⟨t, hu⟩ : ∃ t, t = undash l := ⟨_, rfl⟩
  rw [← hu] at hz hul
  have HU := Lib.hid hu
  have ht : t.length ≤ 1000000 := by omega
  have hlen := cutAt_lens t 46
  have hdot := cutAt_dot t
  clear hu
  obtain ⟨⟨whole, part, point⟩, hc⟩ : ∃ x, x = cutAt t 46 := ⟨_, rfl⟩
  rw [← hc] at hz hlen hdot
  have HC := Lib.hid hc
  clear hc
  simp only [] at hz hlen
  have hw : whole.length ≤ 1000000 := by omega
  have hp : part.length ≤ 1000000 := by omega
  have hnp : point = false → part = [] := by
    intro e
    simp only [Prod.mk.injEq] at hdot
    obtain ⟨_, h2, h3⟩ := hdot
    rw [e] at h3
    have := of_decide_eq_false h3.symm
    rw [h2, List.drop_eq_nil_iff]; omega
  clear hlen hdot hul
  obtain ⟨below, hb⟩ : ∃ b, dashF l = b := ⟨_, rfl⟩
  rw [hb] at hz
  cases hrw : allR whole with
  | false =>
    have HZ := Lib.hid (show parse01 l = (0, 4) by rw [hz, parseP, if_neg (by simp [hrw])])
    clear hz hnp
    go_enter Tryz.func62, Tryz.ntmps62
    go_wp2_with (first | (go_at_call 64; refine (s_CutPrefix l [45] _).mono ?_; rw [trimP_dash, hasP_dash, ← HU.out, hb]; rintro e w' ⟨rfl, rfl⟩) | (go_at_call 63; refine (s_Cut t 46 _ ht hG).mono ?_; rw [← HC.out]; rintro e w1 ⟨rfl, hb_w1⟩) | (go_at_call_of 95 (Value.string (mkB whole)); refine (fx_run whole _ hw).mono ?_; rw [hrw]; rintro e w2 ⟨rfl, hb_w2⟩) | (go_at_call_of 95 (Value.string (mkB part)); refine (fx_run part _ hp).mono ?_; rw [hrp]; rintro e w3 ⟨rfl, hb_w3⟩) | (go_at_call_of 96 (Value.string (mkB whole)); refine (s_ParseUint whole N hw HP1.out _).mono ?_; rintro e w4 ⟨rfl, hb_w4⟩) | (go_at_call 96; refine (s_ParseUint (fiveD part) M (by rw [fiveD_len]; omega) HP2.out _).mono ?_; rintro e w5 ⟨rfl, hb_w5⟩))
    go_ret2
    exact ⟨by rw [HZ.out]; rfl, (by repeat (first | exact Below.refl _ _ | assumption | apply bel_drew | apply bel_drewN | apply bel_alloc | (refine bel_set ?_ (by first | (simp; done) | omega) _) | (refine Bel.trans ?_ (by assumption))))⟩
  | true =>
    have hwb := allR_bds hrw
    by_cases hbad : point = true ∧ allR part = false
    · obtain ⟨rfl, hrp⟩ := hbad
      have HZ := Lib.hid (show parse01 l = (0, 4) by rw [hz, parseP, if_neg (by simp [hrp])])
      clear hz hnp hwb
      go_enter Tryz.func62, Tryz.ntmps62
      go_wp2_with (first | (go_at_call 64; refine (s_CutPrefix l [45] _).mono ?_; rw [trimP_dash, hasP_dash, ← HU.out, hb]; rintro e w' ⟨rfl, rfl⟩) | (go_at_call 63; refine (s_Cut t 46 _ ht hG).mono ?_; rw [← HC.out]; rintro e w1 ⟨rfl, hb_w1⟩) | (go_at_call_of 95 (Value.string (mkB whole)); refine (fx_run whole _ hw).mono ?_; rw [hrw]; rintro e w2 ⟨rfl, hb_w2⟩) | (go_at_call_of 95 (Value.string (mkB part)); refine (fx_run part _ hp).mono ?_; rw [hrp]; rintro e w3 ⟨rfl, hb_w3⟩) | (go_at_call_of 96 (Value.string (mkB whole)); refine (s_ParseUint whole N hw HP1.out _).mono ?_; rintro e w4 ⟨rfl, hb_w4⟩) | (go_at_call 96; refine (s_ParseUint (fiveD part) M (by rw [fiveD_len]; omega) HP2.out _).mono ?_; rintro e w5 ⟨rfl, hb_w5⟩))
      go_ret2
      exact ⟨by rw [HZ.out]; rfl, (by repeat (first | exact Below.refl _ _ | assumption | apply bel_drew | apply bel_drewN | apply bel_alloc | (refine bel_set ?_ (by first | (simp; done) | omega) _) | (refine Bel.trans ?_ (by assumption))))⟩
    · have hok : point = true → allR part = true := by
        intro e
        cases h : allR part with
        | true => rfl
        | false => exact absurd ⟨e, h⟩ hbad
      clear hbad
      have hpd : part.all isDig = true := by
        cases hpt : point with
        | true => exact (allR_bds (hok hpt)).2
        | false => rw [hnp hpt]; rfl
      have HP1 := Lib.hid (parseB_dig whole hwb.2 (fun e => by subst e; simp at hwb) hwb.1.2)
      have HP2 := Lib.hid (parseB_dig (fiveD part) (fiveD_dig hpd) (fun e => by have := fiveD_len part; rw [e] at this; simp at this) (by rw [fiveD_len]; omega))
      have hN0 := valD_lt whole 0 0 hwb.2 (by simp)
      have hM0 := valD_lt (fiveD part) 0 0 (fiveD_dig hpd) (by simp)
      rw [fiveD_len] at hM0
      have h5 : (10 : Nat) ^ (0 + 5) = 100000 := by decide
      have h18 : (10 : Nat) ^ (0 + whole.length) ≤ 10 ^ 18 := Nat.pow_le_pow_right (by omega) (by omega)
      have h18b : (10 : Nat) ^ 18 = 1000000000000000000 := by decide
      rw [parseP, if_pos ⟨hrw, hok⟩] at hz
      have hz2 := hz
      clear hz
      obtain ⟨N, hN⟩ : ∃ N, N = valD 0 whole := ⟨_, rfl⟩
      obtain ⟨M, hM⟩ : ∃ M, M = valD 0 (fiveD part) := ⟨_, rfl⟩
      rw [← hN] at hN0 hz2 HP1
      rw [← hM] at hM0 hz2 HP2
      have hN1 : N < 1000000000000000000 := by omega
      have hM1 : M < 100000 := by omega
      clear hN0 hM0 h5 h18 h18b hN hM hpd hwb
      have hrp : point = true → allR part = true := hok
      clear hok
      have hl5 : (5 : Int) ≤ ((part ++ [48, 48, 48, 48, 48]).length : Int) := by simp; omega
      by_cases h1 : 900000000000000 < N
      · have HZ := Lib.hid (show parse01 l = (0, 5) by rw [hz2, if_pos (.inl h1)])
        clear hz2
        clear hnp
        cases point with
        | false =>
          clear hrp
          go_enter Tryz.func62, Tryz.ntmps62
          go_wp2_with (first | (go_at_call 64; refine (s_CutPrefix l [45] _).mono ?_; rw [trimP_dash, hasP_dash, ← HU.out, hb]; rintro e w' ⟨rfl, rfl⟩) | (go_at_call 63; refine (s_Cut t 46 _ ht hG).mono ?_; rw [← HC.out]; rintro e w1 ⟨rfl, hb_w1⟩) | (go_at_call_of 95 (Value.string (mkB whole)); refine (fx_run whole _ hw).mono ?_; rw [hrw]; rintro e w2 ⟨rfl, hb_w2⟩) | (go_at_call_of 95 (Value.string (mkB part)); refine (fx_run part _ hp).mono ?_; rw [hrp]; rintro e w3 ⟨rfl, hb_w3⟩) | (go_at_call_of 96 (Value.string (mkB whole)); refine (s_ParseUint whole N hw HP1.out _).mono ?_; rintro e w4 ⟨rfl, hb_w4⟩) | (go_at_call 96; refine (s_ParseUint (fiveD part) M (by rw [fiveD_len]; omega) HP2.out _).mono ?_; rintro e w5 ⟨rfl, hb_w5⟩))
          go_ret2
          exact ⟨by rw [HZ.out]; rfl, (by repeat (first | exact Below.refl _ _ | assumption | apply bel_drew | apply bel_drewN | apply bel_alloc | (refine bel_set ?_ (by first | (simp; done) | omega) _) | (refine Bel.trans ?_ (by assumption))))⟩
        | true =>
          replace hrp := hrp rfl
          go_enter Tryz.func62, Tryz.ntmps62
          go_wp2_with (first | (go_at_call 64; refine (s_CutPrefix l [45] _).mono ?_; rw [trimP_dash, hasP_dash, ← HU.out, hb]; rintro e w' ⟨rfl, rfl⟩) | (go_at_call 63; refine (s_Cut t 46 _ ht hG).mono ?_; rw [← HC.out]; rintro e w1 ⟨rfl, hb_w1⟩) | (go_at_call_of 95 (Value.string (mkB whole)); refine (fx_run whole _ hw).mono ?_; rw [hrw]; rintro e w2 ⟨rfl, hb_w2⟩) | (go_at_call_of 95 (Value.string (mkB part)); refine (fx_run part _ hp).mono ?_; rw [hrp]; rintro e w3 ⟨rfl, hb_w3⟩) | (go_at_call_of 96 (Value.string (mkB whole)); refine (s_ParseUint whole N hw HP1.out _).mono ?_; rintro e w4 ⟨rfl, hb_w4⟩) | (go_at_call 96; refine (s_ParseUint (fiveD part) M (by rw [fiveD_len]; omega) HP2.out _).mono ?_; rintro e w5 ⟨rfl, hb_w5⟩))
          go_ret2
          exact ⟨by rw [HZ.out]; rfl, (by repeat (first | exact Below.refl _ _ | assumption | apply bel_drew | apply bel_drewN | apply bel_alloc | (refine bel_set ?_ (by first | (simp; done) | omega) _) | (refine Bel.trans ?_ (by assumption))))⟩
      · by_cases h2 : 9000000000000000000 < N * 10000 + (M + 5) / 10
        · have HZ := Lib.hid (show parse01 l = (0, 5) by rw [hz2, if_pos (.inr h2)])
          clear hz2 hnp
          cases point with
          | false =>
            clear hrp
            go_enter Tryz.func62, Tryz.ntmps62
            go_wp2_with (first | (go_at_call 64; refine (s_CutPrefix l [45] _).mono ?_; rw [trimP_dash, hasP_dash, ← HU.out, hb]; rintro e w' ⟨rfl, rfl⟩) | (go_at_call 63; refine (s_Cut t 46 _ ht hG).mono ?_; rw [← HC.out]; rintro e w1 ⟨rfl, hb_w1⟩) | (go_at_call_of 95 (Value.string (mkB whole)); refine (fx_run whole _ hw).mono ?_; rw [hrw]; rintro e w2 ⟨rfl, hb_w2⟩) | (go_at_call_of 95 (Value.string (mkB part)); refine (fx_run part _ hp).mono ?_; rw [hrp]; rintro e w3 ⟨rfl, hb_w3⟩) | (go_at_call_of 96 (Value.string (mkB whole)); refine (s_ParseUint whole N hw HP1.out _).mono ?_; rintro e w4 ⟨rfl, hb_w4⟩) | (go_at_call 96; refine (s_ParseUint (fiveD part) M (by rw [fiveD_len]; omega) HP2.out _).mono ?_; rintro e w5 ⟨rfl, hb_w5⟩))
            go_ret2
            exact ⟨by rw [HZ.out]; rfl, (by repeat (first | exact Below.refl _ _ | assumption | apply bel_drew | apply bel_drewN | apply bel_alloc | (refine bel_set ?_ (by first | (simp; done) | omega) _) | (refine Bel.trans ?_ (by assumption))))⟩
          | true =>
            replace hrp := hrp rfl
            go_enter Tryz.func62, Tryz.ntmps62
            go_wp2_with (first | (go_at_call 64; refine (s_CutPrefix l [45] _).mono ?_; rw [trimP_dash, hasP_dash, ← HU.out, hb]; rintro e w' ⟨rfl, rfl⟩) | (go_at_call 63; refine (s_Cut t 46 _ ht hG).mono ?_; rw [← HC.out]; rintro e w1 ⟨rfl, hb_w1⟩) | (go_at_call_of 95 (Value.string (mkB whole)); refine (fx_run whole _ hw).mono ?_; rw [hrw]; rintro e w2 ⟨rfl, hb_w2⟩) | (go_at_call_of 95 (Value.string (mkB part)); refine (fx_run part _ hp).mono ?_; rw [hrp]; rintro e w3 ⟨rfl, hb_w3⟩) | (go_at_call_of 96 (Value.string (mkB whole)); refine (s_ParseUint whole N hw HP1.out _).mono ?_; rintro e w4 ⟨rfl, hb_w4⟩) | (go_at_call 96; refine (s_ParseUint (fiveD part) M (by rw [fiveD_len]; omega) HP2.out _).mono ?_; rintro e w5 ⟨rfl, hb_w5⟩))
            go_ret2
            exact ⟨by rw [HZ.out]; rfl, (by repeat (first | exact Below.refl _ _ | assumption | apply bel_drew | apply bel_drewN | apply bel_alloc | (refine bel_set ?_ (by first | (simp; done) | omega) _) | (refine Bel.trans ?_ (by assumption))))⟩
        · have HZ := Lib.hid (show parse01 l = _ by rw [hz2, if_neg (by omega)])
          clear hz2 hnp
          cases point with
          | false =>
            clear hrp
            cases below
            all_goals
              go_enter Tryz.func62, Tryz.ntmps62
              go_wp2_with (first | (go_at_call 64; refine (s_CutPrefix l [45] _).mono ?_; rw [trimP_dash, hasP_dash, ← HU.out, hb]; rintro e w' ⟨rfl, rfl⟩) | (go_at_call 63; refine (s_Cut t 46 _ ht hG).mono ?_; rw [← HC.out]; rintro e w1 ⟨rfl, hb_w1⟩) | (go_at_call_of 95 (Value.string (mkB whole)); refine (fx_run whole _ hw).mono ?_; rw [hrw]; rintro e w2 ⟨rfl, hb_w2⟩) | (go_at_call_of 95 (Value.string (mkB part)); refine (fx_run part _ hp).mono ?_; rw [hrp]; rintro e w3 ⟨rfl, hb_w3⟩) | (go_at_call_of 96 (Value.string (mkB whole)); refine (s_ParseUint whole N hw HP1.out _).mono ?_; rintro e w4 ⟨rfl, hb_w4⟩) | (go_at_call 96; refine (s_ParseUint (fiveD part) M (by rw [fiveD_len]; omega) HP2.out _).mono ?_; rintro e w5 ⟨rfl, hb_w5⟩))
              go_ret2
              refine ⟨?_, (by repeat (first | exact Below.refl _ _ | assumption | apply bel_drew | apply bel_drewN | apply bel_alloc | (refine bel_set ?_ (by first | (simp; done) | omega) _) | (refine Bel.trans ?_ (by assumption))))⟩
              rw [HZ.out]
              exact ret2 (vi (by simp; try omega)) rfl
          | true =>
            replace hrp := hrp rfl
            cases below
            all_goals
              go_enter Tryz.func62, Tryz.ntmps62
              go_wp2_with (first | (go_at_call 64; refine (s_CutPrefix l [45] _).mono ?_; rw [trimP_dash, hasP_dash, ← HU.out, hb]; rintro e w' ⟨rfl, rfl⟩) | (go_at_call 63; refine (s_Cut t 46 _ ht hG).mono ?_; rw [← HC.out]; rintro e w1 ⟨rfl, hb_w1⟩) | (go_at_call_of 95 (Value.string (mkB whole)); refine (fx_run whole _ hw).mono ?_; rw [hrw]; rintro e w2 ⟨rfl, hb_w2⟩) | (go_at_call_of 95 (Value.string (mkB part)); refine (fx_run part _ hp).mono ?_; rw [hrp]; rintro e w3 ⟨rfl, hb_w3⟩) | (go_at_call_of 96 (Value.string (mkB whole)); refine (s_ParseUint whole N hw HP1.out _).mono ?_; rintro e w4 ⟨rfl, hb_w4⟩) | (go_at_call 96; refine (s_ParseUint (fiveD part) M (by rw [fiveD_len]; omega) HP2.out _).mono ?_; rintro e w5 ⟨rfl, hb_w5⟩))
              go_ret2
              refine ⟨?_, (by repeat (first | exact Below.refl _ _ | assumption | apply bel_drew | apply bel_drewN | apply bel_alloc | (refine bel_set ?_ (by first | (simp; done) | omega) _) | (refine Bel.trans ?_ (by assumption))))⟩
              rw [HZ.out]
              exact ret2 (vi (by simp; try omega)) rfl
end Go.Proofs.YtnmbpmomilehoaaGreatDoor

namespace Go.Proofs.YtnmbpmomilehoaaGreatDoor
open Go.RowKit

/-- what a step leaves -/
structure After (w w' : World) (B0 g : Nat) (l : B) (at_ : Nat) (v : Value) (ts : List TokS) (T : TokS × Nat × Int) : Prop where
  bel : Below B0 w w'
  yes : T.2.2 = 0 → ∃ v', Scan w' B0 g l (at_ + T.2.1) v' (ts ++ [{ T.1 with at_ := at_ }])
  no : T.2.2 ≠ 0 → Scan w' B0 g l at_ v ts
theorem Scan.le {w : World} {B0 g at_ : Nat} {l : B} {v : Value} {ts : List TokS} (h : Scan w B0 g l at_ v ts) : B0 ≤ w.heap.size := Nat.le_trans h.ge (Nat.le_of_lt h.blk.lt)
theorem After.err {w w' : World} {B0 g at_ : Nat} {l : B} {v : Value} {ts : List TokS} {T : TokS × Nat × Int} (h : Scan w B0 g l at_ v ts) (hb : Below w.heap.size w w') (hT : T.2.2 ≠ 0) : After w w' B0 g l at_ v ts T :=
  ⟨hb.mono h.le, fun e => absurd e hT, fun _ => h.below hb⟩
theorem After.put {w w1 w' : World} {B0 g at_ : Nat} {l : B} {v v' : Value} {ts : List TokS} {T : TokS × Nat × Int} (h : Scan w B0 g l at_ v ts) (hb : Below w.heap.size w w1) (hb2 : Below B0 w1 w') (hT : T.2.2 = 0) (hS : Scan w' B0 g l (at_ + T.2.1) v' (ts ++ [{ T.1 with at_ := at_ }])) : After w w' B0 g l at_ v ts T :=
  ⟨(hb.mono h.le).trans hb2, fun _ => ⟨v', hS⟩, fun e => absurd hT e⟩
def numS : B := [48, 49, 50, 51, 52, 53, 54, 55, 56, 57, 46]
theorem numS_low : ∀ c ∈ numS, c.toNat < 128 := by decide
set_option maxRecDepth 100000 in
theorem hasB_num (c : UInt8) : hasB numS c = numC c := ofNat_all (P := fun c => hasB numS c = numC c) (by decide) c
theorem numK_span (l : B) : spanK (hasB numS) l = numK l := by
  induction l with
  | nil => rfl
  | cons c r ih => rw [spanK, numK, hasB_num, ih]
set_option maxRecDepth 100000 in
set_option maxHeartbeats 1600000 in
theorem lx_number {w : World} {B0 g at_ : Nat} {l : B} {v : Value} {ts : List TokS} (h : Scan w B0 g l at_ v ts) (hG : Glob w) (h1 : 1 ≤ numK (l.drop at_)) :
    Calls Tryz.prog 32 #[.pointer (some ⟨g, 0, none⟩)] w fun e w' => e = .returned (.int .i64 (numT (l.drop at_)).2.2) ∧ After w w' B0 g l at_ v ts (numT (l.drop at_)) := by
  have hms := mkB_size; have hma := mkB_append; have hmx := mkB_extract; have hmt := mkB_toList; have hmtl := subB_tail; have hmhd := subB_head
  have k1 : (⟨#[48, 49, 50, 51, 52, 53, 54, 55, 56, 57, 46]⟩ : ByteArray) = mkB numS := rfl
  have hp := h.pos
  have hl := h.len
  obtain ⟨r, hr0⟩ : ∃ r, l.drop at_ = r := ⟨_, rfl⟩
  have hrl : r.length = l.length - at_ := by rw [← hr0, List.length_drop]
  have hr : r.length ≤ 1000000 := by omega
  rw [hr0] at h1 ⊢
  have HR := Lib.hid hr0
  have hkl := numK_le r
  have hnt : numT r = ({ TokS.zero with num := (parse01 (r.take (numK r))).1 }, numK r, (parse01 (r.take (numK r))).2) := rfl
  obtain ⟨n, hn⟩ : ∃ n, n = numK r := ⟨_, rfl⟩
  rw [← hn] at h1 hkl hnt
  have HK := Lib.hid (show spanK (hasB numS) r = n by rw [numK_span, hn])
  obtain ⟨⟨x, pe⟩, hx⟩ : ∃ q, q = parse01 (r.take n) := ⟨_, rfl⟩
  rw [← hx] at hnt
  have HX := Lib.hid hx
  have HZ := Lib.hid hnt
  have hn2 : at_ + n ≤ l.length := by omega
  have hn1 : 1 ≤ n := h1
  clear hr0 hn hx hnt hrl
  by_cases he : pe = 0
  · subst he
    go_enter Tryz.func32, Tryz.ntmps32
    go_wp2_with (first | (go_at_call 17; refine (lx_rest hS2).mono ?_; rw [HR.out]; rintro e w3 ⟨rfl, hb_w3⟩; have hS3 := hS2.below hb_w3) | (go_at_call 17; refine (lx_rest h).mono ?_; rw [HR.out]; rintro e w1 ⟨rfl, hb_w1⟩; have hS1 := h.below hb_w1) | (go_at_call 16; refine (lx_run r numS _ hr numS_low (by decide)).mono ?_; rw [HK.out]; rintro e w2 ⟨rfl, hb_w2⟩; have hS2 := hS1.below hb_w2) | (go_at_call 62; refine (fx_Parse (r.take n) _ (by rw [List.length_take]; omega) (hG.below (by repeat (first | exact Below.refl _ _ | assumption | (refine Bel.trans ?_ (by assumption)))))).mono ?_; rw [← HX.out]; rintro e w4 ⟨rfl, hb_w4⟩; have hS4 := hS3.below hb_w4) | (go_at_call 37; refine (lx_put hS4 0 [] x 0 [] [] 0 0 false false 0 0 false false false 0 n hn2 hn1).mono ?_; rintro e w5 ⟨rfl, hb_w5, v', hS5⟩))
    go_ret
    exact ⟨by rw [HZ.out]; rfl, After.put h (by repeat (first | exact Below.refl _ _ | assumption | (refine Bel.trans ?_ (by assumption)))) hb_w5 (by rw [HZ.out]) (by rw [HZ.out]; exact hS5)⟩
  · go_enter Tryz.func32, Tryz.ntmps32
    go_wp2_with (first | (go_at_call 17; refine (lx_rest hS2).mono ?_; rw [HR.out]; rintro e w3 ⟨rfl, hb_w3⟩; have hS3 := hS2.below hb_w3) | (go_at_call 17; refine (lx_rest h).mono ?_; rw [HR.out]; rintro e w1 ⟨rfl, hb_w1⟩; have hS1 := h.below hb_w1) | (go_at_call 16; refine (lx_run r numS _ hr numS_low (by decide)).mono ?_; rw [HK.out]; rintro e w2 ⟨rfl, hb_w2⟩; have hS2 := hS1.below hb_w2) | (go_at_call 62; refine (fx_Parse (r.take n) _ (by rw [List.length_take]; omega) (hG.below (by repeat (first | exact Below.refl _ _ | assumption | (refine Bel.trans ?_ (by assumption)))))).mono ?_; rw [← HX.out]; rintro e w4 ⟨rfl, hb_w4⟩; have hS4 := hS3.below hb_w4) | (go_at_call 37; refine (lx_put hS4 0 [] x 0 [] [] 0 0 false false 0 0 false false false 0 n hn2 hn1).mono ?_; rintro e w5 ⟨rfl, hb_w5, v', hS5⟩))
    go_ret
    exact ⟨by rw [HZ.out]; rfl, After.err h (by repeat (first | exact Below.refl _ _ | assumption | (refine Bel.trans ?_ (by assumption)))) (by rw [HZ.out]; exact he)⟩
end Go.Proofs.YtnmbpmomilehoaaGreatDoor

namespace Go.Proofs.YtnmbpmomilehoaaGreatDoor
open Go.RowKit

def opM (r : B) (k : Nat) : Nat := if (0 < k ∧ [60, 61].isPrefixOf r = true) ∨ (1 < k ∧ [62, 61].isPrefixOf r = true) ∨ (2 < k ∧ [60, 62].isPrefixOf r = true) then 2 else 1
theorem opM_eq (r : B) : opM r 3 = opN r := by
  match r with
  | [] => simp [opM, opN, List.isPrefixOf]
  | [b] => simp [opM, opN, List.isPrefixOf]
  | b :: d :: q =>
    simp only [opM, opN, List.isPrefixOf, Bool.and_true, Bool.and_eq_true, beq_iff_eq]
    by_cases h : d = 61 ∧ (b = 60 ∨ b = 62) ∨ b = 60 ∧ d = 62
    · rw [if_pos h, if_pos]
      rcases h with ⟨rfl, rfl | rfl⟩ | ⟨rfl, rfl⟩
      · exact .inl ⟨by omega, rfl, rfl⟩
      · exact .inr (.inl ⟨by omega, rfl, rfl⟩)
      · exact .inr (.inr ⟨by omega, rfl, rfl⟩)
    · rw [if_neg h, if_neg]
      rintro (⟨_, rfl, rfl⟩ | ⟨_, rfl, rfl⟩ | ⟨_, rfl, rfl⟩) <;> simp at h
theorem opN_le (r : B) (h : r ≠ []) : 1 ≤ opN r ∧ opN r ≤ r.length := by
  match r with
  | [] => exact absurd rfl h
  | [b] => simp [opN]
  | b :: d :: q => simp only [opN]; split <;> simp
theorem ix3 (a b c : ByteArray) (W : World) : (Instr.index 107 (.agg #[.string a, .string b, .string c]) (.int .i64 0)).run Tryz.prog W = .ok (.string a) W ∧
    (Instr.index 107 (.agg #[.string a, .string b, .string c]) (.int .i64 1)).run Tryz.prog W = .ok (.string b) W ∧
    (Instr.index 107 (.agg #[.string a, .string b, .string c]) (.int .i64 2)).run Tryz.prog W = .ok (.string c) W := by
  refine ⟨?_, ?_, ?_⟩ <;> simp [Instr.index, go_sem, asIntOf, run_underlying Tryz.underlying107, Tryz.isAgg9, Tryz.sizeOf9]
set_option maxRecDepth 100000 in
set_option maxHeartbeats 3200000 in
theorem lx_op {w : World} {B0 g at_ : Nat} {l : B} {v : Value} {ts : List TokS} (h : Scan w B0 g l at_ v ts) (h1 : l.drop at_ ≠ []) :
    Calls Tryz.prog 36 #[.pointer (some ⟨g, 0, none⟩)] w fun e w' => e = .returned (.int .i64 0) ∧ After w w' B0 g l at_ v ts ({ TokS.zero with kind := 5, text := (l.drop at_).take (opN (l.drop at_)) }, opN (l.drop at_), 0) := by
  have hms := mkB_size; have hma := mkB_append; have hmx := mkB_extract; have hmt := mkB_toList; have hmtl := subB_tail; have hmhd := subB_head
  have k1 : (⟨#[60, 61]⟩ : ByteArray) = mkB [60, 61] := rfl
  have k2 : (⟨#[62, 61]⟩ : ByteArray) = mkB [62, 61] := rfl
  have k3 : (⟨#[60, 62]⟩ : ByteArray) = mkB [60, 62] := rfl
  have ix0 := fun a b c W => (ix3 a b c W).1
  have ix1 := fun a b c W => (ix3 a b c W).2.1
  have ix2 := fun a b c W => (ix3 a b c W).2.2
  have hp := h.pos
  have hl := h.len
  obtain ⟨r, hr0⟩ : ∃ r, l.drop at_ = r := ⟨_, rfl⟩
  have hrl : r.length = l.length - at_ := by rw [← hr0, List.length_drop]
  rw [hr0] at h1 ⊢
  have hon := opN_le r h1
  have HR := Lib.hid hr0
  have H0 := Lib.hid h
  have hB := h.le
  clear hr0 h1 h
  go_enter Tryz.func36, Tryz.ntmps36
  go_wp2
  go_loopw [3, 7] (fun n i wr => ∃ k : Nat, k ≤ 3 ∧ i = .int .i64 k ∧ n = .int .i64 (opM r k) ∧ Scan wr B0 g l at_ v ts ∧ Below w.heap.size w wr) (fun _ i _ => 3 - (intOf i).toNat)
  case atStart => exact ⟨0, by omega, rfl, by simp [opM], H0.out, Below.refl _ _⟩
  case round =>
    obtain ⟨k, hk, rfl, rfl, hS, hbw⟩ := hrel
    rcases (show k = 0 ∨ k = 1 ∨ k = 2 ∨ k = 3 by omega) with rfl | rfl | rfl | rfl
    · cases hpk : [60, 61].isPrefixOf r
      all_goals
        have HM := Lib.hid (show opM r 1 = if [60, 61].isPrefixOf r = true then 2 else opM r 0 by unfold opM; simp)
        go_wp2_with (first | (go_at_call 17; refine (lx_rest hS).mono ?_; rw [HR.out]; rintro e w1 ⟨rfl, hb_w1⟩; have hS1 := hS.below hb_w1) | (go_at_call 66; refine (s_HasPrefix r [60, 61] _).mono ?_; rw [hpk]; rintro e w' ⟨rfl, rfl⟩))
        go_roundw
        case rel => exact ⟨1, by omega, rfl, by rw [HM.out, hpk]; rfl, hS1, by repeat (first | exact Below.refl _ _ | assumption | (refine Bel.trans ?_ (by assumption)))⟩
        case measure => simp [intOf]
    · cases hpk : [62, 61].isPrefixOf r
      all_goals
        have HM := Lib.hid (show opM r 2 = if [62, 61].isPrefixOf r = true then 2 else opM r 1 by unfold opM; by_cases c : [62, 61].isPrefixOf r = true <;> simp [c])
        go_wp2_with (first | (go_at_call 17; refine (lx_rest hS).mono ?_; rw [HR.out]; rintro e w1 ⟨rfl, hb_w1⟩; have hS1 := hS.below hb_w1) | (go_at_call 66; refine (s_HasPrefix r [62, 61] _).mono ?_; rw [hpk]; rintro e w' ⟨rfl, rfl⟩))
        go_roundw
        case rel => exact ⟨2, by omega, rfl, by rw [HM.out, hpk]; rfl, hS1, by repeat (first | exact Below.refl _ _ | assumption | (refine Bel.trans ?_ (by assumption)))⟩
        case measure => simp [intOf]
    · cases hpk : [60, 62].isPrefixOf r
      all_goals
        have HM := Lib.hid (show opM r 3 = if [60, 62].isPrefixOf r = true then 2 else opM r 2 by unfold opM; by_cases c : [60, 62].isPrefixOf r = true <;> simp [c])
        go_wp2_with (first | (go_at_call 17; refine (lx_rest hS).mono ?_; rw [HR.out]; rintro e w1 ⟨rfl, hb_w1⟩; have hS1 := hS.below hb_w1) | (go_at_call 66; refine (s_HasPrefix r [60, 62] _).mono ?_; rw [hpk]; rintro e w' ⟨rfl, rfl⟩))
        go_roundw
        case rel => exact ⟨3, by omega, rfl, by rw [HM.out, hpk]; rfl, hS1, by repeat (first | exact Below.refl _ _ | assumption | (refine Bel.trans ?_ (by assumption)))⟩
        case measure => simp [intOf]
    · rw [opM_eq]
      obtain ⟨n, hn⟩ : ∃ n, n = opN r := ⟨_, rfl⟩
      rw [← hn] at hon ⊢
      have hn1 : 1 ≤ n := hon.1
      have hn2 : at_ + n ≤ l.length := by omega
      have hn3 : n ≤ r.length := hon.2
      have HN := Lib.hid hn
      clear hn hon
      go_wp2_with (first | (go_at_call 17; refine (lx_rest hS).mono ?_; rw [HR.out]; rintro e w1 ⟨rfl, hb_w1⟩; have hS1 := hS.below hb_w1) | (go_at_call 37; refine (lx_put hS1 5 (r.take n) 0 0 [] [] 0 0 false false 0 0 false false false 0 n hn2 hn1).mono ?_; rintro e w5 ⟨rfl, hb_w5, v', hS5⟩))
      go_ret
      rw [← HN.out]
      exact ⟨rfl, After.put H0.out (by repeat (first | exact Below.refl _ _ | assumption | (refine Bel.trans ?_ (by assumption)))) hb_w5 rfl hS5⟩
end Go.Proofs.YtnmbpmomilehoaaGreatDoor

namespace Go.Proofs.YtnmbpmomilehoaaGreatDoor
open Go.RowKit

theorem signs_len : ∀ k : Fin 9, 1 ≤ k.1 → 1 ≤ (signsB (k.1 : Int)).length := by decide
theorem pre_len {p r : B} (h : p.isPrefixOf r = true) : p.length ≤ r.length := by
  rw [List.isPrefixOf_iff_prefix] at h; exact h.length_le
theorem failGo_yes {r : B} {k m : Nat} (h : (signsB k).isPrefixOf r = true) : failGo r (List.range' k (m + 1)) = ({ TokS.zero with kind := 2, fail := k }, (signsB k).length, 0) := by
  rw [List.range'_succ, failGo, if_pos h]
theorem failGo_no {r : B} {k m : Nat} (h : (signsB k).isPrefixOf r = false) : failGo r (List.range' k (m + 1)) = failGo r (List.range' (k + 1) m) := by
  rw [List.range'_succ, failGo, if_neg (by simp [h])]
set_option maxRecDepth 100000 in
set_option maxHeartbeats 3200000 in
theorem lx_fail {w : World} {B0 g at_ : Nat} {l : B} {v : Value} {ts : List TokS} (h : Scan w B0 g l at_ v ts) (hG : Glob w) :
    Calls Tryz.prog 34 #[.pointer (some ⟨g, 0, none⟩)] w fun e w' => e = .returned (.int .i64 (failT (l.drop at_)).2.2) ∧ After w w' B0 g l at_ v ts (failT (l.drop at_)) := by
  have hms := mkB_size; have hma := mkB_append; have hmx := mkB_extract; have hmt := mkB_toList; have hmtl := subB_tail; have hmhd := subB_head
  have hp := h.pos
  have hl := h.len
  obtain ⟨r, hr0⟩ : ∃ r, l.drop at_ = r := ⟨_, rfl⟩
  have hrl : r.length = l.length - at_ := by rw [← hr0, List.length_drop]
  rw [hr0]
  have HR := Lib.hid hr0
  have H0 := Lib.hid h
  clear hr0 h
  go_enter Tryz.func34, Tryz.ntmps34
  go_wp2
  go_loopw [3] (fun f wr => ∃ k : Nat, 1 ≤ k ∧ k ≤ 9 ∧ f = .int .i64 k ∧ failT r = failGo r (List.range' k (9 - k)) ∧ Scan wr B0 g l at_ v ts ∧ Below w.heap.size w wr) (fun f _ => 9 - (intOf f).toNat)
  case atStart => exact ⟨1, by omega, by omega, rfl, rfl, H0.out, Below.refl _ _⟩
  case round =>
    obtain ⟨k, hk1, hk, rfl, hf, hS, hbw⟩ := hrel
    by_cases hlt : k < 9
    · have hs1 := signs_len ⟨k, hlt⟩ hk1
      obtain ⟨m, hm⟩ : ∃ m, 9 - k = m + 1 := ⟨8 - k, by omega⟩
      rw [hm] at hf
      obtain ⟨t, ht⟩ : ∃ t, t = signsB (k : Int) := ⟨_, rfl⟩
      have hs1 : 1 ≤ t.length := by rw [ht]; exact hs1
      have HT := Lib.hid ht
      cases hpk : t.isPrefixOf r with
      | true =>
        have hZ := hf.trans (failGo_yes (by rw [← ht]; exact hpk))
        rw [← ht] at hZ
        have HZ := Lib.hid hZ
        have hle := pre_len hpk
        have hn1 : 1 ≤ t.length := hs1
        have hn2 : at_ + t.length ≤ l.length := by omega
        clear hZ hf ht
        go_wp2_with (first | (go_at_call 17; refine (lx_rest hS).mono ?_; rw [HR.out]; rintro e w1 ⟨rfl, hb_w1⟩; have hS1 := hS.below hb_w1) | (go_at_call 25; refine (va_Text k _ (hG.below (by repeat (first | exact Below.refl _ _ | assumption | (refine Bel.trans ?_ (by assumption)))))).mono ?_; rw [← HT.out]; rintro e w' ⟨rfl, rfl⟩) | (go_at_call 66; refine (s_HasPrefix r t _).mono ?_; rw [hpk]; rintro e w' ⟨rfl, rfl⟩) | (go_at_call 37; refine (lx_put hS1 2 [] 0 k [] [] 0 0 false false 0 0 false false false 0 t.length hn2 hn1).mono ?_; rintro e w5 ⟨rfl, hb_w5, v', hS5⟩))
        go_ret
        exact ⟨by rw [HZ.out]; rfl, After.put H0.out (by repeat (first | exact Below.refl _ _ | assumption | (refine Bel.trans ?_ (by assumption)))) hb_w5 (by rw [HZ.out]) (by rw [HZ.out]; exact hS5)⟩
      | false =>
        have HZ := Lib.hid (hf.trans (failGo_no (by rw [← ht]; exact hpk)))
        clear hf ht
        go_wp2_with (first | (go_at_call 17; refine (lx_rest hS).mono ?_; rw [HR.out]; rintro e w1 ⟨rfl, hb_w1⟩; have hS1 := hS.below hb_w1) | (go_at_call 25; refine (va_Text k _ (hG.below (by repeat (first | exact Below.refl _ _ | assumption | (refine Bel.trans ?_ (by assumption)))))).mono ?_; rw [← HT.out]; rintro e w' ⟨rfl, rfl⟩) | (go_at_call 66; refine (s_HasPrefix r t _).mono ?_; rw [hpk]; rintro e w' ⟨rfl, rfl⟩))
        go_roundw
        case rel => exact ⟨k + 1, by omega, by omega, by go_num, by rw [HZ.out]; congr 2; omega, hS1, by repeat (first | exact Below.refl _ _ | assumption | (refine Bel.trans ?_ (by assumption)))⟩
        case measure => simp [intOf]; omega
    · obtain rfl : k = 9 := by omega
      have HZ := Lib.hid (show failT r = (TokS.zero, 0, 4) from hf)
      clear hf
      go_wp2
      go_ret
      exact ⟨by rw [HZ.out]; rfl, After.err H0.out hbw (by rw [HZ.out]; decide)⟩
end Go.Proofs.YtnmbpmomilehoaaGreatDoor

namespace Go.Proofs.YtnmbpmomilehoaaGreatDoor
open Go.RowKit

theorem sbInfo : (Tryz.prog.info? 80).map (·.size) = some 2 := by kernel_rfl
theorem u8Info : (Tryz.prog.info? 5).map (fun i => (i.zero, i.size, i.bytes)) = some (some (.int .u8 0), 1, 1) := by kernel_rfl
set_option maxRecDepth 100000 in
set_option maxHeartbeats 1600000 in
theorem bd_used (b : Nat) (w : World) (h0 : w.cell? ⟨b, 0, none⟩ = some (.pointer (some ⟨b, 0, none⟩))) :
    Calls Tryz.prog 81 #[.pointer (some ⟨b, 0, none⟩)] w fun e w' => e = .returned (.tuple #[]) ∧ w' = w := by
  obtain ⟨j, hj, _⟩ := Option.map_eq_some_iff.1 sbInfo
  go_enter Tryz.func81, Tryz.ntmps81
  go_wp2
  rw [Lib.run_neq_ptr_same w _ Tryz.underlying78 hj]
  go_wp2
  go_end0
  exact ⟨rfl, rfl⟩
set_option maxRecDepth 100000 in
set_option maxHeartbeats 1600000 in
theorem bd_fresh (b : Nat) (w : World) (h0 : w.cell? ⟨b, 0, none⟩ = some (.pointer none)) (hsh : w.shape? b = some (80, 2)) (hfz : w.frozen? ⟨b, 0, none⟩ = false) :
    Calls Tryz.prog 81 #[.pointer (some ⟨b, 0, none⟩)] w fun e w' => e = .returned (.tuple #[]) ∧ w' = w.setCell ⟨b, 0, none⟩ (.pointer (some ⟨b, 0, none⟩)) := by
  obtain ⟨j, hj, hjs⟩ := Option.map_eq_some_iff.1 sbInfo
  go_enter Tryz.func81, Tryz.ntmps81
  go_wp2
  rw [Lib.run_to_unsafe w ⟨b, 0, none⟩ Tryz.underlying78 Tryz.underlying145 hj (by rw [hjs]; decide) hsh (Nat.zero_lt_succ 1)]
  simp only [Result.andThen]
  rw [Oper.upon_value]
  go_wp2
  rw [run_callFunc_extern Tryz.func119 (by kernel_rfl) (by kernel_rfl) (by kernel_rfl) (e := Extern.AbiNoEscape.same) (by kernel_rfl)]
  rw [Lib.run_noEscape]
  simp only [Result.andThen]
  rw [Oper.upon_value]
  go_wp2
  rw [Lib.run_from_unsafe w ⟨b, 0, none⟩ Tryz.underlying145 Tryz.underlying78 hj hsh (by kernel_rfl)]
  simp only [Result.andThen]
  rw [Oper.upon_value]
  go_wp2
  go_end0
  exact ⟨rfl, rfl⟩
theorem bd_copyCheck (B b : Nat) (bs : List Value) (w : World) (h : Lib.IsBuilder 80 5 B b bs w) :
    Calls Tryz.prog 81 #[.pointer (some ⟨b, 0, none⟩)] w fun e w' => e = .returned (.tuple #[]) ∧ (Lib.BuilderAt 80 5 B b (.pointer (some ⟨b, 0, none⟩)) bs w' ∧ Below B w w') := by
  rcases h with h | h
  · refine (bd_fresh b w h.cell0 h.shape h.frozen0).mono ?_
    rintro e w' ⟨rfl, rfl⟩
    exact ⟨rfl, h.used _, (Below.refl B w).setCell (p := ⟨b, 0, none⟩) h.1 _⟩
  · refine (bd_used b w h.cell0).mono ?_
    rintro e w' ⟨rfl, rfl⟩
    exact ⟨rfl, h, Below.refl B _⟩
set_option maxRecDepth 100000 in
set_option maxHeartbeats 3200000 in
theorem bd_Write (B b : Nat) (bs : List Value) (s : ByteArray) (w : World) (h : Lib.IsBuilder 80 5 B b bs w) (hlen : bs.length + s.size ≤ 140737488355328) (hBw : B ≤ w.heap.size) :
    Calls Tryz.prog 49 #[.pointer (some ⟨b, 0, none⟩), .string s] w fun e w' => (∃ n : Int, e = .returned (.tuple #[.int .i64 n, .nilIface])) ∧ (Lib.IsBuilder 80 5 B b (bs ++ Lib.strCells s) w' ∧ Below B w w') := by
  obtain ⟨i0, hi, hz0, hz1, hz2⟩ := info_parts u8Info
  go_enter Tryz.func49, Tryz.ntmps49
  go_wp2_with (go_at_call 81; refine (bd_copyCheck B b bs _ h).mono ?_)
  rintro e w1 ⟨rfl, h1, hb1⟩
  obtain ⟨hB, v, hbk, hown, hne⟩ := h1
  have c0 : w1.cell? ⟨b, 0, none⟩ = some (.pointer (some ⟨b, 0, none⟩)) := by rw [Lib.cell_of_heap hbk]; rfl
  have c1 : w1.cell? ⟨b, 1, none⟩ = some v := by rw [Lib.cell_of_heap hbk]; rfl
  go_wp2_with (at_builtin; refine Lib.wpList_append_own_string _ rfl _ _ 56 9 rfl B 5 i0 Tryz.underlying56 Tryz.underlying9 hi hz0 hz1 hz2 _ _ _ rfl hown s rfl ?c3 ?c4 ?c5 ?_)
  case c3 => unfold maxLen; omega
  case c4 => omega
  case c5 => have := hb1.size; omega
  intro v' w2 hown' hgrow _
  have hlt : b < w1.heap.size := (Array.getElem?_eq_some_iff.1 hbk).1
  have hb2 : w2.heap[b]? = some (.cells #[.pointer (some ⟨b, 0, none⟩), v] 80 (0, 0)) := by
    rw [hgrow.block b hlt (fun e => hne e.symm)]
    exact hbk
  have d0 : w2.cell? ⟨b, 0, none⟩ = some (.pointer (some ⟨b, 0, none⟩)) := by rw [Lib.cell_of_heap hb2]; rfl
  have d1 : w2.cell? ⟨b, 1, none⟩ = some v := by rw [Lib.cell_of_heap hb2]; rfl
  have f1 : w2.frozen? ⟨b, 1, none⟩ = false := Lib.frozen_of_heap hb2 1
  obtain ⟨ao, n', cap, rfl⟩ : ∃ ao n' cap, v' = .slice ao n' cap := by
    rcases hown'.2 with ⟨hv, _⟩ | ⟨g, cap, cur, hv, _⟩
    · exact ⟨_, _, _, hv⟩
    · exact ⟨_, _, _, hv⟩
  go_wp2
  go_ret2
  refine ⟨⟨_, rfl⟩, .inr ?_, ?_⟩
  · exact Lib.BuilderAt.put (T := 80) (e := 5) hB hb2 (bs' := bs ++ Lib.strCells s) (by simpa [Lib.strCells_length] using hown') (by decide)
  · exact (hb1.grown hgrow (by have := hb1.size; omega) (fun k hk => (hown.lt k hk).1)).setCell (p := ⟨b, 1, none⟩) hB _
end Go.Proofs.YtnmbpmomilehoaaGreatDoor

namespace Go.Proofs.YtnmbpmomilehoaaGreatDoor
open Go.RowKit

theorem textGo_c {c : UInt8} (h : c ≠ 34) (q : B) : textGo (c :: q) = (textGo q).map fun p => (c :: p.1, p.2) := by
  cases q with
  | nil => simp [textGo, h]
  | cons d r => simp [textGo, h]
theorem textGo_none {q : B} (h : idxB q 34 = none) : textGo q = none := by
  induction q with
  | nil => rfl
  | cons c r ih =>
    rw [idxB] at h
    split at h
    · cases h
    · rename_i hc
      rw [textGo_c hc, ih (by simpa using h)]; rfl
theorem hasP_q (q : B) : Lib.hasPrefix q [34] = true ↔ ∃ m, q = 34 :: m := by
  unfold Lib.hasPrefix
  rw [List.isPrefixOf_iff_prefix]
  constructor
  · rintro ⟨m, rfl⟩; exact ⟨m, rfl⟩
  · rintro ⟨m, rfl⟩; exact ⟨m, rfl⟩
theorem textGo_end {q : B} {i : Nat} (h : idxB q 34 = some i) (hf : Lib.hasPrefix (q.drop (i + 1)) [34] = false) : textGo q = some (q.take i, q.drop (i + 1)) := by
  induction q generalizing i with
  | nil => simp [idxB] at h
  | cons c r ih =>
    rw [idxB] at h
    split at h
    · rename_i hc
      simp only [Option.some.injEq] at h
      subst h hc
      cases r with
      | nil => simp [textGo]
      | cons d m =>
        have : ¬ d = 34 := by
          intro e; subst e
          have := (hasP_q (34 :: m)).2 ⟨m, rfl⟩
          simp only [Nat.zero_add, List.drop_succ_cons, List.drop_zero] at hf
          rw [this] at hf; cases hf
        simp [textGo, this]
    · rename_i hc
      cases hr : idxB r 34 with
      | none => simp [hr] at h
      | some j =>
        simp only [hr, Option.map_some, Option.some.injEq] at h
        subst h
        rw [textGo_c hc, ih hr (by simpa using hf)]
        simp
theorem textGo_more {q : B} {i : Nat} (h : idxB q 34 = some i) (hf : Lib.hasPrefix (q.drop (i + 1)) [34] = true) : textGo q = (textGo (q.drop (i + 2))).map fun p => (q.take i ++ 34 :: p.1, p.2) := by
  induction q generalizing i with
  | nil => simp [idxB] at h
  | cons c r ih =>
    rw [idxB] at h
    split at h
    · rename_i hc
      simp only [Option.some.injEq] at h
      subst h hc
      obtain ⟨m, hm⟩ := (hasP_q _).1 hf
      simp only [Nat.zero_add, List.drop_succ_cons, List.drop_zero] at hm
      subst hm
      simp [textGo]
    · rename_i hc
      cases hr : idxB r 34 with
      | none => simp [hr] at h
      | some j =>
        simp only [hr, Option.map_some, Option.some.injEq] at h
        subst h
        rw [textGo_c hc, ih hr (by simpa using hf)]
        simp
        cases textGo (r.drop (j + 2)) <;> rfl
theorem isb_below {T e : TypeId} {B b : Nat} {bs : List Value} {w w' : World} (h : Lib.IsBuilder T e B b bs w) (hb : Below w.heap.size w w') : Lib.IsBuilder T e B b bs w' := by
  have key : ∀ p, Lib.BuilderAt T e B b p bs w → Lib.BuilderAt T e B b p bs w' := by
    rintro p ⟨hB, v, hbk, hown, hne⟩
    exact ⟨hB, v, by rw [hb.block b (Array.getElem?_eq_some_iff.1 hbk).1]; exact hbk, ownsRow_belows hown hb, hne⟩
  exact h.elim (fun x => .inl (key _ x)) (fun x => .inr (key _ x))
theorem bd_WriteB (H b : Nat) (acc s : B) (w : World) (h : Lib.IsBuilder 80 5 H b (Lib.byteCells acc) w) (hlen : acc.length + s.length ≤ 1000000) (hBw : H ≤ w.heap.size) :
    Calls Tryz.prog 49 #[.pointer (some ⟨b, 0, none⟩), .string (mkB s)] w fun e w' => (∃ n : Int, e = .returned (.tuple #[.int .i64 n, .nilIface])) ∧ (Lib.IsBuilder 80 5 H b (Lib.byteCells (acc ++ s)) w' ∧ Below H w w') := by
  have := bd_Write H b (Lib.byteCells acc) (mkB s) w h (by rw [Lib.byteCells_length, mkB_size]; omega) hBw
  rw [Lib.strCells_eq, mkB_data, ← Lib.byteCells_append] at this
  exact this
theorem bd_Len (H b : Nat) (acc : B) (w : World) (h : Lib.IsBuilder 80 5 H b (Lib.byteCells acc) w) :
    Calls Tryz.prog 65 #[.pointer (some ⟨b, 0, none⟩)] w fun e w' => e = .returned (.int .i64 acc.length) ∧ w = w' := by
  refine (Tryz.Builder_Len H b (Lib.byteCells acc) w h).mono ?_
  rintro e w' ⟨rfl, rfl⟩
  exact ⟨by rw [Lib.byteCells_length], rfl⟩
theorem bd_String (H b : Nat) (acc : B) (w : World) (h : Lib.IsBuilder 80 5 H b (Lib.byteCells acc) w) (hBw : H ≤ w.heap.size) :
    Calls Tryz.prog 50 #[.pointer (some ⟨b, 0, none⟩)] w fun e w' => e = .returned (.string (mkB acc)) ∧ Below H w w' := Tryz.Builder_String_any H b acc w h hBw
end Go.Proofs.YtnmbpmomilehoaaGreatDoor

namespace Go.Proofs.YtnmbpmomilehoaaGreatDoor
open Go.RowKit

def lenV (v : Value) : Nat := match v with | .string s => s.size | _ => 0
theorem lenV_s (q : B) : lenV (.string (mkB q)) = q.length := mkB_size q
theorem textT_none {r : B} (h : textGo (r.drop 1) = none) : textT r = (TokS.zero, 0, 4) := by unfold textT; rw [h]
theorem textT_long {r b q : B} (h : textGo (r.drop 1) = some (b, q)) (hl : 255 < b.length) : textT r = (TokS.zero, 0, 7) := by unfold textT; rw [h]; simp only []; rw [if_pos hl]
theorem textT_some {r b q : B} (h : textGo (r.drop 1) = some (b, q)) (hl : ¬ 255 < b.length) : textT r = ({ TokS.zero with kind := 1, text := b }, r.length - q.length, 0) := by unfold textT; rw [h]; simp only []; rw [if_neg hl]
set_option maxRecDepth 100000 in
set_option maxHeartbeats 3200000 in
theorem lx_text {w : World} {B0 g at_ : Nat} {l : B} {v : Value} {ts : List TokS} (h : Scan w B0 g l at_ v ts) (hG : Glob w) (h1 : l.drop at_ ≠ []) :
    Calls Tryz.prog 33 #[.pointer (some ⟨g, 0, none⟩)] w fun e w' => e = .returned (.int .i64 (textT (l.drop at_)).2.2) ∧ After w w' B0 g l at_ v ts (textT (l.drop at_)) := by
  have hms := mkB_size; have hma := mkB_append; have hmx := mkB_extract; have hmt := mkB_toList; have hmtl := subB_tail; have hmhd := subB_head
  have k1 : (⟨#[34]⟩ : ByteArray) = mkB [34] := rfl
  have hp := h.pos
  have hl := h.len
  obtain ⟨r, hr0⟩ : ∃ r, l.drop at_ = r := ⟨_, rfl⟩
  have hrl : r.length = l.length - at_ := by rw [← hr0, List.length_drop]
  rw [hr0] at h1 ⊢
  have hr1 : 1 ≤ r.length := by cases r with | nil => exact absurd rfl h1 | cons _ _ => simp
  have HR := Lib.hid hr0
  have H0 := Lib.hid h
  have hW0 : Scan (w.alloc (.cells #[.pointer none, .slice none 0 0] 80)) B0 g l at_ v ts := h.below ((Below.refl _ _).alloc (Nat.le_refl _) _)
  have hrl2 : at_ + r.length ≤ l.length := by omega
  clear hr0 h h1 hrl
  go_enter Tryz.func33, Tryz.ntmps33
  go_wp2_with (first | (go_at_call 17; refine (lx_rest hW0).mono ?_; rw [HR.out]; rintro e w1 ⟨rfl, hb_w1⟩; have hI1 := isb_below (Lib.fresh_isBuilder 80 5 w) hb_w1))
  go_loopw [4] (fun s wr => ∃ q acc : B, s = .string (mkB q) ∧ q.length + 1 ≤ r.length ∧ acc.length + q.length + 1 ≤ r.length ∧ textGo (r.drop 1) = (textGo q).map (fun p => (acc ++ p.1, p.2)) ∧ Lib.IsBuilder 80 5 w.heap.size w.heap.size (Lib.byteCells acc) wr ∧ Below w.heap.size w wr) (fun s _ => lenV s)
  case atStart =>
    refine ⟨r.drop 1, [], ?_, by rw [List.length_drop]; omega, by rw [List.length_drop]; simp; omega, ?_, hI1, ?_⟩
    · first | (simp; done) | simp [subB]
    · cases textGo (r.drop 1) <;> simp
    · exact (Bel.trans ((Below.refl _ _).alloc (Nat.le_refl _) _) hb_w1)
  case round =>
    clear hI1 hb_w1 hW0
    obtain ⟨q, acc, rfl, hq, ha, ht, hI, hbw⟩ := hrel
    obtain ⟨⟨x, y, ok⟩, hc⟩ : ∃ z, z = cutAt q 34 := ⟨_, rfl⟩
    have HC := Lib.hid hc
    have hq2 : q.length ≤ 600 := by omega
    cases hi : idxB q 34 with
    | none =>
      have hcc : cutAt q 34 = (q, [], false) := by unfold cutAt; rw [hi]
      rw [hcc] at hc
      simp only [Prod.mk.injEq] at hc
      obtain ⟨_, rfl, rfl⟩ := hc
      have HZ := Lib.hid (textT_none (r := r) (by rw [ht, textGo_none hi]; rfl))
      clear ht hi hcc
      go_wp2_with (first | (go_at_call 63; refine (s_Cut q 34 _ (by omega) (hG.below hbw)).mono ?_; rw [← HC.out]; rintro e w2 ⟨rfl, hb_w2⟩; have hbw2 := Bel.trans hbw hb_w2; have hI2 := isb_below hI hb_w2; have hz2 := hbw2.size))
      go_ret
      exact ⟨by rw [HZ.out]; rfl, After.err H0.out (by repeat (first | exact Below.refl _ _ | assumption | (refine Bel.trans ?_ (by assumption)))) (by rw [HZ.out]; decide)⟩
    | some i =>
      have hlt := idxB_lt hi
      have hcc : cutAt q 34 = (q.take i, q.drop (i + 1), true) := by unfold cutAt; rw [hi]
      rw [hcc] at hc
      simp only [Prod.mk.injEq] at hc
      obtain ⟨hx, hy, rfl⟩ := hc
      have hxl : x.length = i := by rw [hx, List.length_take]; omega
      have hyl : y.length = q.length - (i + 1) := by rw [hy, List.length_drop]
      cases hpf : Lib.hasPrefix y [34] with
      | true =>
        have hg := textGo_more hi (by rw [← hy]; exact hpf)
        have hy1 : 1 ≤ y.length := by obtain ⟨m, hm⟩ := (hasP_q y).1 hpf; rw [hm]; simp
        have hd : q.drop (i + 2) = y.drop 1 := by rw [hy, List.drop_drop]
        rw [hd, ← hx] at hg
        have HG := Lib.hid (show textGo (r.drop 1) = (textGo (y.drop 1)).map (fun p => (acc ++ x ++ [34] ++ p.1, p.2)) by
          rw [ht, hg]; cases textGo (y.drop 1) <;> simp)
        obtain ⟨z, hz⟩ : ∃ z, z = Lib.trimPrefix y [34] := ⟨_, rfl⟩
        have HZ1 := Lib.hid (show z = y.drop 1 by rw [hz, Lib.trimPrefix, hpf]; rfl)
        have hzl : z.length = y.length - 1 := by rw [HZ1.out, List.length_drop]
        have HT := Lib.hid hz
        have HQ := Lib.hid (lenV_s q)
        clear ht hi hcc hx hy hg hd hz
        go_wp2_with (first | (go_at_call 63; refine (s_Cut q 34 _ (by omega) (hG.below hbw)).mono ?_; rw [← HC.out]; rintro e w2 ⟨rfl, hb_w2⟩; have hbw2 := Bel.trans hbw hb_w2; have hI2 := isb_below hI hb_w2; have hz2 := hbw2.size) | (go_at_call_of 49 (Value.string (mkB x)); refine (bd_WriteB w.heap.size w.heap.size acc x _ hI2 (by omega) hz2).mono ?_; rintro e w3 ⟨⟨_, rfl⟩, hI3, hb_w3⟩; have hbw3 := hbw2.trans hb_w3; have hz3 := hbw3.size) | (go_at_call 64; refine (s_CutPrefix y [34] _).mono ?_; rw [← HT.out, hpf]; rintro e w' ⟨rfl, rfl⟩) | (go_at_call_of 49 (Value.string (mkB [34])); refine (bd_WriteB w.heap.size w.heap.size (acc ++ x) [34] _ hI3 (by simp; omega) hz3).mono ?_; rintro e w4 ⟨⟨_, rfl⟩, hI4, hb_w4⟩; have hbw4 := hbw3.trans hb_w4))
        go_roundw
        case rel => exact ⟨z, acc ++ x ++ [34], rfl, by omega, by simp; omega, by rw [HG.out, HZ1.out], hI4, hbw4⟩
        case measure => rw [lenV_s, HQ.out]; omega
      | false =>
        have hg := textGo_end hi (by rw [← hy]; exact hpf)
        rw [← hx, ← hy] at hg
        have ht2 : textGo (r.drop 1) = some (acc ++ x, y) := by rw [ht, hg]; rfl
        obtain ⟨z, hz⟩ : ∃ z, z = Lib.trimPrefix y [34] := ⟨_, rfl⟩
        have HT := Lib.hid hz
        have hal : (acc ++ x).length = acc.length + x.length := List.length_append
        by_cases h255 : 255 < (acc ++ x).length
        · have HZ := Lib.hid (textT_long ht2 h255)
          clear ht hi hcc hx hy hg hz ht2
          go_wp2_with (first | (go_at_call 63; refine (s_Cut q 34 _ (by omega) (hG.below hbw)).mono ?_; rw [← HC.out]; rintro e w2 ⟨rfl, hb_w2⟩; have hbw2 := Bel.trans hbw hb_w2; have hI2 := isb_below hI hb_w2; have hz2 := hbw2.size) | (go_at_call_of 49 (Value.string (mkB x)); refine (bd_WriteB w.heap.size w.heap.size acc x _ hI2 (by omega) hz2).mono ?_; rintro e w3 ⟨⟨_, rfl⟩, hI3, hb_w3⟩; have hbw3 := hbw2.trans hb_w3; have hz3 := hbw3.size) | (go_at_call 64; refine (s_CutPrefix y [34] _).mono ?_; rw [← HT.out, hpf]; rintro e w' ⟨rfl, rfl⟩) | (go_at_call 65; refine (bd_Len w.heap.size w.heap.size (acc ++ x) _ hI3).mono ?_; rintro e w' ⟨rfl, rfl⟩))
          go_ret
          exact ⟨by rw [HZ.out]; rfl, After.err H0.out (by repeat (first | exact Below.refl _ _ | assumption | (refine Bel.trans ?_ (by assumption)))) (by rw [HZ.out]; decide)⟩
        · have HZ := Lib.hid (textT_some ht2 h255)
          obtain ⟨n, hn⟩ : ∃ n, n = r.length - y.length := ⟨_, rfl⟩
          have hn1 : 1 ≤ n := by omega
          have hn2 : at_ + n ≤ l.length := by omega
          have hni : (r.length : Int) - (y.length : Int) = (n : Int) := by omega
          rw [← hn] at HZ
          have h255b : (acc.length : Int) + (x.length : Int) ≤ 255 := by omega
          have hxb : x.length ≤ 600 := by omega
          have hyb : y.length ≤ 600 := by omega
          have hab : acc.length ≤ 600 := by omega
          clear ht hi hcc hx hy hg hz ht2 hn hyl hxl hlt hal h255
          go_wp2_with (first | (go_at_call 63; refine (s_Cut q 34 _ (by omega) (hG.below hbw)).mono ?_; rw [← HC.out]; rintro e w2 ⟨rfl, hb_w2⟩; have hbw2 := Bel.trans hbw hb_w2; have hI2 := isb_below hI hb_w2; have hz2 := hbw2.size) | (go_at_call_of 49 (Value.string (mkB x)); refine (bd_WriteB w.heap.size w.heap.size acc x _ hI2 (by omega) hz2).mono ?_; rintro e w3 ⟨⟨_, rfl⟩, hI3, hb_w3⟩; have hbw3 := hbw2.trans hb_w3; have hz3 := hbw3.size) | (go_at_call 64; refine (s_CutPrefix y [34] _).mono ?_; rw [← HT.out, hpf]; rintro e w' ⟨rfl, rfl⟩) | (go_at_call 65; refine (bd_Len w.heap.size w.heap.size (acc ++ x) _ hI3).mono ?_; rintro e w' ⟨rfl, rfl⟩) | (go_at_call 50; refine (bd_String w.heap.size w.heap.size (acc ++ x) _ hI3 hz3).mono ?_; rintro e w5 ⟨rfl, hb_w5⟩; have hbw5 := hbw3.trans hb_w5; have hS5 := H0.out.below hbw5) | (go_at_call 17; refine (lx_rest hS5).mono ?_; rw [HR.out]; rintro e w6 ⟨rfl, hb_w6⟩; have hbw6 := Bel.trans hbw5 hb_w6; have hS6 := H0.out.below hbw6) | (go_at_call 37; refine (lx_put hS6 1 (acc ++ x) 0 0 [] [] 0 0 false false 0 0 false false false 0 n hn2 hn1).mono ?_; rintro e w7 ⟨rfl, hb_w7, v', hS7⟩))
          go_ret
          exact ⟨by rw [HZ.out]; rfl, After.put H0.out hbw6 hb_w7 (by rw [HZ.out]) (by rw [HZ.out]; exact hS7)⟩
end Go.Proofs.YtnmbpmomilehoaaGreatDoor
