/-
  Part 4 of what the proof stands on: P3, P3b, P3c, P7, P8, Rec2, Rec3, L1, P1b, P10, P11.
-/
import Derived.Deep.RegionWith
import Derived.StillTailTactics
import Derived.OwnWalk
import Derived.Deep.AppendLies
import Derived.Deep.RegionLaw
import Derived.Shelf.Strings.SlTrimAscii
import Derived.Test.YtnmbpmomilehoaaGreatDoorK3
import Derived.Test.YtnmbpmomilehoaaGreatDoorK1
namespace Go.Proofs.YtnmbpmomilehoaaGreatDoor
open Go.RowKit

theorem ad_CellGood (c r : Int) (w : World) : Calls Tryz.prog 77 #[.agg #[.int .i64 c, .int .i64 r]] w fun e w' => e = .returned (.bool (cellR c r)) ∧ Below w.heap.size w w' := by
  go_enter Tryz.func77, Tryz.ntmps77
  go_wp2
  all_goals
    go_ret
    refine ⟨ret_b ?_, (by repeat (first | exact Below.refl _ _ | assumption | apply bel_drew | apply bel_drewN | apply bel_alloc | (refine bel_set ?_ (by first | (simp; done) | omega) _) | (refine Bel.trans ?_ (by assumption))))⟩
    rw [Bool.eq_iff_iff]; simp only [cellR, decide_eq_true_eq, Bool.false_eq_true, false_iff]
    omega
theorem ad_cells (ac ar bc br : Int) (w : World) (h1 : 0 ≤ ac ∧ ac ≤ bc ∧ bc < 64) (h2 : 0 ≤ ar ∧ ar ≤ br ∧ br < 1024) :
    Calls Tryz.prog 117 #[.agg #[.int .i64 ac, .int .i64 ar, .int .i64 bc, .int .i64 br]] w fun e w' => e = .returned (.int .i64 ((bc - ac + 1) * (br - ar + 1))) ∧ Below w.heap.size w w' := by
  have hp : 0 ≤ (bc - ac + 1) * (br - ar + 1) ∧ (bc - ac + 1) * (br - ar + 1) ≤ 64 * 1024 := ⟨Int.mul_nonneg (by omega) (by omega), Int.mul_le_mul (by omega) (by omega) (by omega) (by omega)⟩
  have hw : IntKind.i64.wrap ((bc - ac + 1) * (br - ar + 1)) = (bc - ac + 1) * (br - ar + 1) := IntWalk.i64_in _ (by omega)
  go_enter Tryz.func117, Tryz.ntmps117
  go_wp2
  go_ret
  exact ⟨rfl, (by repeat (first | exact Below.refl _ _ | assumption | apply bel_drew | apply bel_drewN | apply bel_alloc | (refine bel_set ?_ (by first | (simp; done) | omega) _) | (refine Bel.trans ?_ (by assumption))))⟩
def areaI (ac ar bc br : Int) : Bool := cellR ac ar && cellR bc br && decide (ac ≤ bc ∧ ar ≤ br ∧ (bc - ac + 1) * (br - ar + 1) ≤ 4096)
set_option maxHeartbeats 800000 in
theorem ad_AreaGood (ac ar bc br : Int) (w : World) :
    Calls Tryz.prog 76 #[.agg #[.int .i64 ac, .int .i64 ar, .int .i64 bc, .int .i64 br]] w fun e w' => e = .returned (.bool (areaI ac ar bc br)) ∧ Below w.heap.size w w' := by
  cases h1 : cellR ac ar with
  | false =>
    go_enter Tryz.func76, Tryz.ntmps76
    go_wp2_with (first | (go_at_call 77; refine (ad_CellGood ac ar _).mono ?_; rintro e w1 ⟨rfl, hb_w1⟩; obtain ⟨hc_w1, hf_w1⟩ := bcell hb_w1; have hz_w1 := hb_w1.size; (try simp at hz_w1); (try (have hz0_w1 : w.heap.size < w1.heap.size := by omega)); (try (have hz1_w1 : w.heap.size + 1 < w1.heap.size := by omega)); (try (have hz2_w1 : w.heap.size + 2 < w1.heap.size := by omega)); (try (have hz3_w1 : w.heap.size + 3 < w1.heap.size := by omega))))
    go_ret
    exact ⟨ret_b (by simp [areaI, h1]), (by repeat (first | exact Below.refl _ _ | assumption | apply bel_drew | apply bel_drewN | apply bel_alloc | (refine bel_set ?_ (by first | (simp; done) | omega) _) | (refine Bel.trans ?_ (by assumption))))⟩
  | true =>
    cases h2 : cellR bc br with
    | false =>
      go_enter Tryz.func76, Tryz.ntmps76
      go_wp2_with (first | (go_at_call_of 77 (Value.agg #[.int .i64 ac, .int .i64 ar]); refine (ad_CellGood ac ar _).mono ?_; rintro e w1 ⟨rfl, hb_w1⟩; obtain ⟨hc_w1, hf_w1⟩ := bcell hb_w1; have hz_w1 := hb_w1.size; (try simp at hz_w1)) | (go_at_call_of 77 (Value.agg #[.int .i64 bc, .int .i64 br]); refine (ad_CellGood bc br _).mono ?_; rintro e w2 ⟨rfl, hb_w2⟩; obtain ⟨hc_w2, hf_w2⟩ := bcell (Bel.trans hb_w1 hb_w2)))
      all_goals
        go_ret
        exact ⟨ret_b (by simp [areaI, h1, h2]), (by repeat (first | exact Below.refl _ _ | assumption | apply bel_drew | apply bel_drewN | apply bel_alloc | (refine bel_set ?_ (by first | (simp; done) | omega) _) | (refine Bel.trans ?_ (by assumption))))⟩
    | true =>
      have b1 := cellR_bd h1
      have b2 := cellR_bd h2
      by_cases h3 : ac ≤ bc
      · by_cases h4 : ar ≤ br
        · go_enter Tryz.func76, Tryz.ntmps76
          go_wp2_with (first | (go_at_call_of 77 (Value.agg #[.int .i64 ac, .int .i64 ar]); refine (ad_CellGood ac ar _).mono ?_; rintro e w1 ⟨rfl, hb_w1⟩; obtain ⟨hc_w1, hf_w1⟩ := bcell hb_w1; have hz_w1 := hb_w1.size; (try simp at hz_w1)) | (go_at_call_of 77 (Value.agg #[.int .i64 bc, .int .i64 br]); refine (ad_CellGood bc br _).mono ?_; rintro e w2 ⟨rfl, hb_w2⟩; obtain ⟨hc_w2, hf_w2⟩ := bcell (Bel.trans hb_w1 hb_w2)) | (go_at_call 117; refine (ad_cells ac ar bc br _ (by omega) (by omega)).mono ?_; rintro e w3 ⟨rfl, hb_w3⟩))
          all_goals
            go_ret
            exact ⟨ret_b (by simp [areaI, h1, h2, h3, h4]), (by repeat (first | exact Below.refl _ _ | assumption | apply bel_drew | apply bel_drewN | apply bel_alloc | (refine bel_set ?_ (by first | (simp; done) | omega) _) | (refine Bel.trans ?_ (by assumption))))⟩
        · have h5 : decide (ar ≤ br) = false := decide_eq_false h4
          go_enter Tryz.func76, Tryz.ntmps76
          go_wp2_with (first | (go_at_call_of 77 (Value.agg #[.int .i64 ac, .int .i64 ar]); refine (ad_CellGood ac ar _).mono ?_; rintro e w1 ⟨rfl, hb_w1⟩; obtain ⟨hc_w1, hf_w1⟩ := bcell hb_w1; have hz_w1 := hb_w1.size; (try simp at hz_w1)) | (go_at_call_of 77 (Value.agg #[.int .i64 bc, .int .i64 br]); refine (ad_CellGood bc br _).mono ?_; rintro e w2 ⟨rfl, hb_w2⟩; obtain ⟨hc_w2, hf_w2⟩ := bcell (Bel.trans hb_w1 hb_w2)))
          all_goals
            go_ret
            exact ⟨ret_b (by simp only [areaI, h1, h2, Bool.true_and, Bool.false_eq, decide_eq_false_iff_not, Bool.and_true]; omega), (by repeat (first | exact Below.refl _ _ | assumption | apply bel_drew | apply bel_drewN | apply bel_alloc | (refine bel_set ?_ (by first | (simp; done) | omega) _) | (refine Bel.trans ?_ (by assumption))))⟩
      · go_enter Tryz.func76, Tryz.ntmps76
        go_wp2_with (first | (go_at_call_of 77 (Value.agg #[.int .i64 ac, .int .i64 ar]); refine (ad_CellGood ac ar _).mono ?_; rintro e w1 ⟨rfl, hb_w1⟩; obtain ⟨hc_w1, hf_w1⟩ := bcell hb_w1; have hz_w1 := hb_w1.size; (try simp at hz_w1)) | (go_at_call_of 77 (Value.agg #[.int .i64 bc, .int .i64 br]); refine (ad_CellGood bc br _).mono ?_; rintro e w2 ⟨rfl, hb_w2⟩; obtain ⟨hc_w2, hf_w2⟩ := bcell (Bel.trans hb_w1 hb_w2)))
        all_goals
          go_ret
          exact ⟨ret_b (by simp only [areaI, h1, h2, Bool.true_and, Bool.false_eq, decide_eq_false_iff_not, Bool.and_true]; omega), (by repeat (first | exact Below.refl _ _ | assumption | apply bel_drew | apply bel_drewN | apply bel_alloc | (refine bel_set ?_ (by first | (simp; done) | omega) _) | (refine Bel.trans ?_ (by assumption))))⟩
theorem ad_fixed (b : Bool) (w : World) : Calls Tryz.prog 78 #[.bool b] w fun e w' => e = .returned (.string (mkB (if b = true then [36] else []))) ∧ w = w' := by
  cases b <;>
  · go_enter Tryz.func78, Tryz.ntmps78
    go_wp2
    go_ret
    exact ⟨rfl, rfl⟩
end Go.Proofs.YtnmbpmomilehoaaGreatDoor

namespace Go.Proofs.YtnmbpmomilehoaaGreatDoor
open Go.RowKit

def greatL : B := [65, 66, 67, 68, 69, 70, 71, 72, 73, 74, 75, 76, 77, 78, 79, 80, 81, 82, 83, 84, 85, 86, 87, 88, 89, 90]
theorem great_at : ∀ k : Fin 26, (greatL.drop k.1).take 1 = [u8 (65 + k.1)] := by decide
theorem great_sub (k : Nat) (h : k < 26) : (greatL.drop k).take 1 = [u8 (65 + k)] := great_at ⟨k, h⟩
set_option maxRecDepth 100000 in
set_option maxHeartbeats 800000 in
theorem ad_column (n : Int) (w : World) (h0 : 0 ≤ n) (h1 : n < 64) : Calls Tryz.prog 79 #[.int .i64 n] w fun e w' => e = .returned (.string (mkB (colsR n))) ∧ Below w.heap.size w w' := by
  have hms := mkB_size; have hma := mkB_append; have hmx := mkB_extract; have hmt := mkB_toList; have hmtl := subB_tail; have hmhd := subB_head
  have k0 : (⟨#[]⟩ : ByteArray) = mkB [] := rfl
  have k1 : (⟨#[65, 66, 67, 68, 69, 70, 71, 72, 73, 74, 75, 76, 77, 78, 79, 80, 81, 82, 83, 84, 85, 86, 87, 88, 89, 90]⟩ : ByteArray) = mkB greatL := rfl
  have k2 : greatL.length = 26 := rfl
  obtain ⟨N, rfl⟩ := Int.eq_ofNat_of_zero_le h0
  go_enter Tryz.func79, Tryz.ntmps79
  go_wp2
  go_loop [0, 3] (fun m s => ∃ k : Nat, ∃ t : B, m = .int .i64 k ∧ s = .string (mkB t) ∧ (k = N + 1 ∧ t = [] ∨ k = N / 26 ∧ t = [u8 (65 + (N % 26 : Nat))] ∨ k = 0 ∧ 26 ≤ N ∧ t = colsR N)) (fun m _ => (intOf m).toNat)
  case atStart => exact ⟨N + 1, [], by go_num, rfl, .inl ⟨rfl, rfl⟩⟩
  case round =>
    obtain ⟨k, t, rfl, rfl, hk⟩ := hrel
    have HK := Lib.hid hk
    clear hk
    by_cases hz : k = 0
    · subst hz
      go_wp2
      go_ret
      refine ⟨ret_s (congrArg mkB ?_), (by repeat (first | exact Below.refl _ _ | assumption | apply bel_drew | apply bel_drewN | apply bel_alloc | (refine bel_set ?_ (by first | (simp; done) | omega) _) | (refine Bel.trans ?_ (by assumption))))⟩
      rcases HK.out with ⟨h, rfl⟩ | ⟨h, rfl⟩ | ⟨h, h2, rfl⟩
      · omega
      · unfold colsR; rw [if_pos (by omega)]; congr 2; omega
      · rfl
    · have hb : k ≤ 64 := by rcases HK.out with ⟨h, _⟩ | ⟨h, _⟩ | ⟨h, _⟩ <;> omega
      have hl : t.length ≤ 10 := by rcases HK.out with ⟨h, rfl⟩ | ⟨h, rfl⟩ | ⟨h, _⟩ <;> (try simp) <;> omega
      obtain ⟨j, rfl⟩ : ∃ j, k = j + 1 := ⟨k - 1, by omega⟩
      have e1 : ((j + 1 : Nat) : Int) - 1 = j := by omega
      have e2 : ((j : Int)).tmod 26 = ((j % 26 : Nat) : Int) := by rw [Int.tmod_eq_emod_of_nonneg (by omega)]; omega
      have e3 : ((j : Int)).tdiv 26 = ((j / 26 : Nat) : Int) := by rw [Int.tdiv_eq_ediv_of_nonneg (by omega)]; omega
      have e4 : j % 26 < 26 := by omega
      have hL0 : (subB greatL (j % 26) 26).length = 26 - j % 26 := by simp only [subB, List.length_take, List.length_drop, k2]; omega
      have hL : (1 : Int) ≤ ((subB greatL (j % 26) 26).length : Int) := by omega
      have HG := Lib.hid (show List.take 1 (subB greatL (j % 26) 26) = [YtnmbpmomilehoaaGreatDoor.u8 (65 + (j % 26 : Nat))] by
        rw [subB, List.take_of_length_le (show (greatL.drop (j % 26)).length ≤ 26 - j % 26 by rw [List.length_drop, k2]; omega)]
        exact great_sub (j % 26) (by omega))
      clear hL0
      go_wp2
      go_round
      case measure => simp [intOf]; omega
      case rel =>
        refine ⟨j / 26, List.take 1 (subB greatL (j % 26) 26) ++ t, vi (by omega), rfl, ?_⟩
        rw [HG.out]
        rcases HK.out with ⟨h, rfl⟩ | ⟨h, rfl⟩ | ⟨h, h2, rfl⟩
        · obtain rfl : j = N := by omega
          exact .inr (.inl ⟨rfl, rfl⟩)
        · refine .inr (.inr ⟨by omega, by omega, ?_⟩)
          unfold colsR; rw [if_neg (by omega)]
          show [_, _] = _
          congr 3
          all_goals omega
        · omega
end Go.Proofs.YtnmbpmomilehoaaGreatDoor

namespace Go.Proofs.YtnmbpmomilehoaaGreatDoor
open Go.RowKit

set_option maxRecDepth 100000 in
theorem ad_area (book sheet : B) (ac ar : Int) (afc afr : Bool) (bc br : Int) (bfc bfr : Bool) (wide : Bool) (w : World) : Calls Tryz.prog 75 #[.agg #[.string (mkB book), .string (mkB sheet), .int .i64 ac, .int .i64 ar, .bool afc, .bool afr, .int .i64 bc, .int .i64 br, .bool bfc, .bool bfr, .bool wide]] w fun e w' => e = .returned (.agg (if wide = true then #[.int .i64 ac, .int .i64 ar, .int .i64 bc, .int .i64 br] else #[.int .i64 ac, .int .i64 ar, .int .i64 ac, .int .i64 ar])) ∧ Below w.heap.size w w' := by
  cases wide <;>
  · go_enter Tryz.func75, Tryz.ntmps75
    go_wp2
    refine bodyPost_ret (v := _) (by simp [results, Tryz.results75, go_sem]) rfl ⟨rfl, (by repeat (first | exact Below.refl _ _ | assumption | apply bel_drew | apply bel_drewN | apply bel_alloc | (refine bel_set ?_ (by first | (simp; done) | omega) _) | (refine Bel.trans ?_ (by assumption))))⟩
set_option maxRecDepth 100000 in
set_option maxHeartbeats 1600000 in
theorem ad_corners (a b : RefS) (w : World) : Calls Tryz.prog 107 #[a.val, b.val] w fun e w' => e = .returned (.tuple #[(cornR a b).1.val, (cornR a b).2.val]) ∧ Below w.heap.size w w' := by
  obtain ⟨ac, ar, afc, afr⟩ := a
  obtain ⟨bc, br, bfc, bfr⟩ := b
  unfold RefS.val
  by_cases h1 : bc < ac <;> by_cases h2 : br < ar
  all_goals
    have HZ := Lib.hid (show cornR ⟨ac, ar, afc, afr⟩ ⟨bc, br, bfc, bfr⟩ = _ by simp only [cornR, h1, h2, if_true, if_false]; rfl)
    go_enter Tryz.func107, Tryz.ntmps107
    go_wp2_with (fail)
    go_region
    all_goals (try go_wp2)
    all_goals
      refine bodyPost_ret (v := _) (by simp [results, Tryz.results107, go_sem]; rfl) rfl ⟨by rw [HZ.out], (by repeat (first | exact Below.refl _ _ | assumption | apply bel_drew | apply bel_drewN | apply bel_alloc | (refine bel_set ?_ (by first | (simp; done) | omega) _) | (refine Bel.trans ?_ (by assumption))))⟩
def placeB (book sheet : B) : B := (if book.isEmpty = true then [] else [91] ++ book ++ [93]) ++ (if sheet.isEmpty = true then [] else sheet ++ [33])
set_option maxRecDepth 100000 in
set_option maxHeartbeats 1600000 in
theorem ad_place (book sheet : B) (ac ar : Int) (afc afr : Bool) (bc br : Int) (bfc bfr : Bool) (wide : Bool) (w : World) (h1 : book.length ≤ 1000000) (h2 : sheet.length ≤ 1000000) : Calls Tryz.prog 46 #[.agg #[.string (mkB book), .string (mkB sheet), .int .i64 ac, .int .i64 ar, .bool afc, .bool afr, .int .i64 bc, .int .i64 br, .bool bfc, .bool bfr, .bool wide]] w fun e w' => e = .returned (.string (mkB (placeB book sheet))) ∧ Below w.heap.size w w' := by
  have hms := mkB_size; have hma := mkB_append; have hmx := mkB_extract; have hmt := mkB_toList; have hmtl := subB_tail; have hmhd := subB_head
  have k1 : (⟨#[33]⟩ : ByteArray) = mkB [33] := rfl
  have k2 : (⟨#[91]⟩ : ByteArray) = mkB [91] := rfl
  have k3 : (⟨#[93]⟩ : ByteArray) = mkB [93] := rfl
  have k4 : (⟨#[]⟩ : ByteArray) = mkB [] := rfl
  cases hb : book.isEmpty <;> cases hs : sheet.isEmpty
  all_goals
    go_enter Tryz.func46, Tryz.ntmps46
    go_wp2
    go_ret
    refine ⟨ret_s (congrArg mkB ?_), (by repeat (first | exact Below.refl _ _ | assumption | apply bel_drew | apply bel_drewN | apply bel_alloc | (refine bel_set ?_ (by first | (simp; done) | omega) _) | (refine Bel.trans ?_ (by assumption))))⟩
    simp [placeB, *]
end Go.Proofs.YtnmbpmomilehoaaGreatDoor

namespace Go.Proofs.YtnmbpmomilehoaaGreatDoor
open Go.RowKit

theorem areaI_ref (a b : RefS) : areaI a.col a.row b.col b.row = areaR a b := rfl
theorem areaR_I (ac ar bc br : Int) (afc afr bfc bfr : Bool) : areaR ⟨ac, ar, afc, afr⟩ ⟨bc, br, bfc, bfr⟩ = areaI ac ar bc br := rfl
theorem areaI_one (c r : Int) : areaI c r c r = cellR c r := by
  unfold areaI
  cases h : cellR c r with
  | false => rfl
  | true =>
    have := cellR_bd h
    simp only [Bool.true_and, decide_eq_true_eq]
    rw [Int.sub_self, Int.sub_self]; omega
set_option maxRecDepth 100000 in
set_option maxHeartbeats 3200000 in
theorem ad_Good (book sheet : B) (ac ar : Int) (afc afr : Bool) (bc br : Int) (bfc bfr : Bool) (wide : Bool) (w : World) (h1 : book.length ≤ 1000000) (h2 : sheet.length ≤ 1000000) : Calls Tryz.prog 45 #[.agg #[.string (mkB book), .string (mkB sheet), .int .i64 ac, .int .i64 ar, .bool afc, .bool afr, .int .i64 bc, .int .i64 br, .bool bfc, .bool bfr, .bool wide]] w fun e w' => e = .returned (.bool (goodR ⟨book, sheet, ⟨ac, ar, afc, afr⟩, ⟨bc, br, bfc, bfr⟩, wide⟩)) ∧ Below w.heap.size w w' := by
  have hms := mkB_size; have hma := mkB_append; have hmx := mkB_extract; have hmt := mkB_toList; have hmtl := subB_tail; have hmhd := subB_head
  have k1 : (⟨#[]⟩ : ByteArray) = mkB [] := rfl
  cases hse : sheet.isEmpty with
  | false =>
    cases hns : nameB sheet with
    | false =>
      go_enter Tryz.func45, Tryz.ntmps45
      go_wp2_with (first | (go_at_call_of 68 (Value.string (mkB sheet)); refine (ad_Name sheet _ h2).mono ?_; rw [hns]; rintro e w1 ⟨rfl, hb_w1⟩; obtain ⟨hc_w1, hf_w1⟩ := bcell hb_w1; have hz_w1 := hb_w1.size; (try simp at hz_w1); have hzz_w1 : w.heap.size < w1.heap.size := by omega) | (go_at_call_of 68 (Value.string (mkB book)); refine (ad_Name book _ h1).mono ?_; rw [hnb]; rintro e w2 ⟨rfl, hb_w2⟩; obtain ⟨hc_w2, hf_w2⟩ := bcell hb_w2; have hz_w2 := hb_w2.size; (try simp at hz_w2); have hzz_w2 : w.heap.size < w2.heap.size := by omega) | (go_at_call 75; refine (ad_area book sheet ac ar afc afr bc br bfc bfr _ _).mono ?_; rintro e w3 ⟨rfl, hb_w3⟩; obtain ⟨hc_w3, hf_w3⟩ := bcell hb_w3; have hz_w3 := hb_w3.size; (try simp at hz_w3); have hzz_w3 : w.heap.size < w3.heap.size := by omega) | (go_at_call 76; refine (ad_AreaGood _ _ _ _ _).mono ?_; rintro e w4 ⟨rfl, hb_w4⟩; obtain ⟨hc_w4, hf_w4⟩ := bcell hb_w4; have hz_w4 := hb_w4.size; (try simp at hz_w4); have hzz_w4 : w.heap.size < w4.heap.size := by omega))
      all_goals (go_ret; exact ⟨ret_b (by simp [goodR, *]), (by repeat (first | exact Below.refl _ _ | assumption | apply bel_drew | apply bel_drewN | apply bel_alloc | (refine bel_set ?_ (by first | (simp; done) | omega) _) | (refine Bel.trans ?_ (by assumption))))⟩)
    | true =>
      cases hbe : book.isEmpty with
      | true =>
        cases wide
        all_goals
          go_enter Tryz.func45, Tryz.ntmps45
          go_wp2_with (first | (go_at_call_of 68 (Value.string (mkB sheet)); refine (ad_Name sheet _ h2).mono ?_; rw [hns]; rintro e w1 ⟨rfl, hb_w1⟩; obtain ⟨hc_w1, hf_w1⟩ := bcell hb_w1; have hz_w1 := hb_w1.size; (try simp at hz_w1); have hzz_w1 : w.heap.size < w1.heap.size := by omega) | (go_at_call_of 68 (Value.string (mkB book)); refine (ad_Name book _ h1).mono ?_; rw [hnb]; rintro e w2 ⟨rfl, hb_w2⟩; obtain ⟨hc_w2, hf_w2⟩ := bcell hb_w2; have hz_w2 := hb_w2.size; (try simp at hz_w2); have hzz_w2 : w.heap.size < w2.heap.size := by omega) | (go_at_call 75; refine (ad_area book sheet ac ar afc afr bc br bfc bfr _ _).mono ?_; rintro e w3 ⟨rfl, hb_w3⟩; obtain ⟨hc_w3, hf_w3⟩ := bcell hb_w3; have hz_w3 := hb_w3.size; (try simp at hz_w3); have hzz_w3 : w.heap.size < w3.heap.size := by omega) | (go_at_call 76; refine (ad_AreaGood _ _ _ _ _).mono ?_; rintro e w4 ⟨rfl, hb_w4⟩; obtain ⟨hc_w4, hf_w4⟩ := bcell hb_w4; have hz_w4 := hb_w4.size; (try simp at hz_w4); have hzz_w4 : w.heap.size < w4.heap.size := by omega))
          all_goals (go_ret; refine ⟨ret_b ?_, (by repeat (first | exact Below.refl _ _ | assumption | apply bel_drew | apply bel_drewN | apply bel_alloc | (refine bel_set ?_ (by first | (simp; done) | omega) _) | (refine Bel.trans ?_ (by assumption))))⟩; simp [goodR, RefS.zero, areaR_I, ← areaI_one ac ar, *])
      | false =>
        cases hnb : nameB book with
        | false =>
          go_enter Tryz.func45, Tryz.ntmps45
          go_wp2_with (first | (go_at_call_of 68 (Value.string (mkB sheet)); refine (ad_Name sheet _ h2).mono ?_; rw [hns]; rintro e w1 ⟨rfl, hb_w1⟩; obtain ⟨hc_w1, hf_w1⟩ := bcell hb_w1; have hz_w1 := hb_w1.size; (try simp at hz_w1); have hzz_w1 : w.heap.size < w1.heap.size := by omega) | (go_at_call_of 68 (Value.string (mkB book)); refine (ad_Name book _ h1).mono ?_; rw [hnb]; rintro e w2 ⟨rfl, hb_w2⟩; obtain ⟨hc_w2, hf_w2⟩ := bcell hb_w2; have hz_w2 := hb_w2.size; (try simp at hz_w2); have hzz_w2 : w.heap.size < w2.heap.size := by omega) | (go_at_call 75; refine (ad_area book sheet ac ar afc afr bc br bfc bfr _ _).mono ?_; rintro e w3 ⟨rfl, hb_w3⟩; obtain ⟨hc_w3, hf_w3⟩ := bcell hb_w3; have hz_w3 := hb_w3.size; (try simp at hz_w3); have hzz_w3 : w.heap.size < w3.heap.size := by omega) | (go_at_call 76; refine (ad_AreaGood _ _ _ _ _).mono ?_; rintro e w4 ⟨rfl, hb_w4⟩; obtain ⟨hc_w4, hf_w4⟩ := bcell hb_w4; have hz_w4 := hb_w4.size; (try simp at hz_w4); have hzz_w4 : w.heap.size < w4.heap.size := by omega))
          all_goals (go_ret; exact ⟨ret_b (by simp [goodR, *]), (by repeat (first | exact Below.refl _ _ | assumption | apply bel_drew | apply bel_drewN | apply bel_alloc | (refine bel_set ?_ (by first | (simp; done) | omega) _) | (refine Bel.trans ?_ (by assumption))))⟩)
        | true =>
          cases wide
          all_goals
            go_enter Tryz.func45, Tryz.ntmps45
            go_wp2_with (first | (go_at_call_of 68 (Value.string (mkB sheet)); refine (ad_Name sheet _ h2).mono ?_; rw [hns]; rintro e w1 ⟨rfl, hb_w1⟩; obtain ⟨hc_w1, hf_w1⟩ := bcell hb_w1; have hz_w1 := hb_w1.size; (try simp at hz_w1); have hzz_w1 : w.heap.size < w1.heap.size := by omega) | (go_at_call_of 68 (Value.string (mkB book)); refine (ad_Name book _ h1).mono ?_; rw [hnb]; rintro e w2 ⟨rfl, hb_w2⟩; obtain ⟨hc_w2, hf_w2⟩ := bcell hb_w2; have hz_w2 := hb_w2.size; (try simp at hz_w2); have hzz_w2 : w.heap.size < w2.heap.size := by omega) | (go_at_call 75; refine (ad_area book sheet ac ar afc afr bc br bfc bfr _ _).mono ?_; rintro e w3 ⟨rfl, hb_w3⟩; obtain ⟨hc_w3, hf_w3⟩ := bcell hb_w3; have hz_w3 := hb_w3.size; (try simp at hz_w3); have hzz_w3 : w.heap.size < w3.heap.size := by omega) | (go_at_call 76; refine (ad_AreaGood _ _ _ _ _).mono ?_; rintro e w4 ⟨rfl, hb_w4⟩; obtain ⟨hc_w4, hf_w4⟩ := bcell hb_w4; have hz_w4 := hb_w4.size; (try simp at hz_w4); have hzz_w4 : w.heap.size < w4.heap.size := by omega))
            all_goals (go_ret; refine ⟨ret_b ?_, (by repeat (first | exact Below.refl _ _ | assumption | apply bel_drew | apply bel_drewN | apply bel_alloc | (refine bel_set ?_ (by first | (simp; done) | omega) _) | (refine Bel.trans ?_ (by assumption))))⟩; simp [goodR, RefS.zero, areaR_I, ← areaI_one ac ar, *])
  | true =>
    cases hbe : book.isEmpty with
    | true =>
      cases wide
      all_goals
        go_enter Tryz.func45, Tryz.ntmps45
        go_wp2_with (first | (go_at_call_of 68 (Value.string (mkB sheet)); refine (ad_Name sheet _ h2).mono ?_; rw [hns]; rintro e w1 ⟨rfl, hb_w1⟩; obtain ⟨hc_w1, hf_w1⟩ := bcell hb_w1; have hz_w1 := hb_w1.size; (try simp at hz_w1); have hzz_w1 : w.heap.size < w1.heap.size := by omega) | (go_at_call_of 68 (Value.string (mkB book)); refine (ad_Name book _ h1).mono ?_; rw [hnb]; rintro e w2 ⟨rfl, hb_w2⟩; obtain ⟨hc_w2, hf_w2⟩ := bcell hb_w2; have hz_w2 := hb_w2.size; (try simp at hz_w2); have hzz_w2 : w.heap.size < w2.heap.size := by omega) | (go_at_call 75; refine (ad_area book sheet ac ar afc afr bc br bfc bfr _ _).mono ?_; rintro e w3 ⟨rfl, hb_w3⟩; obtain ⟨hc_w3, hf_w3⟩ := bcell hb_w3; have hz_w3 := hb_w3.size; (try simp at hz_w3); have hzz_w3 : w.heap.size < w3.heap.size := by omega) | (go_at_call 76; refine (ad_AreaGood _ _ _ _ _).mono ?_; rintro e w4 ⟨rfl, hb_w4⟩; obtain ⟨hc_w4, hf_w4⟩ := bcell hb_w4; have hz_w4 := hb_w4.size; (try simp at hz_w4); have hzz_w4 : w.heap.size < w4.heap.size := by omega))
        all_goals (go_ret; refine ⟨ret_b ?_, (by repeat (first | exact Below.refl _ _ | assumption | apply bel_drew | apply bel_drewN | apply bel_alloc | (refine bel_set ?_ (by first | (simp; done) | omega) _) | (refine Bel.trans ?_ (by assumption))))⟩; simp [goodR, RefS.zero, areaR_I, ← areaI_one ac ar, *])
    | false =>
      cases hnb : nameB book with
      | false =>
        go_enter Tryz.func45, Tryz.ntmps45
        go_wp2_with (first | (go_at_call_of 68 (Value.string (mkB sheet)); refine (ad_Name sheet _ h2).mono ?_; rw [hns]; rintro e w1 ⟨rfl, hb_w1⟩; obtain ⟨hc_w1, hf_w1⟩ := bcell hb_w1; have hz_w1 := hb_w1.size; (try simp at hz_w1); have hzz_w1 : w.heap.size < w1.heap.size := by omega) | (go_at_call_of 68 (Value.string (mkB book)); refine (ad_Name book _ h1).mono ?_; rw [hnb]; rintro e w2 ⟨rfl, hb_w2⟩; obtain ⟨hc_w2, hf_w2⟩ := bcell hb_w2; have hz_w2 := hb_w2.size; (try simp at hz_w2); have hzz_w2 : w.heap.size < w2.heap.size := by omega) | (go_at_call 75; refine (ad_area book sheet ac ar afc afr bc br bfc bfr _ _).mono ?_; rintro e w3 ⟨rfl, hb_w3⟩; obtain ⟨hc_w3, hf_w3⟩ := bcell hb_w3; have hz_w3 := hb_w3.size; (try simp at hz_w3); have hzz_w3 : w.heap.size < w3.heap.size := by omega) | (go_at_call 76; refine (ad_AreaGood _ _ _ _ _).mono ?_; rintro e w4 ⟨rfl, hb_w4⟩; obtain ⟨hc_w4, hf_w4⟩ := bcell hb_w4; have hz_w4 := hb_w4.size; (try simp at hz_w4); have hzz_w4 : w.heap.size < w4.heap.size := by omega))
        all_goals (go_ret; exact ⟨ret_b (by simp [goodR, *]), (by repeat (first | exact Below.refl _ _ | assumption | apply bel_drew | apply bel_drewN | apply bel_alloc | (refine bel_set ?_ (by first | (simp; done) | omega) _) | (refine Bel.trans ?_ (by assumption))))⟩)
      | true =>
        go_enter Tryz.func45, Tryz.ntmps45
        go_wp2_with (first | (go_at_call_of 68 (Value.string (mkB sheet)); refine (ad_Name sheet _ h2).mono ?_; rw [hns]; rintro e w1 ⟨rfl, hb_w1⟩; obtain ⟨hc_w1, hf_w1⟩ := bcell hb_w1; have hz_w1 := hb_w1.size; (try simp at hz_w1); have hzz_w1 : w.heap.size < w1.heap.size := by omega) | (go_at_call_of 68 (Value.string (mkB book)); refine (ad_Name book _ h1).mono ?_; rw [hnb]; rintro e w2 ⟨rfl, hb_w2⟩; obtain ⟨hc_w2, hf_w2⟩ := bcell hb_w2; have hz_w2 := hb_w2.size; (try simp at hz_w2); have hzz_w2 : w.heap.size < w2.heap.size := by omega) | (go_at_call 75; refine (ad_area book sheet ac ar afc afr bc br bfc bfr _ _).mono ?_; rintro e w3 ⟨rfl, hb_w3⟩; obtain ⟨hc_w3, hf_w3⟩ := bcell hb_w3; have hz_w3 := hb_w3.size; (try simp at hz_w3); have hzz_w3 : w.heap.size < w3.heap.size := by omega) | (go_at_call 76; refine (ad_AreaGood _ _ _ _ _).mono ?_; rintro e w4 ⟨rfl, hb_w4⟩; obtain ⟨hc_w4, hf_w4⟩ := bcell hb_w4; have hz_w4 := hb_w4.size; (try simp at hz_w4); have hzz_w4 : w.heap.size < w4.heap.size := by omega))
        all_goals (go_ret; exact ⟨ret_b (by simp [goodR, *]), (by repeat (first | exact Below.refl _ _ | assumption | apply bel_drew | apply bel_drewN | apply bel_alloc | (refine bel_set ?_ (by first | (simp; done) | omega) _) | (refine Bel.trans ?_ (by assumption))))⟩)
end Go.Proofs.YtnmbpmomilehoaaGreatDoor

namespace Go.Proofs.YtnmbpmomilehoaaGreatDoor
open Go.RowKit

theorem nameB_ne {l : B} (h : nameB l = true) : l ≠ [] := by intro e; subst e; simp [nameB] at h
theorem bookR_some {l book r : B} (h : bookR l = some (book, r)) : (book = [] ∨ nameB book = true) ∧ book.length ≤ l.length ∧ r.length ≤ l.length := by
  unfold bookR at h
  split at h
  · split at h
    · cases h
    · split at h
      · rename_i i hi hn
        simp only [Option.some.injEq, Prod.mk.injEq] at h
        obtain ⟨rfl, rfl⟩ := h
        refine ⟨.inr hn, ?_, ?_⟩
        · simp only [subB, List.length_take, List.length_drop]; omega
        · simp only [List.length_drop]; omega
      · cases h
  · simp only [Option.some.injEq, Prod.mk.injEq] at h
    obtain ⟨rfl, rfl⟩ := h
    simp
theorem full4_where (l : B) : full4 l = if (whereR l).2.2.2 = true then cellsR (whereR l).1 (whereR l).2.1 (whereR l).2.2.1 else (FullS.zero, 4) := by
  unfold full4 whereR
  cases hb : bookR l with
  | none => rfl
  | some p =>
    obtain ⟨book, r⟩ := p
    have hk := bookR_some hb
    simp only []
    cases hi : idxB r 33 with
    | none =>
      have hc : cutAt r 33 = (r, [], false) := by unfold cutAt; rw [hi]
      have hs : sheetR r = some ([], r) := by unfold sheetR; rw [hi]
      rw [hc, hs]
      cases book <;> simp
    | some i =>
      have hc : cutAt r 33 = (r.take i, r.drop (i + 1), true) := by unfold cutAt; rw [hi]
      rw [hc]
      cases hn : nameB (r.take i) with
      | false =>
        have hs : sheetR r = none := by unfold sheetR; rw [hi]; simp only []; rw [if_neg (by simp [hn])]
        rw [hs]; simp
      | true =>
        have hs : sheetR r = some (r.take i, r.drop (i + 1)) := by unfold sheetR; rw [hi]; simp only []; rw [if_pos hn]
        have := nameB_ne hn
        have he : (r.take i).isEmpty = false := by cases h : r.take i with | nil => exact absurd h this | cons _ _ => rfl
        rw [hs]; simp [he]
theorem whereR_ok {l book sheet r : B} (h : (book, sheet, r, true) = whereR l) : (sheet = [] ∨ nameB sheet = true) ∧ (book = [] ∨ (nameB book = true ∧ nameB sheet = true)) ∧ book.length ≤ l.length ∧ sheet.length ≤ l.length ∧ r.length ≤ l.length := by
  unfold whereR at h
  cases hb : bookR l with
  | none => rw [hb] at h; simp at h
  | some p =>
    obtain ⟨bk, q⟩ := p
    have hk := bookR_some hb
    have hl := cutAt_len q 33
    rw [hb] at h
    simp only [] at h
    split at h
    · split at h
      · rename_i h1 h2
        simp only [Prod.mk.injEq, and_true] at h
        obtain ⟨rfl, rfl, rfl⟩ := h
        refine ⟨.inr h2, ?_, hk.2.1, by omega, by omega⟩
        rcases hk.1 with e | e
        · exact .inl e
        · exact .inr ⟨e, h2⟩
      · simp at h
    · simp only [Prod.mk.injEq] at h
      obtain ⟨rfl, rfl, rfl, he⟩ := h
      exact ⟨.inl rfl, .inl rfl, by simp, by simp, hk.2.2⟩
theorem cellsR_cut (book sheet l : B) : cellsR book sheet l =
    if (cutAt l 58).2.2 = false then
      if (ref1R (cutAt l 58).1).2 = true then
        if cellR (ref1R (cutAt l 58).1).1.col (ref1R (cutAt l 58).1).1.row = true then (⟨book, sheet, (ref1R (cutAt l 58).1).1, RefS.zero, false⟩, 0) else (FullS.zero, 3)
      else (FullS.zero, 4)
    else
      if (ref1R (cutAt l 58).1).2 = true then
        if (ref1R (cutAt l 58).2.1).2 = true then
          if cellR (ref1R (cutAt l 58).1).1.col (ref1R (cutAt l 58).1).1.row = true ∧ cellR (ref1R (cutAt l 58).2.1).1.col (ref1R (cutAt l 58).2.1).1.row = true then
            if areaR (cornR (ref1R (cutAt l 58).1).1 (ref1R (cutAt l 58).2.1).1).1 (cornR (ref1R (cutAt l 58).1).1 (ref1R (cutAt l 58).2.1).1).2 = true then
              (⟨book, sheet, (cornR (ref1R (cutAt l 58).1).1 (ref1R (cutAt l 58).2.1).1).1, (cornR (ref1R (cutAt l 58).1).1 (ref1R (cutAt l 58).2.1).1).2, true⟩, 0)
            else (FullS.zero, 7)
          else (FullS.zero, 3)
        else (FullS.zero, 4)
      else (FullS.zero, 4) := by
  unfold cellsR cutAt
  cases idxB l 58 <;> rfl
theorem goodR_ok {book sheet : B} (h1 : sheet = [] ∨ nameB sheet = true) (h2 : book = [] ∨ (nameB book = true ∧ nameB sheet = true)) (a b : RefS) (wide : Bool) :
    goodR ⟨book, sheet, a, b, wide⟩ = if wide = true then areaR a b else decide (b = RefS.zero) && cellR a.col a.row := by
  unfold goodR
  simp only []
  have e1 : (sheet.isEmpty || nameB sheet) = true := by rcases h1 with rfl | h1 <;> simp [*]
  have e2 : (book.isEmpty || (nameB book && !sheet.isEmpty)) = true := by
    rcases h2 with rfl | ⟨h2, h3⟩
    · rfl
    · have := nameB_ne h3
      cases sheet with
      | nil => exact absurd rfl this
      | cons c r => simp [h2]
  rw [e1, e2]; rfl
theorem RecAt.cell {w : World} {g : Nat} {cs : Array Value} {t : TypeId} (h : RecAt w g cs t) (o : Nat) : w.cell? ⟨g, o, none⟩ = cs[o]? := cell_of_row w g o cs t (0, 0) h
theorem RecAt.free {w : World} {g : Nat} {cs : Array Value} {t : TypeId} (h : RecAt w g cs t) (o : Nat) : w.frozen? ⟨g, o, none⟩ = false := by
  simp only [RecAt] at h; simp [World.frozen?, h]
theorem RecAt.lt {w : World} {g : Nat} {cs : Array Value} {t : TypeId} (h : RecAt w g cs t) : g < w.heap.size := (Array.getElem?_eq_some_iff.1 h).1
theorem RecAt.alloc {w : World} {g : Nat} {cs : Array Value} {t : TypeId} (h : RecAt w g cs t) (o : Obj) : RecAt (w.alloc o) g cs t := by
  have := h.lt
  unfold RecAt at *
  rw [← h]; show (w.heap.push o)[g]? = _; rw [Array.getElem?_push, if_neg (by omega)]
theorem RecAt.setAway {w : World} {g : Nat} {cs : Array Value} {t : TypeId} (h : RecAt w g cs t) {p : Addr} (hp : p.block ≠ g) (v : Value) : RecAt (w.setCell p v) g cs t := by
  unfold RecAt at *
  rw [← h]
  simp only [World.setCell]
  rw [Array.getElem?_modify, if_neg hp]
theorem RecAt.rowAway {w : World} {g k : Nat} {cs : Array Value} {t : TypeId} (h : RecAt w g cs t) (hk : g ≠ k) (vs : Array Value) : RecAt (w.setRow k vs) g cs t := by
  unfold RecAt at *
  rw [setRow_other _ _ _ _ hk]; exact h
theorem RecAt.setHere {w : World} {g : Nat} {cs : Array Value} {t : TypeId} (h : RecAt w g cs t) (i : Nat) (v : Value) : RecAt (w.setCell ⟨g, i, none⟩ v) g (cs.setIfInBounds i v) t := by
  rw [setCell_eq_setRow w g i cs t (0, 0) v h]
  exact h.set _
theorem ad_refx (l : B) (w : World) (hs : l.length ≤ 1000000) : Calls Tryz.prog 106 #[.string (mkB l)] w fun e w' => e = .returned (.tuple #[.agg #[.int .i64 (ref1R l).1.col, .int .i64 (ref1R l).1.row, .bool (ref1R l).1.fc, .bool (ref1R l).1.fr], .bool (ref1R l).2]) ∧ Below w.heap.size w w' := ad_ref l w hs
theorem ad_cornersx (a b : RefS) (w : World) : Calls Tryz.prog 107 #[.agg #[.int .i64 a.col, .int .i64 a.row, .bool a.fc, .bool a.fr], .agg #[.int .i64 b.col, .int .i64 b.row, .bool b.fc, .bool b.fr]] w fun e w' =>
    e = .returned (.tuple #[.agg #[.int .i64 (cornR a b).1.col, .int .i64 (cornR a b).1.row, .bool (cornR a b).1.fc, .bool (cornR a b).1.fr], .agg #[.int .i64 (cornR a b).2.col, .int .i64 (cornR a b).2.row, .bool (cornR a b).2.fc, .bool (cornR a b).2.fr]]) ∧ Below w.heap.size w w' := ad_corners a b w
/-- which of the walk's ways -/
def parseK (l : B) : Nat :=
  if (whereR l).2.2.2 = true ∧ (cutAt (whereR l).2.2.1 58).2.2 = true then
    if (ref1R (cutAt (whereR l).2.2.1 58).1).2 = true ∧ (ref1R (cutAt (whereR l).2.2.1 58).2.1).2 = true ∧ cellR (ref1R (cutAt (whereR l).2.2.1 58).1).1.col (ref1R (cutAt (whereR l).2.2.1 58).1).1.row = true ∧ cellR (ref1R (cutAt (whereR l).2.2.1 58).2.1).1.col (ref1R (cutAt (whereR l).2.2.1 58).2.1).1.row = true then 2 else 1
  else 0
theorem fullInfo : (Tryz.prog.info? 39).map (·.size) = some 11 := by kernel_rfl
end Go.Proofs.YtnmbpmomilehoaaGreatDoor

namespace Go.Proofs.YtnmbpmomilehoaaGreatDoor
open Go.RowKit
theorem tokInfo : (Tryz.prog.info? 47).map (·.size) = some 16 := by kernel_rfl
theorem tokStore {w : World} {g : Nat} {cs : Array Value} {t : TypeId} (h : RecAt w g cs t) (hc : cs.size = 16) (a1 a2 a3 a4 a5 a6 a7 a8 a9 a10 a11 a12 a13 a14 a15 a16 : Value) (h1 : (#[a1, a2, a3, a4, a5, a6, a7, a8, a9, a10, a11, a12, a13, a14, a15, a16] : Array Value).all (·.oneCell') = true) (ht : t = 47) :
    (Instr.storeAt 47 (.pointer (some ⟨g, 0, none⟩)) (.agg #[a1, a2, a3, a4, a5, a6, a7, a8, a9, a10, a11, a12, a13, a14, a15, a16])).run Tryz.prog w = .ok () (w.setRow g #[a1, a2, a3, a4, a5, a6, a7, a8, a9, a10, a11, a12, a13, a14, a15, a16]) := by
  subst ht
  exact h.storeAt _ tokInfo hc h1
end Go.Proofs.YtnmbpmomilehoaaGreatDoor

namespace Go.Proofs.YtnmbpmomilehoaaGreatDoor
open Go.RowKit
theorem results_cell3 {P : Program} {fn : Func} {p u x : Tmp} {ty : TypeId} (h : fn.results = #[.cell p ty, .tmp u, .tmp x]) (tmps : Array Value) (w : World) (g : Nat) (t : TypeId) (cs : Array Value) (d : TypeDesc)
    (hp : tmps.getD p undef = .pointer (some ⟨g, 0, none⟩)) (hg : RecAt w g cs t)
    (hu : P.underlying ty = some d) (hd : (match d with | .struct _ | .array _ _ => true | _ => false) = true) (hi : (P.info? ty).map (·.size) = some cs.size) :
    (results fn tmps).run P w = .ok (.tuple #[.agg cs, tmps.getD u undef, tmps.getD x undef]) w := by
  have hp' : tmps[p]?.getD undef = .pointer (some ⟨g, 0, none⟩) := by simpa using hp
  simp [results, h, hp', asAddr, run_loadVar_row w g t ty cs (0, 0) d hg hu hd hi]
theorem tokInfo1 : (Tryz.prog.info? 41).map (·.size) = some 16 := by kernel_rfl
end Go.Proofs.YtnmbpmomilehoaaGreatDoor

namespace Go.Proofs.YtnmbpmomilehoaaGreatDoor
open Go.RowKit

def TokS.cells (t : TokS) : List Value := [.int .i64 t.kind, .string (mkB t.text), .int .i64 t.num, .int .i64 t.fail, .string (mkB t.ref.book), .string (mkB t.ref.sheet), .int .i64 t.ref.a.col, .int .i64 t.ref.a.row, .bool t.ref.a.fc, .bool t.ref.a.fr, .int .i64 t.ref.b.col, .int .i64 t.ref.b.row, .bool t.ref.b.fc, .bool t.ref.b.fr, .bool t.ref.wide, .int .i64 t.at_]
def cellsOf (ts : List TokS) : List Value := (ts.map TokS.cells).flatten
/-- A formula that is being read: the scan's block, the tokens that it owns. -/
structure Scan (w : World) (B0 g : Nat) (l : B) (at_ : Nat) (v : Value) (ts : List TokS) : Prop where
  blk : RecAt w g #[.string (mkB l), .int .i64 at_, v] 60
  own : w.ownsRow B0 41 16 v ts.length (cellsOf ts)
  ne : v.ownBlock ≠ some g
  ge : B0 ≤ g
  pos : at_ ≤ l.length
  len : l.length ≤ 600
  few : ts.length ≤ at_
theorem ownsRow_belows {w w' : World} {base : Nat} {e : TypeId} {size n : Nat} {v : Value} {xs : List Value} (h : w.ownsRow base e size v n xs) (hb : Below w.heap.size w w') : w'.ownsRow base e size v n xs := by
  obtain ⟨hl, h⟩ := h
  refine ⟨hl, ?_⟩
  rcases h with ⟨rfl, rfl⟩ | ⟨g, c, cur, rfl, hg, hh, hr⟩
  · exact .inl ⟨rfl, rfl⟩
  · exact .inr ⟨g, c, cur, rfl, hg, by rw [hb.block g (Array.getElem?_eq_some_iff.1 hh).1]; exact hh, hr⟩
theorem Scan.below {w w' : World} {B0 g at_ : Nat} {l : B} {v : Value} {ts : List TokS} (h : Scan w B0 g l at_ v ts) (hb : Below w.heap.size w w') : Scan w' B0 g l at_ v ts :=
  ⟨h.blk.below hb h.blk.lt, ownsRow_belows h.own hb, h.ne, h.ge, h.pos, h.len, h.few⟩
theorem lx_rest {w : World} {B0 g at_ : Nat} {l : B} {v : Value} {ts : List TokS} (h : Scan w B0 g l at_ v ts) : Calls Tryz.prog 17 #[.pointer (some ⟨g, 0, none⟩)] w fun e w' => e = .returned (.string (mkB (l.drop at_))) ∧ Below w.heap.size w w' := by
  have hms := mkB_size; have hma := mkB_append; have hmx := mkB_extract; have hmt := mkB_toList; have hmtl := subB_tail; have hmhd := subB_head
  have c0 : w.cell? ⟨g, 0, none⟩ = some (.string (mkB l)) := h.blk.cell 0
  have c1 : w.cell? ⟨g, 1, none⟩ = some (.int .i64 at_) := h.blk.cell 1
  have hp := h.pos
  have hl := h.len
  go_enter Tryz.func17, Tryz.ntmps17
  go_wp2_with (fail)
  go_quiet (fail)
  go_wp2
  go_ret
  exact ⟨rfl, below_drewN (Below.refl _ _) _⟩
theorem tokInfo3 : (Tryz.prog.info? 41).map (fun i => (i.zero, i.size, i.bytes)) = some (some (.agg #[.int .i64 0, .string (mkB []), .int .i64 0, .int .i64 0, .string (mkB []), .string (mkB []), .int .i64 0, .int .i64 0, .bool false, .bool false, .int .i64 0, .int .i64 0, .bool false, .bool false, .bool false, .int .i64 0]), 16, 136) := by kernel_rfl
set_option maxRecDepth 100000 in
set_option maxHeartbeats 3200000 in
theorem lx_put {w : World} {B0 g at_ : Nat} {l : B} {v : Value} {ts : List TokS} (h : Scan w B0 g l at_ v ts) (k : Int) (tx : B) (nu fa : Int) (bk sh : B) (ac ar : Int) (afc afr : Bool) (bc br : Int) (bfc bfr wd : Bool) (i : Int) (n : Nat) (hn : at_ + n ≤ l.length) (hn1 : 1 ≤ n) :
    Calls Tryz.prog 37 #[.pointer (some ⟨g, 0, none⟩), .agg #[.int .i64 k, .string (mkB tx), .int .i64 nu, .int .i64 fa, .string (mkB bk), .string (mkB sh), .int .i64 ac, .int .i64 ar, .bool afc, .bool afr, .int .i64 bc, .int .i64 br, .bool bfc, .bool bfr, .bool wd, .int .i64 i], .int .i64 n] w fun e w' => e = .returned (.int .i64 0) ∧ Below B0 w w' ∧
      ∃ v', Scan w' B0 g l (at_ + n) v' (ts ++ [⟨k, tx, nu, fa, ⟨bk, sh, ⟨ac, ar, afc, afr⟩, ⟨bc, br, bfc, bfr⟩, wd⟩, at_⟩]) := by
  obtain ⟨i0, hi, hz0, hz1, hz2⟩ := info_parts tokInfo3
  have hms := mkB_size; have hma := mkB_append; have hmx := mkB_extract; have hmt := mkB_toList; have hmtl := subB_tail; have hmhd := subB_head
  have c0 : w.cell? ⟨g, 0, none⟩ = some (.string (mkB l)) := h.blk.cell 0
  have c1 : w.cell? ⟨g, 1, none⟩ = some (.int .i64 at_) := h.blk.cell 1
  have c2 : w.cell? ⟨g, 2, none⟩ = some v := h.blk.cell 2
  have hp := h.pos
  have hl := h.len
  have hlt := h.blk.lt
  go_enter Tryz.func37, Tryz.ntmps37
  go_wp2_with (fail)
  have hbW : Below w.heap.size w (w.alloc (.cells #[.int .i64 k, .string (mkB tx), .int .i64 nu, .int .i64 fa, .string (mkB bk), .string (mkB sh), .int .i64 ac, .int .i64 ar, .bool afc, .bool afr, .int .i64 bc, .int .i64 br, .bool bfc, .bool bfr, .bool wd, .int .i64 at_] 41)) := (Below.refl _ _).alloc (Nat.le_refl _) _
  have hT := RecAt.new w #[.int .i64 k, .string (mkB tx), .int .i64 nu, .int .i64 fa, .string (mkB bk), .string (mkB sh), .int .i64 ac, .int .i64 ar, .bool afc, .bool afr, .int .i64 bc, .int .i64 br, .bool bfc, .bool bfr, .bool wd, .int .i64 at_] 41
  have hsc := h.below hbW
  have hWs : (w.alloc (.cells #[.int .i64 k, .string (mkB tx), .int .i64 nu, .int .i64 fa, .string (mkB bk), .string (mkB sh), .int .i64 ac, .int .i64 ar, .bool afc, .bool afr, .int .i64 bc, .int .i64 br, .bool bfc, .bool bfr, .bool wd, .int .i64 at_] 41)).heap.size = w.heap.size + 1 := by simp
  obtain ⟨W, hW⟩ : ∃ W, W = w.alloc (.cells #[.int .i64 k, .string (mkB tx), .int .i64 nu, .int .i64 fa, .string (mkB bk), .string (mkB sh), .int .i64 ac, .int .i64 ar, .bool afc, .bool afr, .int .i64 bc, .int .i64 br, .bool bfc, .bool bfr, .bool wd, .int .i64 at_] 41) := ⟨_, rfl⟩
  rw [← hW] at hbW hT hsc hWs ⊢
  clear hW c0 c1 c2
  have c0 : W.cell? ⟨g, 0, none⟩ = some (.string (mkB l)) := hsc.blk.cell 0
  have c1 : W.cell? ⟨g, 1, none⟩ = some (.int .i64 at_) := hsc.blk.cell 1
  have c2 : W.cell? ⟨g, 2, none⟩ = some v := hsc.blk.cell 2
  have cT := hT.cell
  have hzW := hsc.blk.lt
  have hge := h.ge
  have hfew := h.few
  have HSC := Lib.hid hsc
  have HWS := Lib.hid hWs
  have HI := Lib.hid hi
  have HZ0 := Lib.hid hz0
  have HZ1 := Lib.hid hz1
  have HZ2 := Lib.hid hz2
  clear hsc hWs h hi hz0 hz1 hz2
  go_region_law (refine step_append_lies _ rfl (.tmp 16) (.tmp 18) 22 rfl B0 41 i0 _ 16 136 Tryz.underlying22 HI.out HZ0.out HZ1.out HZ2.out rfl (by decide) v ts.length (cellsOf ts) (by simp [Act.eval]) (ownsRow_belows HSC.out.own (by repeat (first | exact Below.refl _ _ | apply bel_alloc | apply bel_drew))) ⟨W.heap.size, 0, none⟩ 1 1 (#[.int .i64 k, .string (mkB tx), .int .i64 nu, .int .i64 fa, .string (mkB bk), .string (mkB sh), .int .i64 ac, .int .i64 ar, .bool afc, .bool afr, .int .i64 bc, .int .i64 br, .bool bfc, .bool bfr, .bool wd, .int .i64 at_] : Array Value).toList (by simp [Act.eval]) rfl (World.news_of_block (t := 41) (fr := (0, 0)) (heap_alloc_new _ _)) (by simp [Value.oneCell']) (by omega) (by unfold maxLen; omega) (by omega) (by simp; omega) _ rfl ?_; intro g' cap w1 hown hgrow hat hlt; have hb1 : RecAt w1 g #[.string (mkB l), .int .i64 at_, v] 60 := (by unfold RecAt; rw [hgrow.block g (by simp; omega) (fun e => HSC.out.ne e.symm)]; exact HSC.out.blk.below (by repeat (first | exact Below.refl _ _ | apply bel_alloc | apply bel_drew)) hzW); have cg1 := hb1.cell; have fg1 := hb1.free)
  all_goals
    go_wp2
    go_ret
    have hne : g' ≠ g := by
      rcases hat with hat | hat
      · intro e; subst e; exact HSC.out.ne hat
      · simp at hat; omega
    refine ⟨rfl, ?_, .slice (some ⟨g', 0, none⟩) (ts.length + 1) cap, ?_⟩
    · refine Below.setCell (Below.setCell ?_ hge _) hge _
      refine Below.grown (w := _) ?_ hgrow (by simp; omega) (fun k hk => (HSC.out.own.lt k hk).1)
      exact (hbW.mono (by omega)).trans (Below.mono (B := W.heap.size) (by repeat (first | exact Below.refl _ _ | apply bel_alloc | apply bel_drew)) (by omega))
    · refine ⟨?_, ?_, ?_, hge, by omega, hl, ?_⟩
      · have := (hb1.setHere 2 (.slice (some ⟨g', 0, none⟩) (ts.length + 1) cap)).setHere 1 (.int .i64 ((at_ : Int) + n))
        simpa using this
      · have e : cellsOf (ts ++ [⟨k, tx, nu, fa, ⟨bk, sh, ⟨ac, ar, afc, afr⟩, ⟨bc, br, bfc, bfr⟩, wd⟩, at_⟩]) = cellsOf ts ++ (#[.int .i64 k, .string (mkB tx), .int .i64 nu, .int .i64 fa, .string (mkB bk), .string (mkB sh), .int .i64 ac, .int .i64 ar, .bool afc, .bool afr, .int .i64 bc, .int .i64 br, .bool bfc, .bool bfr, .bool wd, .int .i64 at_] : Array Value).toList := by simp [cellsOf, TokS.cells]
        rw [e, List.length_append]
        exact ownsRow_setCell_other (ownsRow_setCell_other hown (by simpa [Value.ownBlock] using hne) _) (by simpa [Value.ownBlock] using hne) _
      · simpa [Value.ownBlock] using hne
      · rw [List.length_append]; simp; omega
end Go.Proofs.YtnmbpmomilehoaaGreatDoor

namespace Go.Proofs.YtnmbpmomilehoaaGreatDoor
open Go.RowKit
set_option maxRecDepth 100000 in
set_option maxHeartbeats 1600000 in
theorem lx_cutLeft (l set : B) (w : World) (hs : l.length ≤ 1000000) (ha : ∀ c ∈ set, c.toNat < 128) (hz : set.length ≤ 1000000) : Calls Tryz.prog 30 #[.string (mkB l), .string (mkB set)] w fun e w' => e = .returned (.string (mkB (cutB set l))) ∧ Below w.heap.size w w' := by
  have hms := mkB_size; have hma := mkB_append; have hmx := mkB_extract; have hmt := mkB_toList; have hmtl := subB_tail; have hmhd := subB_head
  have HA := Lib.hid ha
  clear ha
  have hmz : mkB [] = (⟨#[]⟩ : ByteArray) := rfl
  go_enter Tryz.func30, Tryz.ntmps30
  go_wp2
  go_loopw [] (fun wr => ∃ p : Nat, p ≤ l.length ∧ wr.heap[w.heap.size]? = some (.stringIter (mkB l) p) ∧ Below w.heap.size w wr ∧ cutB set l = cutB set (l.drop p)) (fun wr => l.length - wr.iterPos w.heap.size)
  case atStart => exact ⟨0, by omega, World.iter_heap w (mkB l) 0, (Below.refl _ w).alloc (Nat.le_refl _) _, rfl⟩
  case round =>
    obtain ⟨p, hp, hit, hbw, hr⟩ := hrel
    have HR := Lib.hid hr
    clear hr
    have hsz : w.heap.size < wr.heap.size := (Array.getElem?_eq_some_iff.1 hit).1
    have hms := mkB_size l
    by_cases h : p < l.length
    · have hnx : ∀ ty, (Instr.next (.pointer (some ⟨w.heap.size, 0, none⟩)) true ty).run Tryz.prog wr = _ := fun ty => Lib.run_next_any_at wr w.heap.size (mkB l) p ty hit (by rw [mkB_size]; exact h)
      have hd : ((l[p]).toNat < 128 ∧ Utf8.decode (mkB l) p = ((l[p]).toNat, 1)) ∨ (128 ≤ (l[p]).toNat ∧ 128 ≤ (Utf8.decode (mkB l) p).1) := by
        by_cases hc : (l[p]).toNat < 128
        · exact .inl ⟨hc, dec_at l p h hc⟩
        · exact .inr ⟨by omega, (dec_high l p h (by omega)).1⟩
      have HM := Lib.hid (show hasN set (Utf8.decode (mkB l) p).1 = hasB set (l[p]) by
        rcases hd with ⟨hc, he⟩ | ⟨hc, he⟩
        · rw [he, hasN_byte]
        · rw [hasN_high set _ HA.out he, hasB_high set _ HA.out hc])
      have HW := Lib.hid (show hasB set (l[p]) = true → (Utf8.decode (mkB l) p).2 = 1 by
        intro hh
        rcases hd with ⟨hc, he⟩ | ⟨hc, he⟩
        · rw [he]
        · rw [hasB_high set _ HA.out hc] at hh; cases hh)
      have hr32 := decode_le (mkB l) p
      have hit2 := Lib.iterAt_heap wr w.heap.size (mkB l) p (p + (Utf8.decode (mkB l) p).2) hit
      have hbw2 := Lib.below_iterAt hbw (k := w.heap.size) (by omega) (mkB l) (p + (Utf8.decode (mkB l) p).2)
      have hsz2 := Lib.iterAt_size wr w.heap.size (mkB l) (p + (Utf8.decode (mkB l) p).2)
      obtain ⟨rn, hrn⟩ : ∃ x, x = (Utf8.decode (mkB l) p).1 := ⟨_, rfl⟩
      obtain ⟨wd, hwd⟩ : ∃ x, x = (Utf8.decode (mkB l) p).2 := ⟨_, rfl⟩
      rw [← hrn, ← hwd] at hnx
      rw [← hrn] at HM hr32
      rw [← hwd] at HW hit2 hbw2 hsz2
      obtain ⟨w2, hw2⟩ : ∃ x, x = wr.iterAt w.heap.size (mkB l) (p + wd) := ⟨_, rfl⟩
      rw [← hw2] at hnx hit2 hbw2 hsz2
      have hsz3 : w.heap.size < w2.heap.size := by rw [hsz2]; exact hsz
      clear hrn hwd hd hw2 hsz2
      have HP1 := Lib.hid (show wr.iterPos w.heap.size = p from iterPos_of hit)
      go_wp2
      clear hnx
      go_loopw [7] (fun v wi => ∃ k : Nat, k ≤ set.length ∧ v = .bool (hasN (set.take k) rn) ∧ wi.heap[w2.heap.size]? = some (.stringIter (mkB set) k) ∧ wi.heap[w.heap.size]? = some (.stringIter (mkB l) (p + wd)) ∧ Below w.heap.size w wi) (fun _ wi => set.length - wi.iterPos w2.heap.size)
      case atStart => exact ⟨0, by omega, rfl, World.iter_heap w2 (mkB set) 0, by show (w2.heap.push _)[w.heap.size]? = _; rw [Array.getElem?_push, if_neg (by omega)]; exact hit2, hbw2.alloc (by omega) _⟩
      case round =>
        obtain ⟨k, hk, rfl, hi1, hi2, hbi⟩ := hrel
        have hsi : w2.heap.size < wr.heap.size := (Array.getElem?_eq_some_iff.1 hi1).1
        by_cases h2 : k < set.length
        · have hsc := HA.out (set[k]) (List.getElem_mem h2)
          have hnx : ∀ ty, (Instr.next (.pointer (some ⟨w2.heap.size, 0, none⟩)) true ty).run Tryz.prog wr = _ := fun ty => Lib.run_next_any_at wr w2.heap.size (mkB set) k ty hi1 (by rw [mkB_size]; exact h2)
          rw [dec_at set k h2 hsc] at hnx
          have hj1 := Lib.iterAt_heap wr w2.heap.size (mkB set) k (k + 1) hi1
          have hj2 : (wr.iterAt w2.heap.size (mkB set) (k + 1)).heap[w.heap.size]? = _ := (Lib.iterAt_other wr w2.heap.size w.heap.size (mkB set) (k + 1) (by omega)).trans hi2
          have hbj := Lib.below_iterAt hbi (k := w2.heap.size) (by omega) (mkB set) (k + 1)
          have hms2 := Lib.hid (show wr.iterPos w2.heap.size = k from iterPos_of hi1)
          obtain ⟨w4, hw4⟩ : ∃ x, x = wr.iterAt w2.heap.size (mkB set) (k + 1) := ⟨_, rfl⟩
          rw [← hw4] at hnx hj1 hj2 hbj
          clear hw4
          have HT := Lib.hid (hasN_take set k rn h2)
          obtain ⟨d, hd⟩ : ∃ d, d = (set[k]).toNat := ⟨_, rfl⟩
          rw [← hd] at hnx HT hsc
          clear hd
          cases hin : hasN (set.take k) rn with
          | true =>
            go_wp2
            go_roundw
            case rel => exact ⟨k + 1, by omega, by rw [HT.out, hin]; rfl, hj1, hj2, hbj⟩
            case measure => rw [iterPos_of hj1, hms2.out]; omega
          | false =>
            go_wp2
            go_roundw
            case rel => exact ⟨k + 1, by omega, by rw [HT.out, hin]; exact vb (by rw [Bool.false_or, Bool.eq_iff_iff]; simp; omega), hj1, hj2, hbj⟩
            case measure => rw [iterPos_of hj1, hms2.out]; omega
        · have hnx : ∀ ty, (Instr.next (.pointer (some ⟨w2.heap.size, 0, none⟩)) true ty).run Tryz.prog wr = _ := fun ty => Lib.run_next_end_at wr w2.heap.size (mkB set) k ty hi1 (by rw [mkB_size]; exact h2)
          have HK := Lib.hid (show hasN (set.take k) rn = hasB set (l[p]) by rw [List.take_of_length_le (by omega)]; exact HM.out)
          cases hin : hasN (set.take k) rn with
          | true =>
            go_wp2
            go_roundw
            case rel => exact ⟨p + 1, by omega, by rw [← HW.out (by rw [← HK.out, hin])]; exact hi2, hbi, by rw [HR.out, drop_cons l p h, cutB, if_pos (by rw [← HK.out, hin])]⟩
            case measure => rw [HP1.out, iterPos_of hi2, HW.out (by rw [← HK.out, hin])]; omega
          | false =>
            go_wp2
            go_ret
            exact ⟨ret_s (by rw [HR.out, drop_cons l p h, cutB, if_neg (by rw [← HK.out, hin]; simp)]), hbi⟩
    · have hnx : ∀ ty, (Instr.next (.pointer (some ⟨w.heap.size, 0, none⟩)) true ty).run Tryz.prog wr = _ := fun ty => Lib.run_next_end_at wr w.heap.size (mkB l) p ty hit (by rw [mkB_size]; exact h)
      go_wp2
      go_ret
      exact ⟨ret_s (by rw [HR.out, drop_nil l p h]; rfl), hbw⟩
set_option maxRecDepth 100000 in
theorem lx_run (l set : B) (w : World) (hs : l.length ≤ 1000000) (ha : ∀ c ∈ set, c.toNat < 128) (hz : set.length ≤ 1000000) : Calls Tryz.prog 16 #[.string (mkB l), .string (mkB set)] w fun e w' => e = .returned (.int .i64 (spanK (hasB set) l)) ∧ Below w.heap.size w w' := by
  have hms := mkB_size; have hma := mkB_append; have hmx := mkB_extract; have hmt := mkB_toList; have hmtl := subB_tail; have hmhd := subB_head
  have HA := Lib.hid ha
  clear ha
  have hk := spanK_le (hasB set) l
  have hcl : (cutB set l).length ≤ l.length := by rw [cutB_eq, List.length_drop]; omega
  have HC := Lib.hid (show (cutB set l).length = l.length - spanK (hasB set) l by rw [cutB_eq, List.length_drop])
  go_enter Tryz.func16, Tryz.ntmps16
  go_wp2_with (first | (go_at_call 30; refine (lx_cutLeft l set _ hs HA.out hz).mono ?_; rintro e w1 ⟨rfl, hb_w1⟩; obtain ⟨hc_w1, hf_w1⟩ := bcell hb_w1; have hz_w1 := hb_w1.size; (try simp at hz_w1); (try (have hz0_w1 : w.heap.size < w1.heap.size := by omega)); (try (have hz1_w1 : w.heap.size + 1 < w1.heap.size := by omega)); (try (have hz2_w1 : w.heap.size + 2 < w1.heap.size := by omega)); (try (have hz3_w1 : w.heap.size + 3 < w1.heap.size := by omega))))
  go_ret
  exact ⟨ret_i (by rw [HC.out]; omega), hb_w1⟩
end Go.Proofs.YtnmbpmomilehoaaGreatDoor

namespace Go.Proofs.YtnmbpmomilehoaaGreatDoor
open Go.RowKit

def isF (f : Int) : Bool := decide (0 < f ∧ f < 9)
theorem va_is (f : Int) (w : World) : Calls Tryz.prog 56 #[.int .i64 f] w fun e w' => e = .returned (.bool (isF f)) ∧ w = w' := by
  go_enter Tryz.func56, Tryz.ntmps56
  go_wp2
  all_goals
    go_ret
    refine ⟨ret_b ?_, rfl⟩
    rw [Bool.eq_iff_iff]; simp only [isF, decide_eq_true_eq, Bool.false_eq_true, false_iff]
    omega
theorem signs_out (f : Int) (h : isF f = false) : signsB f = [] := by
  simp only [isF, decide_eq_false_iff_not] at h
  unfold signsB
  (repeat rw [if_neg (by omega)])
set_option maxRecDepth 100000 in
theorem va_Text (f : Int) (w : World) (hG : Glob w) : Calls Tryz.prog 25 #[.int .i64 f] w fun e w' => e = .returned (.string (mkB (signsB f))) ∧ w = w' := by
  cases h : isF f with
  | false =>
    have HZ := Lib.hid (signs_out f h)
    go_enter Tryz.func25, Tryz.ntmps25
    go_wp2_with (first | (go_at_call 56; refine (va_is f _).mono ?_; rw [h]; rintro e w' ⟨rfl, rfl⟩))
    go_ret
    exact ⟨ret_s (by rw [HZ.out]; rfl), rfl⟩
  | true =>
    have hb : 0 < f ∧ f < 9 := of_decide_eq_true h
    obtain ⟨k, rfl⟩ := Int.eq_ofNat_of_zero_le (show 0 ≤ f by omega)
    have hc := hG.sig k (by omega)
    have hk : k < 9 := by omega
    go_enter Tryz.func25, Tryz.ntmps25
    go_wp2_with (first | (go_at_call 56; refine (va_is k _).mono ?_; rw [h]; rintro e w' ⟨rfl, rfl⟩))
    go_ret
    exact ⟨rfl, rfl⟩
theorem fx_size (a : Int) (w : World) (h0 : -9000000000000000000 ≤ a) (h1 : a ≤ 9000000000000000000) : Calls Tryz.prog 52 #[.int .i64 a] w fun e w' => e = .returned (.tuple #[.int .u64 (a.natAbs : Int), .bool (decide (a < 0))]) ∧ w = w' := by
  by_cases h : a < 0
  · go_enter Tryz.func52, Tryz.ntmps52
    go_wp2
    go_ret2
    exact ⟨ret2 (vi (by omega)) (vb (by simp [h])), rfl⟩
  · go_enter Tryz.func52, Tryz.ntmps52
    go_wp2
    go_ret2
    exact ⟨ret2 (vi (by omega)) (vb (by simp [h])), rfl⟩
set_option maxHeartbeats 800000 in
theorem fx_good1 (a : Int) (b : Nat) (w : World) (_hb : b < w.heap.size) (hc : w.cell? ⟨b, 0, none⟩ = some (.int .i64 a)) : Calls Tryz.prog 51 #[.slice (some ⟨b, 0, none⟩) 1 1] w fun e w' => e = .returned (.bool (okN a)) ∧ w = w' := by
  by_cases h : okN a = true
  · have h1 : -9000000000000000000 ≤ a ∧ a ≤ 9000000000000000000 := of_decide_eq_true h
    have h2 : ¬ a < -9000000000000000000 := by omega
    go_enter Tryz.func51, Tryz.ntmps51
    go_wp2
    go_loop [7] (fun i => ∃ k : Nat, k ≤ 1 ∧ i = .int .i64 k) (fun i => 1 - (intOf i).toNat)
    case atStart => exact ⟨0, by omega, rfl⟩
    case round =>
      obtain ⟨k, hk, rfl⟩ := hrel
      by_cases h0 : k = 0
      · subst h0
        go_wp2
        go_round
        case rel => exact ⟨1, by omega, rfl⟩
        case measure => simp [intOf]
      · obtain rfl : k = 1 := by omega
        go_wp2
        go_ret
        exact ⟨rfl, rfl⟩
  · have hf : okN a = false := by simpa using h
    have h1 : ¬ (-9000000000000000000 ≤ a ∧ a ≤ 9000000000000000000) := of_decide_eq_false hf
    go_enter Tryz.func51, Tryz.ntmps51
    go_wp2
    refine wp_loop_rounds 1 ?_
    rw [rounds_succ]
    go_wp2
    all_goals
      go_ret
      first | exact ⟨rfl, rfl⟩ | exact ⟨ret_b hf.symm, rfl⟩
end Go.Proofs.YtnmbpmomilehoaaGreatDoor

namespace Go.Proofs.YtnmbpmomilehoaaGreatDoor
open Go.RowKit

theorem s_TrimD (l : B) (w : World) (hs : l.length ≤ 1000000) : Calls Tryz.prog 135 #[.string (mkB l), .string (mkB digS)] w fun e w' => e = .returned (.string (mkB (Lib.trimS l digS))) ∧ Below w.heap.size w w' := by
  refine (Any.strings_Trim_laid Tryz.lays160 (by kernel_rfl) (mkB l) (mkB digS) w (by rw [mkB_size]; omega) (by rw [mkB_size]; decide) (by rw [mkB_data]; exact ascii_of_all (by decide))).mono ?_
  rintro e w' ⟨rfl, hb⟩
  simp only [mkB_data]
  exact ⟨rfl, hb⟩
theorem fx_run (l : B) (w : World) (hs : l.length ≤ 1000000) : Calls Tryz.prog 95 #[.string (mkB l)] w fun e w' => e = .returned (.bool (allR l)) ∧ Below w.heap.size w w' := by
  have hms := mkB_size; have hma := mkB_append; have hmx := mkB_extract; have hmt := mkB_toList; have hmtl := subB_tail; have hmhd := subB_head
  have k1 : (⟨#[48, 49, 50, 51, 52, 53, 54, 55, 56, 57]⟩ : ByteArray) = mkB digS := rfl
  have k2 : (⟨#[]⟩ : ByteArray) = mkB [] := rfl
  have HT := Lib.hid (trimS_dig l)
  obtain ⟨t, ht⟩ : ∃ t, t = Lib.trimS l digS := ⟨_, rfl⟩
  rw [← ht] at HT
  have HX := Lib.hid ht
  clear ht
  go_enter Tryz.func95, Tryz.ntmps95
  go_wp2_with (first | (go_at_call 135; refine (s_TrimD l _ hs).mono ?_; rw [← HX.out]; rintro e w1 ⟨rfl, hb_w1⟩))
  all_goals
    go_ret
    refine ⟨ret_b ?_, (by repeat (first | exact Below.refl _ _ | assumption | apply bel_drew | apply bel_drewN | apply bel_alloc | (refine bel_set ?_ (by first | (simp; done) | omega) _) | (refine Bel.trans ?_ (by assumption))))⟩
    unfold allR
    rw [← HT.out]
    rw [Bool.eq_iff_iff]
    simp only [Bool.and_eq_true, decide_eq_true_eq, Bool.false_eq_true, false_iff]
    first | omega | (cases t <;> simp <;> omega) | (cases t <;> simp) | skip
end Go.Proofs.YtnmbpmomilehoaaGreatDoor
