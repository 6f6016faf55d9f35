/-
  Part 6 of what the proof stands on: P9a, P9b, P9c, P9, L7.
-/
import Derived.Test.YtnmbpmomilehoaaGreatDoorK4
import Derived.Test.YtnmbpmomilehoaaGreatDoorK5
import Derived.Test.YtnmbpmomilehoaaGreatDoorK3
namespace Go.Proofs.YtnmbpmomilehoaaGreatDoor
open Go.RowKit

set_option maxRecDepth 100000 in
set_option maxHeartbeats 12800000 in
theorem ad_ParseN (l : B) (w : World) (hs : l.length ≤ 1000000) (hG : Glob w) (hk0 : parseK l = 0) : Calls Tryz.prog 70 #[.string (mkB l)] w fun e w' => e = .returned (.tuple #[(full4 l).1.val, .int .i64 (full4 l).2]) ∧ Below w.heap.size w w' := by
  have hms := mkB_size; have hma := mkB_append; have hmx := mkB_extract; have hmt := mkB_toList; have hmtl := subB_tail; have hmhd := subB_head
  have HK1 := Lib.hid hk0
  clear hk0
  have k1 : (⟨#[58]⟩ : ByteArray) = mkB [58] := rfl
  have k2 : (⟨#[]⟩ : ByteArray) = mkB [] := rfl
  have hf := full4_where l
  obtain ⟨⟨book, sheet, r, ok⟩, hw⟩ : ∃ x, x = whereR l := ⟨_, rfl⟩
  rw [← hw] at hf
  cases ok with
  | false =>
    have HZ := Lib.hid (show full4 l = (FullS.zero, 4) by rw [hf, if_neg (by simp)])
    have HW := Lib.hid hw
    clear hf hw
    go_enter Tryz.func70, Tryz.ntmps70
    go_wp2_with (first | (go_at_call 105; refine (ad_where l _ hs (hG.below (by repeat (first | exact Below.refl _ _ | assumption | apply bel_alloc | (refine below_setRow ?_ (by omega) _) | (refine bel_set ?_ (by simp; omega) _) | (refine Bel.trans ?_ (by assumption)))))).mono ?_; rw [← HW.out]; rintro e w1 ⟨rfl, hb_w1⟩; have hR1 := (RecAt.new w #[.string (mkB []), .string (mkB []), .int .i64 0, .int .i64 0, .bool false, .bool false, .int .i64 0, .int .i64 0, .bool false, .bool false, .bool false] 39).below hb_w1 (by simp); have hz1 := hR1.lt) | (refine wpList_store_row rfl 39 _ _ rfl w.heap.size _ rfl rfl 39 #[.string (mkB []), .string (mkB []), .int .i64 0, .int .i64 0, .bool false, .bool false, .int .i64 0, .int .i64 0, .bool false, .bool false, .bool false] (by first | exact hR6 | exact hR5 | exact hR4 | exact hR3c | exact (hR3.alloc _).alloc _ | exact hR1) fullInfo rfl (by simp [Value.oneCell']) ?_))
    refine bodyPost_ret (results_cell2 Tryz.results70 _ _ w.heap.size _ _ _ rfl (RecAt.set (by first | exact hR6 | exact hR5 | exact hR4 | exact hR3c | exact (hR3.alloc _).alloc _ | exact hR1 : RecAt _ w.heap.size #[.string (mkB []), .string (mkB []), .int .i64 0, .int .i64 0, .bool false, .bool false, .int .i64 0, .int .i64 0, .bool false, .bool false, .bool false] 39) _) Tryz.underlying39 rfl fullInfo) rfl ⟨by rw [HZ.out]; rfl, by repeat (first | exact Below.refl _ _ | assumption | apply bel_alloc | (refine below_setRow ?_ (by omega) _) | (refine bel_set ?_ (by simp; omega) _) | (refine Bel.trans ?_ (by assumption)))⟩
  | true =>
    have hk := whereR_ok hw
    rw [if_pos rfl, cellsR_cut] at hf
    have HW := Lib.hid hw
    have HK0 := Lib.hid hk
    have hbk : book.length ≤ 1000000 := by omega
    have hsh : sheet.length ≤ 1000000 := by omega
    have hr : r.length ≤ 1000000 := by omega
    have hlen := cutAt_len r 58
    clear hw hk
    obtain ⟨⟨x, y, wide⟩, hc⟩ : ∃ x, x = cutAt r 58 := ⟨_, rfl⟩
    rw [← hc] at hf hlen
    simp only [] at hf hlen
    have hx : x.length ≤ 1000000 := by omega
    have hy : y.length ≤ 1000000 := by omega
    have HC := Lib.hid hc
    clear hc hlen
    obtain ⟨⟨⟨ac, ar, afc, afr⟩, ok1⟩, ha⟩ : ∃ q, q = ref1R x := ⟨_, rfl⟩
    rw [← ha] at hf
    have HA := Lib.hid ha
    clear ha
    cases wide with
    | false =>
      rw [if_pos rfl] at hf
      cases ok1 with
      | false =>
        have HZ := Lib.hid (show full4 l = (FullS.zero, 4) by rw [hf, if_neg (by simp)])
        clear hf
        go_enter Tryz.func70, Tryz.ntmps70
        go_wp2_with (first | (go_at_call 105; refine (ad_where l _ hs (hG.below (by repeat (first | exact Below.refl _ _ | assumption | apply bel_alloc | (refine below_setRow ?_ (by omega) _) | (refine bel_set ?_ (by simp; omega) _) | (refine Bel.trans ?_ (by assumption)))))).mono ?_; rw [← HW.out]; rintro e w1 ⟨rfl, hb_w1⟩; have hR1 := (RecAt.new w #[.string (mkB []), .string (mkB []), .int .i64 0, .int .i64 0, .bool false, .bool false, .int .i64 0, .int .i64 0, .bool false, .bool false, .bool false] 39).below hb_w1 (by simp); have hz1 := hR1.lt) | (go_at_call 63; refine (s_Cut r 58 _ hr (hG.below (by repeat (first | exact Below.refl _ _ | assumption | apply bel_alloc | (refine below_setRow ?_ (by omega) _) | (refine bel_set ?_ (by simp; omega) _) | (refine Bel.trans ?_ (by assumption)))))).mono ?_; rw [← HC.out]; rintro e w2 ⟨rfl, hb_w2⟩; have hF2 := (RecAt.new w1 #[.string (mkB book), .string (mkB sheet), .int .i64 0, .int .i64 0, .bool false, .bool false, .int .i64 0, .int .i64 0, .bool false, .bool false, .bool false] 39).below hb_w2 (by simp); have hR2 := (hR1.alloc _).below hb_w2 (by simp; omega); have hz2 := hF2.lt) | (go_at_call_of 106 (Value.string (mkB x)); refine (ad_refx x _ hx).mono ?_; rw [← HA.out]; rintro e w3 ⟨rfl, hb_w3⟩; have hF3 := hF2.below hb_w3 hz2; have hR3 := hR2.below hb_w3 (by omega); have hz3 := hb_w3.size) | (refine wpList_store_row rfl 39 _ _ rfl w.heap.size _ rfl rfl 39 #[.string (mkB []), .string (mkB []), .int .i64 0, .int .i64 0, .bool false, .bool false, .int .i64 0, .int .i64 0, .bool false, .bool false, .bool false] (by first | exact hR6 | exact hR5 | exact hR4 | exact hR3c | exact (hR3.alloc _).alloc _ | exact hR1) fullInfo rfl (by simp [Value.oneCell']) ?_))
        refine bodyPost_ret (results_cell2 Tryz.results70 _ _ w.heap.size _ _ _ rfl (RecAt.set (by first | exact hR6 | exact hR5 | exact hR4 | exact hR3c | exact (hR3.alloc _).alloc _ | exact hR1 : RecAt _ w.heap.size #[.string (mkB []), .string (mkB []), .int .i64 0, .int .i64 0, .bool false, .bool false, .int .i64 0, .int .i64 0, .bool false, .bool false, .bool false] 39) _) Tryz.underlying39 rfl fullInfo) rfl ⟨by rw [HZ.out]; rfl, by repeat (first | exact Below.refl _ _ | assumption | apply bel_alloc | (refine below_setRow ?_ (by omega) _) | (refine bel_set ?_ (by simp; omega) _) | (refine Bel.trans ?_ (by assumption)))⟩
      | true =>
        rw [if_pos rfl] at hf
        cases hg : cellR ac ar with
        | false =>
          have HZ := Lib.hid (show full4 l = (FullS.zero, 3) by rw [hf, if_neg (by simp [hg])])
          have HG1 := Lib.hid hg
          clear hf hg
          go_enter Tryz.func70, Tryz.ntmps70
          go_wp2_with (first | (go_at_call 105; refine (ad_where l _ hs (hG.below (by repeat (first | exact Below.refl _ _ | assumption | apply bel_alloc | (refine below_setRow ?_ (by omega) _) | (refine bel_set ?_ (by simp; omega) _) | (refine Bel.trans ?_ (by assumption)))))).mono ?_; rw [← HW.out]; rintro e w1 ⟨rfl, hb_w1⟩; have hR1 := (RecAt.new w #[.string (mkB []), .string (mkB []), .int .i64 0, .int .i64 0, .bool false, .bool false, .int .i64 0, .int .i64 0, .bool false, .bool false, .bool false] 39).below hb_w1 (by simp); have hz1 := hR1.lt) | (go_at_call 63; refine (s_Cut r 58 _ hr (hG.below (by repeat (first | exact Below.refl _ _ | assumption | apply bel_alloc | (refine below_setRow ?_ (by omega) _) | (refine bel_set ?_ (by simp; omega) _) | (refine Bel.trans ?_ (by assumption)))))).mono ?_; rw [← HC.out]; rintro e w2 ⟨rfl, hb_w2⟩; have hF2 := (RecAt.new w1 #[.string (mkB book), .string (mkB sheet), .int .i64 0, .int .i64 0, .bool false, .bool false, .int .i64 0, .int .i64 0, .bool false, .bool false, .bool false] 39).below hb_w2 (by simp); have hR2 := (hR1.alloc _).below hb_w2 (by simp; omega); have hz2 := hF2.lt) | (go_at_call_of 106 (Value.string (mkB x)); refine (ad_refx x _ hx).mono ?_; rw [← HA.out]; rintro e w3 ⟨rfl, hb_w3⟩; have hF3 := hF2.below hb_w3 hz2; have hR3 := hR2.below hb_w3 (by omega); have hz3 := hb_w3.size) | (go_at_call 77; refine (ad_CellGood ac ar _).mono ?_; rw [HG1.out]; rintro e w4 ⟨rfl, hb_w4⟩; have hA4 := ((RecAt.new w3 #[.int .i64 ac, .int .i64 ar, .bool afc, .bool afr] 37).alloc (.cells #[.int .i64 ac, .int .i64 ar, .bool afc, .bool afr] 37)).below hb_w4 (by simp; try omega); have hB4 : RecAt w4 (w3.heap.size + 1) #[.int .i64 ac, .int .i64 ar, .bool afc, .bool afr] 37 := (by have := (RecAt.new (w3.alloc (.cells #[.int .i64 ac, .int .i64 ar, .bool afc, .bool afr] 37)) #[.int .i64 ac, .int .i64 ar, .bool afc, .bool afr] 37).below hb_w4 (by simp); simpa using this); have hF4 := ((hF3.alloc (.cells #[.int .i64 ac, .int .i64 ar, .bool afc, .bool afr] 37)).alloc (.cells #[.int .i64 ac, .int .i64 ar, .bool afc, .bool afr] 37)).below hb_w4 (by simp; omega); have hR4 := ((hR3.alloc (.cells #[.int .i64 ac, .int .i64 ar, .bool afc, .bool afr] 37)).alloc (.cells #[.int .i64 ac, .int .i64 ar, .bool afc, .bool afr] 37)).below hb_w4 (by simp; omega); have cA4 := hA4.cell; have cB4 := hB4.cell) | (refine wpList_store_row rfl 39 _ _ rfl w.heap.size _ rfl rfl 39 #[.string (mkB []), .string (mkB []), .int .i64 0, .int .i64 0, .bool false, .bool false, .int .i64 0, .int .i64 0, .bool false, .bool false, .bool false] (by first | exact hR6 | exact hR5 | exact hR4 | exact hR3c | exact (hR3.alloc _).alloc _ | exact hR1) fullInfo rfl (by simp [Value.oneCell']) ?_))
          refine bodyPost_ret (results_cell2 Tryz.results70 _ _ w.heap.size _ _ _ rfl (RecAt.set (by first | exact hR6 | exact hR5 | exact hR4 | exact hR3c | exact (hR3.alloc _).alloc _ | exact hR1 : RecAt _ w.heap.size #[.string (mkB []), .string (mkB []), .int .i64 0, .int .i64 0, .bool false, .bool false, .int .i64 0, .int .i64 0, .bool false, .bool false, .bool false] 39) _) Tryz.underlying39 rfl fullInfo) rfl ⟨by rw [HZ.out]; rfl, by repeat (first | exact Below.refl _ _ | assumption | apply bel_alloc | (refine below_setRow ?_ (by omega) _) | (refine bel_set ?_ (by simp; omega) _) | (refine Bel.trans ?_ (by assumption)))⟩
        | true =>
          have HZ := Lib.hid (show full4 l = (⟨book, sheet, ⟨ac, ar, afc, afr⟩, RefS.zero, false⟩, 0) by rw [hf, if_pos (by simp [hg])])
          have HGF := Lib.hid (show goodR ⟨book, sheet, ⟨ac, ar, afc, afr⟩, ⟨0, 0, false, false⟩, false⟩ = true by rw [goodR_ok HK0.out.1 HK0.out.2.1, if_neg (by simp)]; show (decide (RefS.zero = RefS.zero) && cellR ac ar) = true; rw [hg]; rfl)
          have HG1 := Lib.hid hg
          have HG2 := Lib.hid hg
          clear hf hg
          go_enter Tryz.func70, Tryz.ntmps70
          go_wp2_with (first | (go_at_call 105; refine (ad_where l _ hs (hG.below (by repeat (first | exact Below.refl _ _ | assumption | apply bel_alloc | (refine below_setRow ?_ (by omega) _) | (refine bel_set ?_ (by simp; omega) _) | (refine Bel.trans ?_ (by assumption)))))).mono ?_; rw [← HW.out]; rintro e w1 ⟨rfl, hb_w1⟩; have hR1 := (RecAt.new w #[.string (mkB []), .string (mkB []), .int .i64 0, .int .i64 0, .bool false, .bool false, .int .i64 0, .int .i64 0, .bool false, .bool false, .bool false] 39).below hb_w1 (by simp); have hz1 := hR1.lt) | (go_at_call 63; refine (s_Cut r 58 _ hr (hG.below (by repeat (first | exact Below.refl _ _ | assumption | apply bel_alloc | (refine below_setRow ?_ (by omega) _) | (refine bel_set ?_ (by simp; omega) _) | (refine Bel.trans ?_ (by assumption)))))).mono ?_; rw [← HC.out]; rintro e w2 ⟨rfl, hb_w2⟩; have hF2 := (RecAt.new w1 #[.string (mkB book), .string (mkB sheet), .int .i64 0, .int .i64 0, .bool false, .bool false, .int .i64 0, .int .i64 0, .bool false, .bool false, .bool false] 39).below hb_w2 (by simp); have hR2 := (hR1.alloc _).below hb_w2 (by simp; omega); have hz2 := hF2.lt) | (go_at_call_of 106 (Value.string (mkB x)); refine (ad_refx x _ hx).mono ?_; rw [← HA.out]; rintro e w3 ⟨rfl, hb_w3⟩; have hF3 := hF2.below hb_w3 hz2; have hR3 := hR2.below hb_w3 (by omega); have hz3 := hb_w3.size) | (go_at_call 77; refine (ad_CellGood ac ar _).mono ?_; rw [HG2.out]; rintro e w5 ⟨rfl, hb_w5⟩; have hA5 := hA4.below hb_w5 hA4.lt; have hB5 := hB4.below hb_w5 hB4.lt; have hF5 := hF4.below hb_w5 hF4.lt; have hR5 := hR4.below hb_w5 hR4.lt; have cA5 := hA5.cell; have cB5 := hB5.cell; have cF5 := hF5.cell; have fF5 := hF5.free; have zF5 := hF5.lt) | (go_at_call 77; refine (ad_CellGood ac ar _).mono ?_; rw [HG1.out]; rintro e w4 ⟨rfl, hb_w4⟩; have hA4 := ((RecAt.new w3 #[.int .i64 ac, .int .i64 ar, .bool afc, .bool afr] 37).alloc (.cells #[.int .i64 ac, .int .i64 ar, .bool afc, .bool afr] 37)).below hb_w4 (by simp; try omega); have hB4 : RecAt w4 (w3.heap.size + 1) #[.int .i64 ac, .int .i64 ar, .bool afc, .bool afr] 37 := (by have := (RecAt.new (w3.alloc (.cells #[.int .i64 ac, .int .i64 ar, .bool afc, .bool afr] 37)) #[.int .i64 ac, .int .i64 ar, .bool afc, .bool afr] 37).below hb_w4 (by simp); simpa using this); have hF4 := ((hF3.alloc (.cells #[.int .i64 ac, .int .i64 ar, .bool afc, .bool afr] 37)).alloc (.cells #[.int .i64 ac, .int .i64 ar, .bool afc, .bool afr] 37)).below hb_w4 (by simp; omega); have hR4 := ((hR3.alloc (.cells #[.int .i64 ac, .int .i64 ar, .bool afc, .bool afr] 37)).alloc (.cells #[.int .i64 ac, .int .i64 ar, .bool afc, .bool afr] 37)).below hb_w4 (by simp; omega); have cA4 := hA4.cell; have cB4 := hB4.cell) | (go_at_call 45; refine (ad_Good book sheet ac ar afc afr 0 0 false false false _ hbk hsh).mono ?_; rw [HGF.out]; rintro e w6 ⟨rfl, hb_w6⟩; have hR6 : RecAt w6 w.heap.size #[.string (mkB []), .string (mkB []), .int .i64 0, .int .i64 0, .bool false, .bool false, .int .i64 0, .int .i64 0, .bool false, .bool false, .bool false] 39 := (by refine RecAt.below (B := _) ?_ hb_w6 (by simp; omega); (repeat refine RecAt.setAway ?_ (by simp; omega) _); first | exact hR5b | exact hR5); obtain ⟨hc_w6, hf_w6⟩ := bcell hb_w6) | (refine wpList_store_row rfl 39 _ _ rfl w.heap.size _ rfl rfl 39 #[.string (mkB []), .string (mkB []), .int .i64 0, .int .i64 0, .bool false, .bool false, .int .i64 0, .int .i64 0, .bool false, .bool false, .bool false] (by first | exact hR6 | exact hR5 | exact hR4 | exact hR3c | exact (hR3.alloc _).alloc _ | exact hR1) fullInfo rfl (by simp [Value.oneCell']) ?_))
          refine bodyPost_ret (results_cell2 Tryz.results70 _ _ w.heap.size _ _ _ rfl (RecAt.set (by first | exact hR6 | exact hR5 | exact hR4 | exact hR3c | exact (hR3.alloc _).alloc _ | exact hR1 : RecAt _ w.heap.size #[.string (mkB []), .string (mkB []), .int .i64 0, .int .i64 0, .bool false, .bool false, .int .i64 0, .int .i64 0, .bool false, .bool false, .bool false] 39) _) Tryz.underlying39 rfl fullInfo) rfl ⟨by rw [HZ.out]; rfl, by repeat (first | exact Below.refl _ _ | assumption | apply bel_alloc | (refine below_setRow ?_ (by omega) _) | (refine bel_set ?_ (by simp; omega) _) | (refine Bel.trans ?_ (by assumption)))⟩
    | true =>
      exact absurd HK1.out (by unfold parseK; rw [← HW.out]; simp only []; rw [← HC.out]; simp only [and_self, if_true]; split <;> simp)
end Go.Proofs.YtnmbpmomilehoaaGreatDoor

namespace Go.Proofs.YtnmbpmomilehoaaGreatDoor
open Go.RowKit

set_option maxRecDepth 100000 in
set_option maxHeartbeats 12800000 in
theorem ad_ParseV (l : B) (w : World) (hs : l.length ≤ 1000000) (hG : Glob w) (hk0 : parseK l = 1) : Calls Tryz.prog 70 #[.string (mkB l)] w fun e w' => e = .returned (.tuple #[(full4 l).1.val, .int .i64 (full4 l).2]) ∧ Below w.heap.size w w' := by
  have hms := mkB_size; have hma := mkB_append; have hmx := mkB_extract; have hmt := mkB_toList; have hmtl := subB_tail; have hmhd := subB_head
  have HK1 := Lib.hid hk0
  clear hk0
  have k1 : (⟨#[58]⟩ : ByteArray) = mkB [58] := rfl
  have k2 : (⟨#[]⟩ : ByteArray) = mkB [] := rfl
  have hf := full4_where l
  obtain ⟨⟨book, sheet, r, ok⟩, hw⟩ : ∃ x, x = whereR l := ⟨_, rfl⟩
  rw [← hw] at hf
  cases ok with
  | false =>
    have HW := Lib.hid hw
    exact absurd HK1.out (by unfold parseK; rw [← HW.out]; simp)
  | true =>
    have hk := whereR_ok hw
    rw [if_pos rfl, cellsR_cut] at hf
    have HW := Lib.hid hw
    have HK0 := Lib.hid hk
    have hbk : book.length ≤ 1000000 := by omega
    have hsh : sheet.length ≤ 1000000 := by omega
    have hr : r.length ≤ 1000000 := by omega
    have hlen := cutAt_len r 58
    clear hw hk
    obtain ⟨⟨x, y, wide⟩, hc⟩ : ∃ x, x = cutAt r 58 := ⟨_, rfl⟩
    rw [← hc] at hf hlen
    simp only [] at hf hlen
    have hx : x.length ≤ 1000000 := by omega
    have hy : y.length ≤ 1000000 := by omega
    have HC := Lib.hid hc
    clear hc hlen
    obtain ⟨⟨⟨ac, ar, afc, afr⟩, ok1⟩, ha⟩ : ∃ q, q = ref1R x := ⟨_, rfl⟩
    rw [← ha] at hf
    have HA := Lib.hid ha
    clear ha
    cases wide with
    | false =>
      exact absurd HK1.out (by unfold parseK; rw [← HW.out]; simp only []; rw [← HC.out]; simp)
    | true =>
      rw [if_neg (by simp)] at hf
      obtain ⟨⟨⟨bc, br, bfc, bfr⟩, ok2⟩, hb⟩ : ∃ q, q = ref1R y := ⟨_, rfl⟩
      rw [← hb] at hf
      have HB := Lib.hid hb
      clear hb
      cases ok1 with
      | false =>
        have HZ := Lib.hid (show full4 l = (FullS.zero, 4) by rw [hf, if_neg (by simp)])
        clear hf
        go_enter Tryz.func70, Tryz.ntmps70
        go_wp2_with (first | (go_at_call 105; refine (ad_where l _ hs (hG.below (by repeat (first | exact Below.refl _ _ | assumption | apply bel_alloc | (refine below_setRow ?_ (by omega) _) | (refine bel_set ?_ (by simp; omega) _) | (refine Bel.trans ?_ (by assumption)))))).mono ?_; rw [← HW.out]; rintro e w1 ⟨rfl, hb_w1⟩; have hR1 := (RecAt.new w #[.string (mkB []), .string (mkB []), .int .i64 0, .int .i64 0, .bool false, .bool false, .int .i64 0, .int .i64 0, .bool false, .bool false, .bool false] 39).below hb_w1 (by simp); have hz1 := hR1.lt) | (go_at_call 63; refine (s_Cut r 58 _ hr (hG.below (by repeat (first | exact Below.refl _ _ | assumption | apply bel_alloc | (refine below_setRow ?_ (by omega) _) | (refine bel_set ?_ (by simp; omega) _) | (refine Bel.trans ?_ (by assumption)))))).mono ?_; rw [← HC.out]; rintro e w2 ⟨rfl, hb_w2⟩; have hF2 := (RecAt.new w1 #[.string (mkB book), .string (mkB sheet), .int .i64 0, .int .i64 0, .bool false, .bool false, .int .i64 0, .int .i64 0, .bool false, .bool false, .bool false] 39).below hb_w2 (by simp); have hR2 := (hR1.alloc _).below hb_w2 (by simp; omega); have hz2 := hF2.lt) | (go_at_call_of 106 (Value.string (mkB x)); refine (ad_refx x _ hx).mono ?_; rw [← HA.out]; rintro e w3 ⟨rfl, hb_w3⟩; have hF3 := hF2.below hb_w3 hz2; have hR3 := hR2.below hb_w3 (by omega); have hz3 := hb_w3.size) | (go_at_call_of 106 (Value.string (mkB y)); refine (ad_refx y _ hy).mono ?_; rw [← HB.out]; rintro e w3b ⟨rfl, hb_w3b⟩; have hA3 := ((RecAt.new w3 #[.int .i64 ac, .int .i64 ar, .bool afc, .bool afr] 37).alloc (.cells #[.int .i64 ac, .int .i64 ar, .bool afc, .bool afr] 37)).below hb_w3b (by simp; try omega); have hB3 : RecAt w3b (w3.heap.size + 1) #[.int .i64 ac, .int .i64 ar, .bool afc, .bool afr] 37 := (by have := (RecAt.new (w3.alloc (.cells #[.int .i64 ac, .int .i64 ar, .bool afc, .bool afr] 37)) #[.int .i64 ac, .int .i64 ar, .bool afc, .bool afr] 37).below hb_w3b (by simp); simpa using this); have hF3b := ((hF3.alloc (.cells #[.int .i64 ac, .int .i64 ar, .bool afc, .bool afr] 37)).alloc (.cells #[.int .i64 ac, .int .i64 ar, .bool afc, .bool afr] 37)).below hb_w3b (by simp; omega); have hR3b := ((hR3.alloc (.cells #[.int .i64 ac, .int .i64 ar, .bool afc, .bool afr] 37)).alloc (.cells #[.int .i64 ac, .int .i64 ar, .bool afc, .bool afr] 37)).below hb_w3b (by simp; omega); have zR3b := hR3b.lt; have hR3c := hR3b.rowAway (k := w3.heap.size + 1) (by omega) #[.int .i64 bc, .int .i64 br, .bool bfc, .bool bfr]; have cA3 := (hA3.rowAway (k := w3.heap.size + 1) (by omega) #[.int .i64 bc, .int .i64 br, .bool bfc, .bool bfr]).cell) | (refine wpList_store_row rfl 37 (.tmp 13) (.tmp 44) rfl (w3.heap.size + 1) _ rfl rfl 37 #[.int .i64 ac, .int .i64 ar, .bool afc, .bool afr] hB3 refInfo rfl (by simp [Value.oneCell']) ?_) | (refine wpList_store_row rfl 39 _ _ rfl w.heap.size _ rfl rfl 39 #[.string (mkB []), .string (mkB []), .int .i64 0, .int .i64 0, .bool false, .bool false, .int .i64 0, .int .i64 0, .bool false, .bool false, .bool false] (by first | exact hR6 | exact hR5 | exact hR4 | exact hR3c | exact (hR3.alloc _).alloc _ | exact hR1) fullInfo rfl (by simp [Value.oneCell']) ?_))
        refine bodyPost_ret (results_cell2 Tryz.results70 _ _ w.heap.size _ _ _ rfl (RecAt.set (by first | exact hR6 | exact hR5 | exact hR4 | exact hR3c | exact (hR3.alloc _).alloc _ | exact hR1 : RecAt _ w.heap.size #[.string (mkB []), .string (mkB []), .int .i64 0, .int .i64 0, .bool false, .bool false, .int .i64 0, .int .i64 0, .bool false, .bool false, .bool false] 39) _) Tryz.underlying39 rfl fullInfo) rfl ⟨by rw [HZ.out]; rfl, by repeat (first | exact Below.refl _ _ | assumption | apply bel_alloc | (refine below_setRow ?_ (by omega) _) | (refine bel_set ?_ (by simp; omega) _) | (refine Bel.trans ?_ (by assumption)))⟩
      | true =>
        rw [if_pos rfl] at hf
        cases ok2 with
        | false =>
          have HZ := Lib.hid (show full4 l = (FullS.zero, 4) by rw [hf, if_neg (by simp)])
          clear hf
          go_enter Tryz.func70, Tryz.ntmps70
          go_wp2_with (first | (go_at_call 105; refine (ad_where l _ hs (hG.below (by repeat (first | exact Below.refl _ _ | assumption | apply bel_alloc | (refine below_setRow ?_ (by omega) _) | (refine bel_set ?_ (by simp; omega) _) | (refine Bel.trans ?_ (by assumption)))))).mono ?_; rw [← HW.out]; rintro e w1 ⟨rfl, hb_w1⟩; have hR1 := (RecAt.new w #[.string (mkB []), .string (mkB []), .int .i64 0, .int .i64 0, .bool false, .bool false, .int .i64 0, .int .i64 0, .bool false, .bool false, .bool false] 39).below hb_w1 (by simp); have hz1 := hR1.lt) | (go_at_call 63; refine (s_Cut r 58 _ hr (hG.below (by repeat (first | exact Below.refl _ _ | assumption | apply bel_alloc | (refine below_setRow ?_ (by omega) _) | (refine bel_set ?_ (by simp; omega) _) | (refine Bel.trans ?_ (by assumption)))))).mono ?_; rw [← HC.out]; rintro e w2 ⟨rfl, hb_w2⟩; have hF2 := (RecAt.new w1 #[.string (mkB book), .string (mkB sheet), .int .i64 0, .int .i64 0, .bool false, .bool false, .int .i64 0, .int .i64 0, .bool false, .bool false, .bool false] 39).below hb_w2 (by simp); have hR2 := (hR1.alloc _).below hb_w2 (by simp; omega); have hz2 := hF2.lt) | (go_at_call_of 106 (Value.string (mkB x)); refine (ad_refx x _ hx).mono ?_; rw [← HA.out]; rintro e w3 ⟨rfl, hb_w3⟩; have hF3 := hF2.below hb_w3 hz2; have hR3 := hR2.below hb_w3 (by omega); have hz3 := hb_w3.size) | (go_at_call_of 106 (Value.string (mkB y)); refine (ad_refx y _ hy).mono ?_; rw [← HB.out]; rintro e w3b ⟨rfl, hb_w3b⟩; have hA3 := ((RecAt.new w3 #[.int .i64 ac, .int .i64 ar, .bool afc, .bool afr] 37).alloc (.cells #[.int .i64 ac, .int .i64 ar, .bool afc, .bool afr] 37)).below hb_w3b (by simp; try omega); have hB3 : RecAt w3b (w3.heap.size + 1) #[.int .i64 ac, .int .i64 ar, .bool afc, .bool afr] 37 := (by have := (RecAt.new (w3.alloc (.cells #[.int .i64 ac, .int .i64 ar, .bool afc, .bool afr] 37)) #[.int .i64 ac, .int .i64 ar, .bool afc, .bool afr] 37).below hb_w3b (by simp); simpa using this); have hF3b := ((hF3.alloc (.cells #[.int .i64 ac, .int .i64 ar, .bool afc, .bool afr] 37)).alloc (.cells #[.int .i64 ac, .int .i64 ar, .bool afc, .bool afr] 37)).below hb_w3b (by simp; omega); have hR3b := ((hR3.alloc (.cells #[.int .i64 ac, .int .i64 ar, .bool afc, .bool afr] 37)).alloc (.cells #[.int .i64 ac, .int .i64 ar, .bool afc, .bool afr] 37)).below hb_w3b (by simp; omega); have zR3b := hR3b.lt; have hR3c := hR3b.rowAway (k := w3.heap.size + 1) (by omega) #[.int .i64 bc, .int .i64 br, .bool bfc, .bool bfr]; have cA3 := (hA3.rowAway (k := w3.heap.size + 1) (by omega) #[.int .i64 bc, .int .i64 br, .bool bfc, .bool bfr]).cell) | (refine wpList_store_row rfl 37 (.tmp 13) (.tmp 44) rfl (w3.heap.size + 1) _ rfl rfl 37 #[.int .i64 ac, .int .i64 ar, .bool afc, .bool afr] hB3 refInfo rfl (by simp [Value.oneCell']) ?_) | (refine wpList_store_row rfl 39 _ _ rfl w.heap.size _ rfl rfl 39 #[.string (mkB []), .string (mkB []), .int .i64 0, .int .i64 0, .bool false, .bool false, .int .i64 0, .int .i64 0, .bool false, .bool false, .bool false] (by first | exact hR6 | exact hR5 | exact hR4 | exact hR3c | exact (hR3.alloc _).alloc _ | exact hR1) fullInfo rfl (by simp [Value.oneCell']) ?_))
          refine bodyPost_ret (results_cell2 Tryz.results70 _ _ w.heap.size _ _ _ rfl (RecAt.set (by first | exact hR6 | exact hR5 | exact hR4 | exact hR3c | exact (hR3.alloc _).alloc _ | exact hR1 : RecAt _ w.heap.size #[.string (mkB []), .string (mkB []), .int .i64 0, .int .i64 0, .bool false, .bool false, .int .i64 0, .int .i64 0, .bool false, .bool false, .bool false] 39) _) Tryz.underlying39 rfl fullInfo) rfl ⟨by rw [HZ.out]; rfl, by repeat (first | exact Below.refl _ _ | assumption | apply bel_alloc | (refine below_setRow ?_ (by omega) _) | (refine bel_set ?_ (by simp; omega) _) | (refine Bel.trans ?_ (by assumption)))⟩
        | true =>
          rw [if_pos rfl] at hf
          cases hg : cellR ac ar with
          | false =>
            have HZ := Lib.hid (show full4 l = (FullS.zero, 3) by rw [hf, if_neg (by simp [hg])])
            have HG1 := Lib.hid hg
            clear hf hg
            go_enter Tryz.func70, Tryz.ntmps70
            go_wp2_with (first | (go_at_call 105; refine (ad_where l _ hs (hG.below (by repeat (first | exact Below.refl _ _ | assumption | apply bel_alloc | (refine below_setRow ?_ (by omega) _) | (refine bel_set ?_ (by simp; omega) _) | (refine Bel.trans ?_ (by assumption)))))).mono ?_; rw [← HW.out]; rintro e w1 ⟨rfl, hb_w1⟩; have hR1 := (RecAt.new w #[.string (mkB []), .string (mkB []), .int .i64 0, .int .i64 0, .bool false, .bool false, .int .i64 0, .int .i64 0, .bool false, .bool false, .bool false] 39).below hb_w1 (by simp); have hz1 := hR1.lt) | (go_at_call 63; refine (s_Cut r 58 _ hr (hG.below (by repeat (first | exact Below.refl _ _ | assumption | apply bel_alloc | (refine below_setRow ?_ (by omega) _) | (refine bel_set ?_ (by simp; omega) _) | (refine Bel.trans ?_ (by assumption)))))).mono ?_; rw [← HC.out]; rintro e w2 ⟨rfl, hb_w2⟩; have hF2 := (RecAt.new w1 #[.string (mkB book), .string (mkB sheet), .int .i64 0, .int .i64 0, .bool false, .bool false, .int .i64 0, .int .i64 0, .bool false, .bool false, .bool false] 39).below hb_w2 (by simp); have hR2 := (hR1.alloc _).below hb_w2 (by simp; omega); have hz2 := hF2.lt) | (go_at_call_of 106 (Value.string (mkB x)); refine (ad_refx x _ hx).mono ?_; rw [← HA.out]; rintro e w3 ⟨rfl, hb_w3⟩; have hF3 := hF2.below hb_w3 hz2; have hR3 := hR2.below hb_w3 (by omega); have hz3 := hb_w3.size) | (go_at_call_of 106 (Value.string (mkB y)); refine (ad_refx y _ hy).mono ?_; rw [← HB.out]; rintro e w3b ⟨rfl, hb_w3b⟩; have hA3 := ((RecAt.new w3 #[.int .i64 ac, .int .i64 ar, .bool afc, .bool afr] 37).alloc (.cells #[.int .i64 ac, .int .i64 ar, .bool afc, .bool afr] 37)).below hb_w3b (by simp; try omega); have hB3 : RecAt w3b (w3.heap.size + 1) #[.int .i64 ac, .int .i64 ar, .bool afc, .bool afr] 37 := (by have := (RecAt.new (w3.alloc (.cells #[.int .i64 ac, .int .i64 ar, .bool afc, .bool afr] 37)) #[.int .i64 ac, .int .i64 ar, .bool afc, .bool afr] 37).below hb_w3b (by simp); simpa using this); have hF3b := ((hF3.alloc (.cells #[.int .i64 ac, .int .i64 ar, .bool afc, .bool afr] 37)).alloc (.cells #[.int .i64 ac, .int .i64 ar, .bool afc, .bool afr] 37)).below hb_w3b (by simp; omega); have hR3b := ((hR3.alloc (.cells #[.int .i64 ac, .int .i64 ar, .bool afc, .bool afr] 37)).alloc (.cells #[.int .i64 ac, .int .i64 ar, .bool afc, .bool afr] 37)).below hb_w3b (by simp; omega); have zR3b := hR3b.lt; have hR3c := hR3b.rowAway (k := w3.heap.size + 1) (by omega) #[.int .i64 bc, .int .i64 br, .bool bfc, .bool bfr]; have cA3 := (hA3.rowAway (k := w3.heap.size + 1) (by omega) #[.int .i64 bc, .int .i64 br, .bool bfc, .bool bfr]).cell) | (refine wpList_store_row rfl 37 (.tmp 13) (.tmp 44) rfl (w3.heap.size + 1) _ rfl rfl 37 #[.int .i64 ac, .int .i64 ar, .bool afc, .bool afr] hB3 refInfo rfl (by simp [Value.oneCell']) ?_))
            (go_at_call_of 77 (Value.agg #[.int .i64 ac, .int .i64 ar]); refine (ad_CellGood ac ar _).mono ?_; rw [HG1.out]; rintro e w4 ⟨rfl, hb_w4⟩; have hA4 := (hA3.rowAway (k := w3.heap.size + 1) (by omega) #[.int .i64 bc, .int .i64 br, .bool bfc, .bool bfr]).below hb_w4 (by have := hA3.lt; simp; omega); have hB4 := (hB3.set #[.int .i64 bc, .int .i64 br, .bool bfc, .bool bfr]).below hb_w4 (by have := hB3.lt; simp; omega); have hF4 := (hF3b.rowAway (k := w3.heap.size + 1) (by omega) #[.int .i64 bc, .int .i64 br, .bool bfc, .bool bfr]).below hb_w4 (by have := hF3b.lt; simp; omega); have hR4 := hR3c.below hb_w4 (by simp; omega); have cA4 := hA4.cell; have cB4 := hB4.cell)
            go_wp2_with (first | (refine wpList_store_row rfl 39 _ _ rfl w.heap.size _ rfl rfl 39 #[.string (mkB []), .string (mkB []), .int .i64 0, .int .i64 0, .bool false, .bool false, .int .i64 0, .int .i64 0, .bool false, .bool false, .bool false] (by first | exact hR6 | exact hR5 | exact hR4 | exact hR3c | exact (hR3.alloc _).alloc _ | exact hR1) fullInfo rfl (by simp [Value.oneCell']) ?_))
            refine bodyPost_ret (results_cell2 Tryz.results70 _ _ w.heap.size _ _ _ rfl (RecAt.set (by first | exact hR6 | exact hR5 | exact hR4 | exact hR3c | exact (hR3.alloc _).alloc _ | exact hR1 : RecAt _ w.heap.size #[.string (mkB []), .string (mkB []), .int .i64 0, .int .i64 0, .bool false, .bool false, .int .i64 0, .int .i64 0, .bool false, .bool false, .bool false] 39) _) Tryz.underlying39 rfl fullInfo) rfl ⟨by rw [HZ.out]; rfl, by repeat (first | exact Below.refl _ _ | assumption | apply bel_alloc | (refine below_setRow ?_ (by omega) _) | (refine bel_set ?_ (by simp; omega) _) | (refine Bel.trans ?_ (by assumption)))⟩
          | true =>
            have HG1 := Lib.hid hg
            cases hg2 : cellR bc br with
            | false =>
              have HZ := Lib.hid (show full4 l = (FullS.zero, 3) by rw [hf, if_neg (by simp [hg2])])
              have HG2 := Lib.hid hg2
              clear hf hg hg2
              go_enter Tryz.func70, Tryz.ntmps70
              go_wp2_with (first | (go_at_call 105; refine (ad_where l _ hs (hG.below (by repeat (first | exact Below.refl _ _ | assumption | apply bel_alloc | (refine below_setRow ?_ (by omega) _) | (refine bel_set ?_ (by simp; omega) _) | (refine Bel.trans ?_ (by assumption)))))).mono ?_; rw [← HW.out]; rintro e w1 ⟨rfl, hb_w1⟩; have hR1 := (RecAt.new w #[.string (mkB []), .string (mkB []), .int .i64 0, .int .i64 0, .bool false, .bool false, .int .i64 0, .int .i64 0, .bool false, .bool false, .bool false] 39).below hb_w1 (by simp); have hz1 := hR1.lt) | (go_at_call 63; refine (s_Cut r 58 _ hr (hG.below (by repeat (first | exact Below.refl _ _ | assumption | apply bel_alloc | (refine below_setRow ?_ (by omega) _) | (refine bel_set ?_ (by simp; omega) _) | (refine Bel.trans ?_ (by assumption)))))).mono ?_; rw [← HC.out]; rintro e w2 ⟨rfl, hb_w2⟩; have hF2 := (RecAt.new w1 #[.string (mkB book), .string (mkB sheet), .int .i64 0, .int .i64 0, .bool false, .bool false, .int .i64 0, .int .i64 0, .bool false, .bool false, .bool false] 39).below hb_w2 (by simp); have hR2 := (hR1.alloc _).below hb_w2 (by simp; omega); have hz2 := hF2.lt) | (go_at_call_of 106 (Value.string (mkB x)); refine (ad_refx x _ hx).mono ?_; rw [← HA.out]; rintro e w3 ⟨rfl, hb_w3⟩; have hF3 := hF2.below hb_w3 hz2; have hR3 := hR2.below hb_w3 (by omega); have hz3 := hb_w3.size) | (go_at_call_of 106 (Value.string (mkB y)); refine (ad_refx y _ hy).mono ?_; rw [← HB.out]; rintro e w3b ⟨rfl, hb_w3b⟩; have hA3 := ((RecAt.new w3 #[.int .i64 ac, .int .i64 ar, .bool afc, .bool afr] 37).alloc (.cells #[.int .i64 ac, .int .i64 ar, .bool afc, .bool afr] 37)).below hb_w3b (by simp; try omega); have hB3 : RecAt w3b (w3.heap.size + 1) #[.int .i64 ac, .int .i64 ar, .bool afc, .bool afr] 37 := (by have := (RecAt.new (w3.alloc (.cells #[.int .i64 ac, .int .i64 ar, .bool afc, .bool afr] 37)) #[.int .i64 ac, .int .i64 ar, .bool afc, .bool afr] 37).below hb_w3b (by simp); simpa using this); have hF3b := ((hF3.alloc (.cells #[.int .i64 ac, .int .i64 ar, .bool afc, .bool afr] 37)).alloc (.cells #[.int .i64 ac, .int .i64 ar, .bool afc, .bool afr] 37)).below hb_w3b (by simp; omega); have hR3b := ((hR3.alloc (.cells #[.int .i64 ac, .int .i64 ar, .bool afc, .bool afr] 37)).alloc (.cells #[.int .i64 ac, .int .i64 ar, .bool afc, .bool afr] 37)).below hb_w3b (by simp; omega); have zR3b := hR3b.lt; have hR3c := hR3b.rowAway (k := w3.heap.size + 1) (by omega) #[.int .i64 bc, .int .i64 br, .bool bfc, .bool bfr]; have cA3 := (hA3.rowAway (k := w3.heap.size + 1) (by omega) #[.int .i64 bc, .int .i64 br, .bool bfc, .bool bfr]).cell) | (refine wpList_store_row rfl 37 (.tmp 13) (.tmp 44) rfl (w3.heap.size + 1) _ rfl rfl 37 #[.int .i64 ac, .int .i64 ar, .bool afc, .bool afr] hB3 refInfo rfl (by simp [Value.oneCell']) ?_))
              (go_at_call_of 77 (Value.agg #[.int .i64 ac, .int .i64 ar]); refine (ad_CellGood ac ar _).mono ?_; rw [HG1.out]; rintro e w4 ⟨rfl, hb_w4⟩; have hA4 := (hA3.rowAway (k := w3.heap.size + 1) (by omega) #[.int .i64 bc, .int .i64 br, .bool bfc, .bool bfr]).below hb_w4 (by have := hA3.lt; simp; omega); have hB4 := (hB3.set #[.int .i64 bc, .int .i64 br, .bool bfc, .bool bfr]).below hb_w4 (by have := hB3.lt; simp; omega); have hF4 := (hF3b.rowAway (k := w3.heap.size + 1) (by omega) #[.int .i64 bc, .int .i64 br, .bool bfc, .bool bfr]).below hb_w4 (by have := hF3b.lt; simp; omega); have hR4 := hR3c.below hb_w4 (by simp; omega); have cA4 := hA4.cell; have cB4 := hB4.cell)
              go_wp2_with (first | (go_at_call_of 77 (Value.agg #[.int .i64 bc, .int .i64 br]); refine (ad_CellGood bc br _).mono ?_; rw [HG2.out]; rintro e w5 ⟨rfl, hb_w5⟩; have hA5 := hA4.below hb_w5 hA4.lt; have hB5 := hB4.below hb_w5 hB4.lt; have hF5 := hF4.below hb_w5 hF4.lt; have hR5 := hR4.below hb_w5 hR4.lt; have cA5 := hA5.cell; have cB5 := hB5.cell; have cF5 := hF5.cell; have fF5 := hF5.free; have zF5 := hF5.lt; have hne1 : ¬ w3.heap.size = w1.heap.size := (by omega); have hne2 : ¬ w1.heap.size = w3.heap.size := (by omega); have hne3 : ¬ w3.heap.size + 1 = w1.heap.size := (by omega); have hne4 : ¬ w1.heap.size = w3.heap.size + 1 := (by omega)) | (refine wpList_store_row rfl 39 _ _ rfl w.heap.size _ rfl rfl 39 #[.string (mkB []), .string (mkB []), .int .i64 0, .int .i64 0, .bool false, .bool false, .int .i64 0, .int .i64 0, .bool false, .bool false, .bool false] (by first | exact hR6 | exact hR5 | exact hR4 | exact hR3c | exact (hR3.alloc _).alloc _ | exact hR1) fullInfo rfl (by simp [Value.oneCell']) ?_))
              refine bodyPost_ret (results_cell2 Tryz.results70 _ _ w.heap.size _ _ _ rfl (RecAt.set (by first | exact hR6 | exact hR5 | exact hR4 | exact hR3c | exact (hR3.alloc _).alloc _ | exact hR1 : RecAt _ w.heap.size #[.string (mkB []), .string (mkB []), .int .i64 0, .int .i64 0, .bool false, .bool false, .int .i64 0, .int .i64 0, .bool false, .bool false, .bool false] 39) _) Tryz.underlying39 rfl fullInfo) rfl ⟨by rw [HZ.out]; rfl, by repeat (first | exact Below.refl _ _ | assumption | apply bel_alloc | (refine below_setRow ?_ (by omega) _) | (refine bel_set ?_ (by simp; omega) _) | (refine Bel.trans ?_ (by assumption)))⟩
            | true =>
              exact absurd HK1.out (by unfold parseK; rw [← HW.out]; simp only []; rw [← HC.out]; simp only []; rw [← HA.out, ← HB.out]; simp [HG1.out, hg2])
end Go.Proofs.YtnmbpmomilehoaaGreatDoor

namespace Go.Proofs.YtnmbpmomilehoaaGreatDoor
open Go.RowKit

set_option maxRecDepth 100000 in
set_option maxHeartbeats 12800000 in
theorem ad_ParseW (l : B) (w : World) (hs : l.length ≤ 1000000) (hG : Glob w) (hk0 : parseK l = 2) : Calls Tryz.prog 70 #[.string (mkB l)] w fun e w' => e = .returned (.tuple #[(full4 l).1.val, .int .i64 (full4 l).2]) ∧ Below w.heap.size w w' := by
  have hms := mkB_size; have hma := mkB_append; have hmx := mkB_extract; have hmt := mkB_toList; have hmtl := subB_tail; have hmhd := subB_head
  have HK1 := Lib.hid hk0
  clear hk0
  have k1 : (⟨#[58]⟩ : ByteArray) = mkB [58] := rfl
  have k2 : (⟨#[]⟩ : ByteArray) = mkB [] := rfl
  have hf := full4_where l
  obtain ⟨⟨book, sheet, r, ok⟩, hw⟩ : ∃ x, x = whereR l := ⟨_, rfl⟩
  rw [← hw] at hf
  cases ok with
  | false =>
    have HW := Lib.hid hw
    exact absurd HK1.out (by unfold parseK; rw [← HW.out]; simp)
  | true =>
    have hk := whereR_ok hw
    rw [if_pos rfl, cellsR_cut] at hf
    have HW := Lib.hid hw
    have HK0 := Lib.hid hk
    have hbk : book.length ≤ 1000000 := by omega
    have hsh : sheet.length ≤ 1000000 := by omega
    have hr : r.length ≤ 1000000 := by omega
    have hlen := cutAt_len r 58
    clear hw hk
    obtain ⟨⟨x, y, wide⟩, hc⟩ : ∃ x, x = cutAt r 58 := ⟨_, rfl⟩
    rw [← hc] at hf hlen
    simp only [] at hf hlen
    have hx : x.length ≤ 1000000 := by omega
    have hy : y.length ≤ 1000000 := by omega
    have HC := Lib.hid hc
    clear hc hlen
    obtain ⟨⟨⟨ac, ar, afc, afr⟩, ok1⟩, ha⟩ : ∃ q, q = ref1R x := ⟨_, rfl⟩
    rw [← ha] at hf
    have HA := Lib.hid ha
    clear ha
    cases wide with
    | false =>
      exact absurd HK1.out (by unfold parseK; rw [← HW.out]; simp only []; rw [← HC.out]; simp)
    | true =>
      rw [if_neg (by simp)] at hf
      obtain ⟨⟨⟨bc, br, bfc, bfr⟩, ok2⟩, hb⟩ : ∃ q, q = ref1R y := ⟨_, rfl⟩
      rw [← hb] at hf
      have HB := Lib.hid hb
      clear hb
      cases ok1 with
      | false => exact absurd HK1.out (by unfold parseK; rw [← HW.out]; simp only []; rw [← HC.out]; simp only []; rw [← HA.out, ← HB.out]; simp)
      | true =>
        rw [if_pos rfl] at hf
        cases ok2 with
        | false => exact absurd HK1.out (by unfold parseK; rw [← HW.out]; simp only []; rw [← HC.out]; simp only []; rw [← HA.out, ← HB.out]; simp)
        | true =>
          rw [if_pos rfl] at hf
          cases hg : cellR ac ar with
          | false => exact absurd HK1.out (by unfold parseK; rw [← HW.out]; simp only []; rw [← HC.out]; simp only []; rw [← HA.out, ← HB.out]; simp [hg])
          | true =>
            have HG1 := Lib.hid hg
            cases hg2 : cellR bc br with
            | false => exact absurd HK1.out (by unfold parseK; rw [← HW.out]; simp only []; rw [← HC.out]; simp only []; rw [← HA.out, ← HB.out]; simp [hg, hg2])
            | true =>
              rw [if_pos (by simp [hg, hg2])] at hf
              have HG2 := Lib.hid hg2
              obtain ⟨⟨⟨cc, cr, cfc, cfr⟩, ⟨dc, dr, dfc, dfr⟩⟩, hk⟩ : ∃ q, q = cornR ⟨ac, ar, afc, afr⟩ ⟨bc, br, bfc, bfr⟩ := ⟨_, rfl⟩
              rw [← hk] at hf
              have HK := Lib.hid hk
              clear hk hg hg2
              have hgf := goodR_ok HK0.out.1 HK0.out.2.1 ⟨cc, cr, cfc, cfr⟩ ⟨dc, dr, dfc, dfr⟩ true
              rw [if_pos rfl] at hgf
              cases ha : areaR ⟨cc, cr, cfc, cfr⟩ ⟨dc, dr, dfc, dfr⟩ with
              | false =>
                have HZ := Lib.hid (show full4 l = (FullS.zero, 7) by rw [hf, if_neg (by simp [ha])])
                have HGF := Lib.hid (hgf.trans ha)
                clear hf hgf ha
                go_enter Tryz.func70, Tryz.ntmps70
                go_wp2_with (first | (go_at_call 105; refine (ad_where l _ hs (hG.below (by repeat (first | exact Below.refl _ _ | assumption | apply bel_alloc | (refine below_setRow ?_ (by omega) _) | (refine bel_set ?_ (by simp; omega) _) | (refine Bel.trans ?_ (by assumption)))))).mono ?_; rw [← HW.out]; rintro e w1 ⟨rfl, hb_w1⟩; have hR1 := (RecAt.new w #[.string (mkB []), .string (mkB []), .int .i64 0, .int .i64 0, .bool false, .bool false, .int .i64 0, .int .i64 0, .bool false, .bool false, .bool false] 39).below hb_w1 (by simp); have hz1 := hR1.lt) | (go_at_call 63; refine (s_Cut r 58 _ hr (hG.below (by repeat (first | exact Below.refl _ _ | assumption | apply bel_alloc | (refine below_setRow ?_ (by omega) _) | (refine bel_set ?_ (by simp; omega) _) | (refine Bel.trans ?_ (by assumption)))))).mono ?_; rw [← HC.out]; rintro e w2 ⟨rfl, hb_w2⟩; have hF2 := (RecAt.new w1 #[.string (mkB book), .string (mkB sheet), .int .i64 0, .int .i64 0, .bool false, .bool false, .int .i64 0, .int .i64 0, .bool false, .bool false, .bool false] 39).below hb_w2 (by simp); have hR2 := (hR1.alloc _).below hb_w2 (by simp; omega); have hz2 := hF2.lt) | (go_at_call_of 106 (Value.string (mkB x)); refine (ad_refx x _ hx).mono ?_; rw [← HA.out]; rintro e w3 ⟨rfl, hb_w3⟩; have hF3 := hF2.below hb_w3 hz2; have hR3 := hR2.below hb_w3 (by omega); have hz3 := hb_w3.size) | (go_at_call_of 106 (Value.string (mkB y)); refine (ad_refx y _ hy).mono ?_; rw [← HB.out]; rintro e w3b ⟨rfl, hb_w3b⟩; have hA3 := ((RecAt.new w3 #[.int .i64 ac, .int .i64 ar, .bool afc, .bool afr] 37).alloc (.cells #[.int .i64 ac, .int .i64 ar, .bool afc, .bool afr] 37)).below hb_w3b (by simp; try omega); have hB3 : RecAt w3b (w3.heap.size + 1) #[.int .i64 ac, .int .i64 ar, .bool afc, .bool afr] 37 := (by have := (RecAt.new (w3.alloc (.cells #[.int .i64 ac, .int .i64 ar, .bool afc, .bool afr] 37)) #[.int .i64 ac, .int .i64 ar, .bool afc, .bool afr] 37).below hb_w3b (by simp); simpa using this); have hF3b := ((hF3.alloc (.cells #[.int .i64 ac, .int .i64 ar, .bool afc, .bool afr] 37)).alloc (.cells #[.int .i64 ac, .int .i64 ar, .bool afc, .bool afr] 37)).below hb_w3b (by simp; omega); have hR3b := ((hR3.alloc (.cells #[.int .i64 ac, .int .i64 ar, .bool afc, .bool afr] 37)).alloc (.cells #[.int .i64 ac, .int .i64 ar, .bool afc, .bool afr] 37)).below hb_w3b (by simp; omega); have zR3b := hR3b.lt; have hR3c := hR3b.rowAway (k := w3.heap.size + 1) (by omega) #[.int .i64 bc, .int .i64 br, .bool bfc, .bool bfr]; have cA3 := (hA3.rowAway (k := w3.heap.size + 1) (by omega) #[.int .i64 bc, .int .i64 br, .bool bfc, .bool bfr]).cell) | (refine wpList_store_row rfl 37 (.tmp 13) (.tmp 44) rfl (w3.heap.size + 1) _ rfl rfl 37 #[.int .i64 ac, .int .i64 ar, .bool afc, .bool afr] hB3 refInfo rfl (by simp [Value.oneCell']) ?_))
                (go_at_call_of 77 (Value.agg #[.int .i64 ac, .int .i64 ar]); refine (ad_CellGood ac ar _).mono ?_; rw [HG1.out]; rintro e w4 ⟨rfl, hb_w4⟩; have hA4 := (hA3.rowAway (k := w3.heap.size + 1) (by omega) #[.int .i64 bc, .int .i64 br, .bool bfc, .bool bfr]).below hb_w4 (by have := hA3.lt; simp; omega); have hB4 := (hB3.set #[.int .i64 bc, .int .i64 br, .bool bfc, .bool bfr]).below hb_w4 (by have := hB3.lt; simp; omega); have hF4 := (hF3b.rowAway (k := w3.heap.size + 1) (by omega) #[.int .i64 bc, .int .i64 br, .bool bfc, .bool bfr]).below hb_w4 (by have := hF3b.lt; simp; omega); have hR4 := hR3c.below hb_w4 (by simp; omega); have cA4 := hA4.cell; have cB4 := hB4.cell)
                go_wp2_with (fail)
                (go_at_call_of 77 (Value.agg #[.int .i64 bc, .int .i64 br]); refine (ad_CellGood bc br _).mono ?_; rw [HG2.out]; rintro e w5 ⟨rfl, hb_w5⟩; have hA5 := hA4.below hb_w5 hA4.lt; have hB5 := hB4.below hb_w5 hB4.lt; have hF5 := hF4.below hb_w5 hF4.lt; have hR5 := hR4.below hb_w5 hR4.lt; have cA5 := hA5.cell; have cB5 := hB5.cell; have cF5 := hF5.cell; have fF5 := hF5.free; have zF5 := hF5.lt; have hne1 : ¬ w3.heap.size = w1.heap.size := (by omega); have hne2 : ¬ w1.heap.size = w3.heap.size := (by omega); have hne3 : ¬ w3.heap.size + 1 = w1.heap.size := (by omega); have hne4 : ¬ w1.heap.size = w3.heap.size + 1 := (by omega))
                go_wp2_with (fail)
                (go_at_call 107; refine (ad_cornersx ⟨ac, ar, afc, afr⟩ ⟨bc, br, bfc, bfr⟩ _).mono ?_; rw [← HK.out]; rintro e w5b ⟨rfl, hb_w5b⟩; have hF5b := ((((hF5.setHere 2 (.int .i64 ac)).setHere 3 (.int .i64 ar)).setHere 4 (.bool afc)).setHere 5 (.bool afr)).below hb_w5b (by simp; omega); simp at hF5b; have hR5b : RecAt w5b w.heap.size #[.string (mkB []), .string (mkB []), .int .i64 0, .int .i64 0, .bool false, .bool false, .int .i64 0, .int .i64 0, .bool false, .bool false, .bool false] 39 := (by refine RecAt.below (B := _) ?_ hb_w5b (by simp; omega); (repeat refine RecAt.setAway ?_ (by simp; omega) _); exact hR5); have cF5b := hF5b.cell; have fF5b := hF5b.free; have zF5b := hF5b.lt)
                go_wp2_with (fail)
                (go_at_call 45; refine (ad_Good book sheet cc cr cfc cfr dc dr dfc dfr true _ hbk hsh).mono ?_; rw [HGF.out]; rintro e w6 ⟨rfl, hb_w6⟩; have hR6 : RecAt w6 w.heap.size #[.string (mkB []), .string (mkB []), .int .i64 0, .int .i64 0, .bool false, .bool false, .int .i64 0, .int .i64 0, .bool false, .bool false, .bool false] 39 := (by refine RecAt.below (B := _) ?_ hb_w6 (by simp; omega); (repeat refine RecAt.setAway ?_ (by simp; omega) _); first | exact hR5b | exact hR5); obtain ⟨hc_w6, hf_w6⟩ := bcell hb_w6)
                go_wp2_with (first | (refine wpList_store_row rfl 39 _ _ rfl w.heap.size _ rfl rfl 39 #[.string (mkB []), .string (mkB []), .int .i64 0, .int .i64 0, .bool false, .bool false, .int .i64 0, .int .i64 0, .bool false, .bool false, .bool false] (by first | exact hR6 | exact hR5 | exact hR4 | exact hR3c | exact (hR3.alloc _).alloc _ | exact hR1) fullInfo rfl (by simp [Value.oneCell']) ?_))
                refine bodyPost_ret (results_cell2 Tryz.results70 _ _ w.heap.size _ _ _ rfl (RecAt.set (by first | exact hR6 | exact hR5 | exact hR4 | exact hR3c | exact (hR3.alloc _).alloc _ | exact hR1 : RecAt _ w.heap.size #[.string (mkB []), .string (mkB []), .int .i64 0, .int .i64 0, .bool false, .bool false, .int .i64 0, .int .i64 0, .bool false, .bool false, .bool false] 39) _) Tryz.underlying39 rfl fullInfo) rfl ⟨by rw [HZ.out]; rfl, ?_⟩
                have hz1' : w.heap.size ≤ w1.heap.size := Nat.le_of_lt hz1
                have B3b : Below w.heap.size w w3b := Bel.trans (bel_alloc (bel_alloc (Bel.trans (Bel.trans (bel_alloc (Bel.trans (bel_alloc (Below.refl _ _) _) hb_w1) _) hb_w2) hb_w3) _) _) hb_w3b
                have B5 : Below w.heap.size w w5 := Bel.trans (Bel.trans (below_setRow B3b (by omega) _) hb_w4) hb_w5
                have B5b : Below w.heap.size w w5b := Bel.trans (bel_set (bel_set (bel_set (bel_set (B5) hz1' _) hz1' _) hz1' _) hz1' _) hb_w5b
                have B6 : Below w.heap.size w w6 := Bel.trans (bel_set (bel_set (bel_set (bel_set (bel_set (bel_set (bel_set (bel_set (bel_set (B5b) hz1' _) hz1' _) hz1' _) hz1' _) hz1' _) hz1' _) hz1' _) hz1' _) hz1' _) hb_w6
                exact below_setRow B6 (Nat.le_refl _) _
              | true =>
                have HZ := Lib.hid (show full4 l = (⟨book, sheet, ⟨cc, cr, cfc, cfr⟩, ⟨dc, dr, dfc, dfr⟩, true⟩, 0) by rw [hf, if_pos (by simp [ha])])
                have HGF := Lib.hid (hgf.trans ha)
                clear hf hgf ha
                go_enter Tryz.func70, Tryz.ntmps70
                go_wp2_with (first | (go_at_call 105; refine (ad_where l _ hs (hG.below (by repeat (first | exact Below.refl _ _ | assumption | apply bel_alloc | (refine below_setRow ?_ (by omega) _) | (refine bel_set ?_ (by simp; omega) _) | (refine Bel.trans ?_ (by assumption)))))).mono ?_; rw [← HW.out]; rintro e w1 ⟨rfl, hb_w1⟩; have hR1 := (RecAt.new w #[.string (mkB []), .string (mkB []), .int .i64 0, .int .i64 0, .bool false, .bool false, .int .i64 0, .int .i64 0, .bool false, .bool false, .bool false] 39).below hb_w1 (by simp); have hz1 := hR1.lt) | (go_at_call 63; refine (s_Cut r 58 _ hr (hG.below (by repeat (first | exact Below.refl _ _ | assumption | apply bel_alloc | (refine below_setRow ?_ (by omega) _) | (refine bel_set ?_ (by simp; omega) _) | (refine Bel.trans ?_ (by assumption)))))).mono ?_; rw [← HC.out]; rintro e w2 ⟨rfl, hb_w2⟩; have hF2 := (RecAt.new w1 #[.string (mkB book), .string (mkB sheet), .int .i64 0, .int .i64 0, .bool false, .bool false, .int .i64 0, .int .i64 0, .bool false, .bool false, .bool false] 39).below hb_w2 (by simp); have hR2 := (hR1.alloc _).below hb_w2 (by simp; omega); have hz2 := hF2.lt) | (go_at_call_of 106 (Value.string (mkB x)); refine (ad_refx x _ hx).mono ?_; rw [← HA.out]; rintro e w3 ⟨rfl, hb_w3⟩; have hF3 := hF2.below hb_w3 hz2; have hR3 := hR2.below hb_w3 (by omega); have hz3 := hb_w3.size) | (go_at_call_of 106 (Value.string (mkB y)); refine (ad_refx y _ hy).mono ?_; rw [← HB.out]; rintro e w3b ⟨rfl, hb_w3b⟩; have hA3 := ((RecAt.new w3 #[.int .i64 ac, .int .i64 ar, .bool afc, .bool afr] 37).alloc (.cells #[.int .i64 ac, .int .i64 ar, .bool afc, .bool afr] 37)).below hb_w3b (by simp; try omega); have hB3 : RecAt w3b (w3.heap.size + 1) #[.int .i64 ac, .int .i64 ar, .bool afc, .bool afr] 37 := (by have := (RecAt.new (w3.alloc (.cells #[.int .i64 ac, .int .i64 ar, .bool afc, .bool afr] 37)) #[.int .i64 ac, .int .i64 ar, .bool afc, .bool afr] 37).below hb_w3b (by simp); simpa using this); have hF3b := ((hF3.alloc (.cells #[.int .i64 ac, .int .i64 ar, .bool afc, .bool afr] 37)).alloc (.cells #[.int .i64 ac, .int .i64 ar, .bool afc, .bool afr] 37)).below hb_w3b (by simp; omega); have hR3b := ((hR3.alloc (.cells #[.int .i64 ac, .int .i64 ar, .bool afc, .bool afr] 37)).alloc (.cells #[.int .i64 ac, .int .i64 ar, .bool afc, .bool afr] 37)).below hb_w3b (by simp; omega); have zR3b := hR3b.lt; have hR3c := hR3b.rowAway (k := w3.heap.size + 1) (by omega) #[.int .i64 bc, .int .i64 br, .bool bfc, .bool bfr]; have cA3 := (hA3.rowAway (k := w3.heap.size + 1) (by omega) #[.int .i64 bc, .int .i64 br, .bool bfc, .bool bfr]).cell) | (refine wpList_store_row rfl 37 (.tmp 13) (.tmp 44) rfl (w3.heap.size + 1) _ rfl rfl 37 #[.int .i64 ac, .int .i64 ar, .bool afc, .bool afr] hB3 refInfo rfl (by simp [Value.oneCell']) ?_))
                (go_at_call_of 77 (Value.agg #[.int .i64 ac, .int .i64 ar]); refine (ad_CellGood ac ar _).mono ?_; rw [HG1.out]; rintro e w4 ⟨rfl, hb_w4⟩; have hA4 := (hA3.rowAway (k := w3.heap.size + 1) (by omega) #[.int .i64 bc, .int .i64 br, .bool bfc, .bool bfr]).below hb_w4 (by have := hA3.lt; simp; omega); have hB4 := (hB3.set #[.int .i64 bc, .int .i64 br, .bool bfc, .bool bfr]).below hb_w4 (by have := hB3.lt; simp; omega); have hF4 := (hF3b.rowAway (k := w3.heap.size + 1) (by omega) #[.int .i64 bc, .int .i64 br, .bool bfc, .bool bfr]).below hb_w4 (by have := hF3b.lt; simp; omega); have hR4 := hR3c.below hb_w4 (by simp; omega); have cA4 := hA4.cell; have cB4 := hB4.cell)
                go_wp2_with (fail)
                (go_at_call_of 77 (Value.agg #[.int .i64 bc, .int .i64 br]); refine (ad_CellGood bc br _).mono ?_; rw [HG2.out]; rintro e w5 ⟨rfl, hb_w5⟩; have hA5 := hA4.below hb_w5 hA4.lt; have hB5 := hB4.below hb_w5 hB4.lt; have hF5 := hF4.below hb_w5 hF4.lt; have hR5 := hR4.below hb_w5 hR4.lt; have cA5 := hA5.cell; have cB5 := hB5.cell; have cF5 := hF5.cell; have fF5 := hF5.free; have zF5 := hF5.lt; have hne1 : ¬ w3.heap.size = w1.heap.size := (by omega); have hne2 : ¬ w1.heap.size = w3.heap.size := (by omega); have hne3 : ¬ w3.heap.size + 1 = w1.heap.size := (by omega); have hne4 : ¬ w1.heap.size = w3.heap.size + 1 := (by omega))
                go_wp2_with (fail)
                (go_at_call 107; refine (ad_cornersx ⟨ac, ar, afc, afr⟩ ⟨bc, br, bfc, bfr⟩ _).mono ?_; rw [← HK.out]; rintro e w5b ⟨rfl, hb_w5b⟩; have hF5b := ((((hF5.setHere 2 (.int .i64 ac)).setHere 3 (.int .i64 ar)).setHere 4 (.bool afc)).setHere 5 (.bool afr)).below hb_w5b (by simp; omega); simp at hF5b; have hR5b : RecAt w5b w.heap.size #[.string (mkB []), .string (mkB []), .int .i64 0, .int .i64 0, .bool false, .bool false, .int .i64 0, .int .i64 0, .bool false, .bool false, .bool false] 39 := (by refine RecAt.below (B := _) ?_ hb_w5b (by simp; omega); (repeat refine RecAt.setAway ?_ (by simp; omega) _); exact hR5); have cF5b := hF5b.cell; have fF5b := hF5b.free; have zF5b := hF5b.lt)
                go_wp2_with (fail)
                (go_at_call 45; refine (ad_Good book sheet cc cr cfc cfr dc dr dfc dfr true _ hbk hsh).mono ?_; rw [HGF.out]; rintro e w6 ⟨rfl, hb_w6⟩; have hR6 : RecAt w6 w.heap.size #[.string (mkB []), .string (mkB []), .int .i64 0, .int .i64 0, .bool false, .bool false, .int .i64 0, .int .i64 0, .bool false, .bool false, .bool false] 39 := (by refine RecAt.below (B := _) ?_ hb_w6 (by simp; omega); (repeat refine RecAt.setAway ?_ (by simp; omega) _); first | exact hR5b | exact hR5); obtain ⟨hc_w6, hf_w6⟩ := bcell hb_w6)
                go_wp2_with (first | (refine wpList_store_row rfl 39 _ _ rfl w.heap.size _ rfl rfl 39 #[.string (mkB []), .string (mkB []), .int .i64 0, .int .i64 0, .bool false, .bool false, .int .i64 0, .int .i64 0, .bool false, .bool false, .bool false] (by first | exact hR6 | exact hR5 | exact hR4 | exact hR3c | exact (hR3.alloc _).alloc _ | exact hR1) fullInfo rfl (by simp [Value.oneCell']) ?_))
                refine bodyPost_ret (results_cell2 Tryz.results70 _ _ w.heap.size _ _ _ rfl (RecAt.set (by first | exact hR6 | exact hR5 | exact hR4 | exact hR3c | exact (hR3.alloc _).alloc _ | exact hR1 : RecAt _ w.heap.size #[.string (mkB []), .string (mkB []), .int .i64 0, .int .i64 0, .bool false, .bool false, .int .i64 0, .int .i64 0, .bool false, .bool false, .bool false] 39) _) Tryz.underlying39 rfl fullInfo) rfl ⟨by rw [HZ.out]; rfl, ?_⟩
                have hz1' : w.heap.size ≤ w1.heap.size := Nat.le_of_lt hz1
                have B3b : Below w.heap.size w w3b := Bel.trans (bel_alloc (bel_alloc (Bel.trans (Bel.trans (bel_alloc (Bel.trans (bel_alloc (Below.refl _ _) _) hb_w1) _) hb_w2) hb_w3) _) _) hb_w3b
                have B5 : Below w.heap.size w w5 := Bel.trans (Bel.trans (below_setRow B3b (by omega) _) hb_w4) hb_w5
                have B5b : Below w.heap.size w w5b := Bel.trans (bel_set (bel_set (bel_set (bel_set (B5) hz1' _) hz1' _) hz1' _) hz1' _) hb_w5b
                have B6 : Below w.heap.size w w6 := Bel.trans (bel_set (bel_set (bel_set (bel_set (bel_set (bel_set (bel_set (bel_set (bel_set (B5b) hz1' _) hz1' _) hz1' _) hz1' _) hz1' _) hz1' _) hz1' _) hz1' _) hz1' _) hb_w6
                exact below_setRow B6 (Nat.le_refl _) _
end Go.Proofs.YtnmbpmomilehoaaGreatDoor

namespace Go.Proofs.YtnmbpmomilehoaaGreatDoor
open Go.RowKit

theorem ad_Parse (l : B) (w : World) (hs : l.length ≤ 1000000) (hG : Glob w) : Calls Tryz.prog 70 #[.string (mkB l)] w fun e w' => e = .returned (.tuple #[(full4 l).1.val, .int .i64 (full4 l).2]) ∧ Below w.heap.size w w' := by
  rcases (show parseK l = 0 ∨ parseK l = 1 ∨ parseK l = 2 by unfold parseK; split <;> (try split) <;> simp) with h | h | h
  · exact ad_ParseN l w hs hG h
  · exact ad_ParseV l w hs hG h
  · exact ad_ParseW l w hs hG h
end Go.Proofs.YtnmbpmomilehoaaGreatDoor

namespace Go.Proofs.YtnmbpmomilehoaaGreatDoor
open Go.RowKit

def goS : B := [65, 66, 67, 68, 69, 70, 71, 72, 73, 74, 75, 76, 77, 78, 79, 80, 81, 82, 83, 84, 85, 86, 87, 88, 89, 90, 97, 98, 99, 100, 101, 102, 103, 104, 105, 106, 107, 108, 109, 110, 111, 112, 113, 114, 115, 116, 117, 118, 119, 120, 121, 122, 95, 36, 91, 48, 49, 50, 51, 52, 53, 54, 55, 56, 57, 93, 33, 58]
theorem goS_low : ∀ c ∈ goS, c.toNat < 128 := by decide
set_option maxRecDepth 100000 in
theorem hasB_go (c : UInt8) : hasB goS c = goC c := ofNat_all (P := fun c => hasB goS c = goC c) (by decide) c
theorem trimL_sp (q : B) : Lib.trimLeftB q 32 = q.drop (spanK spC q) := by
  unfold Lib.trimLeftB
  induction q with
  | nil => rfl
  | cons c r ih =>
    rw [List.dropWhile_cons, spanK]
    by_cases h : c = 32
    · subst h; simpa [spC] using ih
    · have h1 : (c == 32) = false := by simpa using h
      have h2 : spC c = false := by simpa [spC] using h
      simp [h1, h2]
theorem parF_pre (q : B) : [40].isPrefixOf q = parF q := by
  cases q with
  | nil => rfl
  | cons c r =>
    simp only [List.isPrefixOf, parF, Bool.and_true]
    by_cases h : c = 40
    · subst h; rfl
    · have : ¬ (40 : UInt8) = c := fun e => h e.symm
      rw [beq_false_of_ne this, decide_eq_false h]
theorem nameT_eq {r t q up : B} {n : Nat} {f : FullS} {fe : Int} (hn : n = spanK goC r) (ht : t = r.take n) (hq : q = Lib.trimLeftB (r.drop n) 32) (hup : up = upB t) (hf : (f, fe) = full4 t) :
    nameT r = if nameB t = true ∧ parF q = true then ({ TokS.zero with kind := 4, text := up }, n, 0) else if fe = 0 then ({ TokS.zero with kind := 3, ref := f }, n, 0)
      else if fe ≠ 4 then (TokS.zero, 0, fe) else if nameB t = true then ({ TokS.zero with kind := 4, text := up }, n, 0) else (TokS.zero, 0, 4) := by
  subst hn ht hq hup
  have h1 : f = (full4 (r.take (spanK goC r))).1 := by rw [← hf]
  have h2 : fe = (full4 (r.take (spanK goC r))).2 := by rw [← hf]
  rw [h1, h2, trimL_sp]
  rfl
def nmT (r : B) : B := r.take (spanK goC r)
def nmQ (r : B) : B := Lib.trimLeftB (r.drop (spanK goC r)) 32
theorem ad_Parsex (l : B) (w : World) (hs : l.length ≤ 1000000) (hG : Glob w) : Calls Tryz.prog 70 #[.string (mkB l)] w fun e w' => e = .returned (.tuple #[.agg #[.string (mkB (full4 l).1.book), .string (mkB (full4 l).1.sheet), .int .i64 (full4 l).1.a.col, .int .i64 (full4 l).1.a.row, .bool (full4 l).1.a.fc, .bool (full4 l).1.a.fr, .int .i64 (full4 l).1.b.col, .int .i64 (full4 l).1.b.row, .bool (full4 l).1.b.fc, .bool (full4 l).1.b.fr, .bool (full4 l).1.wide], .int .i64 (full4 l).2]) ∧ Below w.heap.size w w' := ad_Parse l w hs hG
end Go.Proofs.YtnmbpmomilehoaaGreatDoor
