/-
  Part 10 of what the proof stands on: W4, Sp14, Sp15, Sp16.
-/
import Derived.Test.YtnmbpmomilehoaaGreatDoorK9
import Derived.Test.YtnmbpmomilehoaaGreatDoorK1
namespace Go.Proofs.YtnmbpmomilehoaaGreatDoor
open Go.RowKit

theorem blanks_take (k : Nat) (h : k ≤ 20) : (blanks 20).take k = blanks k := by unfold blanks; rw [List.take_replicate, Nat.min_eq_left h]
theorem lx_JoinN (a : Option Addr) (c n : Nat) (ts : List TokS) (J : B) (w : World) (hl : ts.length = n) (hJ : joinT ts = J) (hT : TokR w a c ts) (hG : Glob w) (hn : ts.length ≤ 1000) (hs : ∀ t ∈ ts, t.fits 1000) :
    Calls Tryz.prog 12 #[.slice a n c] w fun e w' => e = .returned (.string (mkB J)) ∧ Below w.heap.size w w' := by
  subst hl
  subst hJ
  have h1 := joinT_len ts 1000 hs
  have h2 : ts.length * (2 * 1000 + 61) ≤ 1000 * (2 * 1000 + 61) := Nat.mul_le_mul_right _ hn
  exact lx_Join a c ts w hT hG (by omega) (fun t ht => fits_small (hs t ht) (by omega)) (by omega)
theorem lx_LexE4 (l : B) (E : Int) (w : World) (hs : l.length ≤ 1000000) (hE : (lexR l).2.2 = E) (hG : Glob w) : Calls Tryz.prog 8 #[.string (mkB l)] w fun e w' => Below w.heap.size w w' ∧ ∃ v x, e = .returned (.tuple #[v, .int .i64 x, .int .i64 E]) := by
  refine (lx_Lex l w hs hG).mono ?_
  rintro e w' ⟨hb, v, rfl, hT⟩
  exact ⟨hb, v, _, by rw [hE]⟩
theorem lx_LexAny (l : B) (w : World) (hs : l.length ≤ 1000000) (hG : Glob w) : Calls Tryz.prog 8 #[.string (mkB l)] w fun e w' => Below w.heap.size w w' ∧ ∃ v x E, e = .returned (.tuple #[v, .int .i64 x, .int .i64 E]) := by
  refine (lx_Lex l w hs hG).mono ?_
  rintro e w' ⟨hb, v, rfl, hT⟩
  exact ⟨hb, v, _, _, rfl⟩
set_option maxRecDepth 100000 in
set_option maxHeartbeats 6400000 in
theorem l5_LexBlanks (l t : B) (n : Nat) (hl : l.length ≤ 9223372036854775807) (ht : t.length ≤ 9223372036854775807) (hn : n < 256) (w : World) (hG : Glob w) : Calls Tryz.prog 6 #[.string (mkB l), .string (mkB t), .int .u8 n] w fun e w' => e = .returned (.bool true) ∧ Below w.heap.size w w' := by
  have hms := mkB_size; have hma := mkB_append; have hmx := mkB_extract; have hmt := mkB_toList; have hmtl := subB_tail; have hmhd := subB_head
  have k1 : (⟨#[32, 32, 32, 32, 32, 32, 32, 32, 32, 32, 32, 32, 32, 32, 32, 32, 32, 32, 32, 32]⟩ : ByteArray) = mkB (blanks 20) := rfl
  have k2 : (⟨#[44]⟩ : ByteArray) = mkB [44] := rfl
  obtain ⟨k, hk⟩ : ∃ k : Nat, k = n % 20 := ⟨_, rfl⟩
  have hk7 : k < 20 := by omega
  have hkn : (n : Int) % 20 = (k : Int) := by omega
  clear hk
  have hbt := blanks_take k (by omega)
  have hbl : (blanks 20).length = 20 := rfl
  have hkb : (blanks k).length ≤ 20 := by simp [blanks]; omega
  obtain ⟨a, ha, ha1⟩ : ∃ a : Nat, a = min l.length 150 ∧ min (l.length : Int) 150 = (a : Int) := ⟨_, rfl, by omega⟩
  obtain ⟨b, hb, hb1⟩ : ∃ b : Nat, b = min t.length 150 ∧ min (t.length : Int) 150 = (b : Int) := ⟨_, rfl, by omega⟩
  have hal : a ≤ l.length := by omega
  have hbl2 : b ≤ t.length := by omega
  obtain ⟨s, hs⟩ : ∃ s, l.take a = s := ⟨_, rfl⟩
  obtain ⟨u, hu⟩ : ∃ u, t.take b = u := ⟨_, rfl⟩
  have hs1 : s.length ≤ 150 := by rw [← hs, List.length_take]; omega
  have hu1 : u.length ≤ 150 := by rw [← hu, List.length_take]; omega
  clear ha hb
  have HLEN := Lib.hid (show (blanks k ++ (s ++ blanks k)).length ≤ 1000000 by simp only [List.length_append]; omega)
  have hpad := lexR_pad s k hs1 hk7
  rw [List.append_assoc] at hpad
  have hbd := lexR_bounds s
  have her := lexR_err s
  have hcm := lexR_comma s u hs1 hu1
  obtain ⟨⟨T1, a1, e1⟩, hx1⟩ : ∃ q, q = lexR s := ⟨_, rfl⟩
  rw [← hx1] at hpad hbd her hcm
  have HX1 := Lib.hid hx1
  simp only [] at hpad hbd her hcm
  clear hx1
  by_cases he : e1 = 0
  · subst he
    rw [if_pos rfl] at hpad
    have HX2 := Lib.hid hpad
    have HBD := Lib.hid hbd.2
    have hTn := hbd.1
    have HCM := Lib.hid hcm
    clear hpad hbd her hcm
    go_enter Tryz.func6, Tryz.ntmps6
    go_wp2_with (fail)
    go_quiet (fail)
    go_wp2_with (first | (go_at_call_of 8 (Value.string (mkB s)); refine (lx_Lex s _ (by omega) (hG.below (below_drewN (Below.refl _ _) _))).mono ?_; rw [← HX1.out]; rintro e w1 ⟨hb_w1, v1, rfl, hT1⟩; have hB1 := Bel.trans (below_drewN (Below.refl w.heap.size w) _) hb_w1; obtain ⟨ap, cp, rfl, hR1, hL1, hp1⟩ := hT1.left; have HL1 := Lib.hid hL1; have HP1 := Lib.hid hp1; clear hT1 hR1 hL1 hp1 hb_w1) | (go_at_call 8; refine (lx_Lex (blanks k ++ (s ++ blanks k)) w1 HLEN.out (hG.below hB1)).mono ?_; rw [HX2.out]; rintro e w2 ⟨hb_w2, v2, rfl, hT2⟩; have hB2 := Bel.trans hB1 hb_w2; obtain ⟨aq, cq, hv2, hR2, hL2, hp2⟩ := hT2.left; simp only [List.length_map] at hv2; subst hv2; have HR2 := Lib.hid hR2; have HP2 := Lib.hid hp2; clear hT2 hL2 hR2 hp2) | (go_at_call 10; refine (l5_wakes w2 (hG.below hB2)).mono ?_; rintro e w3 ⟨rfl, hb_w3⟩; have hB3 := Bel.trans hB2 hb_w3))
    go_loopw [15, 80] (fun _ v wr => ∃ i : Nat, i ≤ T1.length ∧ v = .int .i64 i ∧ LeftT wr w.heap.size w1.heap.size ap T1 i ∧ TokR wr aq cq (T1.map (TokS.up k)) ∧ Below w.heap.size w wr) (fun _ v _ => T1.length - (intOf v).toNat)
    case atStart => exact ⟨0, by omega, rfl, HL1.out.below (Bel.trans hb_w2 hb_w3), HR2.out.below hb_w3, hB3⟩
    case round =>
      clear hb_w2 hb_w3 hB2 hB3 hB1
      obtain ⟨i, hi, rfl, hL, hR, hB⟩ := hrel
      by_cases hlt : i < T1.length
      · obtain ⟨bb, oo, rfl, q1, q2, q3, hc, hf⟩ := hL i hlt (Nat.le_refl _)
        obtain ⟨b2, o2, rfl, q4, hcm⟩ := hR.at_ i (by simpa using hlt)
        rw [List.getElem_map] at hcm
        obtain ⟨t0, ht0⟩ : ∃ t0, t0 = T1[i] := ⟨_, rfl⟩
        obtain ⟨_, y0, y1⟩ := HBD.out t0 (by rw [ht0]; exact List.getElem_mem hlt)
        rw [← ht0] at hc hcm
        have hat : wr.cell? ⟨bb, oo + i * 16 + 15, none⟩ = some (.int .i64 t0.at_) := hc 15 _ rfl
        have hfr : wr.frozen? ⟨bb, oo + i * 16 + 15, none⟩ = false := hf _
        have hne : bb < b2 := by have := (HP2.out _ rfl).1; simp only [] at this; omega
        have hU := tok_up_cells (w := wr) (b := bb) (o := oo + i * 16) (t := t0) (d := t0.at_ + k) hc
        have hL2 := hL.step (oo + i * 16 + 15) (by omega) (.int .i64 (t0.at_ + k))
        have hR2 := hR.set ⟨bb, oo + i * 16 + 15, none⟩ (fun p hp => by cases hp; simp only []; omega) (.int .i64 (t0.at_ + k))
        have hB2 := bel_set hB (p := ⟨bb, oo + i * 16 + 15, none⟩) q1 (.int .i64 (t0.at_ + k))
        have hM : ∀ j v, (TokS.up k t0).cells[j]? = some v → (wr.setCell ⟨bb, oo + i * 16 + 15, none⟩ (.int .i64 (t0.at_ + k))).cell? ⟨b2, o2 + i * 16 + j, none⟩ = some v := fun j v hv => by
          rw [World.cell?_setCell_other _ _ _ _ (by intro e; have := congrArg Addr.block e; simp only [] at this; omega)]
          exact hcm j v hv
        obtain ⟨N1, hN1⟩ : ∃ N1, N1 = T1.length := ⟨_, rfl⟩
        have HU := Lib.hid hU
        have HM := Lib.hid hM
        have HL2 := Lib.hid hL2
        have HR3 := Lib.hid hR2
        have HB2 := Lib.hid hB2
        clear hU hM hL2 hR2 hB2 hL hR hc hcm hf ht0
        go_upto_region 12 with (fail)
        obtain ⟨W2, hW2⟩ : ∃ W2, W2 = wr.setCell ⟨bb, oo + i * 16 + 15, none⟩ (.int .i64 (t0.at_ + k)) := ⟨_, rfl⟩
        rw [← hW2] at HU HM HL2 HR3 HB2 ⊢
        clear hW2 hat hfr
        obtain ⟨kk, tx, nu, fa, ⟨bk, sh, ⟨ac, ar, afc, afr⟩, ⟨bc, br, bfc, bfr⟩, wd⟩, ii⟩ := t0
        have p0 : W2.cell? ⟨bb, oo + i * 16, none⟩ = some (.int .i64 kk) := HU.out 0 _ rfl
        have m0 : W2.cell? ⟨b2, o2 + i * 16, none⟩ = some (.int .i64 kk) := HM.out 0 _ rfl
        have p1 : W2.cell? ⟨bb, oo + i * 16 + 1, none⟩ = some (.string (mkB tx)) := HU.out 1 _ rfl
        have m1 : W2.cell? ⟨b2, o2 + i * 16 + 1, none⟩ = some (.string (mkB tx)) := HM.out 1 _ rfl
        have p2 : W2.cell? ⟨bb, oo + i * 16 + 2, none⟩ = some (.int .i64 nu) := HU.out 2 _ rfl
        have m2 : W2.cell? ⟨b2, o2 + i * 16 + 2, none⟩ = some (.int .i64 nu) := HM.out 2 _ rfl
        have p3 : W2.cell? ⟨bb, oo + i * 16 + 3, none⟩ = some (.int .i64 fa) := HU.out 3 _ rfl
        have m3 : W2.cell? ⟨b2, o2 + i * 16 + 3, none⟩ = some (.int .i64 fa) := HM.out 3 _ rfl
        have p4 : W2.cell? ⟨bb, oo + i * 16 + 4, none⟩ = some (.string (mkB bk)) := HU.out 4 _ rfl
        have m4 : W2.cell? ⟨b2, o2 + i * 16 + 4, none⟩ = some (.string (mkB bk)) := HM.out 4 _ rfl
        have p5 : W2.cell? ⟨bb, oo + i * 16 + 5, none⟩ = some (.string (mkB sh)) := HU.out 5 _ rfl
        have m5 : W2.cell? ⟨b2, o2 + i * 16 + 5, none⟩ = some (.string (mkB sh)) := HM.out 5 _ rfl
        have p6 : W2.cell? ⟨bb, oo + i * 16 + 6, none⟩ = some (.int .i64 ac) := HU.out 6 _ rfl
        have m6 : W2.cell? ⟨b2, o2 + i * 16 + 6, none⟩ = some (.int .i64 ac) := HM.out 6 _ rfl
        have p7 : W2.cell? ⟨bb, oo + i * 16 + 7, none⟩ = some (.int .i64 ar) := HU.out 7 _ rfl
        have m7 : W2.cell? ⟨b2, o2 + i * 16 + 7, none⟩ = some (.int .i64 ar) := HM.out 7 _ rfl
        have p8 : W2.cell? ⟨bb, oo + i * 16 + 8, none⟩ = some (.bool afc) := HU.out 8 _ rfl
        have m8 : W2.cell? ⟨b2, o2 + i * 16 + 8, none⟩ = some (.bool afc) := HM.out 8 _ rfl
        have p9 : W2.cell? ⟨bb, oo + i * 16 + 9, none⟩ = some (.bool afr) := HU.out 9 _ rfl
        have m9 : W2.cell? ⟨b2, o2 + i * 16 + 9, none⟩ = some (.bool afr) := HM.out 9 _ rfl
        have p10 : W2.cell? ⟨bb, oo + i * 16 + 10, none⟩ = some (.int .i64 bc) := HU.out 10 _ rfl
        have m10 : W2.cell? ⟨b2, o2 + i * 16 + 10, none⟩ = some (.int .i64 bc) := HM.out 10 _ rfl
        have p11 : W2.cell? ⟨bb, oo + i * 16 + 11, none⟩ = some (.int .i64 br) := HU.out 11 _ rfl
        have m11 : W2.cell? ⟨b2, o2 + i * 16 + 11, none⟩ = some (.int .i64 br) := HM.out 11 _ rfl
        have p12 : W2.cell? ⟨bb, oo + i * 16 + 12, none⟩ = some (.bool bfc) := HU.out 12 _ rfl
        have m12 : W2.cell? ⟨b2, o2 + i * 16 + 12, none⟩ = some (.bool bfc) := HM.out 12 _ rfl
        have p13 : W2.cell? ⟨bb, oo + i * 16 + 13, none⟩ = some (.bool bfr) := HU.out 13 _ rfl
        have m13 : W2.cell? ⟨b2, o2 + i * 16 + 13, none⟩ = some (.bool bfr) := HM.out 13 _ rfl
        have p14 : W2.cell? ⟨bb, oo + i * 16 + 14, none⟩ = some (.bool wd) := HU.out 14 _ rfl
        have m14 : W2.cell? ⟨b2, o2 + i * 16 + 14, none⟩ = some (.bool wd) := HM.out 14 _ rfl
        have p15 : W2.cell? ⟨bb, oo + i * 16 + 15, none⟩ = some (.int .i64 (ii + k)) := HU.out 15 _ rfl
        have m15 : W2.cell? ⟨b2, o2 + i * 16 + 15, none⟩ = some (.int .i64 (ii + k)) := HM.out 15 _ rfl
        go_quiet (fail)
        go_wp2
        go_roundw
        case rel => exact ⟨i + 1, by omega, by go_num, HL2.out.below (below_drewN (Below.refl _ _) _), HR3.out.below (below_drewN (Below.refl _ _) _), below_drewN HB2.out _⟩
        case measure => simp [intOf]; omega
      · obtain rfl : i = T1.length := by omega
        clear hL hR HL1 HR2 HP1 HP2
        have hcm := HCM.out trivial
        have hbu := lexR_bounds u
        obtain ⟨⟨U, x4, g4⟩, hxu⟩ : ∃ q, q = lexR u := ⟨_, rfl⟩
        rw [← hxu] at hcm hbu
        have HXU := Lib.hid hxu
        clear hxu
        by_cases hg : g4 = 0
        · subst hg
          obtain ⟨us, c1, c2, c3⟩ := hcm rfl
          have HC1 := Lib.hid c1
          have HC3 := Lib.hid c3
          have HC2 := Lib.hid c2
          have HF5 := Lib.hid (show ∀ t ∈ us.drop 1, t.fits 1000 from fun t ht => by
            have h5 := (lexR_bounds (s ++ 44 :: u)).2
            rw [c1] at h5
            exact (h5 t (List.mem_append_right _ (List.mem_of_mem_drop ht))).1.le (by simp; omega))
          have HBU := Lib.hid hbu
          have hl5 : (T1 ++ us).length = T1.length + 1 + U.length := by rw [List.length_append, c2]; simp only []; omega
          have HL5 := Lib.hid hl5
          have hUn : U.length ≤ 150 := by have := hbu.1; simp only [] at this; omega
          clear hcm hbu c1 c2 c3 hl5
          go_wp2_with (first | (go_at_call_of 8 (Value.string (mkB u)); refine (lx_Lex u wr (by omega) (hG.below hB)).mono ?_; rw [← HXU.out]; rintro e w4 ⟨hb_w4, v4, rfl, hT4⟩; have hB4 := Bel.trans hB hb_w4; obtain ⟨au, cu, rfl, hRu, _⟩ := hT4.left; have HRU := Lib.hid hRu; clear hT4 hRu hb_w4) | (go_at_call 8; refine (lx_Lex (s ++ 44 :: u) w4 (by simp; omega) (hG.below hB4)).mono ?_; rw [HC1.out]; rintro e w5 ⟨hb_w5, v5, rfl, hT5⟩; have hB5 := Bel.trans hB4 hb_w5; obtain ⟨av, cv, hv5, hRv, _⟩ := hT5.left; rw [HL5.out] at hv5; subst hv5; obtain ⟨b5, o5, rfl, _⟩ := hRv.at_ 0 (by rw [HL5.out]; omega); have hcv : T1.length + 1 + U.length ≤ cv := (by have := hRv.cap; rw [HL5.out] at this; exact this); have HRV := Lib.hid hRv; clear hT5 hRv))
          · have hTR : TokR w5 (some ⟨b5, o5, none⟩) 0 (us.drop 1) := by
              have e : us.drop 1 = [] := List.eq_nil_of_length_eq_zero (by rw [List.length_drop, HC2.out]; omega)
              rw [e]; exact TokR.none _ _ (Nat.zero_le _)
            (refine (lx_JoinN _ _ U.length (us.drop 1) (joinT U) w5 (by rw [List.length_drop, HC2.out]; omega) HC3.out hTR (hG.below hB5) (by rw [List.length_drop, HC2.out]; omega) HF5.out).mono ?_; rintro e w6 ⟨rfl, hb_w6⟩; have hB6 := Bel.trans hB5 hb_w6)
            go_wp2_with (first | (go_at_call 12; refine (lx_JoinN _ _ U.length U (joinT U) w6 rfl rfl ((HRU.out.below hb_w5).below hb_w6) (hG.below hB6) (by omega) (fun t ht => (HBU.out.2 t ht).1.le (by omega))).mono ?_; rintro e w7 ⟨rfl, hb_w7⟩))
            go_ret
            exact ⟨ret_b (by first | rfl | simp), Bel.trans hB6 hb_w7⟩
          · have hTR : TokR w5 (some ⟨b5, o5 + (T1.length + 1) * 16, none⟩) (cv - (T1.length + 1)) (us.drop 1) := by
              have := HRV.out.drop (T1.length + 1)
              have e : (T1 ++ us).drop (T1.length + 1) = us.drop 1 := by
                rw [List.drop_append, List.drop_eq_nil_iff.2 (by omega), Nat.add_sub_cancel_left]; rfl
              rw [e] at this
              exact this
            (refine (lx_JoinN _ _ U.length (us.drop 1) (joinT U) w5 (by rw [List.length_drop, HC2.out]; omega) HC3.out hTR (hG.below hB5) (by rw [List.length_drop, HC2.out]; omega) HF5.out).mono ?_; rintro e w6 ⟨rfl, hb_w6⟩; have hB6 := Bel.trans hB5 hb_w6)
            go_wp2_with (first | (go_at_call 12; refine (lx_JoinN _ _ U.length U (joinT U) w6 rfl rfl ((HRU.out.below hb_w5).below hb_w6) (hG.below hB6) (by omega) (fun t ht => (HBU.out.2 t ht).1.le (by omega))).mono ?_; rintro e w7 ⟨rfl, hb_w7⟩))
            go_ret
            exact ⟨ret_b (by first | rfl | simp), Bel.trans hB6 hb_w7⟩
        · have g1 : (g4 == 0) = false := by simpa using hg
          have g2 : (g4 != 0) = true := by simpa using hg
          clear hcm hbu hg
          go_wp2_with (first | (go_at_call_of 8 (Value.string (mkB u)); refine (lx_LexE4 u g4 wr (by omega) (by rw [← HXU.out]) (hG.below hB)).mono ?_; rintro e w4 ⟨hb_w4, v4, x4, rfl⟩; have hB4 := Bel.trans hB hb_w4) | (go_at_call 8; refine (lx_LexAny (s ++ 44 :: u) w4 (by simp; omega) (hG.below hB4)).mono ?_; rintro e w5 ⟨hb_w5, v5, x5, E5, rfl⟩; have hB5 := Bel.trans hB4 hb_w5))
          go_ret
          exact ⟨rfl, hB5⟩
  · obtain ⟨hT0, ha0, ha2⟩ := her he
    subst hT0
    rw [if_neg he] at hpad
    have HX2 := Lib.hid hpad
    have e1a : (e1 == 0) = false := by simpa using he
    have e1b : (e1 != 0) = true := by simpa using he
    have hlz : ([] : List TokS).length = 0 := rfl
    have hA1 : 0 ≤ a1 + k := by omega
    have hA2 : a1 + k ≤ 200 := by omega
    clear hpad hbd her hcm he
    go_enter Tryz.func6, Tryz.ntmps6
    go_wp2_with (fail)
    go_quiet (fail)
    go_wp2_with (first | (go_at_call_of 8 (Value.string (mkB s)); refine (lx_Lex s _ (by omega) (hG.below (below_drewN (Below.refl _ _) _))).mono ?_; rw [← HX1.out]; rintro e w1 ⟨hb_w1, v1, rfl, hT1⟩; have hB1 := Bel.trans (below_drewN (Below.refl w.heap.size w) _) hb_w1; obtain ⟨ap, cp, rfl, hR1, hL1, hp1⟩ := hT1.left; have HL1 := Lib.hid hL1; have HP1 := Lib.hid hp1; clear hT1 hR1 hL1 hp1 hb_w1) | (go_at_call 8; refine (lx_Lex (blanks k ++ (s ++ blanks k)) w1 HLEN.out (hG.below hB1)).mono ?_; rw [HX2.out]; rintro e w2 ⟨hb_w2, v2, rfl, hT2⟩; have hB2 := Bel.trans hB1 hb_w2; obtain ⟨aq, cq, hv2, hR2, hL2, hp2⟩ := hT2.left; simp only [List.length_map] at hv2; subst hv2; have HR2 := Lib.hid hR2; have HP2 := Lib.hid hp2; clear hT2 hL2 hR2 hp2) | (go_at_call 10; refine (l5_wakes w2 (hG.below hB2)).mono ?_; rintro e w3 ⟨rfl, hb_w3⟩; have hB3 := Bel.trans hB2 hb_w3))
    refine wp_loop_rounds 1 ?_
    rw [rounds_succ]
    go_wp2_with (first | (go_at_call_of 8 (Value.string (mkB u)); refine (lx_LexAny u w3 (by omega) (hG.below hB3)).mono ?_; rintro e w4 ⟨hb_w4, v4, x4, E4, rfl⟩; have hB4 := Bel.trans hB3 hb_w4) | (go_at_call 8; refine (lx_LexAny (s ++ 44 :: u) w4 (by simp; omega) (hG.below hB4)).mono ?_; rintro e w5 ⟨hb_w5, v5, x5, E5, rfl⟩; have hB5 := Bel.trans hB4 hb_w5))
    go_ret
    exact ⟨rfl, hB5⟩
end Go.Proofs.YtnmbpmomilehoaaGreatDoor

namespace Go.Proofs.YtnmbpmomilehoaaGreatDoor

theorem u8_dig (d : Nat) (h : d < 10) : (u8 (48 + (d : Int))).toNat = 48 + d := by
  unfold u8
  rw [show (48 + (d : Int)).toNat = 48 + d by omega]
  simp [UInt8.toNat_ofNat']; omega
theorem isDig_u8 (d : Nat) (h : d < 10) : isDig (u8 (48 + (d : Int))) = true := by
  unfold isDig; rw [u8_dig d h]; simp; omega
theorem decR_dig (n : Nat) : (decR n).all isDig = true := by
  induction n using Nat.strongRecOn with
  | _ n ih =>
    rw [decR]
    by_cases h : n < 10
    · rw [if_pos h, List.all_cons, isDig_u8 n h]; rfl
    · rw [if_neg h, List.all_append, ih (n / 10) (by omega), List.all_cons, isDig_u8 _ (Nat.mod_lt _ (by omega))]; rfl
theorem decR_ne (n : Nat) : 1 ≤ (decR n).length := by
  rw [decR]; split <;> simp
theorem valD_decR (n : Nat) : valD 0 (decR n) = n := by
  induction n using Nat.strongRecOn with
  | _ n ih =>
    rw [decR]
    by_cases h : n < 10
    · rw [if_pos h, valD_cons, u8_dig n h]
      show valD (0 * 10 + (48 + n - 48)) [] = n
      simp [valD]
    · rw [if_neg h, valD_app, ih (n / 10) (by omega), valD_cons, u8_dig _ (Nat.mod_lt _ (by omega))]
      show valD ((n / 10) * 10 + (48 + n % 10 - 48)) [] = n
      simp [valD]; omega
theorem decR_len_lt (n k : Nat) (h : n < 10 ^ (k + 1)) : (decR n).length ≤ k + 1 := by
  induction k generalizing n with
  | zero =>
    rw [decR, if_pos (by omega)]; simp
  | succ k ih =>
    rw [decR]
    by_cases h10 : n < 10
    · rw [if_pos h10]; simp
    · rw [if_neg h10, List.length_append]
      have := ih (n / 10) (by rw [Nat.pow_succ] at h; omega)
      simp; omega
theorem num_dig {c : UInt8} (h : isDig c = true) : numC c = true := dig_num h
theorem numK_all (l : B) (h : l.all numC = true) : numK l = l.length := by
  induction l with
  | nil => rfl
  | cons c r ih =>
    rw [List.all_cons, Bool.and_eq_true] at h
    rw [numK, if_pos h.1, ih h.2]; rfl
theorem all_num {l : B} (h : l.all isDig = true) : l.all numC = true := by
  rw [List.all_eq_true] at h ⊢
  exact fun c hc => num_dig (h c hc)
theorem dotN_dig (l r : B) (h : l.all isDig = true) : dotN (l ++ r) = l.length + dotN r := by
  induction l with
  | nil => simp
  | cons c t ih =>
    rw [List.all_cons, Bool.and_eq_true] at h
    have hc := isDig_bd h.1
    rw [List.cons_append, dotN, if_neg (by omega), ih h.2, List.length_cons]; omega
theorem trim_take (l : B) : ∃ k, Lib.trimRightB l 48 = l.take k ∧ k ≤ l.length ∧ l.drop k = List.replicate (l.length - k) 48 ∧ (k = 0 → l = List.replicate l.length 48) := by
  have key : ∀ q : B, ∃ j, q.dropWhile (fun x => x == 48) = q.drop j ∧ j ≤ q.length ∧ q.take j = List.replicate j 48 := by
    intro q
    induction q with
    | nil => exact ⟨0, rfl, Nat.le_refl _, rfl⟩
    | cons c r ih =>
      rw [List.dropWhile_cons]
      by_cases h : c = 48
      · subst h
        obtain ⟨j, h1, h2, h3⟩ := ih
        exact ⟨j + 1, by simp [h1], by simp; omega, by rw [List.take_succ_cons, h3]; rfl⟩
      · refine ⟨0, by simp [h], Nat.zero_le _, rfl⟩
  obtain ⟨j, h1, h2, h3⟩ := key l.reverse
  rw [List.length_reverse] at h2
  have e1 : Lib.trimRightB l 48 = l.take (l.length - j) := by
    unfold Lib.trimRightB
    rw [h1, List.drop_reverse, List.reverse_reverse]
  have e2 : l.drop (l.length - j) = List.replicate j 48 := by
    rw [List.take_reverse] at h3
    have := congrArg List.reverse h3
    rw [List.reverse_reverse, List.reverse_replicate] at this
    exact this
  refine ⟨l.length - j, e1, by omega, by rw [e2]; congr 1; omega, fun h0 => ?_⟩
  have hj : j = l.length := by omega
  rw [h0, List.drop_zero, hj] at e2
  exact e2
/-- the four places as the program reads them again -/
theorem frac_back (r : Nat) (h0 : r ≠ 0) (h : r < 10000) :
    let p := Lib.trimRightB ((decR (10000 + r)).drop 1) 48
    1 ≤ p.length ∧ p.length ≤ 4 ∧ p.all isDig = true ∧ valD 0 (fiveD p) = r * 10 := by
  have h5 := decR_len5 (10000 + r) (by omega) (by omega)
  have hd := decR_dig (10000 + r)
  obtain ⟨q, hq⟩ : ∃ q, q = (decR (10000 + r)).drop 1 := ⟨_, rfl⟩
  have hql : q.length = 4 := by rw [hq, List.length_drop]; omega
  have hqd : q.all isDig = true := by
    rw [hq, List.all_eq_true]
    rw [List.all_eq_true] at hd
    exact fun c hc => hd c (List.mem_of_mem_drop hc)
  have hv : valD 0 q = r := by
    have h1 := valD_decR (10000 + r)
    cases hx : decR (10000 + r) with
    | nil => rw [hx] at h5; simp at h5
    | cons c t =>
      rw [hx] at h1 hq
      rw [List.drop_succ_cons, List.drop_zero] at hq
      subst hq
      rw [valD_cons, valD_acc, hql] at h1
      have hlt := valD_lt q 0 0 hqd (by simp)
      rw [hql] at hlt
      simp at hlt
      omega
  rw [← hq]
  obtain ⟨k, e1, e2, e3, e4⟩ := trim_take q
  rw [e1]
  have hk : k ≠ 0 := by
    intro hk
    have := e4 hk
    rw [this, valD_zeros] at hv
    exact h0 hv.symm
  have hkl : (q.take k).length = k := by rw [List.length_take]; omega
  refine ⟨by omega, by omega, ?_, ?_⟩
  · rw [List.all_eq_true] at hqd ⊢
    exact fun c hc => hqd c (List.mem_of_mem_take hc)
  · have hf : fiveD (q.take k) = q ++ [48] := by
      unfold fiveD
      have hq2 : q = q.take k ++ List.replicate (4 - k) 48 := by
        rw [hql] at e3
        rw [← e3, List.take_append_drop]
      rw [List.take_append, List.take_of_length_le (by omega), hkl]
      conv => rhs; rw [hq2]
      rw [List.append_assoc]
      congr 1
      rw [hql] at e2
      rcases (show k = 1 ∨ k = 2 ∨ k = 3 ∨ k = 4 by omega) with rfl | rfl | rfl | rfl <;> rfl
    rw [hf, valD_app, hv, valD_cons]
    show valD (r * 10 + 0) [] = _
    simp [valD]
theorem dash_no (l : B) (h : 1 ≤ l.length) (hd : l.all isDig = true) (r : B) : dashF (l ++ r) = false := by
  cases l with
  | nil => simp at h
  | cons c t =>
    rw [List.all_cons, Bool.and_eq_true] at hd
    have := isDig_bd hd.1
    simp [dashF]; omega
/-- a number's text is read as the number -/
theorem num_back (v : Int) (h0 : 0 ≤ v) (h1 : v ≤ 9000000000000000000) : parse01 (text01 v) = (v, 0) ∧ (text01 v).all numC = true ∧ ∃ c r, text01 v = c :: r ∧ isDig c = true := by
  have hok : okN v = true := decide_eq_true ⟨by omega, h1⟩
  obtain ⟨n, rfl⟩ : ∃ n : Nat, v = n := ⟨v.toNat, by omega⟩
  rw [← text_eq, textP, if_pos hok, if_neg (by omega), List.nil_append, Int.natAbs_natCast]
  have hwl := decR_len_lt (n / 10000) 14 (by have : (10 : Nat) ^ (14 + 1) = 1000000000000000 := by decide
                                             omega)
  have hw1 := decR_ne (n / 10000)
  have hwd := decR_dig (n / 10000)
  have hv := valD_decR (n / 10000)
  have hall : allR (decR (n / 10000)) = true := by unfold allR; rw [hwd, decide_eq_true (by omega)]; rfl
  have hc : ∀ r, ∃ c t, decR (n / 10000) ++ r = c :: t ∧ isDig c = true := by
    intro r
    cases hx : decR (n / 10000) with
    | nil => rw [hx] at hw1; simp at hw1
    | cons c t => rw [hx, List.all_cons, Bool.and_eq_true] at hwd; exact ⟨c, t ++ r, rfl, hwd.1⟩
  refine ⟨?_, ?_, hc _⟩
  · rw [parseP_eq]
    have hdash : ∀ r, dashF (decR (n / 10000) ++ r) = false := fun r => dash_no _ hw1 hwd r
    rw [hdash]
    have hud : ∀ r, undash (decR (n / 10000) ++ r) = decR (n / 10000) ++ r := fun r => by unfold undash; rw [hdash]; rfl
    rw [hud, cutAt_dot]
    by_cases hr : n % 10000 = 0
    · rw [if_pos hr, dotN_dig _ _ hwd]
      have hd0 : dotN [] = 0 := rfl
      rw [hd0, List.append_nil, Nat.add_zero, List.take_length]
      have hp : (decR (n / 10000)).drop ((decR (n / 10000)).length + 1) = [] := by rw [List.drop_eq_nil_iff]; omega
      rw [hp]
      have hf : valD 0 (fiveD []) = 0 := by decide
      unfold parseP
      rw [if_pos ⟨hall, fun e => by simp at e⟩, hv, hf, if_neg (by omega)]
      simp; omega
    · rw [if_neg hr]
      obtain ⟨f1, f2, f3, f4⟩ := frac_back (n % 10000) hr (Nat.mod_lt _ (by omega))
      rw [dotN_dig _ _ hwd]
      have hd0 : dotN ([46] ++ Lib.trimRightB ((decR (10000 + n % 10000)).drop 1) 48) = 0 := rfl
      rw [hd0, Nat.add_zero, List.take_left, List.drop_append]
      have hp : (decR (n / 10000)).drop ((decR (n / 10000)).length + 1) = [] := by rw [List.drop_eq_nil_iff]; omega
      rw [hp, Nat.add_sub_cancel_left, List.nil_append]
      have hp2 : ([46] ++ Lib.trimRightB ((decR (10000 + n % 10000)).drop 1) 48).drop 1 = Lib.trimRightB ((decR (10000 + n % 10000)).drop 1) 48 := rfl
      rw [hp2]
      unfold parseP
      have hall2 : allR (Lib.trimRightB ((decR (10000 + n % 10000)).drop 1) 48) = true := by unfold allR; rw [f3, decide_eq_true (by omega)]; rfl
      rw [if_pos ⟨hall, fun _ => hall2⟩, hv, f4, if_neg (by omega)]
      simp; omega
  · rw [List.all_append, all_num hwd, Bool.true_and]
    by_cases hr : n % 10000 = 0
    · rw [if_pos hr]; rfl
    · rw [if_neg hr, List.all_append]
      obtain ⟨f1, f2, f3, f4⟩ := frac_back (n % 10000) hr (Nat.mod_lt _ (by omega))
      rw [all_num f3]; rfl
/-- what a text that begins with a digit gives is in the range -/
theorem parse_range (l : B) (h : (parse01 l).2 = 0) (hd : dashF l = false) : 0 ≤ (parse01 l).1 ∧ (parse01 l).1 ≤ 9000000000000000000 := by
  rw [parseP_eq] at h ⊢
  rw [hd] at h ⊢
  unfold parseP at h ⊢
  split at h
  · rename_i c1
    rw [if_pos c1]
    split at h
    · simp at h
    · rename_i c2
      rw [if_neg c2]
      simp
      omega
  · simp at h
theorem quote_back (b : B) : textGo (quoteB b ++ [34]) = some (b, []) := by
  induction b with
  | nil => rfl
  | cons c r ih =>
    rw [quoteB]
    by_cases h : c = 34
    · subst h
      rw [if_pos rfl]
      show textGo (34 :: 34 :: (quoteB r ++ [34])) = _
      rw [textGo, if_pos rfl, if_pos rfl, ih]; rfl
    · rw [if_neg h]
      cases hq : quoteB r ++ [34] with
      | nil => simp at hq
      | cons d t =>
        show textGo (c :: (quoteB r ++ [34])) = _
        rw [hq, textGo, if_neg h, ← hq, ih]; rfl
end Go.Proofs.YtnmbpmomilehoaaGreatDoor

namespace Go.Proofs.YtnmbpmomilehoaaGreatDoor

theorem spanK_full {p : UInt8 → Bool} {l r : B} (h : l.all p = true) : spanK p (l ++ r) = l.length + spanK p r := by
  induction l with
  | nil => simp
  | cons c t ih =>
    rw [List.all_cons, Bool.and_eq_true] at h
    rw [List.cons_append, spanK, if_pos h.1, ih h.2, List.length_cons]; omega
theorem idx_no {l : B} {b : UInt8} (h : ∀ c ∈ l, c ≠ b) : idxB l b = none := by
  induction l with
  | nil => rfl
  | cons c r ih =>
    rw [idxB, if_neg (h c List.mem_cons_self), ih (fun x hx => h x (List.mem_cons_of_mem _ hx))]; rfl
theorem idx_first {l r : B} {b : UInt8} (h : ∀ c ∈ l, c ≠ b) : idxB (l ++ b :: r) b = some l.length := by
  induction l with
  | nil => rw [List.nil_append, idxB, if_pos rfl]; rfl
  | cons c t ih =>
    rw [List.cons_append, idxB, if_neg (h c List.mem_cons_self), ih (fun x hx => h x (List.mem_cons_of_mem _ hx))]; rfl
/-! a cell's name -/
def colOk (n : Nat) : Bool :=
  let s := colsR (n : Int)
  decide (1 ≤ s.length ∧ s.length ≤ 2) && s.all isLet && decide (colF 0 s = (n : Int) + 1) && decide (s.map upC = s)
theorem cols_ok (n : Fin 64) : colOk n.1 = true := by revert n; decide
theorem cols_facts (n : Int) (h0 : 0 ≤ n) (h1 : n < 64) : (1 ≤ (colsR n).length ∧ (colsR n).length ≤ 2) ∧ (colsR n).all isLet = true ∧ colF 0 (colsR n) = n + 1 ∧ upB (colsR n) = colsR n := by
  obtain ⟨k, rfl⟩ : ∃ k : Nat, n = k := ⟨n.toNat, by omega⟩
  have := cols_ok ⟨k, by omega⟩
  simp only [colOk, Bool.and_eq_true, decide_eq_true_eq] at this
  exact ⟨this.1.1.1, this.1.1.2, this.1.2, this.2⟩
theorem letN_dig (c : UInt8) (h : isDig c = true) : isLet c = false := by
  have := isDig_bd h
  unfold isLet; rw [decide_eq_false_iff_not]; omega
theorem dol_let (c : UInt8) (r : B) (h : isLet c = true ∨ isDig c = true) : dolR (c :: r) = (false, c :: r) := by
  have : ¬ (c.toNat : Int) = 36 := by
    rcases h with h | h
    · have := isLet_bd h; omega
    · have := isDig_bd h; omega
  rw [dolR, if_neg this]
def dol (b : Bool) : B := if b = true then [36] else []
theorem dolR_dol (b : Bool) (c : UInt8) (r : B) (h : isLet c = true ∨ isDig c = true) : dolR (dol b ++ c :: r) = (b, c :: r) := by
  cases b with
  | false => exact dol_let c r h
  | true => rfl
theorem rowDec (m : Nat) (h1 : 1 ≤ m) (h2 : m ≤ 1024) : (1 ≤ (decR m).length ∧ (decR m).length ≤ 4) ∧ (decR m).all isDig = true ∧ noughtR (decR m) = false ∧ rowR (decR m) 0 = some (m : Int) := by
  have hd := decR_dig m
  refine ⟨⟨decR_ne m, decR_len m (by omega)⟩, hd, ?_, ?_⟩
  · have key : ∀ m : Nat, 1 ≤ m → noughtR (decR m) = false := by
      intro m
      induction m using Nat.strongRecOn with
      | _ m ih =>
        intro hm
        rw [decR]
        by_cases h : m < 10
        · rw [if_pos h]
          have := u8_dig m h
          simp [noughtR, this]; omega
        · rw [if_neg h]
          have := ih (m / 10) (by omega) (by omega)
          cases hx : decR (m / 10) with
          | nil => have := decR_ne (m / 10); rw [hx] at this; simp at this
          | cons c t => rw [hx] at this; exact this
    exact key m h1
  · have := rowR_dig (decR m) 0
    rw [if_pos hd, valD_decR] at this
    exact this
theorem refText_eq (r : RefS) (h : cellR r.col r.row = true) : refTextR r = dol r.fc ++ (colsR r.col ++ (dol r.fr ++ decR (r.row + 1).toNat)) := by
  unfold refTextR dol; rw [if_pos h]; simp only [List.append_assoc]
/-- a cell's name is read as the cell -/
theorem ref_back (r : RefS) (h : cellR r.col r.row = true) : ref1R (refTextR r) = (r, true) := by
  obtain ⟨⟨c0, c1⟩, r0, r1⟩ := cellR_bd h
  obtain ⟨⟨l1, l2⟩, la, lv, _⟩ := cols_facts r.col c0 c1
  obtain ⟨m, hm⟩ : ∃ m : Nat, m = (r.row + 1).toNat := ⟨_, rfl⟩
  obtain ⟨⟨d1, d2⟩, da, dn, dv⟩ := rowDec m (by omega) (by omega)
  rw [refText_eq r h, ← hm, ref1R_part]
  have hcl : ∃ c t, colsR r.col = c :: t ∧ isLet c = true := by
    cases hx : colsR r.col with
    | nil => rw [hx] at l1; simp at l1
    | cons c t => rw [hx, List.all_cons, Bool.and_eq_true] at la; exact ⟨c, t, rfl, la.1⟩
  have hdl : ∃ c t, decR m = c :: t ∧ isDig c = true := by
    cases hx : decR m with
    | nil => rw [hx] at d1; simp at d1
    | cons c t => rw [hx, List.all_cons, Bool.and_eq_true] at da; exact ⟨c, t, rfl, da.1⟩
  obtain ⟨c, t, hc, hci⟩ := hcl
  obtain ⟨d, s, hd, hdi⟩ := hdl
  have e1 : dolR (dol r.fc ++ (colsR r.col ++ (dol r.fr ++ decR m))) = (r.fc, colsR r.col ++ (dol r.fr ++ decR m)) := by
    rw [hc]; exact dolR_dol _ _ _ (.inl hci)
  have e2 : spanK isLet (colsR r.col ++ (dol r.fr ++ decR m)) = (colsR r.col).length := by
    rw [spanK_full la]
    have : spanK isLet (dol r.fr ++ decR m) = 0 := by
      cases r.fr with
      | false => rw [hd]; show spanK isLet (d :: s) = 0; rw [spanK, letN_dig d hdi]; rfl
      | true => show spanK isLet (36 :: decR m) = 0; rw [spanK, if_neg (by decide)]
    omega
  have e3 : dolR (dol r.fr ++ decR m) = (r.fr, decR m) := by
    rw [hd]; exact dolR_dol _ _ _ (.inr hdi)
  have e4 : spanK isDig (decR m) = (decR m).length := by
    have := spanK_full (r := []) da
    simpa [spanK] using this
  have p1 : partR isLet 3 (dol r.fc ++ (colsR r.col ++ (dol r.fr ++ decR m))) = (colsR r.col, r.fc, dol r.fr ++ decR m, true) := by
    rw [partR_yes (by rw [e1]; simp only []; rw [e2]; omega), e1]
    simp only []
    rw [e2, List.take_left, List.drop_left]
  have p2 : partR isDig 5 (dol r.fr ++ decR m) = (decR m, r.fr, [], true) := by
    rw [partR_yes (by rw [e3]; simp only []; rw [e4]; omega), e3]
    simp only []
    rw [e4, List.take_length, List.drop_length]
  rw [p1]
  simp only []
  rw [p2]
  simp only []
  rw [if_neg (by simp), if_neg (by simp [dn]), lv, valD_decR]
  have : (m : Int) - 1 = r.row := by omega
  rw [this]
  simp
/-! the bytes of a cell's name -/
def refC (c : UInt8) : Bool := isLet c || isDig c || decide (c = 36)
theorem all_imp {p q : UInt8 → Bool} {l : B} (h : l.all p = true) (hpq : ∀ c, p c = true → q c = true) : l.all q = true := by
  rw [List.all_eq_true] at h ⊢
  exact fun c hc => hpq c (h c hc)
theorem refText_all (r : RefS) : (refTextR r).all refC = true := by
  by_cases h : cellR r.col r.row = true
  · obtain ⟨⟨c0, c1⟩, r0, r1⟩ := cellR_bd h
    obtain ⟨_, la, _⟩ := cols_facts r.col c0 c1
    rw [refText_eq r h]
    have hd : ∀ b, (dol b).all refC = true := by intro b; cases b <;> decide
    rw [List.all_append, List.all_append, List.all_append, hd, hd, all_imp la (fun c hc => by unfold refC; rw [hc]; rfl), all_imp (decR_dig _) (fun c hc => by unfold refC; rw [hc]; simp)]
    rfl
  · unfold refTextR; rw [if_neg h]; rfl
theorem ofNat256 {P : UInt8 → Bool} (h : ∀ n : Fin 256, P (UInt8.ofNat n.1) = true) (c : UInt8) : P c = true := ofNat_all (P := fun c => P c = true) h c
set_option maxRecDepth 100000 in
theorem refC_goC (c : UInt8) (h : refC c = true) : goC c = true ∧ c ≠ 33 ∧ c ≠ 58 ∧ c ≠ 93 ∧ c ≠ 91 := by
  have := ofNat256 (P := fun c => !refC c || (goC c && decide (c ≠ 33 ∧ c ≠ 58 ∧ c ≠ 93 ∧ c ≠ 91))) (by decide) c
  simp only [h, Bool.not_true, Bool.false_or, Bool.and_eq_true, decide_eq_true_eq] at this
  exact this
theorem refText_no (r : RefS) (b : UInt8) (hb : b = 33 ∨ b = 58 ∨ b = 93 ∨ b = 91) : ∀ c ∈ refTextR r, c ≠ b := by
  intro c hc
  have h := refText_all r
  rw [List.all_eq_true] at h
  obtain ⟨_, h1, h2, h3, h4⟩ := refC_goC c (h c hc)
  rcases hb with rfl | rfl | rfl | rfl
  · exact h1
  · exact h2
  · exact h3
  · exact h4
theorem refText_go (r : RefS) : (refTextR r).all goC = true := all_imp (refText_all r) (fun c h => (refC_goC c h).1)
/-! names -/
set_option maxRecDepth 100000 in
theorem nameC_facts (c : UInt8) (f : Bool) (h : nameC c f = true) : goC c = true ∧ c ≠ 33 ∧ c ≠ 58 ∧ c ≠ 93 ∧ c ≠ 91 ∧ c ≠ 36 := by
  have h1 : nameC c false = true := by cases f with | false => exact h | true => simp only [nameC, Bool.not_true, Bool.and_false, Bool.or_false] at h; simp only [nameC, h, Bool.true_or]
  have := ofNat256 (P := fun c => !nameC c false || (goC c && decide (c ≠ 33 ∧ c ≠ 58 ∧ c ≠ 93 ∧ c ≠ 91 ∧ c ≠ 36))) (by decide) c
  simp only [h1, Bool.not_true, Bool.false_or, Bool.and_eq_true, decide_eq_true_eq] at this
  exact this
theorem nameL_mem {l : B} {f : Bool} (h : nameL l f = true) : ∀ c ∈ l, ∃ g, nameC c g = true := by
  induction l generalizing f with
  | nil => intro c hc; cases hc
  | cons d r ih =>
    rw [nameL, Bool.and_eq_true] at h
    intro c hc
    rcases List.mem_cons.1 hc with rfl | hc
    · exact ⟨f, h.1⟩
    · exact ih h.2 c hc
theorem name_mem {l : B} (h : nameB l = true) : ∀ c ∈ l, goC c = true ∧ c ≠ 33 ∧ c ≠ 58 ∧ c ≠ 93 ∧ c ≠ 91 ∧ c ≠ 36 := by
  intro c hc
  simp only [nameB, Bool.and_eq_true] at h
  obtain ⟨g, hg⟩ := nameL_mem h.2 c hc
  exact nameC_facts c g hg
theorem name_ne {l : B} (h : nameB l = true) : ∃ c r, l = c :: r ∧ (isLet c = true ∨ c = 95) := by
  simp only [nameB, Bool.and_eq_true, decide_eq_true_eq] at h
  cases l with
  | nil => simp at h
  | cons c r =>
    refine ⟨c, r, rfl, ?_⟩
    have := h.2
    rw [nameL, Bool.and_eq_true] at this
    have h1 := this.1
    simp only [nameC, Bool.not_true, Bool.and_false, Bool.or_false, Bool.or_eq_true, decide_eq_true_eq] at h1
    rcases h1 with h1 | h1
    · exact .inl h1
    · exact .inr (UInt8.toNat_inj.1 (by show c.toNat = 95; omega))
theorem name_go {l : B} (h : nameB l = true) : l.all goC = true := by
  rw [List.all_eq_true]; exact fun c hc => (name_mem h c hc).1
theorem name_brk {l r : B} (h : nameB l = true) : brkF (l ++ r) = false := by
  obtain ⟨c, t, rfl, _⟩ := name_ne h
  have := (name_mem h c List.mem_cons_self).2.2.2.2.1
  have h2 : ¬ (c.toNat : Int) = 91 := fun e => this (UInt8.toNat_inj.1 (by show c.toNat = 91; omega))
  simp [brkF, h2]
theorem ref_brk (r : RefS) (h : cellR r.col r.row = true) (t : B) : brkF (refTextR r ++ t) = false := by
  have hne : refTextR r ≠ [] := by
    obtain ⟨⟨c0, c1⟩, _⟩ := cellR_bd h
    obtain ⟨⟨l1, _⟩, _⟩ := cols_facts r.col c0 c1
    intro e
    have := congrArg List.length (refText_eq r h)
    rw [e] at this
    simp only [List.length_nil, List.length_append] at this
    omega
  cases hx : refTextR r with
  | nil => exact absurd hx hne
  | cons c q =>
    have := refText_no r 91 (by simp) c (by rw [hx]; exact List.mem_cons_self)
    have h2 : ¬ (c.toNat : Int) = 91 := fun e => this (UInt8.toNat_inj.1 (by show c.toNat = 91; omega))
    simp [brkF, h2]
/-- what the cells' part of a written reference gives back -/
def tailT (f : FullS) : B := refTextR f.a ++ (if f.wide = true then [58] ++ refTextR f.b else [])
theorem areaR_parts {a b : RefS} (h : areaR a b = true) : cellR a.col a.row = true ∧ cellR b.col b.row = true ∧ a.col ≤ b.col ∧ a.row ≤ b.row := by
  simp only [areaR, Bool.and_eq_true, decide_eq_true_eq] at h
  exact ⟨h.1.1, h.1.2, h.2.1, h.2.2.1⟩
theorem corn_same {a b : RefS} (h1 : a.col ≤ b.col) (h2 : a.row ≤ b.row) : cornR a b = (a, b) := by
  unfold cornR
  rw [if_neg (by omega), if_neg (by omega), if_neg (by omega), if_neg (by omega), if_neg (by omega), if_neg (by omega), if_neg (by omega), if_neg (by omega)]
/-- the cells of a good reference -/
def cellsGood (f : FullS) : Prop := if f.wide = true then areaR f.a f.b = true else f.b = RefS.zero ∧ cellR f.a.col f.a.row = true
theorem cells_back (f : FullS) (h : cellsGood f) : cellsR f.book f.sheet (tailT f) = (f, 0) := by
  obtain ⟨book, sheet, a, b, wide⟩ := f
  unfold cellsGood at h
  unfold tailT cellsR
  simp only [] at h ⊢
  cases wide with
  | false =>
    simp only [Bool.false_eq_true, if_false] at h ⊢
    rw [List.append_nil, idx_no (refText_no a 58 (by simp))]
    simp only []
    rw [ref_back a h.2, if_pos rfl, if_pos h.2, h.1]
  | true =>
    simp only [if_true] at h ⊢
    obtain ⟨ha, hb, hc, hr⟩ := areaR_parts h
    rw [List.singleton_append, idx_first (refText_no a 58 (by simp))]
    simp only []
    have e1 : (refTextR a ++ 58 :: refTextR b).take (refTextR a).length = refTextR a := List.take_left
    have e2 : (refTextR a ++ 58 :: refTextR b).drop ((refTextR a).length + 1) = refTextR b := by
      rw [List.drop_append, List.drop_eq_nil_iff.2 (by omega), Nat.add_sub_cancel_left]; rfl
    rw [e1, e2, ref_back a ha, ref_back b hb]
    simp only []
    rw [corn_same hc hr]
    simp only []
    rw [if_pos trivial, if_pos trivial, if_pos ⟨ha, hb⟩, if_pos h]
theorem goodR_parts {f : FullS} (h : goodR f = true) : (f.sheet = [] ∨ nameB f.sheet = true) ∧ (f.book = [] ∨ (nameB f.book = true ∧ f.sheet ≠ [])) ∧ cellsGood f := by
  simp only [goodR, Bool.and_eq_true, Bool.or_eq_true, List.isEmpty_iff, Bool.not_eq_true'] at h
  obtain ⟨⟨h1, h2⟩, h3⟩ := h
  refine ⟨h1, ?_, ?_⟩
  · rcases h2 with h2 | h2
    · exact .inl h2
    · refine .inr ⟨h2.1, fun e => ?_⟩
      rw [e] at h2
      simp at h2
  · unfold cellsGood
    by_cases hw : f.wide = true
    · rw [if_pos hw] at h3 ⊢; exact h3
    · rw [if_neg hw] at h3 ⊢
      simp only [Bool.and_eq_true, decide_eq_true_eq] at h3
      exact h3
theorem tail_no (f : FullS) : ∀ c ∈ tailT f, c ≠ 33 ∧ c ≠ 93 ∧ c ≠ 91 ∧ goC c = true := by
  intro c hc
  unfold tailT at hc
  have key : ∀ r : RefS, c ∈ refTextR r → c ≠ 33 ∧ c ≠ 93 ∧ c ≠ 91 ∧ goC c = true := by
    intro r hr
    have := refText_all r
    rw [List.all_eq_true] at this
    obtain ⟨h0, h1, _, h3, h4⟩ := refC_goC c (this c hr)
    exact ⟨h1, h3, h4, h0⟩
  rcases List.mem_append.1 hc with h | h
  · exact key _ h
  · split at h
    · rcases List.mem_append.1 h with h | h
      · simp at h; subst h; decide
      · exact key _ h
    · cases h
theorem textR_eq (f : FullS) (h : goodR f = true) : textR f = (if f.book.isEmpty = true then [] else [91] ++ f.book ++ [93]) ++ ((if f.sheet.isEmpty = true then [] else f.sheet ++ [33]) ++ tailT f) := by
  unfold textR tailT; rw [if_pos h]; simp only [List.append_assoc]
theorem cellsGood_a {f : FullS} (h : cellsGood f) : cellR f.a.col f.a.row = true := by
  unfold cellsGood at h
  split at h
  · exact (areaR_parts h).1
  · exact h.2
/-- what stands behind the book -/
def sheetT (f : FullS) : B := (if f.sheet.isEmpty = true then [] else f.sheet ++ [33]) ++ tailT f
theorem sheet_back (f : FullS) (h : goodR f = true) : sheetR (sheetT f) = some (f.sheet, tailT f) := by
  obtain ⟨hs, hb, hc⟩ := goodR_parts h
  unfold sheetT sheetR
  by_cases he : f.sheet = []
  · rw [he, if_pos (by rfl), List.nil_append, idx_no (fun c hc => (tail_no f c hc).1)]
  · have hn : nameB f.sheet = true := by rcases hs with h | h; exact absurd h he; exact h
    have he2 : ¬ f.sheet.isEmpty = true := by simpa using he
    rw [if_neg he2, List.append_assoc, List.singleton_append, idx_first (fun c hc => (name_mem hn c hc).2.1)]
    simp only []
    rw [List.take_left, if_pos hn]
    have : (f.sheet ++ 33 :: tailT f).drop (f.sheet.length + 1) = tailT f := by
      rw [List.drop_append, List.drop_eq_nil_iff.2 (by omega), Nat.add_sub_cancel_left]; rfl
    rw [this]
/-- a good reference, written, is read as itself -/
theorem full_back (f : FullS) (h : goodR f = true) : full4 (textR f) = (f, 0) := by
  obtain ⟨hs, hb, hc⟩ := goodR_parts h
  rw [textR_eq f h]
  show full4 ((if f.book.isEmpty = true then [] else [91] ++ f.book ++ [93]) ++ sheetT f) = _
  have hbook : bookR ((if f.book.isEmpty = true then [] else [91] ++ f.book ++ [93]) ++ sheetT f) = some (f.book, sheetT f) := by
    by_cases he : f.book = []
    · rw [he, if_pos (by rfl), List.nil_append]
      unfold bookR
      have : brkF (sheetT f) = false := by
        unfold sheetT
        by_cases hse : f.sheet = []
        · rw [hse, if_pos (by rfl), List.nil_append]; exact ref_brk f.a (cellsGood_a hc) _
        · have hn : nameB f.sheet = true := by rcases hs with h | h; exact absurd h hse; exact h
          have he2 : ¬ f.sheet.isEmpty = true := by simpa using hse
          rw [if_neg he2, List.append_assoc]; exact name_brk hn
      rw [this]; rfl
    · have hn : nameB f.book = true := by rcases hb with h | h; exact absurd h he; exact h.1
      have he2 : ¬ f.book.isEmpty = true := by simpa using he
      rw [if_neg he2]
      have e : [91] ++ f.book ++ [93] ++ sheetT f = (91 :: f.book) ++ 93 :: sheetT f := by simp
      rw [e]
      unfold bookR
      have hbk : brkF ((91 :: f.book) ++ 93 :: sheetT f) = true := rfl
      rw [if_pos hbk, idx_first (by
        intro c hc
        rcases List.mem_cons.1 hc with rfl | hc
        · decide
        · exact (name_mem hn c hc).2.2.2.1)]
      simp only []
      have e1 : subB ((91 :: f.book) ++ 93 :: sheetT f) 1 (91 :: f.book).length = f.book := by
        unfold subB
        show ((f.book ++ 93 :: sheetT f)).take ((91 :: f.book).length - 1) = _
        rw [List.length_cons, Nat.add_sub_cancel, List.take_left]
      rw [e1, if_pos hn]
      have e2 : ((91 :: f.book) ++ 93 :: sheetT f).drop ((91 :: f.book).length + 1) = sheetT f := by
        rw [List.drop_append, List.drop_eq_nil_iff.2 (by omega), Nat.add_sub_cancel_left]; rfl
      rw [e2]
  unfold full4
  rw [hbook]
  simp only []
  rw [sheet_back f h]
  simp only []
  have hne : ¬ (f.book.isEmpty = false ∧ f.sheet.isEmpty = true) := by
    rintro ⟨a, b⟩
    rcases hb with hb | hb
    · rw [hb] at a; simp at a
    · exact hb.2 (by simpa using b)
  rw [if_neg hne]
  exact cells_back f hc
end Go.Proofs.YtnmbpmomilehoaaGreatDoor

namespace Go.Proofs.YtnmbpmomilehoaaGreatDoor

theorem bookR_some2 {l book r : B} (h : bookR l = some (book, r)) : (book = [] ∧ r = l) ∨ nameB book = true := by
  unfold bookR at h
  split at h
  · split at h
    · cases h
    · split at h
      · rename_i hn; cases h; exact .inr hn
      · cases h
  · cases h; exact .inl ⟨rfl, rfl⟩
theorem sheetR_some2 {l sheet r : B} (h : sheetR l = some (sheet, r)) : (sheet = [] ∧ r = l) ∨ nameB sheet = true := by
  unfold sheetR at h
  split at h
  · cases h; exact .inl ⟨rfl, rfl⟩
  · split at h
    · rename_i hn; cases h; exact .inr hn
    · cases h
theorem cellsR_some {book sheet l : B} {f : FullS} (h : cellsR book sheet l = (f, 0)) : f.book = book ∧ f.sheet = sheet ∧ cellsGood f ∧ (f.wide = false → ref1R l = (f.a, true)) := by
  unfold cellsR at h
  split at h
  · split at h
    · rename_i h1
      split at h
      · rename_i h2
        cases h
        refine ⟨rfl, rfl, ?_, fun _ => ?_⟩
        · unfold cellsGood; rw [if_neg (by simp)]; exact ⟨rfl, h2⟩
        · exact Prod.ext rfl h1
      · simp at h
    · simp at h
  · split at h
    · split at h
      · split at h
        · split at h
          · rename_i h4
            cases h
            refine ⟨rfl, rfl, ?_, fun e => by cases e⟩
            unfold cellsGood; rw [if_pos rfl]; exact h4
          · simp at h
        · simp at h
      · simp at h
    · simp at h
theorem full4_some {l : B} {f : FullS} (h : full4 l = (f, 0)) : goodR f = true ∧ (f.book = [] → f.sheet = [] → f.wide = false → ref1R l = (f.a, true)) := by
  unfold full4 at h
  cases hb : bookR l with
  | none => rw [hb] at h; simp at h
  | some p =>
    obtain ⟨book, r⟩ := p
    rw [hb] at h
    simp only [] at h
    cases hs : sheetR r with
    | none => rw [hs] at h; simp at h
    | some q =>
      obtain ⟨sheet, r2⟩ := q
      rw [hs] at h
      simp only [] at h
      split at h
      · simp at h
      · rename_i hne
        obtain ⟨e1, e2, hg, hr⟩ := cellsR_some h
        have b1 := bookR_some2 hb
        have s1 := sheetR_some2 hs
        refine ⟨?_, fun h1 h2 h3 => ?_⟩
        · simp only [goodR, Bool.and_eq_true, Bool.or_eq_true, List.isEmpty_iff, Bool.not_eq_true']
          rw [e1, e2]
          refine ⟨⟨?_, ?_⟩, ?_⟩
          · rcases s1 with s | s
            · exact .inl s.1
            · exact .inr s
          · rcases b1 with b | b
            · exact .inl b.1
            · refine .inr ⟨b, ?_⟩
              cases hx : sheet with
              | nil =>
                exfalso
                apply hne
                refine ⟨?_, by rw [hx]; rfl⟩
                obtain ⟨c, t, hc, _⟩ := name_ne b
                rw [hc]; rfl
              | cons c t => rfl
          · unfold cellsGood at hg
            by_cases hw : f.wide = true
            · rw [if_pos hw] at hg ⊢; exact hg
            · rw [if_neg hw] at hg ⊢; simp only [Bool.and_eq_true, decide_eq_true_eq]; exact hg
        · rcases b1 with b | b
          · rcases s1 with s | s
            · have := hr h3
              rw [s.2, b.2] at this
              exact this
            · obtain ⟨c, t, hc, _⟩ := name_ne s
              rw [e2, hc] at h2; cases h2
          · obtain ⟨c, t, hc, _⟩ := name_ne b
            rw [e1, hc] at h1; cases h1
theorem partR_true {p : UInt8 → Bool} {most : Nat} {l : B} (h : (partR p most l).2.2.2 = true) : (1 ≤ spanK p (dolR l).2 ∧ spanK p (dolR l).2 ≤ most) ∧ partR p most l = ((dolR l).2.take (spanK p (dolR l).2), (dolR l).1, (dolR l).2.drop (spanK p (dolR l).2), true) := by
  by_cases hc : spanK p (dolR l).2 < 1 ∨ most < spanK p (dolR l).2
  · rw [partR_no hc] at h; cases h
  · exact ⟨by omega, partR_yes hc⟩
theorem dolR_false {l : B} (h : (dolR l).1 = false) : (dolR l).2 = l := by
  cases l with
  | nil => rfl
  | cons c r =>
    rw [dolR] at h ⊢
    by_cases h36 : (c.toNat : Int) = 36
    · rw [if_pos h36] at h; cases h
    · rw [if_neg h36]
/-- a plain cell's name is a name -/
theorem ref_name {l : B} {a : RefS} (h : ref1R l = (a, true)) (h1 : a.fc = false) (h2 : a.fr = false) : nameB l = true := by
  rw [ref1R_part] at h
  simp only [] at h
  split at h
  · simp at h
  · rename_i hp
    split at h
    · simp at h
    · rename_i hq
      have hp1 : (partR isLet 3 l).2.2.2 = true := by simpa using hp
      have hq1 : ¬ (partR isDig 5 (partR isLet 3 l).2.2.1).2.2.2 = false ∧ (partR isDig 5 (partR isLet 3 l).2.2.1).2.2.1 = [] := by
        refine ⟨fun e => hq (.inl e), ?_⟩
        cases hx : (partR isDig 5 (partR isLet 3 l).2.2.1).2.2.1 with
        | nil => rfl
        | cons c t => exact absurd (.inr (.inl (by rw [hx]; simp))) hq
      simp only [Prod.mk.injEq, and_true] at h
      subst h
      simp only [] at h1 h2
      obtain ⟨⟨p1, p2⟩, p3⟩ := partR_true hp1
      obtain ⟨hq2, hq3⟩ := hq1
      rw [p3] at h1 h2 hq2 hq3
      simp only [] at h1 h2 hq2 hq3
      have hq2' : (partR isDig 5 ((dolR l).2.drop (spanK isLet (dolR l).2))).2.2.2 = true := by simpa using hq2
      obtain ⟨⟨q1, q2⟩, q3⟩ := partR_true hq2'
      rw [q3] at h2 hq3
      simp only [] at h2 hq3
      have e1 := dolR_false h1
      rw [e1] at p1 p2 q1 q2 h2 hq3
      have e2 := dolR_false h2
      rw [e2] at q1 q2 hq3
      obtain ⟨x, hx⟩ : ∃ x, x = l.take (spanK isLet l) := ⟨_, rfl⟩
      obtain ⟨y, hy⟩ : ∃ y, y = l.drop (spanK isLet l) := ⟨_, rfl⟩
      rw [← hy] at q1 q2 hq3
      have hl : l = x ++ y := by rw [hx, hy, List.take_append_drop]
      have hxa : x.all isLet = true := by rw [hx]; exact spanK_take _ _
      have hya : y.all isDig = true := (spanK_drop isDig y).1 hq3
      have hxl : x.length = spanK isLet l := by rw [hx, List.length_take]; have := spanK_le isLet l; omega
      have hyl : y.length ≤ 5 := by
        have := spanK_all isDig y
        rw [hya] at this
        have := of_decide_eq_true this
        omega
      clear hx hy
      rw [hl]
      rw [hxl.symm] at p1 p2
      have key : ∀ z : B, (∀ c ∈ z, isLet c = true ∨ isDig c = true) → nameL z false = true := by
        intro z hz
        induction z with
        | nil => rfl
        | cons c t ih =>
          rw [nameL, ih (fun d hd => hz d (List.mem_cons_of_mem _ hd))]
          rcases hz c List.mem_cons_self with h | h <;> simp [nameC, h]
      cases x with
      | nil => simp at p1
      | cons c t =>
        rw [List.all_cons, Bool.and_eq_true] at hxa
        unfold nameB
        rw [decide_eq_true (by simp only [List.length_cons, List.length_append] at p2 ⊢; omega), List.cons_append, nameL, key (t ++ y) (by
          intro d hd
          rcases List.mem_append.1 hd with hd | hd
          · exact .inl ((List.all_eq_true.1 hxa.2) d hd)
          · exact .inr ((List.all_eq_true.1 hya) d hd))]
        simp [nameC, hxa.1]
/-- a reference whose text is a name was read from a name -/
theorem text_name {l : B} {f : FullS} (h : full4 l = (f, 0)) (hn : nameB (textR f) = true) : nameB l = true := by
  obtain ⟨hg, hr⟩ := full4_some h
  obtain ⟨hs, hb, hc⟩ := goodR_parts hg
  have hm := name_mem hn
  rw [textR_eq f hg] at hm
  have hbook : f.book = [] := by
    cases hx : f.book with
    | nil => rfl
    | cons c t => rw [hx] at hm; exact absurd rfl (hm 91 (by simp)).2.2.2.2.1
  have hsheet : f.sheet = [] := by
    cases hx : f.sheet with
    | nil => rfl
    | cons c t => rw [hx] at hm; exact absurd rfl (hm 33 (by simp)).2.1
  have hwide : f.wide = false := by
    cases hx : f.wide with
    | false => rfl
    | true => unfold tailT at hm; rw [hx] at hm; exact absurd rfl (hm 58 (by simp)).2.2.1
  have ha := hr hbook hsheet hwide
  rw [hbook, hsheet] at hm
  have hm2 : ∀ c ∈ refTextR f.a, c ≠ 36 := fun c hc => (hm c (by
    refine List.mem_append_right _ (List.mem_append_right _ ?_)
    unfold tailT
    exact List.mem_append_left _ hc)).2.2.2.2.2
  rw [refText_eq _ (cellsGood_a hc)] at hm2
  refine ref_name ha ?_ ?_
  · cases hx : f.a.fc with
    | false => rfl
    | true => rw [hx] at hm2; exact absurd rfl (hm2 36 (by simp [dol]))
  · cases hx : f.a.fr with
    | false => rfl
    | true => rw [hx] at hm2; exact absurd rfl (hm2 36 (by simp [dol]))
/-! capitals -/
set_option maxRecDepth 100000 in
theorem upC_facts (c : UInt8) : (isLet (upC c) = isLet c ∧ isDig (upC c) = isDig c) ∧ (goC (upC c) = goC c ∧ (∀ f, nameC (upC c) f = nameC c f)) ∧ (upI (upC c) = upI c ∧ upC (upC c) = upC c) ∧ ((upC c = 36 ↔ c = 36) ∧ (upC c = 48 ↔ c = 48)) ∧ (isDig c = true → upC c = c) := by
  have := ofNat256 (P := fun c => decide ((isLet (upC c) = isLet c ∧ isDig (upC c) = isDig c) ∧ (goC (upC c) = goC c ∧ (nameC (upC c) true = nameC c true ∧ nameC (upC c) false = nameC c false)) ∧ (upI (upC c) = upI c ∧ upC (upC c) = upC c) ∧ ((upC c = 36 ↔ c = 36) ∧ (upC c = 48 ↔ c = 48)) ∧ (isDig c = true → upC c = c))) (by decide) c
  obtain ⟨h1, ⟨h2, h3, h4⟩, h5⟩ := of_decide_eq_true this
  exact ⟨h1, ⟨h2, fun f => by cases f; exact h4; exact h3⟩, h5⟩
theorem up_idem (l : B) : upB (upB l) = upB l := by
  unfold upB
  rw [List.map_map]
  exact List.map_congr_left fun c _ => (upC_facts c).2.2.1.2
theorem up_len (l : B) : (upB l).length = l.length := by unfold upB; rw [List.length_map]
theorem nameL_up (l : B) (f : Bool) : nameL (upB l) f = nameL l f := by
  induction l generalizing f with
  | nil => rfl
  | cons c r ih =>
    show nameL (upC c :: upB r) f = _
    rw [nameL, nameL, ih, (upC_facts c).2.1.2 f]
theorem nameB_up (l : B) : nameB (upB l) = nameB l := by
  unfold nameB; rw [nameL_up, up_len]
theorem span_up {p : UInt8 → Bool} (hp : ∀ c, p (upC c) = p c) (l : B) : spanK p (upB l) = spanK p l := by
  induction l with
  | nil => rfl
  | cons c r ih => show spanK p (upC c :: upB r) = _; rw [spanK, spanK, hp, ih]
theorem toN36 (c : UInt8) : ((c.toNat : Int) = 36) ↔ c = 36 := ⟨fun e => UInt8.toNat_inj.1 (by show c.toNat = 36; omega), fun e => by subst e; rfl⟩
theorem toN48 (c : UInt8) : ((c.toNat : Int) = 48) ↔ c = 48 := ⟨fun e => UInt8.toNat_inj.1 (by show c.toNat = 48; omega), fun e => by subst e; rfl⟩
theorem dolR_up (l : B) : dolR (upB l) = ((dolR l).1, upB (dolR l).2) := by
  cases l with
  | nil => rfl
  | cons c r =>
    show dolR (upC c :: upB r) = _
    rw [dolR, dolR]
    by_cases h : c = 36
    · rw [if_pos ((toN36 _).2 ((upC_facts c).2.2.2.1.1.2 h)), if_pos ((toN36 _).2 h)]
    · rw [if_neg (fun e => h ((upC_facts c).2.2.2.1.1.1 ((toN36 _).1 e))), if_neg (fun e => h ((toN36 _).1 e))]; rfl
theorem partR_up {p : UInt8 → Bool} (hp : ∀ c, p (upC c) = p c) (most : Nat) (l : B) : partR p most (upB l) = (upB (partR p most l).1, (partR p most l).2.1, upB (partR p most l).2.2.1, (partR p most l).2.2.2) := by
  have e := dolR_up l
  by_cases hc : spanK p (dolR l).2 < 1 ∨ most < spanK p (dolR l).2
  · rw [partR_no hc, partR_no (by rw [e]; simp only []; rw [span_up hp]; exact hc)]; rfl
  · rw [partR_yes hc, partR_yes (by rw [e]; simp only []; rw [span_up hp]; exact hc), e]
    simp only []
    rw [span_up hp]
    unfold upB
    rw [List.map_take, List.map_drop]
theorem colF_up (l : B) (acc : Int) : colF acc (upB l) = colF acc l := by
  induction l generalizing acc with
  | nil => rfl
  | cons c r ih => show colF acc (upC c :: upB r) = _; rw [colF, colF, (upC_facts c).2.2.1.1, ih]
theorem up_dig {l : B} (h : l.all isDig = true) : upB l = l := by
  induction l with
  | nil => rfl
  | cons c r ih =>
    rw [List.all_cons, Bool.and_eq_true] at h
    show upC c :: upB r = _
    rw [(upC_facts c).2.2.2.2 h.1, ih h.2]
theorem part_dig (l : B) : (partR isDig 5 l).1.all isDig = true := by
  by_cases hc : spanK isDig (dolR l).2 < 1 ∨ 5 < spanK isDig (dolR l).2
  · rw [partR_no hc]; rfl
  · rw [partR_yes hc]; exact spanK_take _ _
theorem ref_up (l : B) : ref1R (upB l) = ref1R l := by
  rw [ref1R_part, ref1R_part]
  simp only []
  rw [partR_up (fun c => (upC_facts c).1.1)]
  simp only []
  rw [partR_up (fun c => (upC_facts c).1.2)]
  simp only []
  rw [up_dig (part_dig _), colF_up]
  have e : (upB (partR isDig 5 (partR isLet 3 l).2.2.1).2.2.1 ≠ []) ↔ ((partR isDig 5 (partR isLet 3 l).2.2.1).2.2.1 ≠ []) := by
    unfold upB; simp
  simp only [e]
theorem full4_nameB {l : B} (h : nameB l = true) : full4 l = cellsR [] [] l := by
  have hm := name_mem h
  have hbk := name_brk (r := []) h
  rw [List.append_nil] at hbk
  unfold full4 bookR
  rw [hbk]
  simp only [Bool.false_eq_true, if_false]
  unfold sheetR
  rw [idx_no (fun c hc => (hm c hc).2.1)]
  simp
theorem full4_name4 {l : B} (h : nameB l = true) : (full4 l).2 = 4 ↔ (ref1R l).2 = false := by
  rw [full4_nameB h]
  unfold cellsR
  rw [idx_no (fun c hc => (name_mem h c hc).2.2.1)]
  simp only []
  cases hr : (ref1R l).2 with
  | false => simp
  | true =>
    rw [if_pos rfl]
    split <;> simp
theorem full4_up4 {l : B} (h : nameB l = true) (h4 : (full4 l).2 = 4) : (full4 (upB l)).2 = 4 := by
  rw [full4_name4 (by rw [nameB_up]; exact h), ref_up]
  exact (full4_name4 h).1 h4
end Go.Proofs.YtnmbpmomilehoaaGreatDoor
