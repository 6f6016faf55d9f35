/-
  Part 7 of what the proof stands on: L7a, L7b, L7c, L7d, L8, L8b.
-/
import Derived.Test.YtnmbpmomilehoaaGreatDoorK6
import Derived.Test.YtnmbpmomilehoaaGreatDoorK5
import Derived.Test.YtnmbpmomilehoaaGreatDoorK1
namespace Go.Proofs.YtnmbpmomilehoaaGreatDoor
open Go.RowKit

set_option maxRecDepth 100000 in
set_option maxHeartbeats 6400000 in
theorem lx_name0 {w : World} {B0 g at_ : Nat} {l : B} {v : Value} {ts : List TokS} (h : Scan w B0 g l at_ v ts) (_hG : Glob w) (h1 : 1 ≤ spanK goC (l.drop at_)) (C : nameB (nmT (l.drop at_)) = true ∧ parF (nmQ (l.drop at_)) = true) :
    Calls Tryz.prog 35 #[.pointer (some ⟨g, 0, none⟩)] w fun e w' => e = .returned (.int .i64 (nameT (l.drop at_)).2.2) ∧ After w w' B0 g l at_ v ts (nameT (l.drop at_)) := by
  have hms := mkB_size; have hma := mkB_append; have hmx := mkB_extract; have hmt := mkB_toList; have hmtl := subB_tail; have hmhd := subB_head
  have k1 : (⟨[65, 66, 67, 68, 69, 70, 71, 72, 73, 74, 75, 76, 77, 78, 79, 80, 81, 82, 83, 84, 85, 86, 87, 88, 89, 90, 97, 98, 99, 100, 101, 102, 103, 104, 105, 106, 107, 108, 109, 110, 111, 112, 113, 114, 115, 116, 117, 118, 119, 120, 121, 122, 95, 36, 91, 48, 49, 50, 51, 52, 53, 54, 55, 56, 57, 93, 33, 58].toArray⟩ : ByteArray) = mkB goS := rfl
  have k2 : (⟨#[32]⟩ : ByteArray) = mkB [32] := rfl
  have k3 : (⟨#[40]⟩ : ByteArray) = mkB [40] := rfl
  have k4 : (⟨#[]⟩ : ByteArray) = mkB [] := rfl
  have hp := h.pos
  have hl := h.len
  obtain ⟨r, hr0⟩ : ∃ r, l.drop at_ = r := ⟨_, rfl⟩
  have hrl : r.length = l.length - at_ := by rw [← hr0, List.length_drop]
  have hr : r.length ≤ 1000000 := by omega
  rw [hr0] at h1 C ⊢
  unfold nmT at C
  unfold nmQ at C
  have HR := Lib.hid hr0
  have hkl := spanK_le goC r
  obtain ⟨n, hnn⟩ : ∃ n, n = spanK goC r := ⟨_, rfl⟩
  rw [← hnn] at h1 hkl
  have HK := Lib.hid (show spanK (hasB goS) r = n by rw [hnn]; exact spanK_congr hasB_go r)
  have hn1 : 1 ≤ n := h1
  have hn2 : at_ + n ≤ l.length := by omega
  obtain ⟨t, ht0⟩ : ∃ t, t = r.take n := ⟨_, rfl⟩
  have ht : t.length ≤ 1000000 := by rw [ht0, List.length_take]; omega
  obtain ⟨q, hq⟩ : ∃ q, q = Lib.trimLeftB (r.drop n) 32 := ⟨_, rfl⟩
  have HL := Lib.hid hq
  obtain ⟨up, hup⟩ : ∃ u, u = upB t := ⟨_, rfl⟩
  have HU := Lib.hid hup
  obtain ⟨⟨⟨bk, sh, ⟨ac, ar, afc, afr⟩, ⟨bc, br, bfc, bfr⟩, wd⟩, fe⟩, hfe⟩ : ∃ z, z = full4 t := ⟨_, rfl⟩
  have hz := nameT_eq hnn ht0 hq hup hfe
  have HF := Lib.hid hfe
  have HTT := Lib.hid ht0
  have ht1 : r.take n = t := ht0.symm
  rw [← hnn, ← ht0, ← hq] at C
  obtain ⟨hn, hpar⟩ := C
  clear hr0 hrl hnn hq hup hfe ht0
  have HZ := Lib.hid (show nameT r = ({ TokS.zero with kind := 4, text := up }, n, 0) by rw [hz, if_pos ⟨hn, hpar⟩])
  clear hz
  go_enter Tryz.func35, Tryz.ntmps35
  go_wp2_with (first | (go_at_call 17; refine (lx_rest hS2).mono ?_; rw [HR.out]; rintro e w3 ⟨rfl, hb_w3⟩; have hS3 := hS2.below hb_w3) | (go_at_call 17; refine (lx_rest h).mono ?_; rw [HR.out]; rintro e w1 ⟨rfl, hb_w1⟩; have hS1 := h.below hb_w1) | (go_at_call 16; refine (lx_run r goS _ hr goS_low (by decide)).mono ?_; rw [HK.out]; rintro e w2 ⟨rfl, hb_w2⟩; have hS2 := hS1.below hb_w2) | (go_at_call 67; refine (va_Upper t _ ht).mono ?_; rw [← HU.out]; rintro e w4 ⟨rfl, hb_w4⟩; have hS4 := hS3.below hb_w4))
  (go_at_call 68; refine (ad_Name t _ ht).mono ?_; rw [hn]; rintro e w5 ⟨rfl, hb_w5⟩; have hS5 := (hS4.below ((Below.refl _ _).alloc (Nat.le_refl _) _)).below hb_w5; have hW5 := (RecAt.new w4 #[.int .i64 4, .string (mkB up), .int .i64 0, .int .i64 0, .string (mkB []), .string (mkB []), .int .i64 0, .int .i64 0, .bool false, .bool false, .int .i64 0, .int .i64 0, .bool false, .bool false, .bool false, .int .i64 0] 41).below hb_w5 (by simp); have cW5 := hW5.cell)
  go_wp2_with (first | (go_at_call 17; refine (lx_rest hS5).mono ?_; rw [HR.out]; rintro e w6 ⟨rfl, hb_w6⟩; have hS6 := hS5.below hb_w6; have hW6 : RecAt w6 w4.heap.size #[.int .i64 4, .string (mkB up), .int .i64 0, .int .i64 0, .string (mkB []), .string (mkB []), .int .i64 0, .int .i64 0, .bool false, .bool false, .int .i64 0, .int .i64 0, .bool false, .bool false, .bool false, .int .i64 0] 41 := hW5.below hb_w6 hW5.lt; have cW6 := hW6.cell))
  (go_at_call 69; refine (s_TrimLeft1 (r.drop n) 32 (by decide) _).mono ?_; rw [← HL.out]; rintro e w' ⟨rfl, rfl⟩)
  go_wp2_with (first | (go_at_call 66; refine (s_HasPrefix q [40] _).mono ?_; rw [parF_pre, hpar]; rintro e w' ⟨rfl, rfl⟩))
  (go_at_call 37; refine (lx_put hS6 4 up 0 0 [] [] 0 0 false false 0 0 false false false 0 n hn2 hn1).mono ?_; rintro e w9 ⟨rfl, hb_w9, v', hS9⟩)
  go_wp2
  go_ret
  exact ⟨by rw [HZ.out]; rfl, After.put h (by repeat (first | exact Below.refl _ _ | assumption | apply bel_alloc | (refine Bel.trans ?_ (by assumption)))) hb_w9 (by rw [HZ.out]) (by rw [HZ.out]; exact hS9)⟩
set_option maxRecDepth 100000 in
set_option maxHeartbeats 6400000 in
theorem lx_name1 {w : World} {B0 g at_ : Nat} {l : B} {v : Value} {ts : List TokS} (h : Scan w B0 g l at_ v ts) (hG : Glob w) (h1 : 1 ≤ spanK goC (l.drop at_)) (C : nameB (nmT (l.drop at_)) = true ∧ parF (nmQ (l.drop at_)) = false ∧ (full4 (nmT (l.drop at_))).2 = 0) :
    Calls Tryz.prog 35 #[.pointer (some ⟨g, 0, none⟩)] w fun e w' => e = .returned (.int .i64 (nameT (l.drop at_)).2.2) ∧ After w w' B0 g l at_ v ts (nameT (l.drop at_)) := by
  have hms := mkB_size; have hma := mkB_append; have hmx := mkB_extract; have hmt := mkB_toList; have hmtl := subB_tail; have hmhd := subB_head
  have k1 : (⟨[65, 66, 67, 68, 69, 70, 71, 72, 73, 74, 75, 76, 77, 78, 79, 80, 81, 82, 83, 84, 85, 86, 87, 88, 89, 90, 97, 98, 99, 100, 101, 102, 103, 104, 105, 106, 107, 108, 109, 110, 111, 112, 113, 114, 115, 116, 117, 118, 119, 120, 121, 122, 95, 36, 91, 48, 49, 50, 51, 52, 53, 54, 55, 56, 57, 93, 33, 58].toArray⟩ : ByteArray) = mkB goS := rfl
  have k2 : (⟨#[32]⟩ : ByteArray) = mkB [32] := rfl
  have k3 : (⟨#[40]⟩ : ByteArray) = mkB [40] := rfl
  have k4 : (⟨#[]⟩ : ByteArray) = mkB [] := rfl
  have hp := h.pos
  have hl := h.len
  obtain ⟨r, hr0⟩ : ∃ r, l.drop at_ = r := ⟨_, rfl⟩
  have hrl : r.length = l.length - at_ := by rw [← hr0, List.length_drop]
  have hr : r.length ≤ 1000000 := by omega
  rw [hr0] at h1 C ⊢
  unfold nmT at C
  unfold nmQ at C
  have HR := Lib.hid hr0
  have hkl := spanK_le goC r
  obtain ⟨n, hnn⟩ : ∃ n, n = spanK goC r := ⟨_, rfl⟩
  rw [← hnn] at h1 hkl
  have HK := Lib.hid (show spanK (hasB goS) r = n by rw [hnn]; exact spanK_congr hasB_go r)
  have hn1 : 1 ≤ n := h1
  have hn2 : at_ + n ≤ l.length := by omega
  obtain ⟨t, ht0⟩ : ∃ t, t = r.take n := ⟨_, rfl⟩
  have ht : t.length ≤ 1000000 := by rw [ht0, List.length_take]; omega
  obtain ⟨q, hq⟩ : ∃ q, q = Lib.trimLeftB (r.drop n) 32 := ⟨_, rfl⟩
  have HL := Lib.hid hq
  obtain ⟨up, hup⟩ : ∃ u, u = upB t := ⟨_, rfl⟩
  have HU := Lib.hid hup
  obtain ⟨⟨⟨bk, sh, ⟨ac, ar, afc, afr⟩, ⟨bc, br, bfc, bfr⟩, wd⟩, fe⟩, hfe⟩ : ∃ z, z = full4 t := ⟨_, rfl⟩
  have hz := nameT_eq hnn ht0 hq hup hfe
  have HF := Lib.hid hfe
  have HTT := Lib.hid ht0
  have ht1 : r.take n = t := ht0.symm
  rw [← hnn, ← ht0, ← hq, ← hfe] at C
  obtain ⟨hn, hpar, h0⟩ := C
  clear hr0 hrl hnn hq hup hfe ht0
  subst h0
  have HZ := Lib.hid (show nameT r = _ by rw [hz, if_neg (by simp [hpar]), if_pos rfl])
  clear hz
  go_enter Tryz.func35, Tryz.ntmps35
  go_wp2_with (first | (go_at_call 17; refine (lx_rest hS2).mono ?_; rw [HR.out]; rintro e w3 ⟨rfl, hb_w3⟩; have hS3 := hS2.below hb_w3) | (go_at_call 17; refine (lx_rest h).mono ?_; rw [HR.out]; rintro e w1 ⟨rfl, hb_w1⟩; have hS1 := h.below hb_w1) | (go_at_call 16; refine (lx_run r goS _ hr goS_low (by decide)).mono ?_; rw [HK.out]; rintro e w2 ⟨rfl, hb_w2⟩; have hS2 := hS1.below hb_w2) | (go_at_call 67; refine (va_Upper t _ ht).mono ?_; rw [← HU.out]; rintro e w4 ⟨rfl, hb_w4⟩; have hS4 := hS3.below hb_w4))
  (go_at_call 68; refine (ad_Name t _ ht).mono ?_; rw [hn]; rintro e w5 ⟨rfl, hb_w5⟩; have hS5 := (hS4.below ((Below.refl _ _).alloc (Nat.le_refl _) _)).below hb_w5; have hW5 := (RecAt.new w4 #[.int .i64 4, .string (mkB up), .int .i64 0, .int .i64 0, .string (mkB []), .string (mkB []), .int .i64 0, .int .i64 0, .bool false, .bool false, .int .i64 0, .int .i64 0, .bool false, .bool false, .bool false, .int .i64 0] 41).below hb_w5 (by simp); have cW5 := hW5.cell)
  go_wp2_with (first | (go_at_call 17; refine (lx_rest hS5).mono ?_; rw [HR.out]; rintro e w6 ⟨rfl, hb_w6⟩; have hS6 := hS5.below hb_w6; have hW6 : RecAt w6 w4.heap.size #[.int .i64 4, .string (mkB up), .int .i64 0, .int .i64 0, .string (mkB []), .string (mkB []), .int .i64 0, .int .i64 0, .bool false, .bool false, .int .i64 0, .int .i64 0, .bool false, .bool false, .bool false, .int .i64 0] 41 := hW5.below hb_w6 hW5.lt; have cW6 := hW6.cell))
  (go_at_call 69; refine (s_TrimLeft1 (r.drop n) 32 (by decide) _).mono ?_; rw [← HL.out]; rintro e w' ⟨rfl, rfl⟩)
  go_wp2_with (first | (go_at_call 66; refine (s_HasPrefix q [40] _).mono ?_; rw [parF_pre, hpar]; rintro e w' ⟨rfl, rfl⟩))
  go_wp2_with (fail)
  (go_at_call 70; refine (ad_Parsex t _ ht (hG.below (by repeat (first | exact Below.refl _ _ | assumption | apply bel_alloc | (refine Bel.trans ?_ (by assumption)))))).mono ?_; rw [← HF.out]; rintro e w7 ⟨rfl, hb_w7⟩; have hS7 := (by first | exact hS6.below hb_w7 | exact hS5.below hb_w7 : Scan w7 B0 g l at_ v ts); have hW7 : RecAt w7 w4.heap.size #[.int .i64 4, .string (mkB up), .int .i64 0, .int .i64 0, .string (mkB []), .string (mkB []), .int .i64 0, .int .i64 0, .bool false, .bool false, .int .i64 0, .int .i64 0, .bool false, .bool false, .bool false, .int .i64 0] 41 := (by first | exact hW6.below hb_w7 hW6.lt | exact hW5.below hb_w7 hW5.lt))
  go_wp2_with (fail)
  (go_at_call 37; refine (lx_put (hS7.below ((Below.refl _ _).alloc (Nat.le_refl _) _)) 3 [] 0 0 bk sh ac ar afc afr bc br bfc bfr wd 0 n hn2 hn1).mono ?_; rintro e w9 ⟨rfl, hb_w9, v', hS9⟩)
  go_wp2
  go_ret
  exact ⟨by rw [HZ.out]; rfl, After.put h (by repeat (first | exact Below.refl _ _ | assumption | apply bel_alloc | (refine Bel.trans ?_ (by assumption)))) hb_w9 (by rw [HZ.out]) (by rw [HZ.out]; exact hS9)⟩
end Go.Proofs.YtnmbpmomilehoaaGreatDoor

namespace Go.Proofs.YtnmbpmomilehoaaGreatDoor
open Go.RowKit

set_option maxRecDepth 100000 in
set_option maxHeartbeats 6400000 in
theorem lx_name2 {w : World} {B0 g at_ : Nat} {l : B} {v : Value} {ts : List TokS} (h : Scan w B0 g l at_ v ts) (hG : Glob w) (h1 : 1 ≤ spanK goC (l.drop at_)) (C : nameB (nmT (l.drop at_)) = true ∧ parF (nmQ (l.drop at_)) = false ∧ (full4 (nmT (l.drop at_))).2 = 4) :
    Calls Tryz.prog 35 #[.pointer (some ⟨g, 0, none⟩)] w fun e w' => e = .returned (.int .i64 (nameT (l.drop at_)).2.2) ∧ After w w' B0 g l at_ v ts (nameT (l.drop at_)) := by
  have hms := mkB_size; have hma := mkB_append; have hmx := mkB_extract; have hmt := mkB_toList; have hmtl := subB_tail; have hmhd := subB_head
  have k1 : (⟨[65, 66, 67, 68, 69, 70, 71, 72, 73, 74, 75, 76, 77, 78, 79, 80, 81, 82, 83, 84, 85, 86, 87, 88, 89, 90, 97, 98, 99, 100, 101, 102, 103, 104, 105, 106, 107, 108, 109, 110, 111, 112, 113, 114, 115, 116, 117, 118, 119, 120, 121, 122, 95, 36, 91, 48, 49, 50, 51, 52, 53, 54, 55, 56, 57, 93, 33, 58].toArray⟩ : ByteArray) = mkB goS := rfl
  have k2 : (⟨#[32]⟩ : ByteArray) = mkB [32] := rfl
  have k3 : (⟨#[40]⟩ : ByteArray) = mkB [40] := rfl
  have k4 : (⟨#[]⟩ : ByteArray) = mkB [] := rfl
  have hp := h.pos
  have hl := h.len
  obtain ⟨r, hr0⟩ : ∃ r, l.drop at_ = r := ⟨_, rfl⟩
  have hrl : r.length = l.length - at_ := by rw [← hr0, List.length_drop]
  have hr : r.length ≤ 1000000 := by omega
  rw [hr0] at h1 C ⊢
  unfold nmT at C
  unfold nmQ at C
  have HR := Lib.hid hr0
  have hkl := spanK_le goC r
  obtain ⟨n, hnn⟩ : ∃ n, n = spanK goC r := ⟨_, rfl⟩
  rw [← hnn] at h1 hkl
  have HK := Lib.hid (show spanK (hasB goS) r = n by rw [hnn]; exact spanK_congr hasB_go r)
  have hn1 : 1 ≤ n := h1
  have hn2 : at_ + n ≤ l.length := by omega
  obtain ⟨t, ht0⟩ : ∃ t, t = r.take n := ⟨_, rfl⟩
  have ht : t.length ≤ 1000000 := by rw [ht0, List.length_take]; omega
  obtain ⟨q, hq⟩ : ∃ q, q = Lib.trimLeftB (r.drop n) 32 := ⟨_, rfl⟩
  have HL := Lib.hid hq
  obtain ⟨up, hup⟩ : ∃ u, u = upB t := ⟨_, rfl⟩
  have HU := Lib.hid hup
  obtain ⟨⟨⟨bk, sh, ⟨ac, ar, afc, afr⟩, ⟨bc, br, bfc, bfr⟩, wd⟩, fe⟩, hfe⟩ : ∃ z, z = full4 t := ⟨_, rfl⟩
  have hz := nameT_eq hnn ht0 hq hup hfe
  have HF := Lib.hid hfe
  have HTT := Lib.hid ht0
  have ht1 : r.take n = t := ht0.symm
  rw [← hnn, ← ht0, ← hq, ← hfe] at C
  obtain ⟨hn, hpar, h0⟩ := C
  clear hr0 hrl hnn hq hup hfe ht0
  subst h0
  have HZ := Lib.hid (show nameT r = ({ TokS.zero with kind := 4, text := up }, n, 0) by rw [hz, if_neg (by simp [hpar]), if_neg (by simp), if_neg (by simp), if_pos hn])
  clear hz
  go_enter Tryz.func35, Tryz.ntmps35
  go_wp2_with (first | (go_at_call 17; refine (lx_rest hS2).mono ?_; rw [HR.out]; rintro e w3 ⟨rfl, hb_w3⟩; have hS3 := hS2.below hb_w3) | (go_at_call 17; refine (lx_rest h).mono ?_; rw [HR.out]; rintro e w1 ⟨rfl, hb_w1⟩; have hS1 := h.below hb_w1) | (go_at_call 16; refine (lx_run r goS _ hr goS_low (by decide)).mono ?_; rw [HK.out]; rintro e w2 ⟨rfl, hb_w2⟩; have hS2 := hS1.below hb_w2) | (go_at_call 67; refine (va_Upper t _ ht).mono ?_; rw [← HU.out]; rintro e w4 ⟨rfl, hb_w4⟩; have hS4 := hS3.below hb_w4))
  (go_at_call 68; refine (ad_Name t _ ht).mono ?_; rw [hn]; rintro e w5 ⟨rfl, hb_w5⟩; have hS5 := (hS4.below ((Below.refl _ _).alloc (Nat.le_refl _) _)).below hb_w5; have hW5 := (RecAt.new w4 #[.int .i64 4, .string (mkB up), .int .i64 0, .int .i64 0, .string (mkB []), .string (mkB []), .int .i64 0, .int .i64 0, .bool false, .bool false, .int .i64 0, .int .i64 0, .bool false, .bool false, .bool false, .int .i64 0] 41).below hb_w5 (by simp); have cW5 := hW5.cell)
  go_wp2_with (first | (go_at_call 17; refine (lx_rest hS5).mono ?_; rw [HR.out]; rintro e w6 ⟨rfl, hb_w6⟩; have hS6 := hS5.below hb_w6; have hW6 : RecAt w6 w4.heap.size #[.int .i64 4, .string (mkB up), .int .i64 0, .int .i64 0, .string (mkB []), .string (mkB []), .int .i64 0, .int .i64 0, .bool false, .bool false, .int .i64 0, .int .i64 0, .bool false, .bool false, .bool false, .int .i64 0] 41 := hW5.below hb_w6 hW5.lt; have cW6 := hW6.cell))
  (go_at_call 69; refine (s_TrimLeft1 (r.drop n) 32 (by decide) _).mono ?_; rw [← HL.out]; rintro e w' ⟨rfl, rfl⟩)
  go_wp2_with (first | (go_at_call 66; refine (s_HasPrefix q [40] _).mono ?_; rw [parF_pre, hpar]; rintro e w' ⟨rfl, rfl⟩))
  go_wp2_with (fail)
  (go_at_call 70; refine (ad_Parsex t _ ht (hG.below (by repeat (first | exact Below.refl _ _ | assumption | apply bel_alloc | (refine Bel.trans ?_ (by assumption)))))).mono ?_; rw [← HF.out]; rintro e w7 ⟨rfl, hb_w7⟩; have hS7 := (by first | exact hS6.below hb_w7 | exact hS5.below hb_w7 : Scan w7 B0 g l at_ v ts); have hW7 : RecAt w7 w4.heap.size #[.int .i64 4, .string (mkB up), .int .i64 0, .int .i64 0, .string (mkB []), .string (mkB []), .int .i64 0, .int .i64 0, .bool false, .bool false, .int .i64 0, .int .i64 0, .bool false, .bool false, .bool false, .int .i64 0] 41 := (by first | exact hW6.below hb_w7 hW6.lt | exact hW5.below hb_w7 hW5.lt))
  go_wp2_with (fail)
  (go_at_call 68; refine (ad_Name t _ ht).mono ?_; rw [hn]; rintro e w8 ⟨rfl, hb_w8⟩; have hS8 := (hS7.below ((Below.refl _ _).alloc (Nat.le_refl _) (.cells #[.string (mkB bk), .string (mkB sh), .int .i64 ac, .int .i64 ar, .bool afc, .bool afr, .int .i64 bc, .int .i64 br, .bool bfc, .bool bfr, .bool wd] 39))).below hb_w8; have hW8 := (hW7.alloc (.cells #[.string (mkB bk), .string (mkB sh), .int .i64 ac, .int .i64 ar, .bool afc, .bool afr, .int .i64 bc, .int .i64 br, .bool bfc, .bool bfr, .bool wd] 39)).below hb_w8 (by have := hW7.lt; simp; omega); have cW8 := hW8.cell)
  go_wp2_with (fail)
  (go_at_call 37; refine (lx_put hS8 4 up 0 0 [] [] 0 0 false false 0 0 false false false 0 n hn2 hn1).mono ?_; rintro e w9 ⟨rfl, hb_w9, v', hS9⟩)
  go_wp2
  go_ret
  exact ⟨by rw [HZ.out]; rfl, After.put h (by repeat (first | exact Below.refl _ _ | assumption | apply bel_alloc | (refine Bel.trans ?_ (by assumption)))) hb_w9 (by rw [HZ.out]) (by rw [HZ.out]; exact hS9)⟩
set_option maxRecDepth 100000 in
set_option maxHeartbeats 6400000 in
theorem lx_name3 {w : World} {B0 g at_ : Nat} {l : B} {v : Value} {ts : List TokS} (h : Scan w B0 g l at_ v ts) (hG : Glob w) (h1 : 1 ≤ spanK goC (l.drop at_)) (C : nameB (nmT (l.drop at_)) = true ∧ parF (nmQ (l.drop at_)) = false ∧ (full4 (nmT (l.drop at_))).2 ≠ 0 ∧ (full4 (nmT (l.drop at_))).2 ≠ 4) :
    Calls Tryz.prog 35 #[.pointer (some ⟨g, 0, none⟩)] w fun e w' => e = .returned (.int .i64 (nameT (l.drop at_)).2.2) ∧ After w w' B0 g l at_ v ts (nameT (l.drop at_)) := by
  have hms := mkB_size; have hma := mkB_append; have hmx := mkB_extract; have hmt := mkB_toList; have hmtl := subB_tail; have hmhd := subB_head
  have k1 : (⟨[65, 66, 67, 68, 69, 70, 71, 72, 73, 74, 75, 76, 77, 78, 79, 80, 81, 82, 83, 84, 85, 86, 87, 88, 89, 90, 97, 98, 99, 100, 101, 102, 103, 104, 105, 106, 107, 108, 109, 110, 111, 112, 113, 114, 115, 116, 117, 118, 119, 120, 121, 122, 95, 36, 91, 48, 49, 50, 51, 52, 53, 54, 55, 56, 57, 93, 33, 58].toArray⟩ : ByteArray) = mkB goS := rfl
  have k2 : (⟨#[32]⟩ : ByteArray) = mkB [32] := rfl
  have k3 : (⟨#[40]⟩ : ByteArray) = mkB [40] := rfl
  have k4 : (⟨#[]⟩ : ByteArray) = mkB [] := rfl
  have hp := h.pos
  have hl := h.len
  obtain ⟨r, hr0⟩ : ∃ r, l.drop at_ = r := ⟨_, rfl⟩
  have hrl : r.length = l.length - at_ := by rw [← hr0, List.length_drop]
  have hr : r.length ≤ 1000000 := by omega
  rw [hr0] at h1 C ⊢
  unfold nmT at C
  unfold nmQ at C
  have HR := Lib.hid hr0
  have hkl := spanK_le goC r
  obtain ⟨n, hnn⟩ : ∃ n, n = spanK goC r := ⟨_, rfl⟩
  rw [← hnn] at h1 hkl
  have HK := Lib.hid (show spanK (hasB goS) r = n by rw [hnn]; exact spanK_congr hasB_go r)
  have hn1 : 1 ≤ n := h1
  have hn2 : at_ + n ≤ l.length := by omega
  obtain ⟨t, ht0⟩ : ∃ t, t = r.take n := ⟨_, rfl⟩
  have ht : t.length ≤ 1000000 := by rw [ht0, List.length_take]; omega
  obtain ⟨q, hq⟩ : ∃ q, q = Lib.trimLeftB (r.drop n) 32 := ⟨_, rfl⟩
  have HL := Lib.hid hq
  obtain ⟨up, hup⟩ : ∃ u, u = upB t := ⟨_, rfl⟩
  have HU := Lib.hid hup
  obtain ⟨⟨⟨bk, sh, ⟨ac, ar, afc, afr⟩, ⟨bc, br, bfc, bfr⟩, wd⟩, fe⟩, hfe⟩ : ∃ z, z = full4 t := ⟨_, rfl⟩
  have hz := nameT_eq hnn ht0 hq hup hfe
  have HF := Lib.hid hfe
  have HTT := Lib.hid ht0
  have ht1 : r.take n = t := ht0.symm
  rw [← hnn, ← ht0, ← hq, ← hfe] at C
  obtain ⟨hn, hpar, h0, h4⟩ := C
  clear hr0 hrl hnn hq hup hfe ht0
  have HZ := Lib.hid (show nameT r = (TokS.zero, 0, fe) by rw [hz, if_neg (by simp [hpar]), if_neg h0, if_pos h4])
  clear hz
  go_enter Tryz.func35, Tryz.ntmps35
  go_wp2_with (first | (go_at_call 17; refine (lx_rest hS2).mono ?_; rw [HR.out]; rintro e w3 ⟨rfl, hb_w3⟩; have hS3 := hS2.below hb_w3) | (go_at_call 17; refine (lx_rest h).mono ?_; rw [HR.out]; rintro e w1 ⟨rfl, hb_w1⟩; have hS1 := h.below hb_w1) | (go_at_call 16; refine (lx_run r goS _ hr goS_low (by decide)).mono ?_; rw [HK.out]; rintro e w2 ⟨rfl, hb_w2⟩; have hS2 := hS1.below hb_w2) | (go_at_call 67; refine (va_Upper t _ ht).mono ?_; rw [← HU.out]; rintro e w4 ⟨rfl, hb_w4⟩; have hS4 := hS3.below hb_w4))
  (go_at_call 68; refine (ad_Name t _ ht).mono ?_; rw [hn]; rintro e w5 ⟨rfl, hb_w5⟩; have hS5 := (hS4.below ((Below.refl _ _).alloc (Nat.le_refl _) _)).below hb_w5; have hW5 := (RecAt.new w4 #[.int .i64 4, .string (mkB up), .int .i64 0, .int .i64 0, .string (mkB []), .string (mkB []), .int .i64 0, .int .i64 0, .bool false, .bool false, .int .i64 0, .int .i64 0, .bool false, .bool false, .bool false, .int .i64 0] 41).below hb_w5 (by simp); have cW5 := hW5.cell)
  go_wp2_with (first | (go_at_call 17; refine (lx_rest hS5).mono ?_; rw [HR.out]; rintro e w6 ⟨rfl, hb_w6⟩; have hS6 := hS5.below hb_w6; have hW6 : RecAt w6 w4.heap.size #[.int .i64 4, .string (mkB up), .int .i64 0, .int .i64 0, .string (mkB []), .string (mkB []), .int .i64 0, .int .i64 0, .bool false, .bool false, .int .i64 0, .int .i64 0, .bool false, .bool false, .bool false, .int .i64 0] 41 := hW5.below hb_w6 hW5.lt; have cW6 := hW6.cell))
  (go_at_call 69; refine (s_TrimLeft1 (r.drop n) 32 (by decide) _).mono ?_; rw [← HL.out]; rintro e w' ⟨rfl, rfl⟩)
  go_wp2_with (first | (go_at_call 66; refine (s_HasPrefix q [40] _).mono ?_; rw [parF_pre, hpar]; rintro e w' ⟨rfl, rfl⟩))
  go_wp2_with (fail)
  (go_at_call 70; refine (ad_Parsex t _ ht (hG.below (by repeat (first | exact Below.refl _ _ | assumption | apply bel_alloc | (refine Bel.trans ?_ (by assumption)))))).mono ?_; rw [← HF.out]; rintro e w7 ⟨rfl, hb_w7⟩; have hS7 := (by first | exact hS6.below hb_w7 | exact hS5.below hb_w7 : Scan w7 B0 g l at_ v ts); have hW7 : RecAt w7 w4.heap.size #[.int .i64 4, .string (mkB up), .int .i64 0, .int .i64 0, .string (mkB []), .string (mkB []), .int .i64 0, .int .i64 0, .bool false, .bool false, .int .i64 0, .int .i64 0, .bool false, .bool false, .bool false, .int .i64 0] 41 := (by first | exact hW6.below hb_w7 hW6.lt | exact hW5.below hb_w7 hW5.lt))
  go_wp2_with (fail)
  go_ret
  exact ⟨by rw [HZ.out]; rfl, After.err h (by repeat (first | exact Below.refl _ _ | assumption | apply bel_alloc | (refine Bel.trans ?_ (by assumption)))) (by rw [HZ.out]; first | decide | exact h0)⟩
end Go.Proofs.YtnmbpmomilehoaaGreatDoor

namespace Go.Proofs.YtnmbpmomilehoaaGreatDoor
open Go.RowKit

set_option maxRecDepth 100000 in
set_option maxHeartbeats 6400000 in
theorem lx_name4 {w : World} {B0 g at_ : Nat} {l : B} {v : Value} {ts : List TokS} (h : Scan w B0 g l at_ v ts) (hG : Glob w) (h1 : 1 ≤ spanK goC (l.drop at_)) (C : nameB (nmT (l.drop at_)) = false ∧ (full4 (nmT (l.drop at_))).2 = 0) :
    Calls Tryz.prog 35 #[.pointer (some ⟨g, 0, none⟩)] w fun e w' => e = .returned (.int .i64 (nameT (l.drop at_)).2.2) ∧ After w w' B0 g l at_ v ts (nameT (l.drop at_)) := by
  have hms := mkB_size; have hma := mkB_append; have hmx := mkB_extract; have hmt := mkB_toList; have hmtl := subB_tail; have hmhd := subB_head
  have k1 : (⟨[65, 66, 67, 68, 69, 70, 71, 72, 73, 74, 75, 76, 77, 78, 79, 80, 81, 82, 83, 84, 85, 86, 87, 88, 89, 90, 97, 98, 99, 100, 101, 102, 103, 104, 105, 106, 107, 108, 109, 110, 111, 112, 113, 114, 115, 116, 117, 118, 119, 120, 121, 122, 95, 36, 91, 48, 49, 50, 51, 52, 53, 54, 55, 56, 57, 93, 33, 58].toArray⟩ : ByteArray) = mkB goS := rfl
  have k2 : (⟨#[32]⟩ : ByteArray) = mkB [32] := rfl
  have k3 : (⟨#[40]⟩ : ByteArray) = mkB [40] := rfl
  have k4 : (⟨#[]⟩ : ByteArray) = mkB [] := rfl
  have hp := h.pos
  have hl := h.len
  obtain ⟨r, hr0⟩ : ∃ r, l.drop at_ = r := ⟨_, rfl⟩
  have hrl : r.length = l.length - at_ := by rw [← hr0, List.length_drop]
  have hr : r.length ≤ 1000000 := by omega
  rw [hr0] at h1 C ⊢
  unfold nmT at C
  have HR := Lib.hid hr0
  have hkl := spanK_le goC r
  obtain ⟨n, hnn⟩ : ∃ n, n = spanK goC r := ⟨_, rfl⟩
  rw [← hnn] at h1 hkl
  have HK := Lib.hid (show spanK (hasB goS) r = n by rw [hnn]; exact spanK_congr hasB_go r)
  have hn1 : 1 ≤ n := h1
  have hn2 : at_ + n ≤ l.length := by omega
  obtain ⟨t, ht0⟩ : ∃ t, t = r.take n := ⟨_, rfl⟩
  have ht : t.length ≤ 1000000 := by rw [ht0, List.length_take]; omega
  obtain ⟨q, hq⟩ : ∃ q, q = Lib.trimLeftB (r.drop n) 32 := ⟨_, rfl⟩
  have HL := Lib.hid hq
  obtain ⟨up, hup⟩ : ∃ u, u = upB t := ⟨_, rfl⟩
  have HU := Lib.hid hup
  obtain ⟨⟨⟨bk, sh, ⟨ac, ar, afc, afr⟩, ⟨bc, br, bfc, bfr⟩, wd⟩, fe⟩, hfe⟩ : ∃ z, z = full4 t := ⟨_, rfl⟩
  have hz := nameT_eq hnn ht0 hq hup hfe
  have HF := Lib.hid hfe
  have HTT := Lib.hid ht0
  have ht1 : r.take n = t := ht0.symm
  rw [← hnn, ← ht0, ← hfe] at C
  obtain ⟨hn, h0⟩ := C
  clear hr0 hrl hnn hq hup hfe ht0
  subst h0
  have HZ := Lib.hid (show nameT r = _ by rw [hz, if_neg (by simp [hn]), if_pos rfl])
  clear hz
  go_enter Tryz.func35, Tryz.ntmps35
  go_wp2_with (first | (go_at_call 17; refine (lx_rest hS2).mono ?_; rw [HR.out]; rintro e w3 ⟨rfl, hb_w3⟩; have hS3 := hS2.below hb_w3) | (go_at_call 17; refine (lx_rest h).mono ?_; rw [HR.out]; rintro e w1 ⟨rfl, hb_w1⟩; have hS1 := h.below hb_w1) | (go_at_call 16; refine (lx_run r goS _ hr goS_low (by decide)).mono ?_; rw [HK.out]; rintro e w2 ⟨rfl, hb_w2⟩; have hS2 := hS1.below hb_w2) | (go_at_call 67; refine (va_Upper t _ ht).mono ?_; rw [← HU.out]; rintro e w4 ⟨rfl, hb_w4⟩; have hS4 := hS3.below hb_w4))
  (go_at_call 68; refine (ad_Name t _ ht).mono ?_; rw [hn]; rintro e w5 ⟨rfl, hb_w5⟩; have hS5 := (hS4.below ((Below.refl _ _).alloc (Nat.le_refl _) _)).below hb_w5; have hW5 := (RecAt.new w4 #[.int .i64 4, .string (mkB up), .int .i64 0, .int .i64 0, .string (mkB []), .string (mkB []), .int .i64 0, .int .i64 0, .bool false, .bool false, .int .i64 0, .int .i64 0, .bool false, .bool false, .bool false, .int .i64 0] 41).below hb_w5 (by simp); have cW5 := hW5.cell)
  go_wp2_with (fail)
  (go_at_call 70; refine (ad_Parsex t _ ht (hG.below (by repeat (first | exact Below.refl _ _ | assumption | apply bel_alloc | (refine Bel.trans ?_ (by assumption)))))).mono ?_; rw [← HF.out]; rintro e w7 ⟨rfl, hb_w7⟩; have hS7 := (by first | exact hS6.below hb_w7 | exact hS5.below hb_w7 : Scan w7 B0 g l at_ v ts); have hW7 : RecAt w7 w4.heap.size #[.int .i64 4, .string (mkB up), .int .i64 0, .int .i64 0, .string (mkB []), .string (mkB []), .int .i64 0, .int .i64 0, .bool false, .bool false, .int .i64 0, .int .i64 0, .bool false, .bool false, .bool false, .int .i64 0] 41 := (by first | exact hW6.below hb_w7 hW6.lt | exact hW5.below hb_w7 hW5.lt))
  go_wp2_with (fail)
  (go_at_call 37; refine (lx_put (hS7.below ((Below.refl _ _).alloc (Nat.le_refl _) _)) 3 [] 0 0 bk sh ac ar afc afr bc br bfc bfr wd 0 n hn2 hn1).mono ?_; rintro e w9 ⟨rfl, hb_w9, v', hS9⟩)
  go_wp2
  go_ret
  exact ⟨by rw [HZ.out]; rfl, After.put h (by repeat (first | exact Below.refl _ _ | assumption | apply bel_alloc | (refine Bel.trans ?_ (by assumption)))) hb_w9 (by rw [HZ.out]) (by rw [HZ.out]; exact hS9)⟩
set_option maxRecDepth 100000 in
set_option maxHeartbeats 6400000 in
theorem lx_name5 {w : World} {B0 g at_ : Nat} {l : B} {v : Value} {ts : List TokS} (h : Scan w B0 g l at_ v ts) (hG : Glob w) (h1 : 1 ≤ spanK goC (l.drop at_)) (C : nameB (nmT (l.drop at_)) = false ∧ (full4 (nmT (l.drop at_))).2 = 4) :
    Calls Tryz.prog 35 #[.pointer (some ⟨g, 0, none⟩)] w fun e w' => e = .returned (.int .i64 (nameT (l.drop at_)).2.2) ∧ After w w' B0 g l at_ v ts (nameT (l.drop at_)) := by
  have hms := mkB_size; have hma := mkB_append; have hmx := mkB_extract; have hmt := mkB_toList; have hmtl := subB_tail; have hmhd := subB_head
  have k1 : (⟨[65, 66, 67, 68, 69, 70, 71, 72, 73, 74, 75, 76, 77, 78, 79, 80, 81, 82, 83, 84, 85, 86, 87, 88, 89, 90, 97, 98, 99, 100, 101, 102, 103, 104, 105, 106, 107, 108, 109, 110, 111, 112, 113, 114, 115, 116, 117, 118, 119, 120, 121, 122, 95, 36, 91, 48, 49, 50, 51, 52, 53, 54, 55, 56, 57, 93, 33, 58].toArray⟩ : ByteArray) = mkB goS := rfl
  have k2 : (⟨#[32]⟩ : ByteArray) = mkB [32] := rfl
  have k3 : (⟨#[40]⟩ : ByteArray) = mkB [40] := rfl
  have k4 : (⟨#[]⟩ : ByteArray) = mkB [] := rfl
  have hp := h.pos
  have hl := h.len
  obtain ⟨r, hr0⟩ : ∃ r, l.drop at_ = r := ⟨_, rfl⟩
  have hrl : r.length = l.length - at_ := by rw [← hr0, List.length_drop]
  have hr : r.length ≤ 1000000 := by omega
  rw [hr0] at h1 C ⊢
  unfold nmT at C
  have HR := Lib.hid hr0
  have hkl := spanK_le goC r
  obtain ⟨n, hnn⟩ : ∃ n, n = spanK goC r := ⟨_, rfl⟩
  rw [← hnn] at h1 hkl
  have HK := Lib.hid (show spanK (hasB goS) r = n by rw [hnn]; exact spanK_congr hasB_go r)
  have hn1 : 1 ≤ n := h1
  have hn2 : at_ + n ≤ l.length := by omega
  obtain ⟨t, ht0⟩ : ∃ t, t = r.take n := ⟨_, rfl⟩
  have ht : t.length ≤ 1000000 := by rw [ht0, List.length_take]; omega
  obtain ⟨q, hq⟩ : ∃ q, q = Lib.trimLeftB (r.drop n) 32 := ⟨_, rfl⟩
  have HL := Lib.hid hq
  obtain ⟨up, hup⟩ : ∃ u, u = upB t := ⟨_, rfl⟩
  have HU := Lib.hid hup
  obtain ⟨⟨⟨bk, sh, ⟨ac, ar, afc, afr⟩, ⟨bc, br, bfc, bfr⟩, wd⟩, fe⟩, hfe⟩ : ∃ z, z = full4 t := ⟨_, rfl⟩
  have hz := nameT_eq hnn ht0 hq hup hfe
  have HF := Lib.hid hfe
  have HTT := Lib.hid ht0
  have ht1 : r.take n = t := ht0.symm
  rw [← hnn, ← ht0, ← hfe] at C
  obtain ⟨hn, h0⟩ := C
  clear hr0 hrl hnn hq hup hfe ht0
  subst h0
  have HZ := Lib.hid (show nameT r = (TokS.zero, 0, 4) by rw [hz, if_neg (by simp [hn]), if_neg (by simp), if_neg (by simp), if_neg (by simp [hn])])
  clear hz
  go_enter Tryz.func35, Tryz.ntmps35
  go_wp2_with (first | (go_at_call 17; refine (lx_rest hS2).mono ?_; rw [HR.out]; rintro e w3 ⟨rfl, hb_w3⟩; have hS3 := hS2.below hb_w3) | (go_at_call 17; refine (lx_rest h).mono ?_; rw [HR.out]; rintro e w1 ⟨rfl, hb_w1⟩; have hS1 := h.below hb_w1) | (go_at_call 16; refine (lx_run r goS _ hr goS_low (by decide)).mono ?_; rw [HK.out]; rintro e w2 ⟨rfl, hb_w2⟩; have hS2 := hS1.below hb_w2) | (go_at_call 67; refine (va_Upper t _ ht).mono ?_; rw [← HU.out]; rintro e w4 ⟨rfl, hb_w4⟩; have hS4 := hS3.below hb_w4))
  (go_at_call 68; refine (ad_Name t _ ht).mono ?_; rw [hn]; rintro e w5 ⟨rfl, hb_w5⟩; have hS5 := (hS4.below ((Below.refl _ _).alloc (Nat.le_refl _) _)).below hb_w5; have hW5 := (RecAt.new w4 #[.int .i64 4, .string (mkB up), .int .i64 0, .int .i64 0, .string (mkB []), .string (mkB []), .int .i64 0, .int .i64 0, .bool false, .bool false, .int .i64 0, .int .i64 0, .bool false, .bool false, .bool false, .int .i64 0] 41).below hb_w5 (by simp); have cW5 := hW5.cell)
  go_wp2_with (fail)
  (go_at_call 70; refine (ad_Parsex t _ ht (hG.below (by repeat (first | exact Below.refl _ _ | assumption | apply bel_alloc | (refine Bel.trans ?_ (by assumption)))))).mono ?_; rw [← HF.out]; rintro e w7 ⟨rfl, hb_w7⟩; have hS7 := (by first | exact hS6.below hb_w7 | exact hS5.below hb_w7 : Scan w7 B0 g l at_ v ts); have hW7 : RecAt w7 w4.heap.size #[.int .i64 4, .string (mkB up), .int .i64 0, .int .i64 0, .string (mkB []), .string (mkB []), .int .i64 0, .int .i64 0, .bool false, .bool false, .int .i64 0, .int .i64 0, .bool false, .bool false, .bool false, .int .i64 0] 41 := (by first | exact hW6.below hb_w7 hW6.lt | exact hW5.below hb_w7 hW5.lt))
  go_wp2_with (fail)
  (go_at_call 68; refine (ad_Name t _ ht).mono ?_; rw [hn]; rintro e w8 ⟨rfl, hb_w8⟩; have hS8 := (hS7.below ((Below.refl _ _).alloc (Nat.le_refl _) (.cells #[.string (mkB bk), .string (mkB sh), .int .i64 ac, .int .i64 ar, .bool afc, .bool afr, .int .i64 bc, .int .i64 br, .bool bfc, .bool bfr, .bool wd] 39))).below hb_w8; have hW8 := (hW7.alloc (.cells #[.string (mkB bk), .string (mkB sh), .int .i64 ac, .int .i64 ar, .bool afc, .bool afr, .int .i64 bc, .int .i64 br, .bool bfc, .bool bfr, .bool wd] 39)).below hb_w8 (by have := hW7.lt; simp; omega); have cW8 := hW8.cell)
  go_wp2_with (fail)
  go_ret
  exact ⟨by rw [HZ.out]; rfl, After.err h (by repeat (first | exact Below.refl _ _ | assumption | apply bel_alloc | (refine Bel.trans ?_ (by assumption)))) (by rw [HZ.out]; first | decide | exact h0)⟩
set_option maxRecDepth 100000 in
set_option maxHeartbeats 6400000 in
theorem lx_name6 {w : World} {B0 g at_ : Nat} {l : B} {v : Value} {ts : List TokS} (h : Scan w B0 g l at_ v ts) (hG : Glob w) (h1 : 1 ≤ spanK goC (l.drop at_)) (C : nameB (nmT (l.drop at_)) = false ∧ (full4 (nmT (l.drop at_))).2 ≠ 0 ∧ (full4 (nmT (l.drop at_))).2 ≠ 4) :
    Calls Tryz.prog 35 #[.pointer (some ⟨g, 0, none⟩)] w fun e w' => e = .returned (.int .i64 (nameT (l.drop at_)).2.2) ∧ After w w' B0 g l at_ v ts (nameT (l.drop at_)) := by
  have hms := mkB_size; have hma := mkB_append; have hmx := mkB_extract; have hmt := mkB_toList; have hmtl := subB_tail; have hmhd := subB_head
  have k1 : (⟨[65, 66, 67, 68, 69, 70, 71, 72, 73, 74, 75, 76, 77, 78, 79, 80, 81, 82, 83, 84, 85, 86, 87, 88, 89, 90, 97, 98, 99, 100, 101, 102, 103, 104, 105, 106, 107, 108, 109, 110, 111, 112, 113, 114, 115, 116, 117, 118, 119, 120, 121, 122, 95, 36, 91, 48, 49, 50, 51, 52, 53, 54, 55, 56, 57, 93, 33, 58].toArray⟩ : ByteArray) = mkB goS := rfl
  have k2 : (⟨#[32]⟩ : ByteArray) = mkB [32] := rfl
  have k3 : (⟨#[40]⟩ : ByteArray) = mkB [40] := rfl
  have k4 : (⟨#[]⟩ : ByteArray) = mkB [] := rfl
  have hp := h.pos
  have hl := h.len
  obtain ⟨r, hr0⟩ : ∃ r, l.drop at_ = r := ⟨_, rfl⟩
  have hrl : r.length = l.length - at_ := by rw [← hr0, List.length_drop]
  have hr : r.length ≤ 1000000 := by omega
  rw [hr0] at h1 C ⊢
  unfold nmT at C
  have HR := Lib.hid hr0
  have hkl := spanK_le goC r
  obtain ⟨n, hnn⟩ : ∃ n, n = spanK goC r := ⟨_, rfl⟩
  rw [← hnn] at h1 hkl
  have HK := Lib.hid (show spanK (hasB goS) r = n by rw [hnn]; exact spanK_congr hasB_go r)
  have hn1 : 1 ≤ n := h1
  have hn2 : at_ + n ≤ l.length := by omega
  obtain ⟨t, ht0⟩ : ∃ t, t = r.take n := ⟨_, rfl⟩
  have ht : t.length ≤ 1000000 := by rw [ht0, List.length_take]; omega
  obtain ⟨q, hq⟩ : ∃ q, q = Lib.trimLeftB (r.drop n) 32 := ⟨_, rfl⟩
  have HL := Lib.hid hq
  obtain ⟨up, hup⟩ : ∃ u, u = upB t := ⟨_, rfl⟩
  have HU := Lib.hid hup
  obtain ⟨⟨⟨bk, sh, ⟨ac, ar, afc, afr⟩, ⟨bc, br, bfc, bfr⟩, wd⟩, fe⟩, hfe⟩ : ∃ z, z = full4 t := ⟨_, rfl⟩
  have hz := nameT_eq hnn ht0 hq hup hfe
  have HF := Lib.hid hfe
  have HTT := Lib.hid ht0
  have ht1 : r.take n = t := ht0.symm
  rw [← hnn, ← ht0, ← hfe] at C
  obtain ⟨hn, h0, h4⟩ := C
  clear hr0 hrl hnn hq hup hfe ht0
  have HZ := Lib.hid (show nameT r = (TokS.zero, 0, fe) by rw [hz, if_neg (by simp [hn]), if_neg h0, if_pos h4])
  clear hz
  go_enter Tryz.func35, Tryz.ntmps35
  go_wp2_with (first | (go_at_call 17; refine (lx_rest hS2).mono ?_; rw [HR.out]; rintro e w3 ⟨rfl, hb_w3⟩; have hS3 := hS2.below hb_w3) | (go_at_call 17; refine (lx_rest h).mono ?_; rw [HR.out]; rintro e w1 ⟨rfl, hb_w1⟩; have hS1 := h.below hb_w1) | (go_at_call 16; refine (lx_run r goS _ hr goS_low (by decide)).mono ?_; rw [HK.out]; rintro e w2 ⟨rfl, hb_w2⟩; have hS2 := hS1.below hb_w2) | (go_at_call 67; refine (va_Upper t _ ht).mono ?_; rw [← HU.out]; rintro e w4 ⟨rfl, hb_w4⟩; have hS4 := hS3.below hb_w4))
  (go_at_call 68; refine (ad_Name t _ ht).mono ?_; rw [hn]; rintro e w5 ⟨rfl, hb_w5⟩; have hS5 := (hS4.below ((Below.refl _ _).alloc (Nat.le_refl _) _)).below hb_w5; have hW5 := (RecAt.new w4 #[.int .i64 4, .string (mkB up), .int .i64 0, .int .i64 0, .string (mkB []), .string (mkB []), .int .i64 0, .int .i64 0, .bool false, .bool false, .int .i64 0, .int .i64 0, .bool false, .bool false, .bool false, .int .i64 0] 41).below hb_w5 (by simp); have cW5 := hW5.cell)
  go_wp2_with (fail)
  (go_at_call 70; refine (ad_Parsex t _ ht (hG.below (by repeat (first | exact Below.refl _ _ | assumption | apply bel_alloc | (refine Bel.trans ?_ (by assumption)))))).mono ?_; rw [← HF.out]; rintro e w7 ⟨rfl, hb_w7⟩; have hS7 := (by first | exact hS6.below hb_w7 | exact hS5.below hb_w7 : Scan w7 B0 g l at_ v ts); have hW7 : RecAt w7 w4.heap.size #[.int .i64 4, .string (mkB up), .int .i64 0, .int .i64 0, .string (mkB []), .string (mkB []), .int .i64 0, .int .i64 0, .bool false, .bool false, .int .i64 0, .int .i64 0, .bool false, .bool false, .bool false, .int .i64 0] 41 := (by first | exact hW6.below hb_w7 hW6.lt | exact hW5.below hb_w7 hW5.lt))
  go_wp2_with (fail)
  go_ret
  exact ⟨by rw [HZ.out]; rfl, After.err h (by repeat (first | exact Below.refl _ _ | assumption | apply bel_alloc | (refine Bel.trans ?_ (by assumption)))) (by rw [HZ.out]; first | decide | exact h0)⟩
end Go.Proofs.YtnmbpmomilehoaaGreatDoor

namespace Go.Proofs.YtnmbpmomilehoaaGreatDoor
open Go.RowKit

theorem lx_name {w : World} {B0 g at_ : Nat} {l : B} {v : Value} {ts : List TokS} (h : Scan w B0 g l at_ v ts) (hG : Glob w) (h1 : 1 ≤ spanK goC (l.drop at_)) :
    Calls Tryz.prog 35 #[.pointer (some ⟨g, 0, none⟩)] w fun e w' => e = .returned (.int .i64 (nameT (l.drop at_)).2.2) ∧ After w w' B0 g l at_ v ts (nameT (l.drop at_)) := by
  cases hn : nameB (nmT (l.drop at_)) with
  | true =>
    cases hp : parF (nmQ (l.drop at_)) with
    | true => exact lx_name0 h hG h1 ⟨hn, hp⟩
    | false =>
      by_cases h0 : (full4 (nmT (l.drop at_))).2 = 0
      · exact lx_name1 h hG h1 ⟨hn, hp, h0⟩
      · by_cases h4 : (full4 (nmT (l.drop at_))).2 = 4
        · exact lx_name2 h hG h1 ⟨hn, hp, h4⟩
        · exact lx_name3 h hG h1 ⟨hn, hp, h0, h4⟩
  | false =>
    by_cases h0 : (full4 (nmT (l.drop at_))).2 = 0
    · exact lx_name4 h hG h1 ⟨hn, h0⟩
    · by_cases h4 : (full4 (nmT (l.drop at_))).2 = 4
      · exact lx_name5 h hG h1 ⟨hn, h4⟩
      · exact lx_name6 h hG h1 ⟨hn, h0, h4⟩
end Go.Proofs.YtnmbpmomilehoaaGreatDoor

namespace Go.Proofs.YtnmbpmomilehoaaGreatDoor
open Go.RowKit

def begS : B := [65, 66, 67, 68, 69, 70, 71, 72, 73, 74, 75, 76, 77, 78, 79, 80, 81, 82, 83, 84, 85, 86, 87, 88, 89, 90, 97, 98, 99, 100, 101, 102, 103, 104, 105, 106, 107, 108, 109, 110, 111, 112, 113, 114, 115, 116, 117, 118, 119, 120, 121, 122, 95, 36, 91]
def begC (c : UInt8) : Bool := isLet c || decide (c = 95) || decide (c = 36) || decide (c = 91)
set_option maxRecDepth 100000 in
theorem hasB_beg (c : UInt8) : hasB begS c = begC c := ofNat_all (P := fun c => hasB begS c = begC c) (by decide) c
set_option maxRecDepth 100000 in
theorem beg_go (c : UInt8) : begC c = true → goC c = true := ofNat_all (P := fun c => begC c = true → goC c = true) (by decide) c
theorem begC_or (c : UInt8) : begC c = true ↔ (isLet c = true ∨ c = 95 ∨ c = 36 ∨ c = 91) := by simp [begC, or_assoc]
theorem dig_num {c : UInt8} (h : isDig c = true) : numC c = true := by
  have := isDig_bd h
  unfold numC; rw [decide_eq_true_eq]; omega
theorem After.pre {w w1 w' : World} {B0 g at_ : Nat} {l : B} {v : Value} {ts : List TokS} {T : TokS × Nat × Int} (h : Scan w B0 g l at_ v ts) (hb : Below w.heap.size w w1) (hA : After w1 w' B0 g l at_ v ts T) : After w w' B0 g l at_ v ts T :=
  ⟨(hb.mono h.le).trans hA.bel, hA.yes, hA.no⟩
set_option maxRecDepth 100000 in
set_option maxHeartbeats 6400000 in
theorem lx_one {w : World} {B0 g at_ : Nat} {l : B} {v : Value} {ts : List TokS} (h : Scan w B0 g l at_ v ts) (hG : Glob w) (h1 : l.drop at_ ≠ []) :
    Calls Tryz.prog 18 #[.pointer (some ⟨g, 0, none⟩)] w fun e w' => e = .returned (.int .i64 (oneT (l.drop at_)).2.2) ∧ After w w' B0 g l at_ v ts (oneT (l.drop at_)) := by
  have hms := mkB_size; have hma := mkB_append; have hmx := mkB_extract; have hmt := mkB_toList; have hmtl := subB_tail; have hmhd := subB_head
  have k1 : (⟨#[65, 66, 67, 68, 69, 70, 71, 72, 73, 74, 75, 76, 77, 78, 79, 80, 81, 82, 83, 84, 85, 86, 87, 88, 89, 90, 97, 98, 99, 100, 101, 102, 103, 104, 105, 106, 107, 108, 109, 110, 111, 112, 113, 114, 115, 116, 117, 118, 119, 120, 121, 122, 95, 36, 91]⟩ : ByteArray) = mkB begS := rfl
  have k2 : (⟨#[48, 49, 50, 51, 52, 53, 54, 55, 56, 57]⟩ : ByteArray) = mkB digS := rfl
  have k3 : (⟨#[43, 45, 42, 47, 94, 38, 61, 37, 60, 62]⟩ : ByteArray) = mkB opB := rfl
  have hp := h.pos
  have hl := h.len
  obtain ⟨b, q, hr0⟩ : ∃ b q, l.drop at_ = b :: q := by
    cases hh : l.drop at_ with
    | nil => exact absurd hh h1
    | cons b q => exact ⟨b, q, rfl⟩
  have hrl : (b :: q).length = l.length - at_ := by rw [← hr0, List.length_drop]
  have hn2 : at_ + 1 ≤ l.length := by simp at hrl; omega
  have HL := Lib.hid hrl
  have HN0 := Lib.hid h1
  have HR := Lib.hid hr0
  rw [hr0]
  clear hr0 hrl h1
  cases hd : isDig b with
  | true =>
    have HZ := Lib.hid (show oneT (b :: q) = numT (b :: q) by rw [oneT]; rw [if_pos hd])
    have HN := Lib.hid (show 1 ≤ numK (l.drop at_) by rw [HR.out, numK, if_pos (dig_num hd)]; omega)
    go_enter Tryz.func18, Tryz.ntmps18
    go_wp2_with (first | (go_at_call 17; refine (lx_rest h).mono ?_; rw [HR.out]; rintro e w1 ⟨rfl, hb_w1⟩; have hS1 := h.below hb_w1) | (go_at_call_of 31 (Value.string (mkB digS)); refine (s_Contains1 digS b _).mono ?_; rw [hasB_dig, hd]; rintro e w' ⟨rfl, rfl⟩) | (go_at_call 32; refine (by have q := lx_number hS1 (hG.below hb_w1) HN.out; rw [HR.out] at q; exact q : Calls _ _ _ _ _).mono ?_; rintro e w2 ⟨rfl, hA⟩))
    (go_ret; exact ⟨by rw [HZ.out]; rfl, by rw [HZ.out]; exact After.pre h hb_w1 hA⟩)
  | false =>
    by_cases h34 : b = 34
    · subst h34
      have HZ := Lib.hid (show oneT (34 :: q) = textT (34 :: q) by rw [oneT]; rw [if_neg (by simp [hd]), if_pos rfl])
      have HN := HN0
      go_enter Tryz.func18, Tryz.ntmps18
      go_wp2_with (first | (go_at_call 17; refine (lx_rest h).mono ?_; rw [HR.out]; rintro e w1 ⟨rfl, hb_w1⟩; have hS1 := h.below hb_w1) | (go_at_call_of 31 (Value.string (mkB digS)); refine (s_Contains1 digS 34 _).mono ?_; rw [hasB_dig, hd]; rintro e w' ⟨rfl, rfl⟩) | (go_at_call 33; refine (by have q := lx_text hS1 (hG.below hb_w1) HN.out; rw [HR.out] at q; exact q : Calls _ _ _ _ _).mono ?_; rintro e w2 ⟨rfl, hA⟩))
      (go_ret; exact ⟨by rw [HZ.out]; rfl, by rw [HZ.out]; exact After.pre h hb_w1 hA⟩)
    · by_cases h35 : b = 35
      · subst h35
        have HZ := Lib.hid (show oneT (35 :: q) = failT (35 :: q) by rw [oneT]; rw [if_neg (by simp [hd]), if_neg (by decide), if_pos rfl])
        clear h34
        go_enter Tryz.func18, Tryz.ntmps18
        go_wp2_with (first | (go_at_call 17; refine (lx_rest h).mono ?_; rw [HR.out]; rintro e w1 ⟨rfl, hb_w1⟩; have hS1 := h.below hb_w1) | (go_at_call_of 31 (Value.string (mkB digS)); refine (s_Contains1 digS 35 _).mono ?_; rw [hasB_dig, hd]; rintro e w' ⟨rfl, rfl⟩) | (go_at_call 34; refine (by have q := lx_fail hS1 (hG.below hb_w1); rw [HR.out] at q; exact q : Calls _ _ _ _ _).mono ?_; rintro e w2 ⟨rfl, hA⟩))
        (go_ret; exact ⟨by rw [HZ.out]; rfl, by rw [HZ.out]; exact After.pre h hb_w1 hA⟩)
      · have g34 : (b == 34) = false := beq_false_of_ne h34
        have g35 : (b == 35) = false := beq_false_of_ne h35
        cases hbg : begC b with
        | true =>
          have HZ := Lib.hid (show oneT (b :: q) = nameT (b :: q) by rw [oneT]; rw [if_neg (by simp [hd]), if_neg h34, if_neg h35, if_pos ((begC_or b).1 hbg)])
          have HN := Lib.hid (show 1 ≤ spanK goC (l.drop at_) by rw [HR.out, spanK, if_pos (beg_go b hbg)]; omega)
          go_enter Tryz.func18, Tryz.ntmps18
          go_wp2_with (first | (go_at_call 17; refine (lx_rest h).mono ?_; rw [HR.out]; rintro e w1 ⟨rfl, hb_w1⟩; have hS1 := h.below hb_w1) | (go_at_call_of 31 (Value.string (mkB digS)); refine (s_Contains1 digS b _).mono ?_; rw [hasB_dig, hd]; rintro e w' ⟨rfl, rfl⟩) | (go_at_call_of 31 (Value.string (mkB begS)); refine (s_Contains1 begS b _).mono ?_; rw [hasB_beg, hbg]; rintro e w' ⟨rfl, rfl⟩) | (go_at_call 35; refine (by have q := lx_name hS1 (hG.below hb_w1) HN.out; rw [HR.out] at q; exact q : Calls _ _ _ _ _).mono ?_; rintro e w2 ⟨rfl, hA⟩))
          (go_ret; exact ⟨by rw [HZ.out]; rfl, by rw [HZ.out]; exact After.pre h hb_w1 hA⟩)
        | false =>
          have hbg2 : ¬ (isLet b = true ∨ b = 95 ∨ b = 36 ∨ b = 91) := fun e => by rw [(begC_or b).2 e] at hbg; cases hbg
          cases hop : hasB opB b with
          | true =>
            have HZ := Lib.hid (show oneT (b :: q) = ({ TokS.zero with kind := 5, text := (b :: q).take (opN (b :: q)) }, opN (b :: q), 0) by rw [oneT]; rw [if_neg (by simp [hd]), if_neg h34, if_neg h35, if_neg hbg2, if_pos hop])
            have HN := HN0
            clear hbg2
            go_enter Tryz.func18, Tryz.ntmps18
            go_wp2_with (first | (go_at_call 17; refine (lx_rest h).mono ?_; rw [HR.out]; rintro e w1 ⟨rfl, hb_w1⟩; have hS1 := h.below hb_w1) | (go_at_call_of 31 (Value.string (mkB digS)); refine (s_Contains1 digS b _).mono ?_; rw [hasB_dig, hd]; rintro e w' ⟨rfl, rfl⟩) | (go_at_call_of 31 (Value.string (mkB begS)); refine (s_Contains1 begS b _).mono ?_; rw [hasB_beg, hbg]; rintro e w' ⟨rfl, rfl⟩) | (go_at_call_of 31 (Value.string (mkB opB)); refine (s_Contains1 opB b _).mono ?_; rw [hop]; rintro e w' ⟨rfl, rfl⟩) | (go_at_call 36; refine (by have q := lx_op hS1 HN.out; rw [HR.out] at q; exact q : Calls _ _ _ _ _).mono ?_; rintro e w2 ⟨rfl, hA⟩))
            (go_ret; exact ⟨by rw [HZ.out]; rfl, by rw [HZ.out]; exact After.pre h hb_w1 hA⟩)
          | false =>
            have HX := Lib.hid hbg2
            clear hbg2
            by_cases h40 : b = 40
            · subst h40
              have HZ := Lib.hid (show oneT (40 :: q) = ({ TokS.zero with kind := 6 }, 1, 0) by rw [oneT]; rw [if_neg (by simp [hd]), if_neg h34, if_neg h35, if_neg HX.out, if_neg (by simp [hop]), if_pos rfl])
              clear h34 h35 g34 g35
              go_enter Tryz.func18, Tryz.ntmps18
              go_wp2_with (first | (go_at_call 17; refine (lx_rest h).mono ?_; rw [HR.out]; rintro e w1 ⟨rfl, hb_w1⟩; have hS1 := h.below hb_w1) | (go_at_call_of 31 (Value.string (mkB digS)); refine (s_Contains1 digS 40 _).mono ?_; rw [hasB_dig, hd]; rintro e w' ⟨rfl, rfl⟩) | (go_at_call_of 31 (Value.string (mkB begS)); refine (s_Contains1 begS 40 _).mono ?_; rw [hasB_beg, hbg]; rintro e w' ⟨rfl, rfl⟩) | (go_at_call_of 31 (Value.string (mkB opB)); refine (s_Contains1 opB 40 _).mono ?_; rw [hop]; rintro e w' ⟨rfl, rfl⟩) | (go_at_call 37; refine (lx_put hS1 6 [] 0 0 [] [] 0 0 false false 0 0 false false false 0 1 hn2 (by omega)).mono ?_; rintro e w2 ⟨rfl, hb_w2, v', hS2⟩))
              (go_ret; exact ⟨by rw [HZ.out]; rfl, After.put h hb_w1 hb_w2 (by rw [HZ.out]) (by rw [HZ.out]; exact hS2)⟩)
            · by_cases h41 : b = 41
              · subst h41
                have HZ := Lib.hid (show oneT (41 :: q) = ({ TokS.zero with kind := 7 }, 1, 0) by rw [oneT]; rw [if_neg (by simp [hd]), if_neg h34, if_neg h35, if_neg HX.out, if_neg (by simp [hop]), if_neg (by decide), if_pos rfl])
                clear h34 h35 h40 g34 g35
                go_enter Tryz.func18, Tryz.ntmps18
                go_wp2_with (first | (go_at_call 17; refine (lx_rest h).mono ?_; rw [HR.out]; rintro e w1 ⟨rfl, hb_w1⟩; have hS1 := h.below hb_w1) | (go_at_call_of 31 (Value.string (mkB digS)); refine (s_Contains1 digS 41 _).mono ?_; rw [hasB_dig, hd]; rintro e w' ⟨rfl, rfl⟩) | (go_at_call_of 31 (Value.string (mkB begS)); refine (s_Contains1 begS 41 _).mono ?_; rw [hasB_beg, hbg]; rintro e w' ⟨rfl, rfl⟩) | (go_at_call_of 31 (Value.string (mkB opB)); refine (s_Contains1 opB 41 _).mono ?_; rw [hop]; rintro e w' ⟨rfl, rfl⟩) | (go_at_call 37; refine (lx_put hS1 7 [] 0 0 [] [] 0 0 false false 0 0 false false false 0 1 hn2 (by omega)).mono ?_; rintro e w2 ⟨rfl, hb_w2, v', hS2⟩))
                (go_ret; exact ⟨by rw [HZ.out]; rfl, After.put h hb_w1 hb_w2 (by rw [HZ.out]) (by rw [HZ.out]; exact hS2)⟩)
              · by_cases h44 : b = 44
                · subst h44
                  have HZ := Lib.hid (show oneT (44 :: q) = ({ TokS.zero with kind := 8 }, 1, 0) by rw [oneT]; rw [if_neg (by simp [hd]), if_neg h34, if_neg h35, if_neg HX.out, if_neg (by simp [hop]), if_neg (by decide), if_neg (by decide), if_pos rfl])
                  clear h34 h35 h40 h41 g34 g35
                  go_enter Tryz.func18, Tryz.ntmps18
                  go_wp2_with (first | (go_at_call 17; refine (lx_rest h).mono ?_; rw [HR.out]; rintro e w1 ⟨rfl, hb_w1⟩; have hS1 := h.below hb_w1) | (go_at_call_of 31 (Value.string (mkB digS)); refine (s_Contains1 digS 44 _).mono ?_; rw [hasB_dig, hd]; rintro e w' ⟨rfl, rfl⟩) | (go_at_call_of 31 (Value.string (mkB begS)); refine (s_Contains1 begS 44 _).mono ?_; rw [hasB_beg, hbg]; rintro e w' ⟨rfl, rfl⟩) | (go_at_call_of 31 (Value.string (mkB opB)); refine (s_Contains1 opB 44 _).mono ?_; rw [hop]; rintro e w' ⟨rfl, rfl⟩) | (go_at_call 37; refine (lx_put hS1 8 [] 0 0 [] [] 0 0 false false 0 0 false false false 0 1 hn2 (by omega)).mono ?_; rintro e w2 ⟨rfl, hb_w2, v', hS2⟩))
                  (go_ret; exact ⟨by rw [HZ.out]; rfl, After.put h hb_w1 hb_w2 (by rw [HZ.out]) (by rw [HZ.out]; exact hS2)⟩)
                · have g40 : (b == 40) = false := beq_false_of_ne h40
                  have g41 : (b == 41) = false := beq_false_of_ne h41
                  have g44 : (b == 44) = false := beq_false_of_ne h44
                  have HZ := Lib.hid (show oneT (b :: q) = (TokS.zero, 0, 4) by rw [oneT]; rw [if_neg (by simp [hd]), if_neg h34, if_neg h35, if_neg HX.out, if_neg (by simp [hop]), if_neg h40, if_neg h41, if_neg h44])
                  go_enter Tryz.func18, Tryz.ntmps18
                  go_wp2_with (first | (go_at_call 17; refine (lx_rest h).mono ?_; rw [HR.out]; rintro e w1 ⟨rfl, hb_w1⟩; have hS1 := h.below hb_w1) | (go_at_call_of 31 (Value.string (mkB digS)); refine (s_Contains1 digS b _).mono ?_; rw [hasB_dig, hd]; rintro e w' ⟨rfl, rfl⟩) | (go_at_call_of 31 (Value.string (mkB begS)); refine (s_Contains1 begS b _).mono ?_; rw [hasB_beg, hbg]; rintro e w' ⟨rfl, rfl⟩) | (go_at_call_of 31 (Value.string (mkB opB)); refine (s_Contains1 opB b _).mono ?_; rw [hop]; rintro e w' ⟨rfl, rfl⟩))
                  go_ret
                  exact ⟨by rw [HZ.out]; rfl, After.err h hb_w1 (by rw [HZ.out]; decide)⟩
end Go.Proofs.YtnmbpmomilehoaaGreatDoor

namespace Go.Proofs.YtnmbpmomilehoaaGreatDoor

theorem failGo_pos (r : B) : ∀ (k m : Nat), 1 ≤ k → k + m ≤ 9 → (failGo r (List.range' k m)).2.2 = 0 → 1 ≤ (failGo r (List.range' k m)).2.1 := by
  intro k m
  induction m generalizing k with
  | zero => intro _ _ h; simp [failGo] at h
  | succ m ih =>
    intro h1 h2 h
    cases hp : (signsB (k : Int)).isPrefixOf r with
    | true => rw [failGo_yes hp]; exact signs_len ⟨k, by omega⟩ h1
    | false => rw [failGo_no hp] at h ⊢; exact ih (k + 1) (by omega) (by omega) h
theorem nameT_pos (r : B) (h1 : 1 ≤ spanK goC r) (h : (nameT r).2.2 = 0) : 1 ≤ (nameT r).2.1 := by
  have hz := nameT_eq (r := r) rfl rfl rfl rfl (show ((full4 (r.take (spanK goC r))).1, (full4 (r.take (spanK goC r))).2) = full4 (r.take (spanK goC r)) from rfl)
  rw [hz] at h ⊢
  split at h
  · rename_i c; rw [if_pos c]; exact h1
  · rename_i c
    rw [if_neg c]
    split at h
    · rename_i c2; rw [if_pos c2]; exact h1
    · rename_i c2
      rw [if_neg c2]
      split at h
      · exact absurd h c2
      · rename_i c3
        rw [if_neg c3]
        split at h
        · rename_i c4; rw [if_pos c4]; exact h1
        · simp at h
theorem oneT_pos (c : UInt8) (q : B) (h : (oneT (c :: q)).2.2 = 0) : 1 ≤ (oneT (c :: q)).2.1 := by
  rw [oneT] at h ⊢
  by_cases h1 : isDig c = true
  · rw [if_pos h1]; show 1 ≤ numK (c :: q); rw [numK, if_pos (dig_num h1)]; omega
  · rw [if_neg h1] at h ⊢
    by_cases h2 : c = 34
    · rw [if_pos h2] at h ⊢; exact textT_pos _ h (by simp)
    · rw [if_neg h2] at h ⊢
      by_cases h3 : c = 35
      · rw [if_pos h3] at h ⊢; exact failGo_pos _ 1 8 (by omega) (by omega) h
      · rw [if_neg h3] at h ⊢
        by_cases h4 : isLet c = true ∨ c = 95 ∨ c = 36 ∨ c = 91
        · rw [if_pos h4] at h ⊢
          exact nameT_pos _ (by rw [spanK, if_pos (beg_go c ((begC_or c).2 h4))]; omega) h
        · rw [if_neg h4] at h ⊢
          by_cases h5 : hasB opB c = true
          · rw [if_pos h5]; exact (opN_le (c :: q) (by simp)).1
          · rw [if_neg h5] at h ⊢
            by_cases h6 : c = 40
            · rw [if_pos h6]; exact Nat.le_refl 1
            · rw [if_neg h6] at h ⊢
              by_cases h7 : c = 41
              · rw [if_pos h7]; exact Nat.le_refl 1
              · rw [if_neg h7] at h ⊢
                by_cases h8 : c = 44
                · rw [if_pos h8]; exact Nat.le_refl 1
                · rw [if_neg h8] at h; simp at h
end Go.Proofs.YtnmbpmomilehoaaGreatDoor
