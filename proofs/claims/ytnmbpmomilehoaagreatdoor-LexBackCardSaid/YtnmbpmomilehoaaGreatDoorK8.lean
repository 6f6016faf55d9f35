/-
  Part 8 of what the proof stands on: L9, P13, P14, Sp11, P15, P16, L10, Tk.
-/
import Derived.Deep.RegionWith
import Derived.Deep.DeepCutAuto
import Derived.Deep.CutBlock
import Derived.Lib.AppendIntMem
import Derived.Shelf.Strconv.Itoa3
import Derived.Deep.RegionHeld3
import Derived.Lib.ReplaceLaws
import Derived.Test.YtnmbpmomilehoaaGreatDoorK7
import Derived.Test.YtnmbpmomilehoaaGreatDoorK1
import Derived.Test.YtnmbpmomilehoaaGreatDoorK4
import Derived.Test.YtnmbpmomilehoaaGreatDoorK3
namespace Go.Proofs.YtnmbpmomilehoaaGreatDoor
open Go.RowKit

/-- A slice of tokens that the call made. -/
def Toks (w : World) (B0 : Nat) (v : Value) (ts : List TokS) : Prop := w.ownsRow B0 41 16 v ts.length (cellsOf ts)
theorem spC_low : ∀ c ∈ ([32] : B), c.toNat < 128 := by decide
theorem hasB_sp (c : UInt8) : hasB [32] c = spC c := by
  simp only [hasB, spC]
  by_cases h : c = 32
  · subst h; rfl
  · rw [if_neg (fun e => h e.symm), decide_eq_false h]
theorem Scan.goto {w : World} {B0 g at_ : Nat} {l : B} {v : Value} {ts : List TokS} (h : Scan w B0 g l at_ v ts) (n : Nat) (hn : at_ + n ≤ l.length) : Scan (w.setCell ⟨g, 1, none⟩ (.int .i64 ((at_ : Int) + n))) B0 g l (at_ + n) v ts := by
  refine ⟨?_, ownsRow_setCell_other h.own (by simpa using h.ne) _, h.ne, h.ge, hn, h.len, by have := h.few; omega⟩
  have := h.blk.setHere 1 (.int .i64 ((at_ : Int) + n))
  simpa using this
set_option maxRecDepth 100000 in
set_option maxHeartbeats 6400000 in
theorem lx_Lex (l : B) (w : World) (hs : l.length ≤ 1000000) (hG : Glob w) : Calls Tryz.prog 8 #[.string (mkB l)] w fun e w' => Below w.heap.size w w' ∧ ∃ v, e = .returned (.tuple #[v, .int .i64 (lexR l).2.1, .int .i64 (lexR l).2.2]) ∧ Toks w' w.heap.size v (lexR l).1 := by
  have hms := mkB_size; have hma := mkB_append; have hmx := mkB_extract; have hmt := mkB_toList; have hmtl := subB_tail; have hmhd := subB_head
  have k1 : (⟨#[32]⟩ : ByteArray) = mkB [32] := rfl
  have k2 : (⟨#[]⟩ : ByteArray) = mkB [] := rfl
  by_cases hl : 512 < l.length
  · have HZ := Lib.hid (show lexR l = ([], 0, 7) by rw [lexR, if_pos hl])
    go_enter Tryz.func8, Tryz.ntmps8
    go_wp2
    refine bodyPost_ret (v := .tuple #[.slice none 0 0, .int .i64 0, .int .i64 7]) (by simp [results, Tryz.results8]) rfl ⟨Below.refl _ _, .slice none 0 0, by rw [HZ.out], by rw [HZ.out]; exact World.ownsRow_nil _ _ _ _⟩
  · have HZ0 := Lib.hid (show lexR l = lexL l.length 0 l [] by rw [lexR, if_neg hl])
    have hS0 : Scan (w.alloc (.cells #[.string (mkB l), .int .i64 0, .slice none 0 0] 60)) w.heap.size w.heap.size l 0 (.slice none 0 0) [] :=
      ⟨RecAt.new w _ _, World.ownsRow_nil _ _ _ _, by simp [Value.ownBlock], Nat.le_refl _, by omega, by omega, by simp⟩
    go_enter Tryz.func8, Tryz.ntmps8
    go_wp2
    go_loopw [] (fun wr => ∃ (at_ : Nat) (v : Value) (ts : List TokS) (fu : Nat), l.length - at_ ≤ fu ∧ Scan wr w.heap.size w.heap.size l at_ v ts ∧ Below w.heap.size w wr ∧ lexR l = lexL fu at_ (l.drop at_) ts) (fun wr => l.length - (match wr.cell? ⟨w.heap.size, 1, none⟩ with | some (.int _ n) => n.toNat | _ => 0))
    case atStart => exact ⟨0, _, [], l.length, by omega, hS0, (Below.refl _ _).alloc (Nat.le_refl _) _, by rw [HZ0.out]; rfl⟩
    case round =>
      clear hS0
      obtain ⟨at_, v, ts, fu, hfu, hS, hbw, hx⟩ := hrel
      have hp := hS.pos
      have hl6 := hS.len
      obtain ⟨r, hr0⟩ : ∃ r, l.drop at_ = r := ⟨_, rfl⟩
      have hrl : r.length + at_ = l.length := by rw [← hr0, List.length_drop]; omega
      have hr : r.length ≤ 1000000 := by omega
      have hkl := spanK_le spC r
      obtain ⟨n, hn⟩ : ∃ n, n = spanK spC r := ⟨_, rfl⟩
      have HR := Lib.hid hr0
      have HK := Lib.hid (show spanK (hasB [32]) r = n by rw [hn]; exact spanK_congr hasB_sp r)
      rw [← hn] at hkl
      have hn2 : at_ + n ≤ l.length := by omega
      have c1 : wr.cell? ⟨w.heap.size, 1, none⟩ = some (.int .i64 at_) := hS.blk.cell 1
      have f1 : wr.frozen? ⟨w.heap.size, 1, none⟩ = false := hS.blk.free 1
      have HX := Lib.hid hx
      have HC1 := Lib.hid c1
      have HFU := Lib.hid hfu
      have HN := Lib.hid hn
      have HL := Lib.hid hrl
      clear hr0 hn hx hrl hfu
      go_upto_region 4 with (fail)
      go_region_with (first | (go_at_call 17; refine (lx_rest (hS.below (bel_drew (Below.refl _ _)))).mono ?_; rw [HR.out]; rintro e w1 ⟨rfl, hb_w1⟩; have hS1 := (hS.below (bel_drew (Below.refl _ _))).below hb_w1; have c1a := hS1.blk.cell 1) | (go_at_call 16; refine (lx_run r [32] _ hr spC_low (by decide)).mono ?_; rw [HK.out]; rintro e w2 ⟨rfl, hb_w2⟩; have hS2 := hS1.below hb_w2; have c1b := hS2.blk.cell 1; have f1b := hS2.blk.free 1))
      all_goals
        have hS3 := hS2.goto n hn2
        have hB3 : Below w.heap.size w (w2.setCell ⟨w.heap.size, 1, none⟩ (.int .i64 ((at_ : Int) + n))) := bel_set (Bel.trans (Bel.trans (bel_drew hbw) hb_w1) hb_w2) (Nat.le_refl _) _
        have hx2 : lexR l = lexL (fu - n) (at_ + n) (l.drop (at_ + n)) ts := by
          have h1 := skip_sp fu at_ (l.drop at_) ts (by have := HFU.out; rw [List.length_drop]; omega)
          rw [HX.out, h1, HR.out, ← HN.out, ← HR.out, List.drop_drop]
        have HX2 := Lib.hid hx2
        clear hx2 hS hS1 hS2 c1 f1 c1a c1b f1b hb_w1 hb_w2
        obtain ⟨r2, hr2⟩ : ∃ x, l.drop (at_ + n) = x := ⟨_, rfl⟩
        have HR2 := Lib.hid hr2
        clear hr2
        cases r2 with
        | nil =>
          have HF := Lib.hid (show lexR l = (ts, 0, 0) by rw [HX2.out, HR2.out, lexL_nil])
          go_wp2_with (first | (go_at_call 17; refine (lx_rest hS3).mono ?_; rw [HR2.out]; rintro e w4 ⟨rfl, hb_w4⟩; have hS4 := hS3.below hb_w4; have c2d := hS4.blk.cell 2))
          refine bodyPost_ret (v := .tuple #[v, .int .i64 0, .int .i64 0]) (by simp [results, Tryz.results8]) rfl ⟨Bel.trans hB3 hb_w4, v, by rw [HF.out], by rw [HF.out]; exact hS4.own⟩
        | cons c q =>
          have hne : l.drop (at_ + n) ≠ [] := by rw [HR2.out]; simp
          have HNE := Lib.hid hne
          have hc32 : c ≠ 32 := drop_ne r c q (by rw [← HN.out, ← HR.out, List.drop_drop]; exact HR2.out)
          have HC := Lib.hid hc32
          have hlen : l.length - at_ - n = q.length + 1 := by
            have := congrArg List.length HR2.out
            rw [List.length_drop, List.length_cons] at this; omega
          obtain ⟨m, hm⟩ : ∃ m, fu - n = m + 1 ∧ q.length ≤ m := ⟨fu - n - 1, by have := HFU.out; omega, by have := HFU.out; omega⟩
          have HM := Lib.hid hm
          have HLN := Lib.hid hlen
          clear hne hc32 hlen hm
          by_cases he : (oneT (c :: q)).2.2 = 0
          · have HE := Lib.hid he
            go_wp2_with (first | (go_at_call 17; refine (lx_rest hS3).mono ?_; rw [HR2.out]; rintro e w4 ⟨rfl, hb_w4⟩; have hS4 := hS3.below hb_w4; have c2d := hS4.blk.cell 2) | (go_at_call 18; refine (by have z := lx_one hS4 (hG.below (Bel.trans hB3 hb_w4)) HNE.out; rw [HR2.out] at z; exact z : Calls _ _ _ _ _).mono ?_; rintro e w5 ⟨rfl, hA⟩; have hb5 := hA.bel))
            obtain ⟨v', hS5⟩ := hA.yes HE.out
            go_roundw
            case rel =>
              have hk := oneT_pos c q HE.out
              have h2 := HLN.out
              have h3 := HM.out.2
              refine ⟨_, v', _, m, by omega, hS5, (Bel.trans hB3 hb_w4).trans hA.bel, ?_⟩
              rw [HX2.out, HR2.out, HM.out.1, lexL_yes HC.out HE.out, ← HR2.out, List.drop_drop]
            case measure =>
              have hk := oneT_pos c q HE.out
              have h4 := hS5.pos
              have h5 : w5.cell? ⟨w.heap.size, 1, none⟩ = some (.int .i64 ((at_ + n + (oneT (c :: q)).2.1 : Nat) : Int)) := hS5.blk.cell 1
              rw [h5, HC1.out]
              simp
              omega
          · have HE := Lib.hid he
            have HF := Lib.hid (show lexR l = ([], ((at_ + n : Nat) : Int), (oneT (c :: q)).2.2) by rw [HX2.out, HR2.out, HM.out.1, lexL_no HC.out HE.out])
            go_wp2_with (first | (go_at_call 17; refine (lx_rest hS3).mono ?_; rw [HR2.out]; rintro e w4 ⟨rfl, hb_w4⟩; have hS4 := hS3.below hb_w4; have c2d := hS4.blk.cell 2) | (go_at_call 18; refine (by have z := lx_one hS4 (hG.below (Bel.trans hB3 hb_w4)) HNE.out; rw [HR2.out] at z; exact z : Calls _ _ _ _ _).mono ?_; rintro e w5 ⟨rfl, hA⟩; have hb5 := hA.bel; have hS5 := hA.no HE.out; have c5 := hS5.blk.cell 1))
            go_quiet (fail)
            go_wp2
            refine bodyPost_ret (v := .tuple #[.slice none 0 0, .int .i64 ((at_ + n : Nat) : Int), .int .i64 (oneT (c :: q)).2.2]) (by simp [results, Tryz.results8]) rfl ⟨below_drewN ((Bel.trans hB3 hb_w4).trans hA.bel) _, .slice none 0 0, by rw [HF.out], by rw [HF.out]; exact World.ownsRow_nil _ _ _ _⟩
end Go.Proofs.YtnmbpmomilehoaaGreatDoor

namespace Go.Proofs.YtnmbpmomilehoaaGreatDoor
open Go.RowKit Go.Sort

set_option maxRecDepth 100000 in
set_option maxHeartbeats 3200000 in
theorem fs_FormatUint0 (u : Nat) (w : World) (hu64 : u < 18446744073709551616) (hG : Glob w) : Calls Tryz.prog 83 #[.int .u64 u, .int .i64 10] w fun e w' => e = .returned (.string ⟨(Lib.decDigits u).toArray⟩) ∧ Below w.heap.size w w' := by
  by_cases hs : u < 100
  · go_enter Tryz.func83, Tryz.ntmps83
    go_wp2_with (go_at_call 121; refine (Tryz.internal_strconv_small u hs _).mono ?_; rintro e w' ⟨rfl, rfl⟩)
    go_ret
    exact ⟨rfl, Below.refl _ _⟩
  · have hu1 : 1 ≤ u := by omega
    have hnd20 : Lib.nDigits u ≤ 20 := by have := Lib.numDigits_eq u hu1 hu64; split at this <;> omega
    have hnd1 : 1 ≤ Lib.nDigits u := by
      by_cases h : u < 10
      · rw [Lib.nDigits_small h]; omega
      · rw [Lib.nDigits_big h]; omega
    have htab := hG.pow
    have hal : Tryz.prog.arrayLen 148 = 24 := by kernel_rfl
    have hsl : ∀ W, (Instr.sliceAt 148 (.pointer (some ⟨w.heap.size, 0, none⟩)) none (some (.int .i64 (Lib.nDigits u : Int))) none).run Tryz.prog W = .ok (.slice (some ⟨w.heap.size, 0, none⟩) (Lib.nDigits u) 24) W := fun W => by
      rw [run_sliceAt_array_h W 148 ⟨w.heap.size, 0, none⟩ (by kernel_rfl) .i64 (Lib.nDigits u : Int) (by omega) (by rw [hal]; omega)]
      rw [hal]
      go_simp
    have hH0 := Lib.holds_zero0 w 148 (Lib.nDigits u) (by omega)
    have hfmt := Tryz.internal_strconv_formatBase10 w.heap.size 0 24 u (Array.replicate (Lib.nDigits u) 0) (w.alloc (.cells Lib.zeros24 148)) hH0 (by rw [Array.size_replicate]; exact Lib.lt_pow_nDigits u) hu64 (by rw [Array.size_replicate]; omega)
    rw [Array.size_replicate] at hfmt
    have HH0 := Lib.hid hH0
    have HT := Lib.hid htab
    clear hH0 hal htab
    go_enter Tryz.func83, Tryz.ntmps83
    go_wp2_with (first | (go_at_call 122; refine (Tryz.internal_strconv_numDigits u hu1 hu64 _ (Lib.tabIs_alloc HT.out _)).mono ?_; rintro e w' ⟨rfl, rfl⟩))
    refine hfmt.mono ?_
    rintro e w' ⟨rfl, k, v', dk, rfl, hF⟩
    obtain ⟨W, hW⟩ : ∃ W, W = (putRow (fun (b : UInt8) => Value.int .u8 (b.toNat : Int)) (w.alloc (.cells Lib.zeros24 148)) w.heap.size 0 dk).drewN k := ⟨_, rfl⟩
    have hcv : (convert 56 9 (.slice (some ⟨w.heap.size, 0, none⟩) (Lib.nDigits u) 24)).run Tryz.prog W = .ok (.string ⟨(Lib.decDigits u).toArray⟩) W := by
      rw [hW]
      have h := run_convert_bytes_back (P := Tryz.prog) ((putRow (fun (b : UInt8) => Value.int .u8 (b.toNat : Int)) (w.alloc (.cells Lib.zeros24 148)) w.heap.size 0 dk).drewN k) 56 9 5 ⟨w.heap.size, 0, none⟩ 24 (Lib.decDigits u) Tryz.underlying56 Tryz.underlying5 Tryz.underlying9 (fun j hj => by
        rw [Lib.row_is_numeral hF j hj, Lib.add_plain, World.cell?_drewN]
        exact cell?_putRow (fun (b : UInt8) => Value.int .u8 (b.toNat : Int)) _ w.heap.size 0 _ dk HH0.out (by rw [hF.size, Array.size_replicate]) j (by rw [hF.size]; rw [Lib.decDigits_length] at hj; exact hj))
      rw [Lib.decDigits_length] at h
      exact h
    have hbW : Below w.heap.size w W := by
      obtain ⟨os, eo⟩ := Lib.fin_at w (.cells Lib.zeros24 148) dk k 0
      rw [hW, eo]
      exact Lib.below_grow _ _ (Nat.le_refl _) _ _
    rw [← hW]
    clear hW hF hfmt
    go_wp2
    go_ret
    exact ⟨rfl, hbW⟩
theorem dec_eq (n : Nat) : Lib.decDigits n = decR n := by
  induction n using Nat.strongRecOn with
  | _ n ih =>
    rw [Lib.decDigits, decR]
    by_cases h : n < 10
    · rw [dif_pos h, if_pos h]; congr 1
    · rw [dif_neg h, if_neg h, ih (n / 10) (by omega)]; congr 1
theorem fs_FormatUint (u : Nat) (w : World) (hu64 : u < 18446744073709551616) (hG : Glob w) : Calls Tryz.prog 53 #[.int .u64 u, .int .i64 10] w fun e w' => e = .returned (.string (mkB (decR u))) ∧ Below w.heap.size w w' := by
  go_enter Tryz.func53, Tryz.ntmps53
  go_wp2_with (first | (go_at_call 83; refine (fs_FormatUint0 u _ hu64 hG).mono ?_; rintro e w1 ⟨rfl, hb_w1⟩; obtain ⟨hc_w1, hf_w1⟩ := bcell hb_w1; have hz_w1 := hb_w1.size; (try simp at hz_w1); (try (have hz0_w1 : w.heap.size < w1.heap.size := by omega)); (try (have hz1_w1 : w.heap.size + 1 < w1.heap.size := by omega)); (try (have hz2_w1 : w.heap.size + 2 < w1.heap.size := by omega)); (try (have hz3_w1 : w.heap.size + 3 < w1.heap.size := by omega))))
  go_ret
  exact ⟨by rw [← dec_eq]; rfl, hb_w1⟩
theorem fs_Itoa (n : Nat) (w : World) (h : n < 9223372036854775807) (hG : Glob w) : Calls Tryz.prog 80 #[.int .i64 n] w fun e w' => e = .returned (.string (mkB (decR n))) ∧ Below w.heap.size w w' := by
  refine (Tryz.strconv_Itoa n (by omega) (by omega) w hG.pow).mono ?_
  rintro e w' ⟨rfl, k, os, rfl⟩
  refine ⟨by rw [Lib.itoa_nonneg, dec_eq]; rfl, Lib.below_grow _ _ (Nat.le_refl _) _ _⟩
end Go.Proofs.YtnmbpmomilehoaaGreatDoor

namespace Go.Proofs.YtnmbpmomilehoaaGreatDoor
open Go.RowKit

def textP (a : Int) : B :=
  if okN a = true then
    (if a < 0 then [45] else []) ++ (decR (a.natAbs / 10000) ++ (if a.natAbs % 10000 = 0 then [] else [46] ++ Lib.trimRightB ((decR (10000 + a.natAbs % 10000)).drop 1) 48))
  else []
theorem fs_FormatUintI (n : Int) (u : Nat) (hn : n = (u : Int)) (w : World) (hu64 : u < 18446744073709551616) (hG : Glob w) : Calls Tryz.prog 53 #[.int .u64 n, .int .i64 10] w fun e w' => e = .returned (.string (mkB (decR u))) ∧ Below w.heap.size w w' := by
  subst hn; exact fs_FormatUint u w hu64 hG
theorem decR_len5 (n : Nat) (h1 : 10000 ≤ n) (h2 : n < 20000) : (decR n).length = 5 := by
  rw [← dec_eq, Lib.decDigits_length]
  rw [Lib.nDigits_big (by omega), Lib.nDigits_big (by omega), Lib.nDigits_big (by omega), Lib.nDigits_big (by omega), Lib.nDigits_small (by omega)]
theorem trimR_len (l : B) (c : UInt8) : (Lib.trimRightB l c).length ≤ l.length := by
  unfold Lib.trimRightB
  rw [List.length_reverse]
  have := (List.dropWhile_sublist (l := l.reverse) (fun x => x == c)).length_le
  rw [List.length_reverse] at this
  exact this
theorem decR_lens (n : Nat) (h : n < 18446744073709551616) : (decR n).length ≤ 20 := by
  rw [← dec_eq, Lib.decDigits_length]
  by_cases h0 : n = 0
  · subst h0; rw [Lib.nDigits_small (by omega)]; omega
  · have := Lib.numDigits_eq n (by omega) h; split at this <;> omega
set_option maxRecDepth 100000 in
set_option maxHeartbeats 1600000 in
theorem fx_Text (a : Int) (w : World) (hG : Glob w) : Calls Tryz.prog 23 #[.int .i64 a] w fun e w' => e = .returned (.string (mkB (textP a))) ∧ Below w.heap.size w w' := by
  have hms := mkB_size; have hma := mkB_append; have hmx := mkB_extract; have hmt := mkB_toList; have hmtl := subB_tail; have hmhd := subB_head
  have k1 : (⟨#[45]⟩ : ByteArray) = mkB [45] := rfl
  have k2 : (⟨#[46]⟩ : ByteArray) = mkB [46] := rfl
  have k3 : (⟨#[]⟩ : ByteArray) = mkB [] := rfl
  have k4 : (⟨#[48]⟩ : ByteArray) = mkB [48] := rfl
  cases hok : okN a with
  | false =>
    have HZ := Lib.hid (show textP a = [] by rw [textP, hok]; rfl)
    go_enter Tryz.func23, Tryz.ntmps23
    go_wp2_with (first | (go_at_call 51; refine (fx_good1 a w.heap.size _ (by simp) (by simp)).mono ?_; rw [hok]; rintro e w' ⟨rfl, rfl⟩))
    go_ret
    exact ⟨by rw [HZ.out]; rfl, (by repeat (first | exact Below.refl _ _ | assumption | apply bel_drew | apply bel_drewN | apply bel_alloc | (refine bel_set ?_ (by first | (simp; done) | omega) _) | (refine Bel.trans ?_ (by assumption))))⟩
  | true =>
    have hb : -9000000000000000000 ≤ a ∧ a ≤ 9000000000000000000 := of_decide_eq_true hok
    obtain ⟨X, hx⟩ : ∃ X, X = a.natAbs := ⟨_, rfl⟩
    have hXb : X ≤ 9000000000000000000 := by omega
    have HX := Lib.hid hx
    have hZ : textP a = (if a < 0 then [45] else []) ++ (decR (X / 10000) ++ (if X % 10000 = 0 then [] else [46] ++ Lib.trimRightB ((decR (10000 + X % 10000)).drop 1) 48)) := by rw [textP, if_pos hok, hx]
    have HZ := Lib.hid hZ
    clear hZ hx
    have hl1 := decR_lens (X / 10000) (by omega)
    by_cases hr : X % 10000 = 0
    · go_enter Tryz.func23, Tryz.ntmps23
      go_wp2_with (first | (go_at_call 51; refine (fx_good1 a w.heap.size _ (by simp) (by simp)).mono ?_; rw [hok]; rintro e w' ⟨rfl, rfl⟩) | (go_at_call 52; refine (fx_size a _ hb.1 hb.2).mono ?_; rw [← HX.out]; rintro e w' ⟨rfl, rfl⟩) | (go_at_call 53; refine (fs_FormatUintI _ (X / 10000) (by omega) _ (by omega) (hG.below (bel_alloc (Below.refl _ _) _))).mono ?_; rintro e w1 ⟨rfl, hb_w1⟩))
      all_goals
        go_ret
        refine ⟨ret_s (congrArg mkB ?_), (by repeat (first | exact Below.refl _ _ | assumption | apply bel_drew | apply bel_drewN | apply bel_alloc | (refine bel_set ?_ (by first | (simp; done) | omega) _) | (refine Bel.trans ?_ (by assumption))))⟩
        rw [HZ.out]
        first | (rw [if_pos (by omega), if_pos hr]; simp) | (rw [if_neg (by omega), if_pos hr]; simp)
    · have hl2 := decR_len5 (10000 + X % 10000) (by omega) (by omega)
      obtain ⟨four, hf⟩ : ∃ f, f = decR (10000 + X % 10000) := ⟨_, rfl⟩
      rw [← hf] at hl2
      have HF := Lib.hid hf
      clear hf
      have hsub : subB four 1 5 = four.drop 1 := by unfold subB; rw [List.take_of_length_le (by rw [List.length_drop]; omega)]
      have HS := Lib.hid hsub
      clear hsub
      obtain ⟨tr, htr⟩ : ∃ t, t = Lib.trimRightB (subB four 1 5) 48 := ⟨_, rfl⟩
      have hl3 := trimR_len (subB four 1 5) 48
      rw [← htr, HS.out, List.length_drop] at hl3
      have HR := Lib.hid htr
      clear htr
      go_enter Tryz.func23, Tryz.ntmps23
      go_wp2_with (first | (go_at_call 51; refine (fx_good1 a w.heap.size _ (by simp) (by simp)).mono ?_; rw [hok]; rintro e w' ⟨rfl, rfl⟩) | (go_at_call 52; refine (fx_size a _ hb.1 hb.2).mono ?_; rw [← HX.out]; rintro e w' ⟨rfl, rfl⟩) | (go_at_call 53; refine (fs_FormatUintI _ (10000 + X % 10000) (by omega) _ (by omega) (hG.below (Bel.trans (bel_alloc (Below.refl _ _) _) hb_w1))).mono ?_; rw [← HF.out]; rintro e w2 ⟨rfl, hb_w2⟩) | (go_at_call 53; refine (fs_FormatUintI _ (X / 10000) (by omega) _ (by omega) (hG.below (bel_alloc (Below.refl _ _) _))).mono ?_; rintro e w1 ⟨rfl, hb_w1⟩) | (go_at_call 54; refine (s_TrimRight1 (subB four 1 5) 48 (by decide) _ (by simp only [subB, List.length_take, List.length_drop]; omega)).mono ?_; rw [← HR.out]; rintro e w3 ⟨rfl, rfl⟩))
      all_goals
        go_ret
        refine ⟨ret_s (congrArg mkB ?_), (by repeat (first | exact Below.refl _ _ | assumption | apply bel_drew | apply bel_drewN | apply bel_alloc | (refine bel_set ?_ (by first | (simp; done) | omega) _) | (refine Bel.trans ?_ (by assumption))))⟩
        rw [HZ.out, ← HF.out, ← HS.out, ← HR.out]
        first | (rw [if_pos (by omega), if_neg hr]; simp) | (rw [if_neg (by omega), if_neg hr]; simp)
end Go.Proofs.YtnmbpmomilehoaaGreatDoor

namespace Go.Proofs.YtnmbpmomilehoaaGreatDoor

def padK (k : Nat) (xs : List Int) : List Int := xs ++ List.replicate (k - xs.length) 0
theorem padK_step (k n : Nat) : padK (k + 1) (digN n) = ((n % 10 : Nat) : Int) :: padK k (digN (n / 10)) := by
  by_cases h : n = 0
  · subst h; simp [padK, digN_zero, List.replicate_succ]
  · rw [digN_pos h]; simp [padK]
theorem padK_one (n : Nat) : padK 1 (digN n) = if n = 0 then [0] else digN n := by
  by_cases h : n = 0
  · subst h; simp [padK, digN_zero]
  · rw [if_neg h, digN_pos h]; simp [padK]
theorem pad5_form (n : Nat) : pad5 (digN n) = ((n % 10 : Nat) : Int) :: ((n / 10 % 10 : Nat) : Int) :: ((n / 100 % 10 : Nat) : Int) :: ((n / 1000 % 10 : Nat) : Int) :: (if n / 10000 = 0 then [0] else digN (n / 10000)) := by
  show padK 5 (digN n) = _
  rw [padK_step, padK_step, padK_step, padK_step, padK_one, Nat.div_div_eq_div_mul, Nat.div_div_eq_div_mul, Nat.div_div_eq_div_mul]
theorem showD_cons (x : Int) (r : List Int) : showD (x :: r) = showD r ++ [u8 (48 + x)] := by simp [showD]
theorem showD_digN (n : Nat) (h : n ≠ 0) : showD (digN n) = decR n := by
  induction n using Nat.strongRecOn with
  | _ n ih =>
    rw [digN_pos h, showD_cons, decR]
    by_cases h10 : n < 10
    · have : n / 10 = 0 := by omega
      rw [if_pos h10, this, digN_zero, show n % 10 = n by omega]; rfl
    · rw [if_neg h10, ih (n / 10) (by omega) (by omega)]
theorem showD_whole (n : Nat) : showD (if n = 0 then [0] else digN n) = decR n := by
  by_cases h : n = 0
  · subst h; rw [if_pos rfl, decR]; rfl
  · rw [if_neg h, showD_digN n h]
theorem u8_48 (x : Int) (h : 0 ≤ x ∧ x ≤ 9) : (u8 (48 + x) == 48) = decide (x = 0) := by
  have : x = 0 ∨ x = 1 ∨ x = 2 ∨ x = 3 ∨ x = 4 ∨ x = 5 ∨ x = 6 ∨ x = 7 ∨ x = 8 ∨ x = 9 := by omega
  rcases this with rfl | rfl | rfl | rfl | rfl | rfl | rfl | rfl | rfl | rfl <;> rfl
theorem zerosN_trim (xs : List Int) (h : Dig xs) : (xs.map fun x => u8 (48 + x)).dropWhile (fun x => x == 48) = (xs.drop (zerosN xs)).map fun x => u8 (48 + x) := by
  induction xs with
  | nil => rfl
  | cons x r ih =>
    have hx := h x List.mem_cons_self
    rw [List.map_cons, List.dropWhile_cons, u8_48 x hx, zerosN]
    by_cases h0 : x = 0
    · subst h0
      rw [if_pos rfl, ih (fun y hy => h y (List.mem_cons_of_mem _ hy))]
      simp
    · simp [h0]
theorem trim_show (xs : List Int) (h : Dig xs) : Lib.trimRightB (showD xs) 48 = showD (xs.drop (zerosN xs)) := by
  have e : ∀ ys : List Int, showD ys = (ys.map fun x => u8 (48 + x)).reverse := fun ys => by simp [showD, List.map_reverse]
  unfold Lib.trimRightB
  rw [e, List.reverse_reverse, zerosN_trim xs h, ← e]
theorem decR_frac (r : Nat) (h : r < 10000) : (decR (10000 + r)).drop 1 = showD [((r % 10 : Nat) : Int), ((r / 10 % 10 : Nat) : Int), ((r / 100 % 10 : Nat) : Int), ((r / 1000 % 10 : Nat) : Int)] := by
  rw [decR, if_neg (by omega), decR, if_neg (by omega), decR, if_neg (by omega), decR, if_neg (by omega), decR, if_pos (by omega)]
  rw [showD_cons, showD_cons, showD_cons, showD_cons]
  have e1 : (10000 + r) / 10 / 10 / 10 / 10 = 1 := by omega
  have e2 : (10000 + r) / 10 / 10 / 10 % 10 = r / 1000 % 10 := by omega
  have e3 : (10000 + r) / 10 / 10 % 10 = r / 100 % 10 := by omega
  have e4 : (10000 + r) / 10 % 10 = r / 10 % 10 := by omega
  have e5 : (10000 + r) % 10 = r % 10 := by omega
  rw [e1, e2, e3, e4, e5]
  rfl
theorem text_eq (a : Int) : textP a = text01 a := by
  unfold textP text01
  cases okN a with
  | false => rfl
  | true =>
    rw [if_pos rfl, if_pos rfl]
    generalize a.natAbs = n
    rw [pad5_form]
    simp only [List.drop_succ_cons, List.drop_zero, List.take_succ_cons, List.take_zero]
    rw [showD_whole, List.append_assoc]
    congr 2
    have hm : n % 10000 % 10 = n % 10 := by omega
    have hm2 : n % 10000 / 10 % 10 = n / 10 % 10 := by omega
    have hm3 : n % 10000 / 100 % 10 = n / 100 % 10 := by omega
    have hm4 : n % 10000 / 1000 % 10 = n / 1000 % 10 := by omega
    have hz : (zerosN [((n % 10 : Nat) : Int), ((n / 10 % 10 : Nat) : Int), ((n / 100 % 10 : Nat) : Int), ((n / 1000 % 10 : Nat) : Int)] < 4) ↔ n % 10000 ≠ 0 := by
      simp only [zerosN]
      repeat' split
      all_goals omega
    have hd : Dig [((n % 10 : Nat) : Int), ((n / 10 % 10 : Nat) : Int), ((n / 100 % 10 : Nat) : Int), ((n / 1000 % 10 : Nat) : Int)] := by
      intro x hx
      simp only [List.mem_cons, List.not_mem_nil, or_false] at hx
      rcases hx with rfl | rfl | rfl | rfl <;> omega
    by_cases h : n % 10000 = 0
    · rw [if_pos h]
      exact (if_neg (fun e => absurd h (hz.1 e))).symm
    · rw [if_neg h]
      refine Eq.trans ?_ (if_pos (hz.2 h)).symm
      rw [decR_frac _ (Nat.mod_lt _ (by omega)), hm, hm2, hm3, hm4, trim_show _ hd]
end Go.Proofs.YtnmbpmomilehoaaGreatDoor

namespace Go.Proofs.YtnmbpmomilehoaaGreatDoor
open Go.RowKit

theorem fs_ItoaI (n : Int) (u : Nat) (hn : n = (u : Int)) (w : World) (h : u < 9223372036854775807) (hG : Glob w) : Calls Tryz.prog 80 #[.int .i64 n] w fun e w' => e = .returned (.string (mkB (decR u))) ∧ Below w.heap.size w w' := by
  subst hn; exact fs_Itoa u w h hG
def dolS (b : Bool) : B := if b = true then [36] else []
theorem dolS_len (b : Bool) : (dolS b).length ≤ 1 := by cases b <;> simp [dolS]
theorem ad_fixedS (b : Bool) (w : World) : Calls Tryz.prog 78 #[.bool b] w fun e w' => e = .returned (.string (mkB (dolS b))) ∧ w = w' := ad_fixed b w
theorem refKeep {w w1 w2 : World} {c r : Int} {fc fr : Bool} (hb : Below w1.heap.size w1 w2) (h : w1.cell? ⟨w.heap.size, 0, none⟩ = some (.int .i64 c) ∧ w1.cell? ⟨w.heap.size, 1, none⟩ = some (.int .i64 r) ∧ w1.cell? ⟨w.heap.size, 2, none⟩ = some (.bool fc) ∧ w1.cell? ⟨w.heap.size, 3, none⟩ = some (.bool fr) ∧ w.heap.size < w1.heap.size ∧ Glob w1 ∧ Below w.heap.size w w1) : w2.cell? ⟨w.heap.size, 0, none⟩ = some (.int .i64 c) ∧ w2.cell? ⟨w.heap.size, 1, none⟩ = some (.int .i64 r) ∧ w2.cell? ⟨w.heap.size, 2, none⟩ = some (.bool fc) ∧ w2.cell? ⟨w.heap.size, 3, none⟩ = some (.bool fr) ∧ w.heap.size < w2.heap.size ∧ Glob w2 ∧ Below w.heap.size w w2 := by
  obtain ⟨h0, h1, h2, h3, hl, hG, hB⟩ := h
  exact ⟨(hb.cell (p := ⟨w.heap.size, 0, none⟩) hl).trans h0, (hb.cell (p := ⟨w.heap.size, 1, none⟩) hl).trans h1, (hb.cell (p := ⟨w.heap.size, 2, none⟩) hl).trans h2, (hb.cell (p := ⟨w.heap.size, 3, none⟩) hl).trans h3, Nat.lt_of_lt_of_le hl hb.size, hG.below hb, Bel.trans hB hb⟩
theorem refGlob {w w1 : World} {c r : Int} {fc fr : Bool} (h : w1.cell? ⟨w.heap.size, 0, none⟩ = some (.int .i64 c) ∧ w1.cell? ⟨w.heap.size, 1, none⟩ = some (.int .i64 r) ∧ w1.cell? ⟨w.heap.size, 2, none⟩ = some (.bool fc) ∧ w1.cell? ⟨w.heap.size, 3, none⟩ = some (.bool fr) ∧ w.heap.size < w1.heap.size ∧ Glob w1 ∧ Below w.heap.size w w1) : Glob w1 ∧ Below w.heap.size w w1 := h.2.2.2.2.2
set_option maxRecDepth 100000 in
set_option maxHeartbeats 3200000 in
theorem ad_RefText (c r : Int) (fc fr : Bool) (w : World) (hG : Glob w) : Calls Tryz.prog 47 #[.agg #[.int .i64 c, .int .i64 r, .bool fc, .bool fr]] w fun e w' => e = .returned (.string (mkB (refTextR ⟨c, r, fc, fr⟩))) ∧ Below w.heap.size w w' := by
  have hms := mkB_size; have hma := mkB_append; have hmx := mkB_extract; have hmt := mkB_toList; have hmtl := subB_tail; have hmhd := subB_head
  cases hg : cellR c r with
  | false =>
    have HZ := Lib.hid (show refTextR ⟨c, r, fc, fr⟩ = [] by rw [refTextR, hg]; rfl)
    go_enter Tryz.func47, Tryz.ntmps47
    go_wp2_with (first | (go_at_call 77; refine (ad_CellGood c r _).mono ?_; rw [hg]; rintro e w1 ⟨rfl, hb_w1⟩; have hR1 := (RecAt.new w #[.int .i64 c, .int .i64 r, .bool fc, .bool fr] 37).below hb_w1 (by simp); have hS1 : w1.cell? ⟨w.heap.size, 0, none⟩ = some (.int .i64 c) ∧ w1.cell? ⟨w.heap.size, 1, none⟩ = some (.int .i64 r) ∧ w1.cell? ⟨w.heap.size, 2, none⟩ = some (.bool fc) ∧ w1.cell? ⟨w.heap.size, 3, none⟩ = some (.bool fr) ∧ w.heap.size < w1.heap.size ∧ Glob w1 ∧ Below w.heap.size w w1 := ⟨hR1.cell 0, hR1.cell 1, hR1.cell 2, hR1.cell 3, hR1.lt, hG.below (by repeat (first | exact Below.refl _ _ | assumption | apply bel_alloc | apply bel_drew | apply bel_drewN | (refine Bel.trans ?_ (by assumption)))), by repeat (first | exact Below.refl _ _ | assumption | apply bel_alloc | apply bel_drew | apply bel_drewN | (refine Bel.trans ?_ (by assumption)))⟩; have hS2 := refKeep (bel_drew (Below.refl _ _)) hS1; have cR1 := hR1.cell))
    go_ret
    exact ⟨by rw [HZ.out]; rfl, (by repeat (first | exact Below.refl _ _ | assumption | apply bel_drew | apply bel_drewN | apply bel_alloc | (refine bel_set ?_ (by first | (simp; done) | omega) _) | (refine Bel.trans ?_ (by assumption))))⟩
  | true =>
    have hb := cellR_bd hg
    have HZ := Lib.hid (show refTextR ⟨c, r, fc, fr⟩ = dolS fc ++ colsR c ++ dolS fr ++ decR (r + 1).toNat by rw [refTextR, hg]; rfl)
    have hl1 := colsR_len c
    have hl2 := decR_len (r + 1).toNat (by omega)
    have hl3 := dolS_len fc
    have hl4 := dolS_len fr
    have z1 : ¬ (9223372036854775807 < (dolS fc).length + (colsR c).length) := by omega
    have z2 : ¬ (9223372036854775807 < (dolS fc).length + (colsR c).length + (dolS fr).length) := by omega
    have z3 : ¬ (9223372036854775807 < (dolS fc).length + ((colsR c).length + (dolS fr).length)) := by omega
    have z4 : ¬ (9223372036854775807 < (dolS fc).length + ((colsR c).length + ((dolS fr).length + (decR (r + 1).toNat).length))) := by omega
    have z5 : ¬ (9223372036854775807 < (dolS fc).length + (colsR c).length + (dolS fr).length + (decR (r + 1).toNat).length) := by omega
    have z6 : ¬ (9223372036854775807 < (dolS fc).length + ((colsR c).length + (dolS fr).length) + (decR (r + 1).toNat).length) := by omega
    go_enter Tryz.func47, Tryz.ntmps47
    go_wp2_with (first | (go_at_call 77; refine (ad_CellGood c r _).mono ?_; rw [hg]; rintro e w1 ⟨rfl, hb_w1⟩; have hR1 := (RecAt.new w #[.int .i64 c, .int .i64 r, .bool fc, .bool fr] 37).below hb_w1 (by simp); have hS1 : w1.cell? ⟨w.heap.size, 0, none⟩ = some (.int .i64 c) ∧ w1.cell? ⟨w.heap.size, 1, none⟩ = some (.int .i64 r) ∧ w1.cell? ⟨w.heap.size, 2, none⟩ = some (.bool fc) ∧ w1.cell? ⟨w.heap.size, 3, none⟩ = some (.bool fr) ∧ w.heap.size < w1.heap.size ∧ Glob w1 ∧ Below w.heap.size w w1 := ⟨hR1.cell 0, hR1.cell 1, hR1.cell 2, hR1.cell 3, hR1.lt, hG.below (by repeat (first | exact Below.refl _ _ | assumption | apply bel_alloc | apply bel_drew | apply bel_drewN | (refine Bel.trans ?_ (by assumption)))), by repeat (first | exact Below.refl _ _ | assumption | apply bel_alloc | apply bel_drew | apply bel_drewN | (refine Bel.trans ?_ (by assumption)))⟩; have hS2 := refKeep (bel_drew (Below.refl _ _)) hS1; have cR1 := hR1.cell))
    go_region_held3 (fun w' => w'.cell? ⟨w.heap.size, 0, none⟩ = some (.int .i64 c) ∧ w'.cell? ⟨w.heap.size, 1, none⟩ = some (.int .i64 r) ∧ w'.cell? ⟨w.heap.size, 2, none⟩ = some (.bool fc) ∧ w'.cell? ⟨w.heap.size, 3, none⟩ = some (.bool fr) ∧ w.heap.size < w'.heap.size ∧ Glob w' ∧ Below w.heap.size w w') (first | assumption | exact refKeep (by assumption) (by assumption)) (first | (go_at_call_of 78 (Value.bool fc); refine (ad_fixedS fc _).mono ?_; rintro e w' ⟨rfl, rfl⟩) | (go_at_call_of 78 (Value.bool fr); refine (ad_fixedS fr _).mono ?_; rintro e w' ⟨rfl, rfl⟩) | (go_at_call 79; refine (ad_column c _ (by omega) (by omega)).mono ?_; rintro e w2 ⟨rfl, hb_w2⟩) | (go_at_call 80; refine (fs_ItoaI _ (r + 1).toNat (by first | omega | (rw [IntWalk.i64_in _ (by omega)]; omega)) _ (by omega) (refGlob (w := w) (c := c) (r := r) (fc := fc) (fr := fr) (by assumption)).1).mono ?_; rintro e w3 ⟨rfl, hb_w3⟩))
    all_goals
      go_wp2
      go_ret
      exact ⟨ret_s (by rw [HZ.out]; first | rfl | simp), (refGlob (w := w) (c := c) (r := r) (fc := fc) (fr := fr) (by assumption)).2⟩
end Go.Proofs.YtnmbpmomilehoaaGreatDoor

namespace Go.Proofs.YtnmbpmomilehoaaGreatDoor
open Go.RowKit

theorem fullKeep {w w1 w2 : World} (book sheet : B) (ac ar : Int) (afc afr : Bool) (bc br : Int) (bfc bfr : Bool) (wide : Bool) (hb : Below w1.heap.size w1 w2) (h : (∀ o, w1.cell? ⟨w.heap.size, o, none⟩ = (#[.string (mkB book), .string (mkB sheet), .int .i64 ac, .int .i64 ar, .bool afc, .bool afr, .int .i64 bc, .int .i64 br, .bool bfc, .bool bfr, .bool wide] : Array Value)[o]?) ∧ w.heap.size < w1.heap.size ∧ Glob w1 ∧ Below w.heap.size w w1) : (∀ o, w2.cell? ⟨w.heap.size, o, none⟩ = (#[.string (mkB book), .string (mkB sheet), .int .i64 ac, .int .i64 ar, .bool afc, .bool afr, .int .i64 bc, .int .i64 br, .bool bfc, .bool bfr, .bool wide] : Array Value)[o]?) ∧ w.heap.size < w2.heap.size ∧ Glob w2 ∧ Below w.heap.size w w2 := by
  obtain ⟨h0, hl, hG, hB⟩ := h
  exact ⟨fun o => (hb.cell (p := ⟨w.heap.size, o, none⟩) hl).trans (h0 o), Nat.lt_of_lt_of_le hl hb.size, hG.below hb, Bel.trans hB hb⟩
theorem fullGlob {w w1 : World} (book sheet : B) (ac ar : Int) (afc afr : Bool) (bc br : Int) (bfc bfr : Bool) (wide : Bool) (h : (∀ o, w1.cell? ⟨w.heap.size, o, none⟩ = (#[.string (mkB book), .string (mkB sheet), .int .i64 ac, .int .i64 ar, .bool afc, .bool afr, .int .i64 bc, .int .i64 br, .bool bfc, .bool bfr, .bool wide] : Array Value)[o]?) ∧ w.heap.size < w1.heap.size ∧ Glob w1 ∧ Below w.heap.size w w1) : Glob w1 ∧ Below w.heap.size w w1 := h.2.2
theorem refTextL (r : RefS) : (refTextR r).length ≤ 8 := by
  have h1 := colsR_len r.col
  unfold refTextR
  by_cases h : cellR r.col r.row = true
  · have hb := cellR_bd h
    have h2 := decR_len (r.row + 1).toNat (by omega)
    rw [if_pos h]
    simp only [List.length_append]
    split <;> split <;> simp <;> omega
  · rw [if_neg h]; simp
set_option maxRecDepth 100000 in
set_option maxHeartbeats 6400000 in
theorem ad_Text (book sheet : B) (ac ar : Int) (afc afr : Bool) (bc br : Int) (bfc bfr : Bool) (wide : Bool) (w : World) (hG : Glob w) (h1 : book.length ≤ 1000000) (h2 : sheet.length ≤ 1000000) : Calls Tryz.prog 20 #[.agg #[.string (mkB book), .string (mkB sheet), .int .i64 ac, .int .i64 ar, .bool afc, .bool afr, .int .i64 bc, .int .i64 br, .bool bfc, .bool bfr, .bool wide]] w fun e w' => e = .returned (.string (mkB (textR ⟨book, sheet, ⟨ac, ar, afc, afr⟩, ⟨bc, br, bfc, bfr⟩, wide⟩))) ∧ Below w.heap.size w w' := by
  have hms := mkB_size; have hma := mkB_append; have hmx := mkB_extract; have hmt := mkB_toList; have hmtl := subB_tail; have hmhd := subB_head
  have k1 : (⟨#[58]⟩ : ByteArray) = mkB [58] := rfl
  cases hg : goodR ⟨book, sheet, ⟨ac, ar, afc, afr⟩, ⟨bc, br, bfc, bfr⟩, wide⟩ with
  | false =>
    have HZ := Lib.hid (show textR ⟨book, sheet, ⟨ac, ar, afc, afr⟩, ⟨bc, br, bfc, bfr⟩, wide⟩ = [] by rw [textR, hg]; rfl)
    go_enter Tryz.func20, Tryz.ntmps20
    go_wp2_with (first | (go_at_call 45; refine (ad_Good book sheet ac ar afc afr bc br bfc bfr wide _ h1 h2).mono ?_; rw [hg]; rintro e w1 ⟨rfl, hb_w1⟩; have hR1 := (RecAt.new w #[.string (mkB book), .string (mkB sheet), .int .i64 ac, .int .i64 ar, .bool afc, .bool afr, .int .i64 bc, .int .i64 br, .bool bfc, .bool bfr, .bool wide] 39).below hb_w1 (by simp); have hS1 : (∀ o, w1.cell? ⟨w.heap.size, o, none⟩ = (#[.string (mkB book), .string (mkB sheet), .int .i64 ac, .int .i64 ar, .bool afc, .bool afr, .int .i64 bc, .int .i64 br, .bool bfc, .bool bfr, .bool wide] : Array Value)[o]?) ∧ w.heap.size < w1.heap.size ∧ Glob w1 ∧ Below w.heap.size w w1 := ⟨hR1.cell, hR1.lt, hG.below (by repeat (first | exact Below.refl _ _ | apply bel_alloc | (refine Bel.trans ?_ (by assumption)))), by repeat (first | exact Below.refl _ _ | apply bel_alloc | (refine Bel.trans ?_ (by assumption)))⟩; have hS2 := fullKeep book sheet ac ar afc afr bc br bfc bfr wide (bel_drew (Below.refl _ _)) hS1))
    go_ret
    exact ⟨by rw [HZ.out]; rfl, hS1.2.2.2⟩
  | true =>
    have hZ : textR ⟨book, sheet, ⟨ac, ar, afc, afr⟩, ⟨bc, br, bfc, bfr⟩, wide⟩ = placeB book sheet ++ refTextR ⟨ac, ar, afc, afr⟩ ++ (if wide = true then [58] ++ refTextR ⟨bc, br, bfc, bfr⟩ else []) := by
      rw [textR, hg, if_pos rfl, placeB]; simp only [List.append_assoc]
    have HZ := Lib.hid hZ
    clear hZ
    have hl0 : (placeB book sheet).length ≤ 2000010 := by unfold placeB; split <;> split <;> simp <;> omega
    have hla := refTextL ⟨ac, ar, afc, afr⟩
    have hlb := refTextL ⟨bc, br, bfc, bfr⟩
    have z1 : ¬ (9223372036854775807 < (placeB book sheet).length + (refTextR ⟨ac, ar, afc, afr⟩).length) := by omega
    go_enter Tryz.func20, Tryz.ntmps20
    go_wp2_with (first | (go_at_call 45; refine (ad_Good book sheet ac ar afc afr bc br bfc bfr wide _ h1 h2).mono ?_; rw [hg]; rintro e w1 ⟨rfl, hb_w1⟩; have hR1 := (RecAt.new w #[.string (mkB book), .string (mkB sheet), .int .i64 ac, .int .i64 ar, .bool afc, .bool afr, .int .i64 bc, .int .i64 br, .bool bfc, .bool bfr, .bool wide] 39).below hb_w1 (by simp); have hS1 : (∀ o, w1.cell? ⟨w.heap.size, o, none⟩ = (#[.string (mkB book), .string (mkB sheet), .int .i64 ac, .int .i64 ar, .bool afc, .bool afr, .int .i64 bc, .int .i64 br, .bool bfc, .bool bfr, .bool wide] : Array Value)[o]?) ∧ w.heap.size < w1.heap.size ∧ Glob w1 ∧ Below w.heap.size w w1 := ⟨hR1.cell, hR1.lt, hG.below (by repeat (first | exact Below.refl _ _ | apply bel_alloc | (refine Bel.trans ?_ (by assumption)))), by repeat (first | exact Below.refl _ _ | apply bel_alloc | (refine Bel.trans ?_ (by assumption)))⟩; have hS2 := fullKeep book sheet ac ar afc afr bc br bfc bfr wide (bel_drew (Below.refl _ _)) hS1))
    go_region_held3 (fun w' => (∀ o, w'.cell? ⟨w.heap.size, o, none⟩ = (#[.string (mkB book), .string (mkB sheet), .int .i64 ac, .int .i64 ar, .bool afc, .bool afr, .int .i64 bc, .int .i64 br, .bool bfc, .bool bfr, .bool wide] : Array Value)[o]?) ∧ w.heap.size < w'.heap.size ∧ Glob w' ∧ Below w.heap.size w w') (first | assumption | exact fullKeep book sheet ac ar afc afr bc br bfc bfr wide (by assumption) (by assumption)) (first | (go_at_call 46; refine (ad_place book sheet ac ar afc afr bc br bfc bfr wide _ h1 h2).mono ?_; rintro e w2 ⟨rfl, hb_w2⟩) | (go_at_call_of 47 (Value.agg #[.int .i64 ac, .int .i64 ar, .bool afc, .bool afr]); refine (ad_RefText ac ar afc afr _ (fullGlob (w := w) book sheet ac ar afc afr bc br bfc bfr wide (by assumption)).1).mono ?_; rintro e w3 ⟨rfl, hb_w3⟩))
    all_goals
      go_wp2_with (first | (go_at_call_of 47 (Value.agg #[.int .i64 bc, .int .i64 br, .bool bfc, .bool bfr]); refine (ad_RefText bc br bfc bfr _ (fullGlob (w := w) book sheet ac ar afc afr bc br bfc bfr wide (by assumption)).1).mono ?_; rintro e w4 ⟨rfl, hb_w4⟩))
    all_goals
      go_ret
      refine ⟨ret_s (congrArg mkB ?_), ?_⟩
    all_goals first | exact (fullGlob (w := w) book sheet ac ar afc afr bc br bfc bfr wide (by assumption)).2 | exact Bel.trans (fullGlob (w := w) book sheet ac ar afc afr bc br bfc bfr wide (by assumption)).2 (by assumption) | (rw [HZ.out]; simp [*])
end Go.Proofs.YtnmbpmomilehoaaGreatDoor

namespace Go.Proofs.YtnmbpmomilehoaaGreatDoor
open Go.RowKit

theorem replK_cons (c : UInt8) (old new : B) (r : B) (k : Nat) (h : ∀ i : Nat, Lib.index r old = i → Lib.index (c :: r) old = ((i + 1 : Nat) : Int)) (h1 : Lib.index r old = -1 → Lib.index (c :: r) old = -1) :
    Lib.replaceK old new k (c :: r) = c :: Lib.replaceK old new k r := by
  cases k with
  | zero => rfl
  | succ k =>
    by_cases hm : Lib.index r old = -1
    · rw [Lib.replaceK, Lib.replaceK, h1 hm, hm]; rfl
    · have hge := Lib.index_ge r old
      obtain ⟨i, hi⟩ : ∃ i : Nat, Lib.index r old = i := ⟨(Lib.index r old).toNat, by omega⟩
      rw [Lib.replaceK_hit _ _ _ _ _ hi, Lib.replaceK_hit _ _ _ _ _ (h i hi)]
      rw [show i + 1 + old.length = (i + old.length) + 1 by omega]
      rfl
theorem repl_quoteK (s : B) : Lib.replaceK [34] [34, 34] (Lib.count s [34]) s = quoteB s := by
  induction s with
  | nil => rfl
  | cons c r ih =>
    by_cases h : c = 34
    · subst h
      rw [Lib.count_cons_eq, Nat.add_comm, Lib.replaceK_hit [34] [34, 34] _ _ 0 (by rw [index_one, idxB, if_pos rfl]), quoteB, if_pos rfl, ← ih]
      rfl
    · rw [Lib.count_cons_ne _ _ _ h, quoteB, if_neg h, ← ih]
      refine replK_cons _ _ _ _ _ (fun i hi => ?_) (fun hm => ?_)
      · rw [index_one] at hi ⊢
        rw [idxB, if_neg h]
        cases hx : idxB r 34 with
        | none => rw [hx] at hi; simp at hi <;> omega
        | some j => rw [hx] at hi; simp at hi ⊢; omega
      · rw [index_one] at hm ⊢
        rw [idxB, if_neg h]
        cases hx : idxB r 34 with
        | none => rfl
        | some j => rw [hx] at hm; simp at hm <;> omega
theorem repl_quote (s : B) : Lib.replaceAll s [34] [34, 34] = quoteB s := by
  rw [Lib.replaceAll, Lib.replace, if_neg (by decide), Lib.replaceNum, if_pos (.inl (by omega)), repl_quoteK]
theorem quoteB_len (s : B) : (quoteB s).length ≤ 2 * s.length := by
  induction s with
  | nil => simp [quoteB]
  | cons c r ih => rw [quoteB]; split <;> simp <;> omega
theorem s_ReplaceAll (l : B) (w : World) (hs : l.length ≤ 1000000) (hG : Glob w) : Calls Tryz.prog 24 #[.string (mkB l), .string (mkB [34]), .string (mkB [34, 34])] w fun e w' => e = .returned (.string (mkB (quoteB l))) ∧ Below w.heap.size w w' := by
  obtain ⟨m, hm⟩ := hG.maxl
  have h1 : 1 ≤ (mkB [34]).size := by rw [mkB_size]; simp
  have hc := Lib.countB_le (mkB [34]) h1 _ (mkB l) (Nat.le_refl _)
  rw [mkB_size] at hc
  refine (Tryz.strings_ReplaceAll (mkB l) (mkB [34]) (mkB [34, 34]) m w (by rw [mkB_size]; omega) hm h1 (by rw [mkB_size, mkB_size]; simp; omega)).mono ?_
  rintro e w' ⟨rfl, hb⟩
  simp only [mkB_data, repl_quote]
  exact ⟨rfl, hb⟩
set_option maxRecDepth 100000 in
set_option maxHeartbeats 3200000 in
theorem lx_Show (k : Int) (tx : B) (nu fa : Int) (bk sh : B) (ac ar : Int) (afc afr : Bool) (bc br : Int) (bfc bfr wd : Bool) (i : Int) (w : World) (hG : Glob w) (h1 : tx.length ≤ 1000000) (h2 : bk.length ≤ 1000000) (h3 : sh.length ≤ 1000000) :
    Calls Tryz.prog 14 #[.agg #[.int .i64 k, .string (mkB tx), .int .i64 nu, .int .i64 fa, .string (mkB bk), .string (mkB sh), .int .i64 ac, .int .i64 ar, .bool afc, .bool afr, .int .i64 bc, .int .i64 br, .bool bfc, .bool bfr, .bool wd, .int .i64 i]] w fun e w' => e = .returned (.string (mkB (showT ⟨k, tx, nu, fa, ⟨bk, sh, ⟨ac, ar, afc, afr⟩, ⟨bc, br, bfc, bfr⟩, wd⟩, i⟩))) ∧ Below w.heap.size w w' := by
  have hms := mkB_size; have hma := mkB_append; have hmx := mkB_extract; have hmt := mkB_toList; have hmtl := subB_tail; have hmhd := subB_head
  have k1 : (⟨#[34]⟩ : ByteArray) = mkB [34] := rfl
  have k2 : (⟨#[34, 34]⟩ : ByteArray) = mkB [34, 34] := rfl
  have hq := quoteB_len tx
  by_cases k0 : k = 0
  · subst k0
    have HZ := Lib.hid (show showT ⟨0, tx, nu, fa, ⟨bk, sh, ⟨ac, ar, afc, afr⟩, ⟨bc, br, bfc, bfr⟩, wd⟩, i⟩ = textP nu by rw [text_eq]; rfl)
    go_enter Tryz.func14, Tryz.ntmps14
    go_wp2_with (first | (go_at_call 23; refine (fx_Text nu _ (hG.below (bel_alloc (Below.refl _ _) _))).mono ?_; rintro e w1 ⟨rfl, hb_w1⟩))
    go_ret
    exact ⟨by rw [HZ.out]; first | rfl | simp, (by repeat (first | exact Below.refl _ _ | assumption | apply bel_drew | apply bel_drewN | apply bel_alloc | (refine bel_set ?_ (by first | (simp; done) | omega) _) | (refine Bel.trans ?_ (by assumption))))⟩
  · by_cases k0 : k = 1
    · subst k0
      have HZ := Lib.hid (show showT ⟨1, tx, nu, fa, ⟨bk, sh, ⟨ac, ar, afc, afr⟩, ⟨bc, br, bfc, bfr⟩, wd⟩, i⟩ = [34] ++ quoteB tx ++ [34] from rfl)
      go_enter Tryz.func14, Tryz.ntmps14
      go_wp2_with (first | (go_at_call 24; refine (s_ReplaceAll tx _ h1 (hG.below (bel_alloc (Below.refl _ _) _))).mono ?_; rintro e w1 ⟨rfl, hb_w1⟩))
      go_ret
      exact ⟨by rw [HZ.out]; first | rfl | simp, (by repeat (first | exact Below.refl _ _ | assumption | apply bel_drew | apply bel_drewN | apply bel_alloc | (refine bel_set ?_ (by first | (simp; done) | omega) _) | (refine Bel.trans ?_ (by assumption))))⟩
    · by_cases k0 : k = 2
      · subst k0
        have HZ := Lib.hid (show showT ⟨2, tx, nu, fa, ⟨bk, sh, ⟨ac, ar, afc, afr⟩, ⟨bc, br, bfc, bfr⟩, wd⟩, i⟩ = signsB fa from rfl)
        go_enter Tryz.func14, Tryz.ntmps14
        go_wp2_with (first | (go_at_call 25; refine (va_Text fa _ (hG.below (bel_alloc (Below.refl _ _) _))).mono ?_; rintro e w' ⟨rfl, rfl⟩))
        go_ret
        exact ⟨by rw [HZ.out]; first | rfl | simp, (by repeat (first | exact Below.refl _ _ | assumption | apply bel_drew | apply bel_drewN | apply bel_alloc | (refine bel_set ?_ (by first | (simp; done) | omega) _) | (refine Bel.trans ?_ (by assumption))))⟩
      · by_cases k0 : k = 3
        · subst k0
          have HZ := Lib.hid (show showT ⟨3, tx, nu, fa, ⟨bk, sh, ⟨ac, ar, afc, afr⟩, ⟨bc, br, bfc, bfr⟩, wd⟩, i⟩ = textR ⟨bk, sh, ⟨ac, ar, afc, afr⟩, ⟨bc, br, bfc, bfr⟩, wd⟩ from rfl)
          go_enter Tryz.func14, Tryz.ntmps14
          go_wp2_with (first | (go_at_call 20; refine (ad_Text bk sh ac ar afc afr bc br bfc bfr wd _ (hG.below (bel_alloc (Below.refl _ _) _)) h2 h3).mono ?_; rintro e w1 ⟨rfl, hb_w1⟩))
          go_ret
          exact ⟨by rw [HZ.out]; first | rfl | simp, (by repeat (first | exact Below.refl _ _ | assumption | apply bel_drew | apply bel_drewN | apply bel_alloc | (refine bel_set ?_ (by first | (simp; done) | omega) _) | (refine Bel.trans ?_ (by assumption))))⟩
        · by_cases k0 : k = 4 ∨ k = 5 ∨ k = 6 ∨ k = 7 ∨ k = 8
          · rcases k0 with rfl | rfl | rfl | rfl | rfl
            all_goals
              go_enter Tryz.func14, Tryz.ntmps14
              go_wp2_with (fail)
              go_ret
              exact ⟨rfl, (by repeat (first | exact Below.refl _ _ | assumption | apply bel_drew | apply bel_drewN | apply bel_alloc | (refine bel_set ?_ (by first | (simp; done) | omega) _) | (refine Bel.trans ?_ (by assumption))))⟩
          · have HZ := Lib.hid (show showT ⟨k, tx, nu, fa, ⟨bk, sh, ⟨ac, ar, afc, afr⟩, ⟨bc, br, bfc, bfr⟩, wd⟩, i⟩ = [] by unfold showT; simp only []; rw [if_neg (by assumption), if_neg (by assumption), if_neg (by assumption), if_neg (by assumption), if_neg (by omega), if_neg (by omega), if_neg (by omega), if_neg (by omega)])
            have e4 : (k == 4) = false := by simp; omega
            have e5 : (k == 5) = false := by simp; omega
            have e6 : (k == 6) = false := by simp; omega
            have e7 : (k == 7) = false := by simp; omega
            have e8 : (k == 8) = false := by simp; omega
            have e0 : (k == 0) = false := by simp; omega
            have e1 : (k == 1) = false := by simp; omega
            have e2 : (k == 2) = false := by simp; omega
            have e3 : (k == 3) = false := by simp; omega
            go_enter Tryz.func14, Tryz.ntmps14
            go_wp2_with (fail)
            go_ret
            exact ⟨by rw [HZ.out]; rfl, (by repeat (first | exact Below.refl _ _ | assumption | apply bel_drew | apply bel_drewN | apply bel_alloc | (refine bel_set ?_ (by first | (simp; done) | omega) _) | (refine Bel.trans ?_ (by assumption))))⟩
end Go.Proofs.YtnmbpmomilehoaaGreatDoor

namespace Go.Proofs.YtnmbpmomilehoaaGreatDoor
open Go.RowKit

theorem run_loadVar_at {P : Program} (w : World) (b o : Nat) (ty : TypeId) (cs : Array Value) (d : TypeDesc) (hc : ∀ j v, cs[j]? = some v → w.cell? ⟨b, o + j, none⟩ = some v)
    (hu : P.underlying ty = some d) (hd : (match d with | .struct _ | .array _ _ => true | _ => false) = true) (hi : (P.info? ty).map (·.size) = some cs.size) :
    (loadVar ty ⟨b, o, none⟩).run P w = .ok (.agg cs) w := by
  have h1 := run_loadCells_list (P := P) w ⟨b, o, none⟩ cs.toList (fun j v hv => by
    have hadd : (⟨b, o, none⟩ : Addr).add j = ⟨b, o + j, none⟩ := by unfold Addr.add; split <;> simp_all
    rw [hadd]
    exact hc j v (by simpa using hv))
  simp only [Array.length_toList, Array.toArray_toList] at h1
  have h2 : (isAgg ty).run P w = .ok true w := by
    unfold isAgg
    rw [Sem.run_bind, run_underlying hu w]
    cases d <;> simp_all
  obtain ⟨i, hq, hs⟩ := Option.map_eq_some_iff.1 hi
  simp [loadVar, Sem.run_bind, h2, sizeOf, typeInfo, hq, hs, h1]
/-- The walk's step: a struct loaded whole. -/
theorem wpList_load_at {P : Program} {ops : Array Oper} {rest : List Oper} {o : Oper} {a : Act} {w : World} {Q : Exit → Act → World → Prop} (hgd : o.guard = none) (ty : TypeId) (x : Operand) (ho : o.op = .load ty x)
    (b f : Nat) (hx : a.eval x = .pointer (some ⟨b, f, none⟩)) (cs : Array Value) (d : TypeDesc) (hc : ∀ j v, cs[j]? = some v → w.cell? ⟨b, f + j, none⟩ = some v)
    (hu : P.underlying ty = some d) (hd : (match d with | .struct _ | .array _ _ => true | _ => false) = true) (hi : (P.info? ty).map (·.size) = some cs.size)
    (h : wpList P ops Q rest (a.put o.dst (.agg cs)) w) : wpList P ops Q (o :: rest) a w := by
  refine wpList_plain hgd fun K hK => ?_
  unfold Oper.wp execOp
  simp only [ho, hx, Instr.loadAt, Instr.sureAddr, Sem.run_bind, Sem.run_pure, Result.andThen_ok, run_loadVar_at w b f ty cs d hc hu hd hi]
  exact hK _ _ h
/-- Where a slice of tokens lies, and what it holds. -/
structure TokR (w : World) (a : Option Addr) (c : Nat) (ts : List TokS) : Prop where
  cap : ts.length ≤ c
  max : c ≤ maxLen
  at_ : ∀ (i : Nat) (h : i < ts.length), ∃ b o, a = some ⟨b, o, none⟩ ∧ b < w.heap.size ∧ ∀ j v, (ts[i]'h).cells[j]? = some v → w.cell? ⟨b, o + i * 16 + j, none⟩ = some v
theorem TokR.below {w w' : World} {a : Option Addr} {c : Nat} {ts : List TokS} (h : TokR w a c ts) (hb : Below w.heap.size w w') : TokR w' a c ts :=
  ⟨h.cap, h.max, fun i hi => by
    obtain ⟨b, o, h1, h2, h3⟩ := h.at_ i hi
    exact ⟨b, o, h1, Nat.lt_of_lt_of_le h2 hb.size, fun j v hv => (hb.cell (p := ⟨b, o + i * 16 + j, none⟩) h2).trans (h3 j v hv)⟩⟩
theorem cells_len (t : TokS) : t.cells.length = 16 := rfl
theorem cellsOf_at (ts : List TokS) (i : Nat) (h : i < ts.length) (j : Nat) (v : Value) (hv : (ts[i]'h).cells[j]? = some v) : (cellsOf ts)[i * 16 + j]? = some v := by
  induction ts generalizing i with
  | nil => simp at h
  | cons t r ih =>
    have hj : j < 16 := by
      have := (List.getElem?_eq_some_iff.1 hv).1
      rw [cells_len] at this; exact this
    have e : cellsOf (t :: r) = t.cells ++ cellsOf r := rfl
    rw [e]
    cases i with
    | zero =>
      rw [Nat.zero_mul, Nat.zero_add, List.getElem?_append_left (by rw [cells_len]; exact hj)]
      exact hv
    | succ i =>
      rw [List.getElem?_append_right (by rw [cells_len]; omega), cells_len]
      have := ih i (by simpa using h) hv
      rw [show (i + 1) * 16 + j - 16 = i * 16 + j by omega]
      exact this
theorem cellsOf_len (ts : List TokS) : (cellsOf ts).length = ts.length * 16 := by
  induction ts with
  | nil => rfl
  | cons t r ih =>
    have e : cellsOf (t :: r) = t.cells ++ cellsOf r := rfl
    rw [e, List.length_append, ih, cells_len, List.length_cons]; omega
/-- What is owned is read. -/
theorem Toks.read {w : World} {B0 : Nat} {v : Value} {ts : List TokS} (h : Toks w B0 v ts) : ∃ a c, v = .slice a ts.length c ∧ TokR w a c ts ∧ ∀ p, a = some p → B0 ≤ p.block := by
  obtain ⟨hl, h⟩ := h
  rcases h with ⟨rfl, hn⟩ | ⟨g, cap, cur, rfl, hg, hh, h1, h2, h3, h4⟩
  · refine ⟨none, 0, by rw [hn], ⟨by omega, Nat.zero_le _, fun i hi => by omega⟩, fun p hp => by cases hp⟩
  · refine ⟨some ⟨g, 0, none⟩, cap, rfl, ⟨h1, h2, fun i hi => ⟨g, 0, rfl, (Array.getElem?_eq_some_iff.1 hh).1, fun j u hu => ?_⟩⟩, fun p hp => by cases hp; exact hg⟩
    have hj := (List.getElem?_eq_some_iff.1 hu).1
    rw [cells_len] at hj
    have h5 := cellsOf_at ts i hi j u hu
    rw [← h4, List.getElem?_take_of_lt (by omega)] at h5
    rw [cell_of_row w g _ cur _ _ hh, Nat.zero_add]
    simpa using h5
theorem tokUnder : ∃ d, Tryz.prog.underlying 41 = some d ∧ (match d with | .struct _ | .array _ _ => true | _ => false) = true := ⟨_, Tryz.underlying41, rfl⟩
theorem Toks.below {w w' : World} {B0 : Nat} {v : Value} {ts : List TokS} (h : Toks w B0 v ts) (hb : Below w.heap.size w w') : Toks w' B0 v ts := ownsRow_belows h hb
end Go.Proofs.YtnmbpmomilehoaaGreatDoor
