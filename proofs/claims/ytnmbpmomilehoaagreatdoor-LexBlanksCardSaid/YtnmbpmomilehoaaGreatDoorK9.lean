/-
  Part 9 of what the proof stands on: L11, W1, W2, Sp10, Sp12, W3, Tk2, Sp13.
-/
import Derived.KernelRfl
import Derived.Test.YtnmbpmomilehoaaGreatDoorK8
import Derived.Test.YtnmbpmomilehoaaGreatDoorK2
import Derived.Test.YtnmbpmomilehoaaGreatDoorK7
namespace Go.Proofs.YtnmbpmomilehoaaGreatDoor
open Go.RowKit

/-- what a token may hold so that it can be shown -/
def TokS.small (t : TokS) : Prop := t.text.length ≤ 1000000 ∧ t.ref.book.length ≤ 1000000 ∧ t.ref.sheet.length ≤ 1000000
theorem joinT_eq (ts : List TokS) : Lib.join (ts.map showT) [32] = joinT ts := by
  induction ts with
  | nil => rfl
  | cons t r ih =>
    cases r with
    | nil => rw [List.map_cons, List.map_nil, Lib.join_one]; rfl
    | cons u q =>
      rw [joinT, ← ih, List.map_cons, List.map_cons, Lib.join_cons, Lib.join_cons, Lib.joinTail]
      simp [Lib.joinTail]
theorem lx_ShowT (t : TokS) (w : World) (hG : Glob w) (h : t.small) : Calls Tryz.prog 14 #[.agg t.cells.toArray] w fun e w' => e = .returned (.string (mkB (showT t))) ∧ Below w.heap.size w w' :=
  lx_Show t.kind t.text t.num t.fail t.ref.book t.ref.sheet t.ref.a.col t.ref.a.row t.ref.a.fc t.ref.a.fr t.ref.b.col t.ref.b.row t.ref.b.fc t.ref.b.fr t.ref.wide t.at_ w hG h.1 h.2.1 h.2.2
theorem strInfo3 : (Tryz.prog.info? 9).map (fun i => (i.zero, i.size, i.bytes)) = some (some (.string (mkB [])), 1, 16) := by kernel_rfl
theorem own_block2 {w0 w : World} {e : TypeId} {size n : Nat} {v : Value} {xs : List Value} (h : w.ownsRow w0.heap.size e size v n xs) : ∀ k, v.ownBlock = some k → w0.heap.size ≤ k := fun k hk => (h.lt k hk).1
theorem cell_one_new2 (w : World) (u : Value) (t : TypeId) : ∀ j x, [u][j]? = some x → (w.alloc (.cells #[u] t)).cell? ((⟨w.heap.size, 0, none⟩ : Addr).add j) = some x :=
  World.news_of_block (cs := #[u]) (heap_alloc_new _ _)
theorem s_JoinT (H : Nat) (v : Value) (ts : List TokS) (w : World) (hown : w.ownsRow H 9 1 v ts.length (ts.map fun t => .string (mkB (showT t)))) (hn : ts.length ≤ 10000) (hj : (joinT ts).length ≤ 1000000000) :
    Calls Tryz.prog 22 #[v, .string (mkB [32])] w fun e w' => e = .returned (.string (mkB (joinT ts))) ∧ Below w.heap.size w w' := by
  obtain ⟨hl, h⟩ := hown
  rcases h with ⟨rfl, h0⟩ | ⟨g, cap, cur, rfl, hg, hh, h1, h2, h3, h4⟩
  · have : ts = [] := List.eq_nil_of_length_eq_zero h0
    subst this
    refine (Tryz.strings_Join_none none 0 (mkB [32]) w).mono ?_
    rintro e w' ⟨rfl, rfl⟩
    exact ⟨rfl, Below.refl _ _⟩
  · have hx : (ts.map fun t => mkB (showT t)).length = ts.length := List.length_map _
    have hm : (ts.map fun t => mkB (showT t)).map (·.data.toList) = ts.map showT := by
      rw [List.map_map]; exact List.map_congr_left fun t _ => mkB_data _
    have hmb : (mkB [32]).data.toList = [32] := mkB_data _
    have := Tryz.strings_Join g 0 cap (ts.map fun t => mkB (showT t)) (mkB [32]) w (fun j x hx => by
      rw [cell_of_row w g _ cur _ _ hh, Nat.zero_add]
      have h5 : (ts.map fun t => Value.string (mkB (showT t)))[j]? = some (.string x) := by
        rw [List.getElem?_map] at hx ⊢
        cases ht : ts[j]? with
        | none => rw [ht] at hx; cases hx
        | some t => rw [ht] at hx; simp only [Option.map_some, Option.some.injEq] at hx ⊢; rw [hx]
      have hj2 := (List.getElem?_eq_some_iff.1 h5).1
      rw [List.length_map] at hj2
      rw [← h4, List.getElem?_take_of_lt (by omega)] at h5
      simpa using h5) (Array.getElem?_eq_some_iff.1 hh).1 (by rw [hx]; omega) (by rw [hx]; exact h1) (by rw [hm, hmb, joinT_eq]; omega)
    rw [hx, hm, hmb, joinT_eq] at this
    exact this
set_option maxRecDepth 100000 in
set_option maxHeartbeats 3200000 in
theorem lx_Join (a : Option Addr) (c : Nat) (ts : List TokS) (w : World) (hT : TokR w a c ts) (hG : Glob w) (hn : ts.length ≤ 10000) (hs : ∀ t ∈ ts, t.small) (hj : (joinT ts).length ≤ 1000000000) :
    Calls Tryz.prog 12 #[.slice a ts.length c] w fun e w' => e = .returned (.string (mkB (joinT ts))) ∧ Below w.heap.size w w' := by
  obtain ⟨i0, hi, hz0, hz1, hz2⟩ := info_parts strInfo3
  have hms := mkB_size; have hma := mkB_append; have hmx := mkB_extract; have hmt := mkB_toList; have hmtl := subB_tail; have hmhd := subB_head
  have k1 : (⟨#[32]⟩ : ByteArray) = mkB [32] := rfl
  have hcap := hT.cap
  have hmax := hT.max
  unfold maxLen at hmax
  have HS := Lib.hid hs
  have HI := Lib.hid hi
  have HZ0 := Lib.hid hz0
  have HZ1 := Lib.hid hz1
  have HZ2 := Lib.hid hz2
  obtain ⟨n, hnn⟩ : ∃ n, n = ts.length := ⟨_, rfl⟩
  have HN := Lib.hid hnn
  rw [← hnn] at hn hcap ⊢
  clear hs hi hz0 hz1 hz2 hnn
  go_enter Tryz.func12, Tryz.ntmps12
  go_wp2
  go_loopw [3, 8] (fun v i wr => ∃ k : Nat, k ≤ n ∧ i = .int .i64 k ∧ wr.ownsRow w.heap.size 9 1 v k ((ts.take k).map fun t => .string (mkB (showT t))) ∧ Below w.heap.size w wr) (fun _ i _ => n - (intOf i).toNat)
  case atStart => exact ⟨0, by omega, rfl, World.ownsRow_nil _ _ _ _, Below.refl _ _⟩
  case round =>
    obtain ⟨k, hk, rfl, hown, hbw⟩ := hrel
    by_cases hlt : k < n
    · obtain ⟨b, o, rfl, hb, hcell⟩ := (hT.below hbw).at_ k (by rw [← HN.out]; exact hlt)
      have hlt2 : k < ts.length := by rw [← HN.out]; exact hlt
      obtain ⟨t, ht⟩ : ∃ t, t = ts[k]'hlt2 := ⟨_, rfl⟩
      have HSM := Lib.hid (HS.out t (by rw [ht]; exact List.getElem_mem hlt2))
      have HTK := Lib.hid (show (ts.take (k + 1)).map (fun t => Value.string (mkB (showT t))) = (ts.take k).map (fun t => Value.string (mkB (showT t))) ++ [.string (mkB (showT t))] by
        rw [List.take_succ_eq_append_getElem hlt2, List.map_append, ← ht]; rfl)
      rw [← ht] at hcell
      have HCELL := Lib.hid (show ∀ (j : Nat) (v : Value), t.cells.toArray[j]? = some v → wr.cell? ⟨b, o + k * 16 + j, none⟩ = some v from fun j v hv => hcell j v (by simpa using hv))
      have HT := Lib.hid hT
      obtain ⟨S, hS⟩ : ∃ S, S = showT t := ⟨_, rfl⟩
      rw [← hS] at HTK
      have HSS := Lib.hid hS
      clear hcell hT ht hS
      obtain ⟨kk, tx, nu, fa, ⟨bk, sh, ⟨ac, ar, afc, afr⟩, ⟨bc, br, bfc, bfr⟩, wd⟩, ii⟩ := t
      change Hid (∀ (j : Nat) (v : Value), (#[.int .i64 kk, .string (mkB tx), .int .i64 nu, .int .i64 fa, .string (mkB bk), .string (mkB sh), .int .i64 ac, .int .i64 ar, .bool afc, .bool afr, .int .i64 bc, .int .i64 br, .bool bfc, .bool bfr, .bool wd, .int .i64 ii] : Array Value)[j]? = some v → _) at HCELL
      go_upto_region 5 with (first | (refine wpList_load_at rfl 41 (.tmp 10) rfl b (o + k * 16) (by rfl) #[.int .i64 kk, .string (mkB tx), .int .i64 nu, .int .i64 fa, .string (mkB bk), .string (mkB sh), .int .i64 ac, .int .i64 ar, .bool afc, .bool afr, .int .i64 bc, .int .i64 br, .bool bfc, .bool bfr, .bool wd, .int .i64 ii] _ HCELL.out Tryz.underlying41 rfl rfl ?_) | (refine wpList_store_row rfl 41 (.tmp 5) (.tmp 11) rfl wr.heap.size #[.int .i64 kk, .string (mkB tx), .int .i64 nu, .int .i64 fa, .string (mkB bk), .string (mkB sh), .int .i64 ac, .int .i64 ar, .bool afc, .bool afr, .int .i64 bc, .int .i64 br, .bool bfc, .bool bfr, .bool wd, .int .i64 ii] rfl rfl 41 #[.int .i64 0, .string (mkB []), .int .i64 0, .int .i64 0, .string (mkB []), .string (mkB []), .int .i64 0, .int .i64 0, .bool false, .bool false, .int .i64 0, .int .i64 0, .bool false, .bool false, .bool false, .int .i64 0] (heap_alloc_new _ _) tokInfo1 rfl (by simp [Value.oneCell']) ?_; rw [World.setRow_alloc_new]))
      have hbr : Below wr.heap.size wr (wr.alloc (.cells #[.int .i64 kk, .string (mkB tx), .int .i64 nu, .int .i64 fa, .string (mkB bk), .string (mkB sh), .int .i64 ac, .int .i64 ar, .bool afc, .bool afr, .int .i64 bc, .int .i64 br, .bool bfc, .bool bfr, .bool wd, .int .i64 ii] 41)) := (Below.refl _ _).alloc (Nat.le_refl _) _
      go_wp2_with (first | (go_at_call 14; refine (lx_Show kk tx nu fa bk sh ac ar afc afr bc br bfc bfr wd ii _ (hG.below (Bel.trans hbw hbr)) HSM.out.1 HSM.out.2.1 HSM.out.2.2).mono ?_; rw [← HSS.out]; rintro e w1 ⟨rfl, hb_w1⟩) | (at_builtin; refine wpList_append_own _ rfl _ _ 66 rfl w.heap.size 9 i0 (.string (mkB [])) 1 16 Tryz.underlying66 HI.out HZ0.out HZ1.out HZ2.out rfl (by decide) _ _ _ rfl ((ownsRow_belows hown (Bel.trans hbr hb_w1)).alloc _) ⟨w1.heap.size, 0, none⟩ 1 1 [.string (mkB S)] rfl rfl (cell_one_new2 _ _ _) (by intro u hu; simp at hu; subst hu; rfl) (by unfold maxLen; omega) (by omega) (by have := hbw.size; have := hbr.size; have := hb_w1.size; simp at *; omega) ?_; intro v' w2 hown' hgrow _))
      have hB2 : Below w.heap.size w w2 := (bel_alloc (Bel.trans (Bel.trans hbw hbr) hb_w1) _).grown hgrow (by have := hbw.size; have := hbr.size; have := hb_w1.size; simp at *; omega) (own_block2 hown)
      go_roundw
      case rel => exact ⟨k + 1, by omega, by go_num, by rw [HTK.out]; exact hown', hB2⟩
      case measure => simp [intOf]; omega
    · obtain rfl : k = n := by omega
      have hown2 : wr.ownsRow w.heap.size 9 1 u3 ts.length (ts.map fun t => .string (mkB (showT t))) := by
        have := hown
        rw [List.take_of_length_le (by rw [HN.out]; omega), HN.out] at this
        exact this
      have hn2 : ts.length ≤ 10000 := by rw [← HN.out]; exact hn
      have HO := Lib.hid hown2
      clear hown hown2
      go_wp2_with (first | (go_at_call 22; refine (s_JoinT _ _ ts _ HO.out hn2 hj).mono ?_; rintro e w1 ⟨rfl, hb_w1⟩))
      go_ret
      exact ⟨rfl, Bel.trans hbw hb_w1⟩
end Go.Proofs.YtnmbpmomilehoaaGreatDoor

namespace Go.Proofs.YtnmbpmomilehoaaGreatDoor
open Go.RowKit

def wakeS : B := [83, 85, 77, 40, 97, 49, 58, 66, 50, 44, 34, 120, 34, 34, 121, 34, 41, 60, 61, 49, 46, 53, 48]
def wakeT : List TokS := [
  { TokS.zero with kind := 4, text := [83, 85, 77], at_ := 0 },
  { TokS.zero with kind := 6, at_ := 3 },
  { TokS.zero with kind := 3, ref := ⟨[], [], ⟨0, 0, false, false⟩, ⟨1, 1, false, false⟩, true⟩, at_ := 4 },
  { TokS.zero with kind := 8, at_ := 9 },
  { TokS.zero with kind := 1, text := [120, 34, 121], at_ := 10 },
  { TokS.zero with kind := 7, at_ := 16 },
  { TokS.zero with kind := 5, text := [60, 61], at_ := 17 },
  { TokS.zero with kind := 0, num := 15000, at_ := 19 }]
def wakeJ : B := [83, 85, 77, 32, 40, 32, 65, 49, 58, 66, 50, 32, 44, 32, 34, 120, 34, 34, 121, 34, 32, 41, 32, 60, 61, 32, 49, 46, 53]
set_option maxRecDepth 100000 in
theorem wake_lex : lexR wakeS = (wakeT, 0, 0) := by kernel_rfl
theorem decR1 (n : Nat) (h : n < 10) : decR n = [u8 (48 + n)] := by rw [decR, if_pos h]
theorem decR2 (n : Nat) (h : ¬ n < 10) : decR n = decR (n / 10) ++ [u8 (48 + (n % 10 : Nat))] := by rw [decR, if_neg h]
theorem wake_dec : decR 15000 = [49, 53, 48, 48, 48] := by
  rw [decR2 15000 (by omega), show 15000 / 10 = 1500 from rfl, decR2 1500 (by omega), show 1500 / 10 = 150 from rfl, decR2 150 (by omega), show 150 / 10 = 15 from rfl, decR2 15 (by omega), show 15 / 10 = 1 from rfl, decR1 1 (by omega)]
  rfl
theorem wake_ref : textR ⟨[], [], ⟨0, 0, false, false⟩, ⟨1, 1, false, false⟩, true⟩ = [65, 49, 58, 66, 50] := by
  rw [textR, if_pos (by decide), refTextR, refTextR, if_pos (by decide), if_pos (by decide)]
  simp only [show ((0 : Int) + 1).toNat = 1 from rfl, show ((1 : Int) + 1).toNat = 2 from rfl]
  rw [decR1 1 (by omega), decR1 2 (by omega)]
  rfl
theorem wake_num : text01 15000 = [49, 46, 53] := by
  rw [← text_eq, textP, if_pos (by decide)]
  rw [show (15000 : Int).natAbs / 10000 = 1 from rfl, show (15000 : Int).natAbs % 10000 = 5000 from rfl, show 10000 + 5000 = 15000 from rfl]
  rw [wake_dec, decR1 1 (by omega)]
  rfl
theorem wake_join : joinT wakeT = wakeJ := by
  simp only [wakeT, joinT, showT]
  simp only [TokS.zero]
  simp [wake_ref, wake_num, quoteB, wakeJ]
end Go.Proofs.YtnmbpmomilehoaaGreatDoor

namespace Go.Proofs.YtnmbpmomilehoaaGreatDoor
open Go.RowKit

theorem TokR.tok {w : World} {b o c : Nat} {ts : List TokS} (h : TokR w (some ⟨b, o, none⟩) c ts) (i j f : Nat) (v : Value) (t : TokS) (ht : ts[i]? = some t) (hf : f = o + i * 16 + j) (hv : t.cells[j]? = some v) : w.cell? ⟨b, f, none⟩ = some v := by
  subst hf
  obtain ⟨hi, rfl⟩ := List.getElem?_eq_some_iff.1 ht
  obtain ⟨b', o', he, _, hc⟩ := h.at_ i hi
  cases he
  exact hc j v hv
theorem wakeT_small : ∀ t ∈ wakeT, t.small := by
  intro t ht
  simp only [wakeT, List.mem_cons, List.not_mem_nil, or_false] at ht
  rcases ht with rfl | rfl | rfl | rfl | rfl | rfl | rfl | rfl <;> exact ⟨by decide, by decide, by decide⟩
set_option maxRecDepth 100000 in
set_option maxHeartbeats 3200000 in
theorem l5_wakes (w : World) (hG : Glob w) : Calls Tryz.prog 10 #[] w fun e w' => e = .returned (.bool true) ∧ Below w.heap.size w w' := by
  have hms := mkB_size; have hma := mkB_append; have hmx := mkB_extract; have hmt := mkB_toList; have hmtl := subB_tail; have hmhd := subB_head
  have k1 : (⟨#[83, 85, 77, 40, 97, 49, 58, 66, 50, 44, 34, 120, 34, 34, 121, 34, 41, 60, 61, 49, 46, 53, 48]⟩ : ByteArray) = mkB wakeS := rfl
  have k2 : (⟨#[83, 85, 77]⟩ : ByteArray) = mkB [83, 85, 77] := rfl
  have k3 : (⟨#[65, 49, 58, 66, 50]⟩ : ByteArray) = mkB [65, 49, 58, 66, 50] := rfl
  have k4 : (⟨#[120, 34, 121]⟩ : ByteArray) = mkB [120, 34, 121] := rfl
  have k5 : (⟨#[60, 61]⟩ : ByteArray) = mkB [60, 61] := rfl
  have k6 : (⟨#[83, 85, 77, 32, 40, 32, 65, 49, 58, 66, 50, 32, 44, 32, 34, 120, 34, 34, 121, 34, 32, 41, 32, 60, 61, 32, 49, 46, 53]⟩ : ByteArray) = mkB wakeJ := rfl
  go_enter Tryz.func10, Tryz.ntmps10
  go_wp2_with (first | (go_at_call 8; refine (by have z := lx_Lex wakeS w (by decide) hG; rw [wake_lex] at z; exact z : Calls _ _ _ _ _).mono ?_; rintro e w1 ⟨hb_w1, v, rfl, hT⟩; obtain ⟨a, c, hv, hR, hge⟩ := hT.read; rw [show wakeT.length = 8 from rfl] at hv; subst hv; obtain ⟨b, o, rfl, hlt, hx⟩ := hR.at_ 0 (by decide); clear hx hge hT; have q0 := hR.tok 0 1 (o + 1) _ _ rfl (by omega) rfl; have q20 := hR.tok 2 4 (o + 32 + 4) _ _ rfl (by omega) rfl; have q21 := hR.tok 2 5 (o + 32 + 4 + 1) _ _ rfl (by omega) rfl; have q22 := hR.tok 2 6 (o + 32 + 4 + 2) _ _ rfl (by omega) rfl; have q23 := hR.tok 2 7 (o + 32 + 4 + 3) _ _ rfl (by omega) rfl; have q24 := hR.tok 2 8 (o + 32 + 4 + 4) _ _ rfl (by omega) rfl; have q25 := hR.tok 2 9 (o + 32 + 4 + 5) _ _ rfl (by omega) rfl; have q26 := hR.tok 2 10 (o + 32 + 4 + 6) _ _ rfl (by omega) rfl; have q27 := hR.tok 2 11 (o + 32 + 4 + 7) _ _ rfl (by omega) rfl; have q28 := hR.tok 2 12 (o + 32 + 4 + 8) _ _ rfl (by omega) rfl; have q29 := hR.tok 2 13 (o + 32 + 4 + 9) _ _ rfl (by omega) rfl; have q210 := hR.tok 2 14 (o + 32 + 4 + 10) _ _ rfl (by omega) rfl; have HR := Lib.hid hR; clear hR) | (go_at_call 20; refine (by have z := ad_Text [] [] 0 0 false false 1 1 false false true w1 (hG.below hb_w1) (by decide) (by decide); rw [wake_ref] at z; exact z : Calls _ _ _ _ _).mono ?_; rintro e w2 ⟨rfl, hb_w2⟩; have hR2 := HR.out.below hb_w2; have q4 := hR2.tok 4 1 (o + 64 + 1) _ _ rfl (by omega) rfl; have q6 := hR2.tok 6 1 (o + 96 + 1) _ _ rfl (by omega) rfl; have q7 := hR2.tok 7 2 (o + 112 + 2) _ _ rfl (by omega) rfl; have HR2 := Lib.hid hR2; clear hR2) | (go_at_call 12; refine (by have z := lx_Join _ _ wakeT w2 HR2.out (hG.below (Bel.trans hb_w1 hb_w2)) (by decide) wakeT_small (by rw [wake_join]; decide); rw [wake_join] at z; exact z : Calls _ _ _ _ _).mono ?_; rintro e w3 ⟨rfl, hb_w3⟩))
  go_ret
  exact ⟨rfl, (by repeat (first | exact Below.refl _ _ | assumption | apply bel_drew | apply bel_drewN | apply bel_alloc | (refine bel_set ?_ (by first | (simp; done) | omega) _) | (refine Bel.trans ?_ (by assumption))))⟩
end Go.Proofs.YtnmbpmomilehoaaGreatDoor

namespace Go.Proofs.YtnmbpmomilehoaaGreatDoor

/-- From a place on, a text has these tokens; or it fails at a place, with an error. -/
inductive Lx : Nat → B → List TokS → Option (Nat × Int) → Prop
  | nil (i : Nat) : Lx i [] [] none
  | sp {i : Nat} {r : B} {ts : List TokS} {o : Option (Nat × Int)} : Lx (i + 1) r ts o → Lx i (32 :: r) ts o
  | tok {i : Nat} {c : UInt8} {r : B} {ts : List TokS} {o : Option (Nat × Int)} : c ≠ 32 → (oneT (c :: r)).2.2 = 0 → Lx (i + (oneT (c :: r)).2.1) ((c :: r).drop (oneT (c :: r)).2.1) ts o → Lx i (c :: r) ({ (oneT (c :: r)).1 with at_ := (i : Int) } :: ts) o
  | err {i : Nat} {c : UInt8} {r : B} : c ≠ 32 → (oneT (c :: r)).2.2 ≠ 0 → Lx i (c :: r) [] (some (i, (oneT (c :: r)).2.2))
/-- the answer of a text with these tokens, or that error -/
def outL (ts : List TokS) : Option (Nat × Int) → List TokS × Int × Int
  | none => (ts, 0, 0)
  | some q => ([], (q.1 : Int), q.2)
theorem Lx.lexL {i : Nat} {l : B} {ts : List TokS} {o : Option (Nat × Int)} (h : Lx i l ts o) : ∀ (k : Nat) (acc : List TokS), l.length ≤ k →
    lexL k i l acc = outL (acc ++ ts) o := by
  induction h with
  | nil i => intro k acc _; rw [lexL_nil]; simp [outL]
  | @sp i r ts o _ ih =>
    intro k acc hk
    cases k with
    | zero => simp at hk
    | succ k =>
      rw [Go.Proofs.YtnmbpmomilehoaaGreatDoor.lexL, if_pos rfl]
      exact ih k acc (by simp at hk; omega)
  | @tok i c r ts o hc he _ ih =>
    intro k acc hk
    cases k with
    | zero => simp at hk
    | succ k =>
      rw [lexL_yes hc he, ih k _ (by have := oneT_pos c r he; rw [List.length_drop]; simp at hk ⊢; omega)]
      cases o with
      | none => simp [outL]
      | some q => rfl
  | @err i c r hc he =>
    intro k acc hk
    cases k with
    | zero => simp at hk
    | succ k => rw [lexL_no hc he]; rfl
theorem Lx_total (n : Nat) : ∀ (l : B) (i : Nat), l.length ≤ n → ∃ ts o, Lx i l ts o ∧ (o ≠ none → ∃ p, o = some p ∧ p.2 ≠ 0) := by
  induction n with
  | zero =>
    intro l i h
    cases l with
    | nil => exact ⟨[], none, .nil i, fun e => absurd rfl e⟩
    | cons c r => simp at h
  | succ n ih =>
    intro l i h
    cases l with
    | nil => exact ⟨[], none, .nil i, fun e => absurd rfl e⟩
    | cons c r =>
      by_cases hc : c = 32
      · subst hc
        obtain ⟨ts, o, h1, h2⟩ := ih r (i + 1) (by simp at h; omega)
        exact ⟨ts, o, .sp h1, h2⟩
      · by_cases he : (oneT (c :: r)).2.2 = 0
        · have hp := oneT_pos c r he
          obtain ⟨ts, o, h1, h2⟩ := ih ((c :: r).drop (oneT (c :: r)).2.1) (i + (oneT (c :: r)).2.1) (by rw [List.length_drop]; simp at h ⊢; omega)
          exact ⟨_, o, .tok hc he h1, h2⟩
        · exact ⟨[], _, .err hc he, fun _ => ⟨_, rfl, he⟩⟩
theorem Lx.lexR {l : B} {ts : List TokS} {o : Option (Nat × Int)} (h : Lx 0 l ts o) (hl : l.length ≤ 512) : lexR l = outL ts o := by
  rw [Go.Proofs.YtnmbpmomilehoaaGreatDoor.lexR, if_neg (by omega), h.lexL _ _ (Nat.le_refl _)]; rfl
theorem Lx.err_ne {i : Nat} {l : B} {ts : List TokS} {o : Option (Nat × Int)} (h : Lx i l ts o) : ∀ q, o = some q → q.2 ≠ 0 ∧ ts.length ≤ l.length := by
  induction h with
  | nil i => intro q e; cases e
  | sp _ ih => intro q e; have := ih q e; exact ⟨this.1, by simp; omega⟩
  | @tok i c r ts o hc he _ ih =>
    intro q e
    have := ih q e
    refine ⟨this.1, ?_⟩
    have h2 := this.2
    have h3 := oneT_pos c r he
    rw [List.length_drop] at h2
    simp at h2 ⊢; omega
  | err hc he => intro q e; cases e; exact ⟨he, by simp⟩
def TokS.up (d : Int) (t : TokS) : TokS := { t with at_ := t.at_ + d }
theorem Lx.shift {i : Nat} {l : B} {ts : List TokS} {o : Option (Nat × Int)} (h : Lx i l ts o) (d : Nat) : Lx (i + d) l (ts.map (TokS.up d)) (o.map fun q => (q.1 + d, q.2)) := by
  induction h with
  | nil i => exact .nil _
  | sp _ ih => exact .sp (by rw [Nat.add_right_comm]; exact ih)
  | @tok i c r ts o hc he _ ih =>
    have := Lx.tok (i := i + d) hc he (by rw [Nat.add_right_comm]; exact ih)
    rw [List.map_cons]
    have e : TokS.up (d : Int) { (oneT (c :: r)).1 with at_ := (i : Int) } = { (oneT (c :: r)).1 with at_ := ((i + d : Nat) : Int) } := by
      unfold TokS.up; simp
    rw [e]; exact this
  | err hc he => exact .err hc he
def blanks (n : Nat) : B := List.replicate n 32
theorem Lx.pad {i : Nat} {l : B} {ts : List TokS} {o : Option (Nat × Int)} (n : Nat) (h : Lx (i + n) l ts o) : Lx i (blanks n ++ l) ts o := by
  induction n generalizing i with
  | zero => exact h
  | succ n ih =>
    show Lx i (32 :: (blanks n ++ l)) ts o
    exact .sp (ih (by rw [Nat.add_assoc, Nat.add_comm 1 n]; exact h))
theorem blanks_end (i n : Nat) : Lx i (blanks n) [] none := by
  have := Lx.pad (i := i) n (.nil _)
  simpa using this
theorem skip_blanks (n : Nat) : skipB (blanks n) = [] := by
  induction n with
  | zero => rfl
  | succ n ih => show skipB (32 :: blanks n) = []; rw [skipB_cons, if_pos (by decide)]; exact ih
theorem oneT_le (c : UInt8) (r : B) : (oneT (c :: r)).2.2 = 0 → (oneT (c :: r)).2.1 ≤ (c :: r).length := by
  intro h
  rw [oneT] at h ⊢
  by_cases h1 : isDig c = true
  · rw [if_pos h1]; exact numK_le _
  · rw [if_neg h1] at h ⊢
    by_cases h2 : c = 34
    · rw [if_pos h2] at h ⊢
      unfold textT at h ⊢
      cases hg : textGo (List.drop 1 (c :: r)) with
      | none => rw [hg] at h; simp at h
      | some p => rw [hg] at h; simp only [] at h ⊢; split <;> simp
    · rw [if_neg h2] at h ⊢
      by_cases h3 : c = 35
      · rw [if_pos h3] at h ⊢
        have key : ∀ fs : List Nat, (failGo (c :: r) fs).2.1 ≤ (c :: r).length := by
          intro fs
          induction fs with
          | nil => simp [failGo]
          | cons f fs ih =>
            rw [failGo]
            split
            · rename_i hp
              exact (List.isPrefixOf_iff_prefix.1 hp).length_le
            · exact ih
        exact key _
      · rw [if_neg h3] at h ⊢
        by_cases h4 : isLet c = true ∨ c = 95 ∨ c = 36 ∨ c = 91
        · rw [if_pos h4] at h ⊢
          have := spanK_le goC (c :: r)
          unfold nameT
          simp only []
          repeat (split; · first | exact this | exact Nat.zero_le _)
          exact Nat.zero_le _
        · rw [if_neg h4] at h ⊢
          by_cases h5 : hasB opB c = true
          · rw [if_pos h5]; exact opN_le1 c r
          · rw [if_neg h5] at h ⊢
            have h9 : 1 ≤ (c :: r).length := by simp
            repeat (split; · exact h9)
            exact Nat.zero_le _
theorem Lx.behind {i : Nat} {l : B} {ts : List TokS} {o : Option (Nat × Int)} (h : Lx i l ts o) (n : Nat) : Lx i (l ++ blanks n) ts o := by
  cases n with
  | zero => simpa [blanks] using h
  | succ n =>
    have hb : blanks (n + 1) = 32 :: blanks n := rfl
    have hp : parF (skipB (32 :: blanks n)) = false := by rw [← hb, skip_blanks]; rfl
    have hq : ∀ d ∈ (32 : UInt8) :: blanks n, d ≠ 34 := by
      intro d hd
      rw [← hb] at hd
      have := List.eq_of_mem_replicate hd
      subst this; decide
    rw [hb]
    induction h with
    | nil i => rw [← hb]; exact blanks_end i (n + 1)
    | sp _ ih => exact .sp ih
    | @tok i c r ts o hc he _ ih =>
      have e := oneT_app c r (blanks n) 32 (.inl rfl) hp (.inr hq)
      rw [← drop_app_le _ _ _ (oneT_le c r he)] at ih
      have := Lx.tok (i := i) (c := c) (r := r ++ 32 :: blanks n) (ts := ts) (o := o) hc (by rw [← List.cons_append, e]; exact he) (by rw [← List.cons_append, e]; exact ih)
      rw [← List.cons_append, e] at this
      exact this
    | @err i c r hc he =>
      have e := oneT_app c r (blanks n) 32 (.inl rfl) hp (.inr hq)
      have := Lx.err (i := i) (c := c) (r := r ++ 32 :: blanks n) hc (by rw [← List.cons_append, e]; exact he)
      rw [← List.cons_append, e] at this
      exact this
def commaT (i : Int) : TokS := { TokS.zero with kind := 8, at_ := i }
theorem oneT_comma (t : B) : oneT (44 :: t) = ({ TokS.zero with kind := 8 }, 1, 0) := by
  rw [oneT]
  rw [if_neg (by decide), if_neg (by decide), if_neg (by decide), if_neg (by decide), if_neg (by decide), if_neg (by decide), if_neg (by decide), if_pos rfl]
theorem Lx.comma {i : Nat} {l t : B} {ts us : List TokS} {o : Option (Nat × Int)} (h : Lx i l ts none) (ht : Lx (i + l.length + 1) t us o) : Lx i (l ++ 44 :: t) (ts ++ commaT (i + l.length) :: us) o := by
  generalize hn : (none : Option (Nat × Int)) = o' at h
  induction h with
  | nil i =>
    have e := oneT_comma t
    have := Lx.tok (i := i) (c := 44) (r := t) (ts := us) (o := o) (by decide) (by rw [e]) (by rw [e]; simpa using ht)
    rw [e] at this
    simpa [commaT] using this
  | @sp i r ts o2 _ ih =>
    have := Lx.sp (i := i) (ih (by rw [List.length_cons] at ht; rw [show i + 1 + r.length + 1 = i + (r.length + 1) + 1 by omega]; exact ht) hn)
    rw [List.length_cons]
    have e2 : ((i + 1 : Nat) : Int) + (r.length : Int) = (i : Int) + ((r.length + 1 : Nat) : Int) := by omega
    rw [e2] at this
    exact this
  | @tok i c r ts o2 hc he _ ih =>
    have e := oneT_app c r t 44 (.inr rfl) (by rw [skipB_cons, if_neg (by decide)]; rfl) (.inl he)
    have hle := oneT_le c r he
    have hl : i + (oneT (c :: r)).2.1 + ((c :: r).drop (oneT (c :: r)).2.1).length = i + (c :: r).length := by rw [List.length_drop]; omega
    have ih2 := ih (by rw [hl]; exact ht) hn
    rw [← drop_app_le _ _ _ hle] at ih2
    have := Lx.tok (i := i) (c := c) (r := r ++ 44 :: t) hc (by rw [← List.cons_append, e]; exact he) (by rw [← List.cons_append, e]; exact ih2)
    rw [← List.cons_append, e] at this
    have e2 : ((i + (oneT (c :: r)).2.1 : Nat) : Int) + (((c :: r).drop (oneT (c :: r)).2.1).length : Int) = (i : Int) + ((c :: r).length : Int) := by rw [← Int.natCast_add, hl]; omega
    rw [e2] at this
    exact this
  | err hc he => cases hn
theorem showT_up (d : Int) (t : TokS) : showT (t.up d) = showT t := rfl
theorem joinT_up (d : Int) (ts : List TokS) : joinT (ts.map (TokS.up d)) = joinT ts := by
  induction ts with
  | nil => rfl
  | cons t r ih =>
    cases r with
    | nil => rfl
    | cons u q => simp only [List.map_cons, joinT, showT_up] at ih ⊢; rw [ih]
/-! what the law LexBlanks asks -/
theorem lexR_pad (l : B) (n : Nat) (hl : l.length ≤ 150) (hn : n < 20) :
    lexR (blanks n ++ l ++ blanks n) = ((lexR l).1.map (TokS.up n), if (lexR l).2.2 = 0 then (lexR l).2.1 else (lexR l).2.1 + n, (lexR l).2.2) := by
  obtain ⟨ts, o, h, he⟩ := Lx_total _ l 0 (Nat.le_refl _)
  have h1 := h.lexR (by omega)
  have h2 : Lx 0 (blanks n ++ l ++ blanks n) (ts.map (TokS.up n)) (o.map fun q => (q.1 + n, q.2)) := by
    rw [List.append_assoc]
    exact Lx.pad n ((h.shift n).behind n)
  have h3 := h2.lexR (by simp [blanks]; omega)
  rw [h3, h1]
  cases o with
  | none => simp [outL]
  | some q =>
    obtain ⟨p, hp, hp2⟩ := he (by simp)
    cases hp
    refine Prod.ext rfl (Prod.ext ?_ rfl)
    show ((q.1 + n : Nat) : Int) = if q.2 = 0 then (q.1 : Int) else (q.1 : Int) + n
    rw [if_neg hp2]; simp
theorem lexR_comma (l t : B) (hl : l.length ≤ 150) (ht : t.length ≤ 150) (h1 : (lexR l).2.2 = 0) (h2 : (lexR t).2.2 = 0) :
    ∃ us, lexR (l ++ 44 :: t) = ((lexR l).1 ++ us, 0, 0) ∧ us.length = 1 + (lexR t).1.length ∧ joinT (us.drop 1) = joinT (lexR t).1 := by
  obtain ⟨ts, o, h, he⟩ := Lx_total _ l 0 (Nat.le_refl _)
  obtain ⟨us, o2, g, ge⟩ := Lx_total _ t 0 (Nat.le_refl _)
  have a := h.lexR (by omega)
  have b := g.lexR (by omega)
  cases o with
  | some q =>
    obtain ⟨p, hp, hp2⟩ := he (by simp)
    cases hp
    rw [a] at h1; exact absurd h1 hp2
  | none =>
    cases o2 with
    | some q =>
      obtain ⟨p, hp, hp2⟩ := ge (by simp)
      cases hp
      rw [b] at h2; exact absurd h2 hp2
    | none =>
      have g2 := g.shift (l.length + 1)
      rw [show 0 + (l.length + 1) = 0 + l.length + 1 by omega] at g2
      have c := (Lx.comma h g2).lexR (by simp; omega)
      refine ⟨commaT (((0 : Nat) : Int) + l.length) :: us.map (TokS.up ((l.length + 1 : Nat) : Int)), ?_, ?_, ?_⟩
      · rw [c, a]; rfl
      · rw [b]; simp [outL]; omega
      · rw [b]; exact joinT_up _ _
end Go.Proofs.YtnmbpmomilehoaaGreatDoor

namespace Go.Proofs.YtnmbpmomilehoaaGreatDoor

def onesB : Nat → B
  | 0 => []
  | 1 => [49]
  | n + 2 => 49 :: 32 :: onesB n
theorem ones_len : ∀ n, (onesB n).length = n
  | 0 => rfl
  | 1 => rfl
  | n + 2 => by rw [onesB, List.length_cons, List.length_cons, ones_len n]
theorem ones_more : ∀ i, onesB (2 * i) ++ [49, 32] = onesB (2 * (i + 1))
  | 0 => rfl
  | i + 1 => by
    have := ones_more i
    show 49 :: 32 :: (onesB (2 * i) ++ [49, 32]) = 49 :: 32 :: onesB (2 * (i + 1))
    rw [this]
theorem ones_take : ∀ (n k : Nat), k ≤ n → (onesB n).take k = onesB k
  | 0, k, h => by
    obtain rfl : k = 0 := by omega
    rfl
  | 1, k, h => by rcases (show k = 0 ∨ k = 1 by omega) with rfl | rfl <;> rfl
  | n + 2, 0, h => rfl
  | n + 2, 1, h => rfl
  | n + 2, k + 2, h => by rw [onesB, onesB, List.take_succ_cons, List.take_succ_cons, ones_take n k (by omega)]
theorem ones_no : ∀ n, ∀ c ∈ onesB n, c ≠ 34
  | 0 => by simp [onesB]
  | 1 => by intro c hc; simp [onesB] at hc; subst hc; decide
  | n + 2 => by
    intro c hc
    rw [onesB] at hc
    rcases List.mem_cons.1 hc with rfl | hc
    · decide
    · rcases List.mem_cons.1 hc with rfl | hc
      · decide
      · exact ones_no n c hc
set_option maxRecDepth 100000 in
theorem one_one : oneT [49] = ({ TokS.zero with num := 10000 }, 1, 0) := by kernel_rfl
theorem ones_Lx : ∀ (n i : Nat), ∃ ts, Lx i (onesB n) ts none
  | 0, i => ⟨_, .nil i⟩
  | 1, i => by
    have := Lx.tok (i := i) (c := 49) (r := []) (ts := []) (o := none) (by decide) (by rw [one_one]) (by rw [one_one]; exact .nil _)
    exact ⟨_, this⟩
  | n + 2, i => by
    obtain ⟨ts, h⟩ := ones_Lx n (i + 1 + 1)
    have e : oneT (49 :: 32 :: onesB n) = ({ TokS.zero with num := 10000 }, 1, 0) := by
      have := oneT_app 49 [] (onesB n) 32 (.inl rfl) (by
        cases n with
        | zero => rfl
        | succ n => cases n <;> (rw [skipB_cons, if_pos (by decide), onesB, skipB_cons, if_neg (by decide)]; rfl)) (.inl (by rw [one_one]))
      rw [one_one] at this
      exact this
    have := Lx.tok (i := i) (c := 49) (r := 32 :: onesB n) (ts := ts) (o := none) (by decide) (by rw [e]) (by rw [e]; exact .sp h)
    exact ⟨_, this⟩
theorem lex_ones (k : Nat) : (lexR (onesB k)).2.2 = if k ≤ 512 then 0 else 7 := by
  by_cases h : k ≤ 512
  · obtain ⟨ts, hx⟩ := ones_Lx k 0
    rw [if_pos h, hx.lexR (by rw [ones_len]; exact h)]; rfl
  · rw [if_neg h, lexR, if_pos (by rw [ones_len]; omega)]
theorem textGo_q : ∀ q : B, (∀ c ∈ q, c ≠ 34) → textGo (q ++ [34]) = some (q, [])
  | [], _ => rfl
  | [c], h => by
    have := h c List.mem_cons_self
    show textGo [c, 34] = _
    rw [textGo, if_neg this]; rfl
  | c :: d :: r, h => by
    have h1 := h c List.mem_cons_self
    have ih := textGo_q (d :: r) (fun x hx => h x (List.mem_cons_of_mem _ hx))
    rw [List.cons_append] at ih
    show textGo (c :: d :: (r ++ [34])) = _
    rw [textGo, if_neg h1, ih]; rfl
theorem lex_quot (m : Nat) (hm : m ≤ 400) : (lexR (34 :: (onesB m ++ [34]))).2.2 = if m ≤ 255 then 0 else 7 := by
  have hl : (onesB m).length = m := ones_len m
  have h1 : oneT (34 :: (onesB m ++ [34])) = textT (34 :: (onesB m ++ [34])) := by
    rw [oneT, if_neg (by decide), if_pos rfl]
  have h2 : textGo ((34 :: (onesB m ++ [34])).drop 1) = some (onesB m, []) := textGo_q _ (ones_no m)
  have h3 : textT (34 :: (onesB m ++ [34])) = if 255 < m then (TokS.zero, 0, 7) else ({ TokS.zero with kind := 1, text := onesB m }, (34 :: (onesB m ++ [34])).length, 0) := by
    unfold textT; rw [h2]; simp only []; rw [hl]; rfl
  rw [lexR, if_neg (by simp [hl]; omega)]
  by_cases h : m ≤ 255
  · rw [if_neg (by omega)] at h3
    have hx : Lx 0 (34 :: (onesB m ++ [34])) _ none := Lx.tok (i := 0) (c := 34) (ts := []) (by decide) (by rw [h1, h3]) (by rw [h1, h3, List.drop_length]; exact .nil _)
    rw [if_pos h, hx.lexL _ _ (Nat.le_refl _)]; rfl
  · rw [if_pos (by omega)] at h3
    have hx := Lx.err (i := 0) (c := 34) (r := onesB m ++ [34]) (by decide) (by rw [h1, h3]; decide)
    rw [if_neg h, hx.lexL _ _ (Nat.le_refl _), h1, h3]; rfl
end Go.Proofs.YtnmbpmomilehoaaGreatDoor

namespace Go.Proofs.YtnmbpmomilehoaaGreatDoor
open Go.RowKit

theorem conv0 (w : World) (b c : Nat) : (convert 56 9 (.slice (some ⟨b, 0, none⟩) 0 c)).run Tryz.prog w = .ok (.string (mkB [])) w :=
  run_convert_bytes_arg (P := Tryz.prog) w 56 5 Tryz.underlying56 Tryz.underlying5 b 0 0 c [] rfl (fun i hi => by omega) 9 Tryz.underlying9
theorem u8Info2 : (Tryz.prog.info? 5).map (fun i => (i.zero, i.size, i.bytes)) = some (some (.int .u8 0), 1, 1) := by kernel_rfl
theorem lx_LexE (l : B) (E : Int) (w : World) (hs : l.length ≤ 1000000) (hE : (lexR l).2.2 = E) (hG : Glob w) : Calls Tryz.prog 8 #[.string (mkB l)] w fun e w' => Below w.heap.size w w' ∧ ∃ v x, e = .returned (.tuple #[v, .int .i64 x, .int .i64 E]) := by
  refine (lx_Lex l w hs hG).mono ?_
  rintro e w' ⟨hb, v, rfl, hT⟩
  exact ⟨hb, v, _, by rw [hE]⟩
set_option maxRecDepth 100000 in
set_option maxHeartbeats 3200000 in
theorem l5_LexLong (n : Nat) (hn : n < 65536) (w : World) (hG : Glob w) : Calls Tryz.prog 7 #[.int .u16 n] w fun e w' => e = .returned (.bool true) ∧ Below w.heap.size w w' := by
  obtain ⟨i0, hi, hz0, hz1, hz2⟩ := info_parts u8Info2
  have hms := mkB_size; have hma := mkB_append; have hmx := mkB_extract; have hmt := mkB_toList; have hmtl := subB_tail; have hmhd := subB_head
  have k1 : (⟨#[49, 32]⟩ : ByteArray) = mkB [49, 32] := rfl
  have k2 : (⟨#[34]⟩ : ByteArray) = mkB [34] := rfl
  have hcv := conv0
  obtain ⟨k, hk⟩ : ∃ k : Nat, k = n % 700 := ⟨_, rfl⟩
  have hk7 : k < 700 := by omega
  have hkn : (n : Int) % 700 = (k : Int) := by omega
  clear hk
  go_enter Tryz.func7, Tryz.ntmps7
  go_wp2_with (first | (at_make; refine wpList_make_own _ rfl _ _ 56 rfl w.heap.size 5 i0 (.int .u8 0) 1 Tryz.underlying56 hi hz0 hz1 _ _ _ k rfl rfl rfl (by rw [hz2]; omega) (by unfold maxLen; omega) (Nat.le_refl _) ?_; intro w1 hown1 hgrow1))
  clear hcv
  have hbW : Below w.heap.size w w1 := (Below.refl _ _).grown hgrow1 (Nat.le_refl _) (fun _ h => by cases h)
  go_loop [4] (fun s => ∃ i : Nat, 2 * i ≤ k + 1 ∧ s = .string (mkB (onesB (2 * i)))) (fun s => k + 1 - lenV s)
  case atStart => exact ⟨0, by omega, rfl⟩
  case round =>
    obtain ⟨i, hi, rfl⟩ := hrel
    have hol := ones_len (2 * i)
    by_cases hlt : 2 * i < k
    · have HM := Lib.hid (ones_more i)
      go_wp2
      go_round
      case rel => exact ⟨i + 1, by omega, by rw [← HM.out]⟩
      case measure => simp only [lenV_s, List.length_append]; simp; omega
    · have hot := ones_take (2 * i) k (by omega)
      have hge : k ≤ 2 * i := by omega
      have hlk := ones_len k
      obtain ⟨M, hM, hM1⟩ : ∃ M : Nat, M = min k 400 ∧ min (k : Int) 400 = (M : Int) := ⟨_, rfl, by omega⟩
      have hot2 := ones_take k M (by omega)
      have hM4 : M ≤ 400 := by omega
      have hlM := ones_len M
      have hA : (k ≤ 512 ∧ M ≤ 255) ∨ (k ≤ 512 ∧ 255 < M) ∨ (512 < k ∧ 255 < M) := by omega
      clear hM
      rcases hA with ⟨h1, h2⟩ | ⟨h1, h2⟩ | ⟨h1, h2⟩
      · have e1 := Lib.hid (show (lexR (onesB k)).2.2 = 0 by rw [lex_ones, if_pos (by omega)])
        have e2 := Lib.hid (show (lexR (34 :: (onesB M ++ [34]))).2.2 = 0 by rw [lex_quot M hM4, if_pos (by omega)])
        go_wp2_with (first | (go_at_call_of 8 (Value.string (mkB (onesB k))); refine (lx_LexE (onesB k) _ w1 (by rw [ones_len]; omega) e1.out (hG.below hbW)).mono ?_; rintro e w2 ⟨hb_w2, v2, x2, rfl⟩) | (go_at_call 8; refine (lx_LexE (34 :: (onesB M ++ [34])) _ w2 (by rw [List.length_cons, List.length_append, ones_len]; simp; omega) e2.out (hG.below (Bel.trans hbW hb_w2))).mono ?_; rintro e w3 ⟨hb_w3, v3, x3, rfl⟩) | (go_at_call 10; refine (l5_wakes w3 (hG.below (Bel.trans (Bel.trans hbW hb_w2) hb_w3))).mono ?_; rintro e w4 ⟨rfl, hb_w4⟩))
        go_ret
        exact ⟨ret_b (by first | rfl | (simp <;> omega)), (by repeat (first | exact Below.refl _ _ | assumption | apply bel_drew | apply bel_drewN | apply bel_alloc | (refine bel_set ?_ (by first | (simp; done) | omega) _) | (refine Bel.trans ?_ (by assumption))))⟩
      · have e1 := Lib.hid (show (lexR (onesB k)).2.2 = 0 by rw [lex_ones, if_pos (by omega)])
        have e2 := Lib.hid (show (lexR (34 :: (onesB M ++ [34]))).2.2 = 7 by rw [lex_quot M hM4, if_neg (by omega)])
        go_wp2_with (first | (go_at_call_of 8 (Value.string (mkB (onesB k))); refine (lx_LexE (onesB k) _ w1 (by rw [ones_len]; omega) e1.out (hG.below hbW)).mono ?_; rintro e w2 ⟨hb_w2, v2, x2, rfl⟩) | (go_at_call 8; refine (lx_LexE (34 :: (onesB M ++ [34])) _ w2 (by rw [List.length_cons, List.length_append, ones_len]; simp; omega) e2.out (hG.below (Bel.trans hbW hb_w2))).mono ?_; rintro e w3 ⟨hb_w3, v3, x3, rfl⟩) | (go_at_call 10; refine (l5_wakes w3 (hG.below (Bel.trans (Bel.trans hbW hb_w2) hb_w3))).mono ?_; rintro e w4 ⟨rfl, hb_w4⟩))
        go_ret
        exact ⟨ret_b (by first | rfl | (simp <;> omega)), (by repeat (first | exact Below.refl _ _ | assumption | apply bel_drew | apply bel_drewN | apply bel_alloc | (refine bel_set ?_ (by first | (simp; done) | omega) _) | (refine Bel.trans ?_ (by assumption))))⟩
      · have e1 := Lib.hid (show (lexR (onesB k)).2.2 = 7 by rw [lex_ones, if_neg (by omega)])
        have e2 := Lib.hid (show (lexR (34 :: (onesB M ++ [34]))).2.2 = 7 by rw [lex_quot M hM4, if_neg (by omega)])
        go_wp2_with (first | (go_at_call_of 8 (Value.string (mkB (onesB k))); refine (lx_LexE (onesB k) _ w1 (by rw [ones_len]; omega) e1.out (hG.below hbW)).mono ?_; rintro e w2 ⟨hb_w2, v2, x2, rfl⟩) | (go_at_call 8; refine (lx_LexE (34 :: (onesB M ++ [34])) _ w2 (by rw [List.length_cons, List.length_append, ones_len]; simp; omega) e2.out (hG.below (Bel.trans hbW hb_w2))).mono ?_; rintro e w3 ⟨hb_w3, v3, x3, rfl⟩) | (go_at_call 10; refine (l5_wakes w3 (hG.below (Bel.trans (Bel.trans hbW hb_w2) hb_w3))).mono ?_; rintro e w4 ⟨rfl, hb_w4⟩))
        go_ret
        exact ⟨ret_b (by first | rfl | (simp <;> omega)), (by repeat (first | exact Below.refl _ _ | assumption | apply bel_drew | apply bel_drewN | apply bel_alloc | (refine bel_set ?_ (by first | (simp; done) | omega) _) | (refine Bel.trans ?_ (by assumption))))⟩
end Go.Proofs.YtnmbpmomilehoaaGreatDoor

namespace Go.Proofs.YtnmbpmomilehoaaGreatDoor
open Go.RowKit

/-- a token without its place -/
def TokS.bareT (t : TokS) : TokS := { t with at_ := 0 }
/-- What is left of a slice of tokens from a place on, in a block between two marks that may be written. -/
def LeftT (w : World) (lo hi : Nat) (a : Option Addr) (ts : List TokS) (i : Nat) : Prop :=
  ∀ (i' : Nat) (h : i' < ts.length), i ≤ i' → ∃ b o, a = some ⟨b, o, none⟩ ∧ lo ≤ b ∧ b < hi ∧ hi ≤ w.heap.size ∧ (∀ j v, (ts[i']'h).cells[j]? = some v → w.cell? ⟨b, o + i' * 16 + j, none⟩ = some v) ∧ (∀ f, w.frozen? ⟨b, f, none⟩ = false)
theorem frozen_row {w : World} {g : Nat} {cs : Array Value} {t : TypeId} (h : w.heap[g]? = some (.cells cs t (0, 0))) (f : Nat) : w.frozen? ⟨g, f, none⟩ = false :=
  RecAt.free (cs := cs) (t := t) h f
theorem Toks.left {w : World} {B0 : Nat} {v : Value} {ts : List TokS} (h : Toks w B0 v ts) : ∃ a c, v = .slice a ts.length c ∧ TokR w a c ts ∧ LeftT w B0 w.heap.size a ts 0 ∧ (∀ p, a = some p → B0 ≤ p.block ∧ p.block < w.heap.size) := by
  obtain ⟨a, c, hv, hR, hge⟩ := h.read
  refine ⟨a, c, hv, hR, ?_, ?_⟩
  · intro i hi _
    obtain ⟨b, o, ha, hb, hc⟩ := hR.at_ i hi
    refine ⟨b, o, ha, hge _ ha, hb, Nat.le_refl _, hc, fun f => ?_⟩
    obtain ⟨_, h2⟩ := h
    rcases h2 with ⟨e, hn⟩ | ⟨g, cap, cur, e, hg, hh, _⟩
    · omega
    · rw [hv] at e
      cases e
      cases ha
      exact frozen_row hh f
  · intro p hp
    subst hp
    obtain ⟨_, h2⟩ := h
    rcases h2 with ⟨e, hn⟩ | ⟨g, cap, cur, e, hg, hh, _⟩
    · rw [hv] at e; cases e
    · rw [hv] at e
      cases e
      exact ⟨hg, (Array.getElem?_eq_some_iff.1 hh).1⟩
theorem LeftT.below {w w' : World} {lo hi : Nat} {a : Option Addr} {ts : List TokS} {i : Nat} (h : LeftT w lo hi a ts i) (hb : Below hi w w') : LeftT w' lo hi a ts i := by
  intro i' hi' hle
  obtain ⟨b, o, ha, h1, h2, h3, hc, hf⟩ := h i' hi' hle
  exact ⟨b, o, ha, h1, h2, Nat.le_trans h3 hb.size, fun j v hv => (hb.cell (p := ⟨b, o + i' * 16 + j, none⟩) h2).trans (hc j v hv), fun f => (hb.frozen (p := ⟨b, f, none⟩) h2).trans (hf f)⟩
theorem LeftT.step {w : World} {lo hi : Nat} {b o : Nat} {ts : List TokS} {i : Nat} (h : LeftT w lo hi (some ⟨b, o, none⟩) ts i) (f : Nat) (hf : f < o + i * 16 + 16) (x : Value) : LeftT (w.setCell ⟨b, f, none⟩ x) lo hi (some ⟨b, o, none⟩) ts (i + 1) := by
  intro i' hi' hle
  obtain ⟨b', o', ha, h1, h2, h3, hc, hfr⟩ := h i' hi' (by omega)
  cases ha
  refine ⟨b, o, rfl, h1, h2, by simpa using h3, fun j v hv => ?_, fun f => by rw [World.frozen?_setCell]; exact hfr f⟩
  rw [World.cell?_setCell_other _ _ _ _ (by intro e; have := congrArg Addr.off e; simp only [] at this; omega)]
  exact hc j v hv
theorem TokR.set {w : World} {a : Option Addr} {c : Nat} {ts : List TokS} (h : TokR w a c ts) (q : Addr) (hq : ∀ p, a = some p → q.block ≠ p.block) (x : Value) : TokR (w.setCell q x) a c ts := by
  refine ⟨h.cap, h.max, fun i hi => ?_⟩
  obtain ⟨b, o, ha, hb, hc⟩ := h.at_ i hi
  refine ⟨b, o, ha, by simpa using hb, fun j v hv => ?_⟩
  rw [World.cell?_setCell_other _ _ _ _ (by intro e; subst e; exact hq _ ha rfl)]
  exact hc j v hv
/-- a token whose place was written -/
theorem tok_up_cells {w : World} {b o : Nat} {t : TokS} {d : Int} (hc : ∀ j v, t.cells[j]? = some v → w.cell? ⟨b, o + j, none⟩ = some v) :
    ∀ j v, ({ t with at_ := d } : TokS).cells[j]? = some v → (w.setCell ⟨b, o + 15, none⟩ (.int .i64 d)).cell? ⟨b, o + j, none⟩ = some v := by
  intro j v hv
  have hj := (List.getElem?_eq_some_iff.1 hv).1
  rw [cells_len] at hj
  by_cases h15 : j = 15
  · subst h15
    have e : v = .int .i64 d := by
      have : ({ t with at_ := d } : TokS).cells[15]? = some (.int .i64 d) := rfl
      rw [this] at hv; exact (Option.some.inj hv).symm
    subst e
    exact World.cell?_setCell_same _ _ _ (hc 15 _ rfl)
  · rw [World.cell?_setCell_other _ _ _ _ (by intro e; have := congrArg Addr.off e; simp only [] at this; omega)]
    refine hc j v ?_
    rw [← hv]
    rcases (show j = 0 ∨ j = 1 ∨ j = 2 ∨ j = 3 ∨ j = 4 ∨ j = 5 ∨ j = 6 ∨ j = 7 ∨ j = 8 ∨ j = 9 ∨ j = 10 ∨ j = 11 ∨ j = 12 ∨ j = 13 ∨ j = 14 by omega) with rfl | rfl | rfl | rfl | rfl | rfl | rfl | rfl | rfl | rfl | rfl | rfl | rfl | rfl | rfl <;> rfl
theorem TokR.put {w : World} {b o c : Nat} {ts : List TokS} (h : TokR w (some ⟨b, o, none⟩) c ts) (i : Nat) (hi : i < ts.length) (d : Int) : TokR (w.setCell ⟨b, o + i * 16 + 15, none⟩ (.int .i64 d)) (some ⟨b, o, none⟩) c (ts.set i { ts[i] with at_ := d }) := by
  refine ⟨by rw [List.length_set]; exact h.cap, h.max, fun i' hi' => ?_⟩
  rw [List.length_set] at hi'
  obtain ⟨b', o', ha, hb, hc⟩ := h.at_ i' hi'
  cases ha
  refine ⟨b, o, rfl, by simpa using hb, fun j v hv => ?_⟩
  by_cases e : i = i'
  · subst e
    rw [List.getElem_set_self] at hv
    exact tok_up_cells (o := o + i * 16) hc j v hv
  · rw [List.getElem_set_ne e] at hv
    have hj := (List.getElem?_eq_some_iff.1 hv).1
    rw [cells_len] at hj
    rw [World.cell?_setCell_other _ _ _ _ (by intro e2; have := congrArg Addr.off e2; simp only [] at this; omega)]
    exact hc j v hv
theorem mix_step {L M : List TokS} {i : Nat} (hl : M.length = L.length) (hi : i < L.length) (hb : M.map TokS.bareT = L.map TokS.bareT) (h2 : i < (L.take i ++ M.drop i).length) :
    (L.take i ++ M.drop i).set i { (L.take i ++ M.drop i)[i] with at_ := L[i].at_ } = L.take (i + 1) ++ M.drop (i + 1) := by
  have hti : (L.take i).length = i := by rw [List.length_take]; omega
  have hget : (L.take i ++ M.drop i)[i] = M[i]'(by omega) := by
    rw [List.getElem_append_right (by omega)]
    simp only [hti, Nat.sub_self, List.getElem_drop, Nat.add_zero]
  have hbi : (M[i]'(by omega)).bareT = (L[i]).bareT := by
    have := congrArg (·[i]?) hb
    simp only [List.getElem?_map, List.getElem?_eq_getElem hi, List.getElem?_eq_getElem (show i < M.length by omega), Option.map_some, Option.some.injEq] at this
    exact this
  have hnew : ({ (L.take i ++ M.drop i)[i] with at_ := L[i].at_ } : TokS) = L[i] := by
    rw [hget]
    have h3 := congrArg (fun t : TokS => ({ t with at_ := L[i].at_ } : TokS)) hbi
    exact h3
  rw [hnew, List.set_append_right _ _ (by omega), hti, Nat.sub_self, List.drop_eq_getElem_cons (show i < M.length by omega), List.set_cons_zero, List.take_succ_eq_append_getElem hi, List.append_assoc]
  rfl
theorem TokR.drop {w : World} {b o c : Nat} {ts : List TokS} (h : TokR w (some ⟨b, o, none⟩) c ts) (k : Nat) : TokR w (some ⟨b, o + k * 16, none⟩) (c - k) (ts.drop k) := by
  refine ⟨by rw [List.length_drop]; have := h.cap; omega, by have := h.max; omega, fun i hi => ?_⟩
  rw [List.length_drop] at hi
  obtain ⟨b', o', ha, hb, hc⟩ := h.at_ (k + i) (by omega)
  cases ha
  refine ⟨b, o + k * 16, rfl, hb, fun j v hv => ?_⟩
  rw [List.getElem_drop] at hv
  have := hc j v hv
  rw [show o + (k + i) * 16 + j = o + k * 16 + i * 16 + j by rw [Nat.add_mul]; omega] at this
  exact this
theorem TokR.none {w : World} (a : Option Addr) (c : Nat) (hc : c ≤ maxLen) : TokR w a c [] := ⟨Nat.zero_le _, hc, fun i hi => by simp at hi⟩
end Go.Proofs.YtnmbpmomilehoaaGreatDoor

namespace Go.Proofs.YtnmbpmomilehoaaGreatDoor

def TokS.fits (t : TokS) (n : Nat) : Prop := t.text.length ≤ n ∧ t.ref.book.length ≤ n ∧ t.ref.sheet.length ≤ n
theorem TokS.fits.le {t : TokS} {n m : Nat} (h : t.fits n) (hm : n ≤ m) : t.fits m := ⟨by have := h.1; omega, by have := h.2.1; omega, by have := h.2.2; omega⟩
theorem zero_fits (n : Nat) : TokS.zero.fits n := ⟨Nat.zero_le _, Nat.zero_le _, Nat.zero_le _⟩
theorem textGo_blen (n : Nat) : ∀ (q b r : B), q.length ≤ n → textGo q = some (b, r) → b.length ≤ q.length := by
  induction n with
  | zero =>
    intro q b r hq h
    cases q with
    | nil => simp [textGo] at h
    | cons c t => simp at hq
  | succ n ih =>
    intro q b r hq h
    match q with
    | [] => simp [textGo] at h
    | [c] =>
      simp only [textGo] at h
      split at h
      · simp only [Option.some.injEq, Prod.mk.injEq] at h
        obtain ⟨rfl, _⟩ := h
        simp
      · cases h
    | c :: d :: t =>
      simp only [textGo] at h
      simp only [List.length_cons] at hq ⊢
      split at h
      · split at h
        · cases ht : textGo t with
          | none => simp [ht] at h
          | some p =>
            simp only [ht, Option.map_some, Option.some.injEq, Prod.mk.injEq] at h
            obtain ⟨rfl, _⟩ := h
            have := ih t p.1 p.2 (by omega) ht
            simp; omega
        · simp only [Option.some.injEq, Prod.mk.injEq] at h
          obtain ⟨rfl, _⟩ := h
          simp
      · cases ht : textGo (d :: t) with
        | none => simp [ht] at h
        | some p =>
          simp only [ht, Option.map_some, Option.some.injEq, Prod.mk.injEq] at h
          obtain ⟨rfl, _⟩ := h
          have := ih (d :: t) p.1 p.2 (by simp; omega) ht
          simp only [List.length_cons] at this ⊢
          omega
theorem textT_fits (l : B) : (textT l).1.fits l.length := by
  unfold textT
  cases ht : textGo (l.drop 1) with
  | none => exact zero_fits _
  | some p =>
    simp only []
    split
    · exact zero_fits _
    · refine ⟨?_, Nat.zero_le _, Nat.zero_le _⟩
      have := textGo_blen _ _ p.1 p.2 (Nat.le_refl _) ht
      rw [List.length_drop] at this
      show p.1.length ≤ l.length
      omega
theorem failGo_fits (l : B) (fs : List Nat) (n : Nat) : (failGo l fs).1.fits n := by
  induction fs with
  | nil => exact zero_fits _
  | cons f r ih =>
    rw [failGo]
    split
    · exact zero_fits _
    · exact ih
theorem cellsR_fits (book sheet l : B) (n : Nat) (h1 : book.length ≤ n) (h2 : sheet.length ≤ n) : (cellsR book sheet l).1.book.length ≤ n ∧ (cellsR book sheet l).1.sheet.length ≤ n := by
  have hz : FullS.zero.book.length ≤ n ∧ FullS.zero.sheet.length ≤ n := ⟨Nat.zero_le _, Nat.zero_le _⟩
  unfold cellsR
  split
  · split
    · split
      · exact ⟨h1, h2⟩
      · exact hz
    · exact hz
  · split
    · split
      · split
        · split
          · exact ⟨h1, h2⟩
          · exact hz
        · exact hz
      · exact hz
    · exact hz
theorem full4_fits (l : B) : (full4 l).1.book.length ≤ l.length ∧ (full4 l).1.sheet.length ≤ l.length := by
  have hz : FullS.zero.book.length ≤ l.length ∧ FullS.zero.sheet.length ≤ l.length := ⟨Nat.zero_le _, Nat.zero_le _⟩
  unfold full4
  cases hb : bookR l with
  | none => exact hz
  | some p =>
    obtain ⟨book, r⟩ := p
    have hp : book.length ≤ l.length ∧ r.length ≤ l.length := by
      unfold bookR at hb
      split at hb
      · split at hb
        · cases hb
        · split at hb
          · cases hb
            simp only [subB, List.length_take, List.length_drop]
            omega
          · cases hb
      · cases hb
        exact ⟨Nat.zero_le _, Nat.le_refl _⟩
    simp only []
    cases hs : sheetR r with
    | none => exact hz
    | some q =>
      obtain ⟨sheet, r2⟩ := q
      have hq : sheet.length ≤ r.length := by
        unfold sheetR at hs
        split at hs
        · cases hs; exact Nat.zero_le _
        · split at hs
          · cases hs
            simp only [List.length_take]
            omega
          · cases hs
      simp only []
      split
      · exact hz
      · exact cellsR_fits _ _ _ _ hp.1 (by omega)
theorem nameT_fits (l : B) : (nameT l).1.fits l.length := by
  unfold nameT
  simp only []
  have ht : (l.take (spanK goC l)).length ≤ l.length := by rw [List.length_take]; omega
  have hu : (upB (l.take (spanK goC l))).length ≤ l.length := by unfold upB; rw [List.length_map]; exact ht
  have hf := full4_fits (l.take (spanK goC l))
  repeat' split
  · exact ⟨hu, Nat.zero_le _, Nat.zero_le _⟩
  · exact ⟨Nat.zero_le _, by have := hf.1; exact Nat.le_trans this ht, by have := hf.2; exact Nat.le_trans this ht⟩
  · exact zero_fits _
  · exact ⟨hu, Nat.zero_le _, Nat.zero_le _⟩
  · exact zero_fits _
theorem oneT_fits (l : B) : (oneT l).1.fits l.length := by
  unfold oneT
  split
  · exact zero_fits _
  · rename_i b r
    repeat' split
    · exact zero_fits _
    · exact textT_fits _
    · exact failGo_fits _ _ _
    · exact nameT_fits _
    · exact ⟨by show (List.take _ _).length ≤ _; rw [List.length_take]; omega, Nat.zero_le _, Nat.zero_le _⟩
    · exact zero_fits _
    · exact zero_fits _
    · exact zero_fits _
    · exact zero_fits _
/-- the tokens of a text are no longer than it, and lie in it -/
theorem Lx.bounds {i : Nat} {l : B} {ts : List TokS} {o : Option (Nat × Int)} (h : Lx i l ts o) : ts.length ≤ l.length ∧ ∀ t ∈ ts, t.fits l.length ∧ (i : Int) ≤ t.at_ ∧ t.at_ ≤ i + l.length := by
  induction h with
  | nil i => exact ⟨Nat.zero_le _, fun t ht => by cases ht⟩
  | @sp i r ts o _ ih =>
    refine ⟨by have := ih.1; simp; omega, fun t ht => ?_⟩
    obtain ⟨h1, h2, h3⟩ := ih.2 t ht
    exact ⟨h1.le (by simp), by omega, by simp; omega⟩
  | @tok i c r ts o hc he _ ih =>
    have hp := oneT_pos c r he
    have hle := oneT_le c r he
    have hl := ih.1
    rw [List.length_drop] at hl
    refine ⟨by rw [List.length_cons]; simp only [List.length_cons] at hl hle ⊢; omega, fun t ht => ?_⟩
    rcases List.mem_cons.1 ht with rfl | ht
    · have := oneT_fits (c :: r)
      exact ⟨this, Int.le_refl _, by show (i : Int) ≤ _; omega⟩
    · obtain ⟨h1, h2, h3⟩ := ih.2 t ht
      rw [List.length_drop] at h1 h3
      exact ⟨h1.le (by omega), by omega, by omega⟩
  | err hc he => exact ⟨Nat.zero_le _, fun t ht => by cases ht⟩
theorem lexR_bounds (l : B) : (lexR l).1.length ≤ l.length ∧ ∀ t ∈ (lexR l).1, t.fits l.length ∧ 0 ≤ t.at_ ∧ t.at_ ≤ l.length := by
  by_cases hl : l.length ≤ 512
  · obtain ⟨ts, o, h, _⟩ := Lx_total _ l 0 (Nat.le_refl _)
    have hb := h.bounds
    rw [h.lexR hl]
    cases o with
    | none => exact ⟨hb.1, fun t ht => by have := hb.2 t ht; exact ⟨this.1, by have := this.2.1; omega, by have := this.2.2; omega⟩⟩
    | some q => exact ⟨Nat.zero_le _, fun t ht => by cases ht⟩
  · rw [Go.Proofs.YtnmbpmomilehoaaGreatDoor.lexR, if_pos (by omega)]
    exact ⟨Nat.zero_le _, fun t ht => by cases ht⟩
theorem Lx.err_at {i : Nat} {l : B} {ts : List TokS} {o : Option (Nat × Int)} (h : Lx i l ts o) : ∀ q, o = some q → i ≤ q.1 ∧ q.1 ≤ i + l.length := by
  induction h with
  | nil i => intro q e; cases e
  | sp _ ih => intro q e; have := ih q e; simp; omega
  | @tok i c r ts o hc he _ ih =>
    intro q e
    have := ih q e
    have h3 := oneT_le c r he
    rw [List.length_drop] at this
    omega
  | err hc he => intro q e; cases e; simp
/-- where a text fails, and that it has no tokens then -/
theorem lexR_err (l : B) (h : (lexR l).2.2 ≠ 0) : (lexR l).1 = [] ∧ 0 ≤ (lexR l).2.1 ∧ (lexR l).2.1 ≤ l.length := by
  by_cases hl : l.length ≤ 512
  · obtain ⟨ts, o, hx, _⟩ := Lx_total _ l 0 (Nat.le_refl _)
    have he := hx.err_at
    rw [hx.lexR hl] at h ⊢
    cases o with
    | none => exact absurd rfl h
    | some q =>
      have := he q rfl
      exact ⟨rfl, by show (0 : Int) ≤ (q.1 : Int); omega, by show (q.1 : Int) ≤ _; omega⟩
  · rw [Go.Proofs.YtnmbpmomilehoaaGreatDoor.lexR, if_pos (by omega)]
    exact ⟨rfl, Int.le_refl _, by show (0 : Int) ≤ _; omega⟩
theorem lexR_ok (l : B) (h : (lexR l).2.2 = 0) : (lexR l).2.1 = 0 := by
  by_cases hl : l.length ≤ 512
  · obtain ⟨ts, o, hx, he⟩ := Lx_total _ l 0 (Nat.le_refl _)
    rw [hx.lexR hl] at h ⊢
    cases o with
    | none => rfl
    | some q =>
      obtain ⟨p, hp, hp2⟩ := he (by simp)
      cases hp
      exact absurd h hp2
  · rw [Go.Proofs.YtnmbpmomilehoaaGreatDoor.lexR, if_pos (by omega)] at h
    simp at h
theorem textP_len (a : Int) : (textP a).length ≤ 50 := by
  unfold textP
  cases hok : okN a with
  | false => simp
  | true =>
    have hb : -9000000000000000000 ≤ a ∧ a ≤ 9000000000000000000 := of_decide_eq_true hok
    have h1 := decR_lens (a.natAbs / 10000) (by omega)
    have h2 := decR_lens (10000 + a.natAbs % 10000) (by omega)
    have h3 := trimR_len ((decR (10000 + a.natAbs % 10000)).drop 1) 48
    rw [List.length_drop] at h3
    rw [if_pos rfl]
    simp only [List.length_append]
    split <;> split <;> simp only [List.length_cons, List.length_nil, List.length_append] <;> omega
theorem textR_len (f : FullS) : (textR f).length ≤ f.book.length + f.sheet.length + 30 := by
  have h1 := refTextL f.a
  have h2 := refTextL f.b
  unfold textR
  split
  · simp only [List.length_append]
    repeat' split
    all_goals (simp only [List.length_append, List.length_cons, List.length_nil]; omega)
  · simp
theorem signs_le (f : Int) : (signsB f).length ≤ 8 := by
  unfold signsB
  repeat' split
  all_goals simp
theorem showT_len {t : TokS} {n : Nat} (h : t.fits n) : (showT t).length ≤ 2 * n + 60 := by
  have h1 := quoteB_len t.text
  have h2 := textP_len t.num
  have h3 := textR_len t.ref
  have h4 := signs_le t.fail
  obtain ⟨a, b, c⟩ := h
  rw [text_eq] at h2
  unfold showT
  repeat' split
  all_goals (try simp only [List.length_append, List.length_cons, List.length_nil])
  all_goals omega
theorem joinT_len (ts : List TokS) (n : Nat) (h : ∀ t ∈ ts, t.fits n) : (joinT ts).length ≤ ts.length * (2 * n + 61) := by
  induction ts with
  | nil => simp [joinT]
  | cons t r ih =>
    have h1 := showT_len (h t List.mem_cons_self)
    have h2 := ih (fun u hu => h u (List.mem_cons_of_mem _ hu))
    cases r with
    | nil => simp only [joinT, List.length_cons, List.length_nil]; omega
    | cons u q =>
      rw [joinT, List.length_append, List.length_cons, show (t :: u :: q).length = (u :: q).length + 1 from rfl, Nat.succ_mul]
      omega
theorem fits_small {t : TokS} {n : Nat} (h : t.fits n) (hn : n ≤ 1000000) : t.small := ⟨by have := h.1; omega, by have := h.2.1; omega, by have := h.2.2; omega⟩
end Go.Proofs.YtnmbpmomilehoaaGreatDoor
