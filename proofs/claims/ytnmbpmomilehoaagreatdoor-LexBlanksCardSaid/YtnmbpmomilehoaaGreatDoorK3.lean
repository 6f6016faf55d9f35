/-
  Part 3 of what the proof stands on: C, Byt, Lb, P1, P2, P5, Rec, P5b, P4, P6.
-/
import Derived.Test.YtnmbpmomilehoaaGreatDoorProg
import Derived.WalkKit
import Derived.Laws.Rows
import Derived.BigQuiet
import Derived.Deep.QuietTactic
import Derived.WalkLawsBesides
import Derived.WalkSmall
import Derived.Lib.Hide
import Derived.Laws.BytesArg
import Derived.Laws.Concat
import Derived.Lib.ConvBytes
import Derived.Deep.LoopGhost
import Derived.Test.YtnmbpmomilehoaaGreatDoorSh
import Derived.Lib.OthersKept
import Derived.Deep.RegionWith
import Derived.Laws.Tables
import Derived.Laws.Cells
import Derived.Laws.CopyOwn
import Derived.Deep.WholeRow
import Derived.Deep.DeepCutAuto
import Derived.Deep.CutBlock
import Derived.Test.YtnmbpmomilehoaaGreatDoorK1
namespace Go.Proofs.YtnmbpmomilehoaaGreatDoor
open Go.RowKit

theorem ret_b {a b : Bool} (h : a = b) : Ending.returned (.bool a) = .returned (.bool b) := by rw [h]
theorem ret_i {k : IntKind} {a b : Int} (h : a = b) : Ending.returned (.int k a) = .returned (.int k b) := by rw [h]
theorem ret_s {a b : ByteArray} (h : a = b) : Ending.returned (.string a) = .returned (.string b) := by rw [h]
theorem ret_v {a b : Value} (h : a = b) : Ending.returned a = .returned b := by rw [h]
theorem vb {a b : Bool} (h : a = b) : Value.bool a = .bool b := by rw [h]
theorem vi {k : IntKind} {a b : Int} (h : a = b) : Value.int k a = .int k b := by rw [h]
theorem vs {a b : ByteArray} (h : a = b) : Value.string a = .string b := by rw [h]
theorem ret2 {a b c d : Value} (h : a = c) (h2 : b = d) : Ending.returned (.tuple #[a, b]) = .returned (.tuple #[c, d]) := by rw [h, h2]
theorem ret3 {a b c a' b' c' : Value} (h : a = a') (h2 : b = b') (h3 : c = c') : Ending.returned (.tuple #[a, b, c]) = .returned (.tuple #[a', b', c']) := by rw [h, h2, h3]
theorem Bel.trans {w a b : World} (h : Below w.heap.size w a) (k : Below a.heap.size a b) : Below w.heap.size w b := h.trans (k.mono h.size)
theorem bel_alloc {w a : World} (h : Below w.heap.size w a) (o : Obj) : Below w.heap.size w (a.alloc o) := h.alloc h.size o
theorem bel_drew {w a : World} (h : Below w.heap.size w a) : Below w.heap.size w a.drew := h.drew
theorem bel_drewN {w a : World} (h : Below w.heap.size w a) (n : Nat) : Below w.heap.size w (a.drewN n) := below_drewN h n
theorem bel_set {w a : World} (h : Below w.heap.size w a) {p : Addr} (hp : w.heap.size ≤ p.block) (u : Value) : Below w.heap.size w (a.setCell p u) := h.setCell hp u
theorem bcell {W w1 : World} (hb : Below W.heap.size W w1) : (∀ b o, b < W.heap.size → w1.cell? ⟨b, o, none⟩ = W.cell? ⟨b, o, none⟩) ∧ (∀ b o, b < W.heap.size → w1.frozen? ⟨b, o, none⟩ = W.frozen? ⟨b, o, none⟩) :=
  ⟨fun b o h => hb.cell (p := ⟨b, o, none⟩) h, fun b o h => hb.frozen (p := ⟨b, o, none⟩) h⟩
/-- 'string([]byte{x})': the one byte. -/
theorem conv1 (w : World) (b : Nat) (x : Int) (hb : b = w.heap.size) : (convert 56 9 (.slice (some ⟨b, 0, none⟩) 1 1)).run Tryz.prog (w.alloc (.cells #[.int .u8 x] 5)) = .ok (.string (mkB [u8 x])) (w.alloc (.cells #[.int .u8 x] 5)) := by
  subst hb
  exact run_convert_bytes_arg (P := Tryz.prog) (w.alloc (.cells #[.int .u8 x] 5)) 56 5 Tryz.underlying56 Tryz.underlying5 w.heap.size 0 1 1 [x] rfl (fun i hi => by
    obtain rfl : i = 0 := by omega
    simp) 9 Tryz.underlying9
end Go.Proofs.YtnmbpmomilehoaaGreatDoor

namespace Go.Proofs.YtnmbpmomilehoaaGreatDoor
open Go.RowKit

/-- A row of bytes of the call's own: block g, from its head. -/
structure BytesAt (w : World) (g n : Nat) (l : B) : Prop where
  len : l.length = n
  lt : g < w.heap.size
  at_ : ∀ i, i < n → w.cell? ⟨g, i, none⟩ = some (.int .u8 (l.getD i 0).toNat)
  free : ∀ i, i < n → w.frozen? ⟨g, i, none⟩ = false
theorem BytesAt.new (w : World) (l : B) : BytesAt (Lib.bytesWorld w 5 (mkB l)) w.heap.size l.length l := by
  refine ⟨rfl, by rw [Lib.bytesWorld_size]; omega, fun i hi => ?_, fun i hi => ?_⟩
  · rw [Lib.bytesWorld_cell w _ _ i (by rw [mkB_size]; exact hi), mkB_data]
  · have : l.length ≤ (Lib.bytesCells w 5 (mkB l)).size := by
      simp only [Lib.bytesCells, Array.size_append, Array.size_map]
      have : (mkB l).data.size = l.length := by simp [mkB]
      omega
    simp only [World.frozen?, Lib.bytesWorld_at_new]
    simp; omega
theorem BytesAt.set {w : World} {g n : Nat} {l : B} (h : BytesAt w g n l) (i : Nat) (hi : i < n) (c : UInt8) : BytesAt (w.setCell ⟨g, i, none⟩ (.int .u8 c.toNat)) g n (l.set i c) := by
  refine ⟨by rw [List.length_set]; exact h.len, by simpa using h.lt, fun j hj => ?_, fun j hj => by rw [World.frozen?_setCell]; exact h.free j hj⟩
  by_cases e : i = j
  · subst e
    rw [World.cell?_setCell_same _ _ _ (h.at_ i hi), List.getD_eq_getElem?_getD, List.getElem?_set_self (by rw [h.len]; exact hi)]; rfl
  · rw [World.cell?_setCell_other _ _ _ _ (by simp), h.at_ j hj, List.getD_eq_getElem?_getD, List.getD_eq_getElem?_getD, List.getElem?_set_ne e]
theorem bel_bytes (w : World) (s : ByteArray) (e : TypeId) : Below w.heap.size w (Lib.bytesWorld w e s) :=
  ⟨by simp [Lib.bytesWorld, World.freeze, World.alloc, World.drew, -World.alloc_eq, -World.drew_eq], by simp [Lib.bytesWorld, World.freeze, World.alloc, World.drew, -World.alloc_eq, -World.drew_eq],
   by simp [Lib.bytesWorld, World.freeze, World.alloc, World.drew, -World.alloc_eq, -World.drew_eq], by rw [Lib.bytesWorld_size]; omega, fun k hk => Lib.bytesWorld_at_old w e s k hk⟩
theorem strNums_mkB (l : B) : strOfNums (l.map fun b => ((b.toNat : Nat) : Int)) = mkB l := by
  unfold strOfNums mkB
  rw [List.map_map]
  have : l.map ((fun n : Int => UInt8.ofNat n.toNat) ∘ fun b : UInt8 => ((b.toNat : Nat) : Int)) = l.map id := List.map_congr_left (fun b _ => by simp)
  rw [this, List.map_id]
/-- 'string(b)' of such a row. -/
theorem BytesAt.conv {w : World} {g n c : Nat} {l : B} (h : BytesAt w g n l) : (convert 56 9 (.slice (some ⟨g, 0, none⟩) n c)).run Tryz.prog w = .ok (.string (mkB l)) w := by
  have := run_convert_bytes_arg (P := Tryz.prog) w 56 5 Tryz.underlying56 Tryz.underlying5 g 0 n c (l.map fun b => ((b.toNat : Nat) : Int)) (by rw [List.length_map]; exact h.len) (fun i hi => by
    rw [Nat.zero_add, h.at_ i hi, List.getD_eq_getElem?_getD, List.getD_eq_getElem?_getD, List.getElem?_map, List.getElem?_eq_getElem (by rw [h.len]; exact hi)]; rfl) 9 Tryz.underlying9
  rw [this, strNums_mkB]

theorem upB_len (l : B) : (upB l).length = l.length := by simp [upB]
theorem upB_take_len (l : B) (k : Nat) (h : k ≤ l.length) : (upB (l.take k)).length = k := by rw [upB_len, List.length_take, Nat.min_eq_left h]
theorem upB_get (l : B) (k : Nat) (h : k < l.length) : (upB (l.take k) ++ l.drop k).getD k 0 = l[k] := by
  have e := upB_take_len l k (by omega)
  rw [List.getD_eq_getElem?_getD, List.getElem?_append_right (by omega), e, Nat.sub_self, drop_cons l k h]; rfl
theorem upB_take (l : B) (k : Nat) (h : k < l.length) : upB (l.take (k + 1)) = upB (l.take k) ++ [upC l[k]] := by
  rw [List.take_succ_eq_append_getElem h]; unfold upB; rw [List.map_append]; rfl
theorem upB_set (l : B) (k : Nat) (h : k < l.length) (c : UInt8) : (upB (l.take k) ++ l.drop k).set k c = upB (l.take k) ++ [c] ++ l.drop (k + 1) := by
  have e := upB_take_len l k (by omega)
  rw [drop_cons l k h, List.set_append_right _ _ (by omega), e, Nat.sub_self, List.append_assoc]; rfl
end Go.Proofs.YtnmbpmomilehoaaGreatDoor

namespace Go.Proofs.YtnmbpmomilehoaaGreatDoor
open Go.RowKit

/-- What the program's package-level variables hold. -/
structure Glob (w : World) : Prop where
  maxl : ∃ m, w.cell? ⟨1, 0, none⟩ = some (.int .i64 m)
  sig : ∀ i : Nat, i < 9 → w.cell? ⟨0, i, none⟩ = some (.string (mkB (signsB i)))
  pow : Lib.TabIs Tryz.prog w "internal/strconv.uint64pow10" .u64 Lib.pow10Tab
theorem Glob.below {w w' : World} (h : Glob w) (hb : Below w.heap.size w w') : Glob w' := by
  refine ⟨?_, fun i hi => ?_, Joins.tab_stays (g := 2) (by kernel_rfl) h.pow hb (Nat.le_refl _)⟩
  · obtain ⟨m, hm⟩ := h.maxl
    exact ⟨m, (hb.cell (p := ⟨1, 0, none⟩) (World.block_lt_of_cell? _ _ hm)).trans hm⟩
  · exact (hb.cell (p := ⟨0, i, none⟩) (World.block_lt_of_cell? _ _ (h.sig i hi))).trans (h.sig i hi)
theorem bel_drewN0 (w : World) (n : Nat) : Below w.heap.size w (w.drewN n) := below_drewN (Below.refl _ _) n

theorem s_CutPrefix (l p : B) (w : World) : Calls Tryz.prog 64 #[.string (mkB l), .string (mkB p)] w fun e w' => e = .returned (.tuple #[.string (mkB (Lib.trimPrefix l p)), .bool (Lib.hasPrefix l p)]) ∧ w = w' := by
  refine (Tryz.strings_CutPrefix (mkB l) (mkB p) w).mono ?_
  rintro e w' ⟨rfl, rfl⟩
  simp only [mkB_data]
  exact ⟨rfl, trivial⟩
theorem s_HasPrefix (l p : B) (w : World) : Calls Tryz.prog 66 #[.string (mkB l), .string (mkB p)] w fun e w' => e = .returned (.bool (p.isPrefixOf l)) ∧ w = w' := by
  refine (Tryz.strings_HasPrefix (mkB l) (mkB p) w).mono ?_
  rintro e w' ⟨rfl, rfl⟩
  simp only [mkB_data]
  exact ⟨rfl, trivial⟩
theorem index_one (l : B) (c : UInt8) : Lib.index l [c] = match idxB l c with | none => -1 | some i => (i : Int) := by
  induction l with
  | nil => rfl
  | cons d r ih =>
    rw [Lib.index, idxB, ih]
    by_cases h : d = c
    · subst h; simp
    · have h2 : ¬ c = d := fun e => h e.symm
      rw [if_neg h]
      cases idxB r c with
      | none => simp [h2]
      | some i => simp [h2] <;> omega
theorem cut_one (l : B) (c : UInt8) : Lib.cut l [c] = cutAt l c := by
  unfold Lib.cut cutAt
  rw [index_one]
  cases idxB l c with
  | none => rfl
  | some i => simp
theorem s_Cut (l : B) (c : UInt8) (w : World) (hs : l.length ≤ 1000000) (hG : Glob w) : Calls Tryz.prog 63 #[.string (mkB l), .string (mkB [c])] w fun e w' => e = .returned (.tuple #[.string (mkB (cutAt l c).1), .string (mkB (cutAt l c).2.1), .bool (cutAt l c).2.2]) ∧ Below w.heap.size w w' := by
  obtain ⟨m, hm⟩ := hG.maxl
  refine (Tryz.strings_Cut (mkB l) (mkB [c]) m w (by rw [mkB_size]; omega) hm).mono ?_
  rintro e w' ⟨rfl, n, rfl⟩
  simp only [mkB_data, cut_one]
  exact ⟨rfl, bel_drewN0 w n⟩
theorem indexByte_has (l : B) (c : UInt8) : decide (0 ≤ Lib.indexByte l c) = hasB l c := by
  induction l with
  | nil => rfl
  | cons d r ih =>
    rw [Lib.indexByte, hasB, ← ih]
    by_cases h : d = c
    · subst h; simp
    · have := Lib.indexByte_ge r c
      rw [if_neg h, if_neg (by simpa using h)]
      by_cases h2 : Lib.indexByte r c = -1
      · rw [if_pos (by simpa using h2), h2]
      · rw [if_neg (by simpa using h2)]
        rw [Bool.eq_iff_iff]; simp only [decide_eq_true_eq]; omega
theorem s_Contains1 (l : B) (c : UInt8) (w : World) : Calls Tryz.prog 31 #[.string (mkB l), .string (mkB [c])] w fun e w' => e = .returned (.bool (hasB l c)) ∧ w = w' := by
  refine (Tryz.strings_Contains_one (mkB l) c w).mono ?_
  rintro e w' ⟨rfl, rfl⟩
  simp only [mkB_data, indexByte_has]
  exact ⟨trivial, trivial⟩
theorem s_TrimLeft1 (l : B) (c : UInt8) (hc : c.toNat < 128) (w : World) : Calls Tryz.prog 69 #[.string (mkB l), .string (mkB [c])] w fun e w' => e = .returned (.string (mkB (Lib.trimLeftB l c))) ∧ w = w' := by
  refine (Tryz.strings_TrimLeft_one (mkB l) c hc w).mono ?_
  rintro e w' ⟨rfl, rfl⟩
  simp only [mkB_data]
  exact ⟨rfl, trivial⟩
theorem s_TrimRight1 (l : B) (c : UInt8) (hc : c.toNat < 128) (w : World) (hs : l.length ≤ 1000000) : Calls Tryz.prog 54 #[.string (mkB l), .string (mkB [c])] w fun e w' => e = .returned (.string (mkB (Lib.trimRightB l c))) ∧ w = w' := by
  refine (Tryz.strings_TrimRight_one (mkB l) c hc w (by rw [mkB_size]; omega)).mono ?_
  rintro e w' ⟨rfl, rfl⟩
  simp only [mkB_data]
  exact ⟨rfl, trivial⟩
theorem s_Atoi (l : B) (n : Int) (hl : l.length ≤ 18) (h : Lib.atoi l = some n) (w : World) : Calls Tryz.prog 140 #[.string (mkB l)] w fun e w' => e = .returned (.tuple #[.int .i64 n, .nilIface]) ∧ Below w.heap.size w w' := by
  refine (Tryz.strconv_Atoi (mkB l) n (by rw [mkB_size]; exact hl) (by rw [mkB_data]; exact h) w).mono ?_
  rintro e w' ⟨rfl, t, rfl⟩
  exact ⟨rfl, bel_bytes w t _⟩
theorem s_ParseUint (l : B) (u : Nat) (hl : l.length ≤ 1000000) (h : Lib.parseUintB 64 l = .ok u) (w : World) : Calls Tryz.prog 96 #[.string (mkB l), .int .i64 10, .int .i64 64] w fun e w' => e = .returned (.tuple #[.int .u64 u, .nilIface]) ∧ Below w.heap.size w w' := by
  refine (Tryz.strconv_ParseUint_10_at64_ok (mkB l) (by rw [mkB_size]; omega) u (by rw [mkB_data]; exact h) w).mono ?_
  rintro e w' ⟨rfl, rfl | rfl⟩
  · exact ⟨rfl, Below.refl _ _⟩
  · exact ⟨rfl, bel_bytes w _ _⟩
end Go.Proofs.YtnmbpmomilehoaaGreatDoor

namespace Go.Proofs.YtnmbpmomilehoaaGreatDoor
open Go.RowKit

/-- does a number stand among bytes? -/
def hasN (l : B) (n : Nat) : Bool := l.any fun d => decide (n = d.toNat)
theorem hasN_take (l : B) (k n : Nat) (h : k < l.length) : hasN (l.take (k + 1)) n = (hasN (l.take k) n || decide (n = (l[k]).toNat)) := by
  unfold hasN; rw [List.take_succ_eq_append_getElem h, List.any_append]; simp
theorem hasN_byte (l : B) (c : UInt8) : hasN l c.toNat = hasB l c := by
  induction l with
  | nil => rfl
  | cons d r ih =>
    rw [hasB, ← ih]
    by_cases h : d = c
    · subst h; simp [hasN]
    · rw [if_neg h]
      have : ¬ c.toNat = d.toNat := fun e => h (UInt8.toNat_inj.1 e.symm)
      simp [hasN, this]
theorem hasN_high (l : B) (n : Nat) (hl : ∀ c ∈ l, c.toNat < 128) (hn : 128 ≤ n) : hasN l n = false := by
  unfold hasN
  rw [List.any_eq_false]
  intro d hd
  have := hl d hd
  simp; omega
theorem hasB_high (l : B) (c : UInt8) (hl : ∀ c ∈ l, c.toNat < 128) (hn : 128 ≤ c.toNat) : hasB l c = false := by rw [← hasN_byte, hasN_high l _ hl hn]
def cutB (set : B) : B → B
  | [] => []
  | c :: r => if hasB set c = true then cutB set r else c :: r
theorem cutB_eq (set l : B) : cutB set l = l.drop (spanK (hasB set) l) := by
  induction l with
  | nil => rfl
  | cons c r ih => rw [cutB, spanK]; split <;> simp_all
theorem dec_at (l : B) (p : Nat) (h : p < l.length) (hc : (l[p]).toNat < 128) : Utf8.decode (mkB l) p = ((l[p]).toNat, 1) :=
  decode_ascii (mkB l) p (by rw [mkB_size]; exact h) hc
theorem dec_high (l : B) (p : Nat) (h : p < l.length) (hc : 128 ≤ (l[p]).toNat) : 128 ≤ (Utf8.decode (mkB l) p).1 ∧ 1 ≤ (Utf8.decode (mkB l) p).2 :=
  decode_high (mkB l) p (by rw [mkB_size]; exact h) hc
set_option maxRecDepth 100000 in
set_option maxHeartbeats 1600000 in
theorem ad_cutLeft (l set : B) (w : World) (hs : l.length ≤ 1000000) (ha : ∀ c ∈ set, c.toNat < 128) (hz : set.length ≤ 1000000) : Calls Tryz.prog 138 #[.string (mkB l), .string (mkB set)] w fun e w' => e = .returned (.string (mkB (cutB set l))) ∧ Below w.heap.size w w' := by
  have hms := mkB_size; have hma := mkB_append; have hmx := mkB_extract; have hmt := mkB_toList; have hmtl := subB_tail; have hmhd := subB_head
  have HA := Lib.hid ha
  clear ha
  have hmz : mkB [] = (⟨#[]⟩ : ByteArray) := rfl
  go_enter Tryz.func138, Tryz.ntmps138
  go_wp2
  go_loopw [] (fun wr => ∃ p : Nat, p ≤ l.length ∧ wr.heap[w.heap.size]? = some (.stringIter (mkB l) p) ∧ Below w.heap.size w wr ∧ cutB set l = cutB set (l.drop p)) (fun wr => l.length - wr.iterPos w.heap.size)
  case atStart => exact ⟨0, by omega, World.iter_heap w (mkB l) 0, (Below.refl _ w).alloc (Nat.le_refl _) _, rfl⟩
  case round =>
    obtain ⟨p, hp, hit, hbw, hr⟩ := hrel
    have HR := Lib.hid hr
    clear hr
    have hsz : w.heap.size < wr.heap.size := (Array.getElem?_eq_some_iff.1 hit).1
    have hms := mkB_size l
    by_cases h : p < l.length
    · have hnx : ∀ ty, (Instr.next (.pointer (some ⟨w.heap.size, 0, none⟩)) true ty).run Tryz.prog wr = _ := fun ty => Lib.run_next_any_at wr w.heap.size (mkB l) p ty hit (by rw [mkB_size]; exact h)
      have hd : ((l[p]).toNat < 128 ∧ Utf8.decode (mkB l) p = ((l[p]).toNat, 1)) ∨ (128 ≤ (l[p]).toNat ∧ 128 ≤ (Utf8.decode (mkB l) p).1) := by
        by_cases hc : (l[p]).toNat < 128
        · exact .inl ⟨hc, dec_at l p h hc⟩
        · exact .inr ⟨by omega, (dec_high l p h (by omega)).1⟩
      have HM := Lib.hid (show hasN set (Utf8.decode (mkB l) p).1 = hasB set (l[p]) by
        rcases hd with ⟨hc, he⟩ | ⟨hc, he⟩
        · rw [he, hasN_byte]
        · rw [hasN_high set _ HA.out he, hasB_high set _ HA.out hc])
      have HW := Lib.hid (show hasB set (l[p]) = true → (Utf8.decode (mkB l) p).2 = 1 by
        intro hh
        rcases hd with ⟨hc, he⟩ | ⟨hc, he⟩
        · rw [he]
        · rw [hasB_high set _ HA.out hc] at hh; cases hh)
      have hr32 := decode_le (mkB l) p
      have hit2 := Lib.iterAt_heap wr w.heap.size (mkB l) p (p + (Utf8.decode (mkB l) p).2) hit
      have hbw2 := Lib.below_iterAt hbw (k := w.heap.size) (by omega) (mkB l) (p + (Utf8.decode (mkB l) p).2)
      have hsz2 := Lib.iterAt_size wr w.heap.size (mkB l) (p + (Utf8.decode (mkB l) p).2)
      obtain ⟨rn, hrn⟩ : ∃ x, x = (Utf8.decode (mkB l) p).1 := ⟨_, rfl⟩
      obtain ⟨wd, hwd⟩ : ∃ x, x = (Utf8.decode (mkB l) p).2 := ⟨_, rfl⟩
      rw [← hrn, ← hwd] at hnx
      rw [← hrn] at HM hr32
      rw [← hwd] at HW hit2 hbw2 hsz2
      obtain ⟨w2, hw2⟩ : ∃ x, x = wr.iterAt w.heap.size (mkB l) (p + wd) := ⟨_, rfl⟩
      rw [← hw2] at hnx hit2 hbw2 hsz2
      have hsz3 : w.heap.size < w2.heap.size := by rw [hsz2]; exact hsz
      clear hrn hwd hd hw2 hsz2
      have HP1 := Lib.hid (show wr.iterPos w.heap.size = p from iterPos_of hit)
      go_wp2
      clear hnx
      go_loopw [7] (fun v wi => ∃ k : Nat, k ≤ set.length ∧ v = .bool (hasN (set.take k) rn) ∧ wi.heap[w2.heap.size]? = some (.stringIter (mkB set) k) ∧ wi.heap[w.heap.size]? = some (.stringIter (mkB l) (p + wd)) ∧ Below w.heap.size w wi) (fun _ wi => set.length - wi.iterPos w2.heap.size)
      case atStart => exact ⟨0, by omega, rfl, World.iter_heap w2 (mkB set) 0, by show (w2.heap.push _)[w.heap.size]? = _; rw [Array.getElem?_push, if_neg (by omega)]; exact hit2, hbw2.alloc (by omega) _⟩
      case round =>
        obtain ⟨k, hk, rfl, hi1, hi2, hbi⟩ := hrel
        have hsi : w2.heap.size < wr.heap.size := (Array.getElem?_eq_some_iff.1 hi1).1
        by_cases h2 : k < set.length
        · have hsc := HA.out (set[k]) (List.getElem_mem h2)
          have hnx : ∀ ty, (Instr.next (.pointer (some ⟨w2.heap.size, 0, none⟩)) true ty).run Tryz.prog wr = _ := fun ty => Lib.run_next_any_at wr w2.heap.size (mkB set) k ty hi1 (by rw [mkB_size]; exact h2)
          rw [dec_at set k h2 hsc] at hnx
          have hj1 := Lib.iterAt_heap wr w2.heap.size (mkB set) k (k + 1) hi1
          have hj2 : (wr.iterAt w2.heap.size (mkB set) (k + 1)).heap[w.heap.size]? = _ := (Lib.iterAt_other wr w2.heap.size w.heap.size (mkB set) (k + 1) (by omega)).trans hi2
          have hbj := Lib.below_iterAt hbi (k := w2.heap.size) (by omega) (mkB set) (k + 1)
          have hms2 := Lib.hid (show wr.iterPos w2.heap.size = k from iterPos_of hi1)
          obtain ⟨w4, hw4⟩ : ∃ x, x = wr.iterAt w2.heap.size (mkB set) (k + 1) := ⟨_, rfl⟩
          rw [← hw4] at hnx hj1 hj2 hbj
          clear hw4
          have HT := Lib.hid (hasN_take set k rn h2)
          obtain ⟨d, hd⟩ : ∃ d, d = (set[k]).toNat := ⟨_, rfl⟩
          rw [← hd] at hnx HT hsc
          clear hd
          cases hin : hasN (set.take k) rn with
          | true =>
            go_wp2
            go_roundw
            case rel => exact ⟨k + 1, by omega, by rw [HT.out, hin]; rfl, hj1, hj2, hbj⟩
            case measure => rw [iterPos_of hj1, hms2.out]; omega
          | false =>
            go_wp2
            go_roundw
            case rel => exact ⟨k + 1, by omega, by rw [HT.out, hin]; exact vb (by rw [Bool.false_or, Bool.eq_iff_iff]; simp; omega), hj1, hj2, hbj⟩
            case measure => rw [iterPos_of hj1, hms2.out]; omega
        · have hnx : ∀ ty, (Instr.next (.pointer (some ⟨w2.heap.size, 0, none⟩)) true ty).run Tryz.prog wr = _ := fun ty => Lib.run_next_end_at wr w2.heap.size (mkB set) k ty hi1 (by rw [mkB_size]; exact h2)
          have HK := Lib.hid (show hasN (set.take k) rn = hasB set (l[p]) by rw [List.take_of_length_le (by omega)]; exact HM.out)
          cases hin : hasN (set.take k) rn with
          | true =>
            go_wp2
            go_roundw
            case rel => exact ⟨p + 1, by omega, by rw [← HW.out (by rw [← HK.out, hin])]; exact hi2, hbi, by rw [HR.out, drop_cons l p h, cutB, if_pos (by rw [← HK.out, hin])]⟩
            case measure => rw [HP1.out, iterPos_of hi2, HW.out (by rw [← HK.out, hin])]; omega
          | false =>
            go_wp2
            go_ret
            exact ⟨ret_s (by rw [HR.out, drop_cons l p h, cutB, if_neg (by rw [← HK.out, hin]; simp)]), hbi⟩
    · have hnx : ∀ ty, (Instr.next (.pointer (some ⟨w.heap.size, 0, none⟩)) true ty).run Tryz.prog wr = _ := fun ty => Lib.run_next_end_at wr w.heap.size (mkB l) p ty hit (by rw [mkB_size]; exact h)
      go_wp2
      go_ret
      exact ⟨ret_s (by rw [HR.out, drop_nil l p h]; rfl), hbw⟩
set_option maxRecDepth 100000 in
theorem ad_run (l set : B) (w : World) (hs : l.length ≤ 1000000) (ha : ∀ c ∈ set, c.toNat < 128) (hz : set.length ≤ 1000000) : Calls Tryz.prog 101 #[.string (mkB l), .string (mkB set)] w fun e w' => e = .returned (.int .i64 (spanK (hasB set) l)) ∧ Below w.heap.size w w' := by
  have hms := mkB_size; have hma := mkB_append; have hmx := mkB_extract; have hmt := mkB_toList; have hmtl := subB_tail; have hmhd := subB_head
  have HA := Lib.hid ha
  clear ha
  have hk := spanK_le (hasB set) l
  have hcl : (cutB set l).length ≤ l.length := by rw [cutB_eq, List.length_drop]; omega
  have HC := Lib.hid (show (cutB set l).length = l.length - spanK (hasB set) l by rw [cutB_eq, List.length_drop])
  go_enter Tryz.func101, Tryz.ntmps101
  go_wp2_with (first | (go_at_call 138; refine (ad_cutLeft l set _ hs HA.out hz).mono ?_; rintro e w1 ⟨rfl, hb_w1⟩; obtain ⟨hc_w1, hf_w1⟩ := bcell hb_w1; have hz_w1 := hb_w1.size; (try simp at hz_w1); (try (have hz0_w1 : w.heap.size < w1.heap.size := by omega)); (try (have hz1_w1 : w.heap.size + 1 < w1.heap.size := by omega)); (try (have hz2_w1 : w.heap.size + 2 < w1.heap.size := by omega)); (try (have hz3_w1 : w.heap.size + 3 < w1.heap.size := by omega))))
  go_ret
  exact ⟨ret_i (by rw [HC.out]; omega), hb_w1⟩
end Go.Proofs.YtnmbpmomilehoaaGreatDoor

namespace Go.Proofs.YtnmbpmomilehoaaGreatDoor
open Go.RowKit
set_option maxRecDepth 100000 in
set_option maxHeartbeats 1600000 in
theorem va_letters (l : B) (w : World) (hs : l.length ≤ 1000000) : Calls Tryz.prog 100 #[.string (mkB l), .int .u8 97, .int .i64 (-32)] w fun e w' => e = .returned (.string (mkB (upB l))) ∧ Below w.heap.size w w' := by
  have hms := mkB_size; have hma := mkB_append; have hmx := mkB_extract; have hmt := mkB_toList; have hmtl := subB_tail; have hmhd := subB_head
  have hcb := fun (w : World) => Lib.run_convert_string_bytes (P := Tryz.prog) w 9 56 5 (mkB l) Tryz.underlying9 Tryz.underlying56 Tryz.underlying5
  go_enter Tryz.func100, Tryz.ntmps100
  go_wp2
  have hb := BytesAt.new w l
  have hB := bel_bytes w (mkB l) 5
  obtain ⟨w1, hw1⟩ : ∃ x, x = Lib.bytesWorld w 5 (mkB l) := ⟨_, rfl⟩
  rw [← hw1] at hb hB ⊢
  clear hw1 hcb
  go_loopg [14] l.length (fun gk iv wr => ∃ k : Nat, gk = l.length - k ∧ k ≤ l.length ∧ iv = .int .i64 k ∧ BytesAt wr w.heap.size l.length (upB (l.take k) ++ l.drop k) ∧ Below w.heap.size w wr)
  case atStart => exact ⟨0, rfl, by omega, rfl, by simpa [upB] using hb, hB⟩
  case round =>
    clear hb hB
    obtain ⟨k, hgk, hk, rfl, hb, hB⟩ := hrel
    have A : Aside (gk = l.length - k) := hgk
    clear hgk
    by_cases hlt : k < l.length
    · have hg := upB_get l k hlt
      have hcell := hb.at_ k hlt
      rw [hg] at hcell
      have hfr := hb.free k hlt
      have hnx := upB_take l k hlt
      have hst := upB_set l k hlt
      obtain ⟨c, hc⟩ : ∃ c, c = l[k] := ⟨_, rfl⟩
      rw [← hc] at hcell hnx
      have A2 : Aside (upB (l.take (k + 1)) = upB (l.take k) ++ [upC c] ∧ (∀ c, (upB (l.take k) ++ l.drop k).set k c = upB (l.take k) ++ [c] ++ l.drop (k + 1)) ∧ l.drop k = c :: l.drop (k + 1)) := ⟨hnx, hst, by rw [hc]; exact drop_cons l k hlt⟩
      clear hnx hst hc hg
      by_cases h97 : 97 ≤ (c.toNat : Int)
      · by_cases h122 : (c.toNat : Int) ≤ 122
        · have hset := hb.set k hlt (c - 32)
          have hcc : ((c - 32).toNat : Int) = (c.toNat : Int) - 32 := by
            rw [UInt8.toNat_sub_of_le _ _ (by rw [UInt8.le_iff_toNat_le]; show 32 ≤ c.toNat; omega)]
            show ((c.toNat - 32 : Nat) : Int) = _
            omega
          have HU := Lib.hid (show upC c = c - 32 by unfold upC; rw [if_pos (by omega)])
          rw [A2.out.2.1] at hset
          have hcc := Lib.hid (show ((c - 32).toNat : Int) = (c.toNat : Int) + -32 by omega)
          go_wp2
          go_roundg (l.length - (k + 1))
          case measure => have := A.out; omega
          case rel => exact ⟨k + 1, rfl, by omega, vi (by omega), by rw [A2.out.1, HU.out, ← hcc.out]; exact hset, bel_set hB (Nat.le_refl _) _⟩
        · have HU := Lib.hid (show upC c = c by unfold upC; rw [if_neg (by omega)])
          go_wp2
          go_roundg (l.length - (k + 1))
          case measure => have := A.out; omega
          case rel => exact ⟨k + 1, rfl, by omega, vi (by omega), by rw [A2.out.1, HU.out, List.append_assoc]; show BytesAt _ _ _ (upB (l.take k) ++ c :: l.drop (k + 1)); rw [← A2.out.2.2]; exact hb, hB⟩
      · have HU := Lib.hid (show upC c = c by unfold upC; rw [if_neg (by omega)])
        go_wp2
        go_roundg (l.length - (k + 1))
        case measure => have := A.out; omega
        case rel => exact ⟨k + 1, rfl, by omega, vi (by omega), by rw [A2.out.1, HU.out, List.append_assoc]; show BytesAt _ _ _ (upB (l.take k) ++ c :: l.drop (k + 1)); rw [← A2.out.2.2]; exact hb, hB⟩
    · obtain rfl : k = l.length := by omega
      rw [List.take_length, List.drop_length, List.append_nil] at hb
      have hcv := fun c => hb.conv (c := c)
      go_wp2
      go_ret
      exact ⟨rfl, hB⟩
set_option maxRecDepth 100000 in
theorem va_Upper (l : B) (w : World) (hs : l.length ≤ 1000000) : Calls Tryz.prog 67 #[.string (mkB l)] w fun e w' => e = .returned (.string (mkB (upB l))) ∧ Below w.heap.size w w' := by
  go_enter Tryz.func67, Tryz.ntmps67
  go_wp2_with (first | (go_at_call 100; refine (va_letters l _ hs).mono ?_; rintro e w1 ⟨rfl, hb_w1⟩; obtain ⟨hc_w1, hf_w1⟩ := bcell hb_w1; have hz_w1 := hb_w1.size; (try simp at hz_w1); (try (have hz0_w1 : w.heap.size < w1.heap.size := by omega)); (try (have hz1_w1 : w.heap.size + 1 < w1.heap.size := by omega)); (try (have hz2_w1 : w.heap.size + 2 < w1.heap.size := by omega)); (try (have hz3_w1 : w.heap.size + 3 < w1.heap.size := by omega))))
  go_ret
  exact ⟨rfl, hb_w1⟩
end Go.Proofs.YtnmbpmomilehoaaGreatDoor

namespace Go.Proofs.YtnmbpmomilehoaaGreatDoor
open Go.RowKit

theorem spanK_congr {p q : UInt8 → Bool} (h : ∀ c, p c = q c) (l : B) : spanK p l = spanK q l := by rw [show p = q from funext h]
theorem dolR_len (l : B) : (dolR l).2.length ≤ l.length := by
  cases l with
  | nil => simp [dolR]
  | cons c r => simp only [dolR]; split <;> simp
set_option maxRecDepth 100000 in
set_option maxHeartbeats 800000 in
theorem ad_part (l set : B) (most : Nat) (p : UInt8 → Bool) (w : World) (hs : l.length ≤ 1000000) (ha : ∀ c ∈ set, c.toNat < 128) (hz : set.length ≤ 1000000) (_hm : most ≤ 100) (hp : ∀ c, hasB set c = p c) :
    Calls Tryz.prog 139 #[.string (mkB l), .string (mkB set), .int .i64 most] w fun e w' => e = .returned (.tuple #[.string (mkB (partR p most l).1), .bool (partR p most l).2.1, .string (mkB (partR p most l).2.2.1), .bool (partR p most l).2.2.2]) ∧ Below w.heap.size w w' := by
  have hms := mkB_size; have hma := mkB_append; have hmx := mkB_extract; have hmt := mkB_toList; have hmtl := subB_tail; have hmhd := subB_head
  have k1 : (⟨#[36]⟩ : ByteArray) = mkB [36] := rfl
  have k2 : (⟨#[]⟩ : ByteArray) = mkB [] := rfl
  have hd := dolR_len l
  have hk := spanK_le p (dolR l).2
  have HA := Lib.hid ha
  clear ha
  have HP := Lib.hid (spanK_congr hp (dolR l).2)
  clear hp
  obtain ⟨r, hr⟩ : ∃ r, r = (dolR l).2 := ⟨_, rfl⟩
  obtain ⟨b, hb⟩ : ∃ b, b = (dolR l).1 := ⟨_, rfl⟩
  have HT := Lib.hid (show Lib.trimPrefix l [36] = r by rw [trimP_dol, hr])
  have HB := Lib.hid (show Lib.hasPrefix l [36] = b by rw [hasP_dol, hb])
  rw [← hr] at HP hd hk
  by_cases h : spanK p r < 1 ∨ most < spanK p r
  · have HZ := Lib.hid (show partR p most l = ([], false, [], false) from partR_no (by rw [← hr]; exact h))
    clear hr hb
    go_enter Tryz.func139, Tryz.ntmps139
    go_wp2_with (first | (go_at_call 64; refine (s_CutPrefix l [36] _).mono ?_; rw [HT.out, HB.out]; rintro e w' ⟨rfl, rfl⟩) | (go_at_call 101; refine (ad_run r set _ (by omega) HA.out hz).mono ?_; rw [HP.out]; rintro e w1 ⟨rfl, hb_w1⟩))
    all_goals
      refine bodyPost_ret (v := .tuple #[.string (mkB []), .bool false, .string (mkB []), .bool false]) (by simp [results, Tryz.results139, mkB_nil]) rfl ⟨by rw [HZ.out], (by repeat (first | exact Below.refl _ _ | assumption | apply bel_drew | apply bel_drewN | apply bel_alloc | (refine bel_set ?_ (by first | (simp; done) | omega) _) | (refine Bel.trans ?_ (by assumption))))⟩
  · have HZ := Lib.hid (show partR p most l = (r.take (spanK p r), b, r.drop (spanK p r), true) by rw [partR_yes (by rw [← hr]; exact h), ← hr, ← hb])
    clear hr hb
    have h1 : 1 ≤ spanK p r := by omega
    have h2 : spanK p r ≤ most := by omega
    clear h
    go_enter Tryz.func139, Tryz.ntmps139
    go_wp2_with (first | (go_at_call 64; refine (s_CutPrefix l [36] _).mono ?_; rw [HT.out, HB.out]; rintro e w' ⟨rfl, rfl⟩) | (go_at_call 101; refine (ad_run r set _ (by omega) HA.out hz).mono ?_; rw [HP.out]; rintro e w1 ⟨rfl, hb_w1⟩))
    go_quiet (fail)
    go_wp2
    refine bodyPost_ret (v := .tuple #[.string (mkB (r.take (spanK p r))), .bool b, .string (mkB (r.drop (spanK p r))), .bool true]) (by simp [results, Tryz.results139]) rfl ⟨by rw [HZ.out], (by repeat (first | exact Below.refl _ _ | assumption | apply bel_drew | apply bel_drewN | apply bel_alloc | (refine bel_set ?_ (by first | (simp; done) | omega) _) | (refine Bel.trans ?_ (by assumption))))⟩
/-- the letters of a column, as number reads them -/
theorem upB_col : ∀ (l : B) (acc : Int), (upB l).foldl (fun a c => a * 26 + ((c.toNat : Int) - 65) + 1) acc = l.foldl (fun a c => a * 26 + (((upC c).toNat : Int) - 65) + 1) acc := by
  intro l acc; unfold upB; rw [List.foldl_map]
theorem upI_upC {c : UInt8} (h : isLet c = true) : ((upC c).toNat : Int) = upI c ∧ 65 ≤ upI c ∧ upI c ≤ 90 := by
  rcases isLet_up h with ⟨h1, h2⟩ | ⟨h1, h2⟩
  · rw [h2]; unfold upC; rw [if_neg (by omega)]; omega
  · rw [h2]; unfold upC; rw [if_pos (by omega), UInt8.toNat_sub_of_le _ _ (by rw [UInt8.le_iff_toNat_le]; show 32 ≤ c.toNat; omega)]
    show ((c.toNat - 32 : Nat) : Int) = _ ∧ _
    omega
theorem colF_app (l : B) (c : UInt8) (acc : Int) : colF acc (l ++ [c]) = 26 * colF acc l + (upI c - 65) + 1 := by
  induction l generalizing acc with
  | nil => rfl
  | cons d r ih => rw [List.cons_append, colF, colF, ih]
theorem colF_bd (l : B) (h : l.all isLet = true) : ∀ k, k ≤ l.length → k ≤ 3 → 0 ≤ colF 0 (l.take k) ∧ colF 0 (l.take k) ≤ 30 ^ k - 1 := by
  intro k
  induction k with
  | zero => intro _ _; simp [colF]
  | succ k ih =>
    intro hk h3
    have := ih (by omega) (by omega)
    rw [List.take_succ_eq_append_getElem (show k < l.length by omega), colF_app]
    have hc := (upI_upC (List.all_eq_true.mp h l[k] (List.getElem_mem (by omega)))).2
    have hp : (1 : Int) ≤ 30 ^ k := by have := Int.pow_pos (n := 30) (m := k) (by omega); omega
    rcases (show k = 0 ∨ k = 1 ∨ k = 2 by omega) with rfl | rfl | rfl <;> simp at * <;> omega
set_option maxRecDepth 100000 in
set_option maxHeartbeats 800000 in
theorem ad_number (l : B) (w : World) (hl : l.all isLet = true) (h3 : l.length ≤ 3) : Calls Tryz.prog 141 #[.string (mkB l)] w fun e w' => e = .returned (.int .i64 (colF 0 l - 1)) ∧ Below w.heap.size w w' := by
  have hms := mkB_size; have hma := mkB_append; have hmx := mkB_extract; have hmt := mkB_toList; have hmtl := subB_tail; have hmhd := subB_head
  have hcb := fun (w : World) => Lib.run_convert_string_bytes (P := Tryz.prog) w 9 56 5 (mkB (upB l)) Tryz.underlying9 Tryz.underlying56 Tryz.underlying5
  have HL := Lib.hid hl
  clear hl
  have hul := upB_len l
  go_enter Tryz.func141, Tryz.ntmps141
  go_wp2_with (first | (go_at_call 67; refine (va_Upper l _ (by omega)).mono ?_; rintro e w1 ⟨rfl, hb_w1⟩))
  have hb := BytesAt.new w1 (upB l)
  have hB := Bel.trans hb_w1 (bel_bytes w1 (mkB (upB l)) 5)
  obtain ⟨w2, hw2⟩ : ∃ x, x = Lib.bytesWorld w1 5 (mkB (upB l)) := ⟨_, rfl⟩
  rw [← hw2] at hb hB ⊢
  clear hw2 hcb hb_w1
  rw [hul] at hb
  go_loop [3, 10] (fun n i => ∃ k : Nat, k ≤ l.length ∧ i = .int .i64 k ∧ n = .int .i64 (colF 0 (l.take k))) (fun _ i => l.length - (intOf i).toNat)
  case atStart => exact ⟨0, by omega, rfl, rfl⟩
  case round =>
    obtain ⟨k, hk, rfl, rfl⟩ := hrel
    by_cases hlt : k < l.length
    · have hbd := colF_bd l HL.out k hk (by omega)
      have hp : (30 : Int) ^ k ≤ 30 ^ 2 := by
        rcases (show k = 0 ∨ k = 1 ∨ k = 2 by omega) with rfl | rfl | rfl <;> decide
      have hcell := hb.at_ k hlt
      have hg : (upB l).getD k 0 = upC l[k] := by
        rw [List.getD_eq_getElem?_getD, List.getElem?_eq_getElem (by omega)]; simp [upB]
      have hx := upI_upC (List.all_eq_true.mp HL.out l[k] (List.getElem_mem hlt))
      have HS := Lib.hid (show colF 0 (l.take (k + 1)) = 26 * colF 0 (l.take k) + (upI l[k] - 65) + 1 by rw [List.take_succ_eq_append_getElem hlt, colF_app])
      rw [hg, hx.1] at hcell
      obtain ⟨x, hx0⟩ : ∃ x, x = upI l[k] := ⟨_, rfl⟩
      rw [← hx0] at hcell HS hx
      obtain ⟨y, hy0⟩ : ∃ y, y = colF 0 (l.take k) := ⟨_, rfl⟩
      rw [← hy0] at HS hbd ⊢
      have h1 : 0 ≤ y ∧ y ≤ 900 := by omega
      have h2 := hx.2
      clear hg hx hx0 hy0 hbd hp
      go_wp2
      go_round
      case rel => exact ⟨k + 1, by omega, by go_num, by rw [HS.out]; exact vi (by omega)⟩
      case measure => simp [intOf]; omega
    · have hbd := colF_bd l HL.out k hk (by omega)
      obtain rfl : k = l.length := by omega
      rw [List.take_length] at hbd ⊢
      have hp : (30 : Int) ^ l.length ≤ 30 ^ 3 := by
        rcases (show l.length = 0 ∨ l.length = 1 ∨ l.length = 2 ∨ l.length = 3 by omega) with h | h | h | h <;> rw [h] <;> decide
      have h1 : 0 ≤ colF 0 l ∧ colF 0 l ≤ 27000 := by omega
      clear hbd hp
      go_wp2
      go_ret
      exact ⟨rfl, hB⟩
end Go.Proofs.YtnmbpmomilehoaaGreatDoor

namespace Go.Proofs.YtnmbpmomilehoaaGreatDoor
open Go.RowKit

/-- Block g holds these cells and nothing else. -/
def RecAt (w : World) (g : Nat) (cs : Array Value) (t : TypeId) : Prop := w.heap[g]? = some (.cells cs t (0, 0))
theorem RecAt.new (w : World) (cs : Array Value) (t : TypeId) : RecAt (w.alloc (.cells cs t)) w.heap.size cs t := heap_alloc_last w _
theorem RecAt.below {w a : World} {g B : Nat} {cs : Array Value} {t : TypeId} (h : RecAt w g cs t) (hb : Below B w a) (hg : g < B) : RecAt a g cs t := by
  unfold RecAt; rw [hb.block g hg]; exact h
theorem RecAt.store {w : World} {g : Nat} {cs : Array Value} {t : TypeId} (h : RecAt w g cs t) (vs : List Value) (hl : vs.length = cs.size) (h1 : ∀ v ∈ vs, v.oneCell' = true) :
    (storeCells ⟨g, 0, none⟩ vs 0).run Tryz.prog w = .ok () (w.setRow g vs.toArray) := by
  have := run_storeCells_from (P := Tryz.prog) g t vs 0 cs w h (by omega) h1
  simpa using this
theorem RecAt.set {w : World} {g : Nat} {cs : Array Value} {t : TypeId} (h : RecAt w g cs t) (vs : Array Value) : RecAt (w.setRow g vs) g vs t := setRow_heap w g cs vs t (0, 0) h
theorem RecAt.load {w : World} {g : Nat} {cs : Array Value} {t : TypeId} (h : RecAt w g cs t) (n : Nat) (hn : cs.size = n) :
    (loadCellsFrom ⟨g, 0, none⟩ 0 n #[]).run Tryz.prog w = .ok cs w := by
  subst hn
  have := run_loadCells_list (P := Tryz.prog) w ⟨g, 0, none⟩ cs.toList (fun j v hv => by
    have hadd : (⟨g, 0, none⟩ : Addr).add j = ⟨g, j, none⟩ := by unfold Addr.add; split <;> simp_all
    rw [hadd, cell_of_row _ _ j cs t (0, 0) h]
    simpa using hv)
  simpa [loadCells] using this
theorem RecAt.storeVar {w : World} {g : Nat} {cs : Array Value} {t : TypeId} (h : RecAt w g cs t) (c' : Array Value) (hi : (Tryz.prog.info? t).map (·.size) = some c'.size) (ho : cs.size = c'.size) (h1 : c'.all (·.oneCell') = true) :
    (storeVar t ⟨g, 0, none⟩ (.agg c')).run Tryz.prog w = .ok () (w.setRow g c') := by
  have := h.store c'.toList (by simp [ho]) (fun v hv => by simpa using (Array.all_eq_true'.1 h1) v (by simpa using hv))
  cases hq : Tryz.prog.info? t with
  | none => simp [hq] at hi
  | some i =>
    have hs : c'.size = i.size := by simp [hq] at hi; omega
    simpa [Go.storeVar, sizeOf, typeInfo, hq, Value.cells, hs] using this
theorem RecAt.storeAt {w : World} {g : Nat} {cs : Array Value} {t : TypeId} (h : RecAt w g cs t) (c' : Array Value) (hi : (Tryz.prog.info? t).map (·.size) = some c'.size) (ho : cs.size = c'.size) (h1 : c'.all (·.oneCell') = true) :
    (Instr.storeAt t (.pointer (some ⟨g, 0, none⟩)) (.agg c')).run Tryz.prog w = .ok () (w.setRow g c') := by
  simp only [Instr.storeAt, Instr.sureAddr, Sem.run_bind, Sem.run_pure, Result.andThen]
  exact h.storeVar c' hi ho h1
end Go.Proofs.YtnmbpmomilehoaaGreatDoor

namespace Go.Proofs.YtnmbpmomilehoaaGreatDoor
open Go.RowKit

theorem partR_ok {p : UInt8 → Bool} {most : Nat} {l t r : B} {b : Bool} (h : (t, b, r, true) = partR p most l) : t.all p = true ∧ 1 ≤ t.length ∧ t.length ≤ most ∧ r.length ≤ l.length := by
  by_cases hc : spanK p (dolR l).2 < 1 ∨ most < spanK p (dolR l).2
  · rw [partR_no hc] at h; simp at h
  · rw [partR_yes hc] at h
    simp only [Prod.mk.injEq] at h
    obtain ⟨rfl, _, rfl, _⟩ := h
    have := spanK_le p (dolR l).2
    have := dolR_len l
    refine ⟨spanK_take _ _, ?_, ?_, ?_⟩ <;> simp only [List.length_take, List.length_drop] <;> omega
theorem results_cell2 {P : Program} {fn : Func} {p u : Tmp} {ty : TypeId} (h : fn.results = #[.cell p ty, .tmp u]) (tmps : Array Value) (w : World) (g : Nat) (t : TypeId) (cs : Array Value) (d : TypeDesc)
    (hp : tmps.getD p undef = .pointer (some ⟨g, 0, none⟩)) (hg : RecAt w g cs t)
    (hu : P.underlying ty = some d) (hd : (match d with | .struct _ | .array _ _ => true | _ => false) = true) (hi : (P.info? ty).map (·.size) = some cs.size) :
    (results fn tmps).run P w = .ok (.tuple #[.agg cs, tmps.getD u undef]) w := by
  have hp' : tmps[p]?.getD undef = .pointer (some ⟨g, 0, none⟩) := by simpa using hp
  simp [results, h, hp', asAddr, run_loadVar_row w g t ty cs (0, 0) d hg hu hd hi]
theorem ref1R_p1 {l t1 r1 : B} {b1 : Bool} (hp : (t1, b1, r1, false) = partR isLet 3 l) : ref1R l = (RefS.zero, false) := by rw [ref1R_part, ← hp]; rfl
theorem ref1R_p2 {l t1 r1 t2 r2 : B} {b1 b2 ok2 : Bool} (hp : (t1, b1, r1, true) = partR isLet 3 l) (hq : (t2, b2, r2, ok2) = partR isDig 5 r1) (h : ok2 = false ∨ r2 ≠ [] ∨ noughtR t2 = true) : ref1R l = (RefS.zero, false) := by
  rw [ref1R_part, ← hp]
  simp only []
  rw [← hq, if_neg (by simp), if_pos h]
theorem ref1R_p3 {l t1 r1 t2 : B} {b1 b2 : Bool} (hp : (t1, b1, r1, true) = partR isLet 3 l) (hq : (t2, b2, [], true) = partR isDig 5 r1) (h : noughtR t2 = false) : ref1R l = (⟨colF 0 t1 - 1, (valD 0 t2 : Int) - 1, b1, b2⟩, true) := by
  rw [ref1R_part, ← hp]
  simp only []
  rw [← hq, if_neg (by simp), if_neg (by simp [h])]
theorem refInfo : (Tryz.prog.info? 37).map (·.size) = some 4 := by kernel_rfl
theorem letS_low : ∀ c ∈ letS, c.toNat < 128 := by decide
theorem ad_part3 (l : B) (w : World) (hs : l.length ≤ 1000000) : Calls Tryz.prog 139 #[.string (mkB l), .string (mkB letS), .int .i64 3] w fun e w' => e = .returned (.tuple #[.string (mkB (partR isLet 3 l).1), .bool (partR isLet 3 l).2.1, .string (mkB (partR isLet 3 l).2.2.1), .bool (partR isLet 3 l).2.2.2]) ∧ Below w.heap.size w w' :=
  ad_part l letS 3 isLet w hs letS_low (by decide) (by decide) hasB_let
theorem ad_part5 (l : B) (w : World) (hs : l.length ≤ 1000000) : Calls Tryz.prog 139 #[.string (mkB l), .string (mkB digS), .int .i64 5] w fun e w' => e = .returned (.tuple #[.string (mkB (partR isDig 5 l).1), .bool (partR isDig 5 l).2.1, .string (mkB (partR isDig 5 l).2.2.1), .bool (partR isDig 5 l).2.2.2]) ∧ Below w.heap.size w w' :=
  ad_part l digS 5 isDig w hs digS_low (by decide) (by decide) hasB_dig
set_option maxRecDepth 100000 in
set_option maxHeartbeats 1600000 in
theorem ad_ref (l : B) (w : World) (hs : l.length ≤ 1000000) : Calls Tryz.prog 106 #[.string (mkB l)] w fun e w' => e = .returned (.tuple #[(ref1R l).1.val, .bool (ref1R l).2]) ∧ Below w.heap.size w w' := by
  have hms := mkB_size; have hma := mkB_append; have hmx := mkB_extract; have hmt := mkB_toList; have hmtl := subB_tail; have hmhd := subB_head
  have hmi := mkB_at
  have k1 : (⟨#[65, 66, 67, 68, 69, 70, 71, 72, 73, 74, 75, 76, 77, 78, 79, 80, 81, 82, 83, 84, 85, 86, 87, 88, 89, 90, 97, 98, 99, 100, 101, 102, 103, 104, 105, 106, 107, 108, 109, 110, 111, 112, 113, 114, 115, 116, 117, 118, 119, 120, 121, 122]⟩ : ByteArray) = mkB letS := rfl
  have k2 : (⟨#[48, 49, 50, 51, 52, 53, 54, 55, 56, 57]⟩ : ByteArray) = mkB digS := rfl
  have k3 : (⟨#[]⟩ : ByteArray) = mkB [] := rfl
  obtain ⟨⟨t1, b1, r1, ok1⟩, hp⟩ : ∃ x, x = partR isLet 3 l := ⟨_, rfl⟩
  cases ok1 with
  | false =>
    have HZ := Lib.hid (ref1R_p1 hp)
    have HP := Lib.hid hp
    clear hp
    go_enter Tryz.func106, Tryz.ntmps106
    go_wp2_with (first | (go_at_call_of 139 (Value.string (mkB l)); refine (ad_part3 l _ hs).mono ?_; rw [← HP.out]; rintro e w1 ⟨rfl, hb_w1⟩; have hR1 := (RecAt.new w #[.int .i64 0, .int .i64 0, .bool false, .bool false] 37).below hb_w1 (by simp)) | (refine wpList_store_row rfl 37 _ _ rfl w.heap.size _ rfl rfl 37 #[.int .i64 0, .int .i64 0, .bool false, .bool false] (by first | exact hR4 | exact hR2 | exact hR1) refInfo rfl (by simp [Value.oneCell']) ?_))
    refine bodyPost_ret (v := .tuple #[RefS.zero.val, .bool false]) (results_cell2 Tryz.results106 _ _ w.heap.size _ _ _ rfl ((by first | exact hR4 | exact hR2 | exact hR1 : RecAt _ w.heap.size _ _).set _) Tryz.underlying37 rfl refInfo) rfl ⟨by rw [HZ.out], (below_setRow (by repeat (first | exact Below.refl _ _ | assumption | apply bel_alloc | (refine Bel.trans ?_ (by assumption)))) (Nat.le_refl _) _)⟩
  | true =>
    have hok1 := partR_ok hp
    have HP := Lib.hid hp
    obtain ⟨⟨t2, b2, r2, ok2⟩, hq⟩ : ∃ x, x = partR isDig 5 r1 := ⟨_, rfl⟩
    have HO1 := Lib.hid hok1
    have hr1 : r1.length ≤ 1000000 := by have := hok1.2.2.2; omega
    clear hok1
    cases ok2 with
    | false =>
      have HZ := Lib.hid (ref1R_p2 hp hq (.inl rfl))
      have HQ := Lib.hid hq
      clear hq hp
      go_enter Tryz.func106, Tryz.ntmps106
      go_wp2_with (first | (go_at_call_of 139 (Value.string (mkB l)); refine (ad_part3 l _ hs).mono ?_; rw [← HP.out]; rintro e w1 ⟨rfl, hb_w1⟩; have hR1 := (RecAt.new w #[.int .i64 0, .int .i64 0, .bool false, .bool false] 37).below hb_w1 (by simp)) | (go_at_call_of 139 (Value.string (mkB r1)); refine (ad_part5 r1 _ (by omega)).mono ?_; rw [← HQ.out]; rintro e w2 ⟨rfl, hb_w2⟩; have hR2 := hR1.below hb_w2 (by have := hb_w1.size; simp at this; omega)) | (refine wpList_store_row rfl 37 _ _ rfl w.heap.size _ rfl rfl 37 #[.int .i64 0, .int .i64 0, .bool false, .bool false] (by first | exact hR4 | exact hR2 | exact hR1) refInfo rfl (by simp [Value.oneCell']) ?_))
      refine bodyPost_ret (v := .tuple #[RefS.zero.val, .bool false]) (results_cell2 Tryz.results106 _ _ w.heap.size _ _ _ rfl ((by first | exact hR4 | exact hR2 | exact hR1 : RecAt _ w.heap.size _ _).set _) Tryz.underlying37 rfl refInfo) rfl ⟨by rw [HZ.out], (below_setRow (by repeat (first | exact Below.refl _ _ | assumption | apply bel_alloc | (refine Bel.trans ?_ (by assumption)))) (Nat.le_refl _) _)⟩
    | true =>
      have HO2 := Lib.hid (partR_ok hq)
      have HQ := Lib.hid hq
      clear hq hp
      cases hr2 : r2.isEmpty with
      | false =>
        have HZ := Lib.hid (ref1R_p2 HP.out HQ.out (.inr (.inl (fun e => by rw [e] at hr2; cases hr2))))
        go_enter Tryz.func106, Tryz.ntmps106
        go_wp2_with (first | (go_at_call_of 139 (Value.string (mkB l)); refine (ad_part3 l _ hs).mono ?_; rw [← HP.out]; rintro e w1 ⟨rfl, hb_w1⟩; have hR1 := (RecAt.new w #[.int .i64 0, .int .i64 0, .bool false, .bool false] 37).below hb_w1 (by simp)) | (go_at_call_of 139 (Value.string (mkB r1)); refine (ad_part5 r1 _ (by omega)).mono ?_; rw [← HQ.out]; rintro e w2 ⟨rfl, hb_w2⟩; have hR2 := hR1.below hb_w2 (by have := hb_w1.size; simp at this; omega)) | (refine wpList_store_row rfl 37 _ _ rfl w.heap.size _ rfl rfl 37 #[.int .i64 0, .int .i64 0, .bool false, .bool false] (by first | exact hR4 | exact hR2 | exact hR1) refInfo rfl (by simp [Value.oneCell']) ?_))
        refine bodyPost_ret (v := .tuple #[RefS.zero.val, .bool false]) (results_cell2 Tryz.results106 _ _ w.heap.size _ _ _ rfl ((by first | exact hR4 | exact hR2 | exact hR1 : RecAt _ w.heap.size _ _).set _) Tryz.underlying37 rfl refInfo) rfl ⟨by rw [HZ.out], (below_setRow (by repeat (first | exact Below.refl _ _ | assumption | apply bel_alloc | (refine Bel.trans ?_ (by assumption)))) (Nat.le_refl _) _)⟩
      | true =>
        obtain rfl := List.isEmpty_iff.1 hr2
        clear hr2
        cases t2 with
        | nil => have := HO2.out.2.1; simp at this
        | cons c r =>
          by_cases hc : ((c.toNat : Int) == 48) = true
          · have HZ := Lib.hid (ref1R_p2 HP.out HQ.out (.inr (.inr (by simpa [noughtR] using hc))))
            go_enter Tryz.func106, Tryz.ntmps106
            go_wp2_with (first | (go_at_call_of 139 (Value.string (mkB l)); refine (ad_part3 l _ hs).mono ?_; rw [← HP.out]; rintro e w1 ⟨rfl, hb_w1⟩; have hR1 := (RecAt.new w #[.int .i64 0, .int .i64 0, .bool false, .bool false] 37).below hb_w1 (by simp)) | (go_at_call_of 139 (Value.string (mkB r1)); refine (ad_part5 r1 _ (by omega)).mono ?_; rw [← HQ.out]; rintro e w2 ⟨rfl, hb_w2⟩; have hR2 := hR1.below hb_w2 (by have := hb_w1.size; simp at this; omega)) | (refine wpList_store_row rfl 37 _ _ rfl w.heap.size _ rfl rfl 37 #[.int .i64 0, .int .i64 0, .bool false, .bool false] (by first | exact hR4 | exact hR2 | exact hR1) refInfo rfl (by simp [Value.oneCell']) ?_))
            refine bodyPost_ret (v := .tuple #[RefS.zero.val, .bool false]) (results_cell2 Tryz.results106 _ _ w.heap.size _ _ _ rfl ((by first | exact hR4 | exact hR2 | exact hR1 : RecAt _ w.heap.size _ _).set _) Tryz.underlying37 rfl refInfo) rfl ⟨by rw [HZ.out], (below_setRow (by repeat (first | exact Below.refl _ _ | assumption | apply bel_alloc | (refine Bel.trans ?_ (by assumption)))) (Nat.le_refl _) _)⟩
          · have hc : ((c.toNat : Int) == 48) = false := by simpa using hc
            have HZ := Lib.hid (ref1R_p3 HP.out HQ.out (by simpa [noughtR] using hc))
            have HA := Lib.hid (atoi_dig (c :: r) HO2.out.1 (by simp))
            have hl2 : (c :: r).length ≤ 5 := HO2.out.2.2.1
            have hb2 : valD 0 (c :: r) ≤ 100000 := by
              have := valD_lt (c :: r) 0 0 HO2.out.1 (by simp)
              have h5 : (10 : Nat) ^ (0 + (c :: r).length) ≤ 10 ^ 5 := Nat.pow_le_pow_right (by omega) (by omega)
              omega
            have hb1 : -1 ≤ colF 0 t1 - 1 ∧ colF 0 t1 - 1 ≤ 27000 := by
              have h := colF_bd t1 HO1.out.1 t1.length (Nat.le_refl _) HO1.out.2.2.1
              rw [List.take_length] at h
              have h3 := HO1.out.2.2.1
              have hp : (30 : Int) ^ t1.length ≤ 30 ^ 3 := by
                rcases (show t1.length = 0 ∨ t1.length = 1 ∨ t1.length = 2 ∨ t1.length = 3 by omega) with h | h | h | h <;> rw [h] <;> decide
              omega
            go_enter Tryz.func106, Tryz.ntmps106
            go_wp2_with (first | (go_at_call_of 139 (Value.string (mkB l)); refine (ad_part3 l _ hs).mono ?_; rw [← HP.out]; rintro e w1 ⟨rfl, hb_w1⟩; have hR1 := (RecAt.new w #[.int .i64 0, .int .i64 0, .bool false, .bool false] 37).below hb_w1 (by simp)) | (go_at_call_of 139 (Value.string (mkB r1)); refine (ad_part5 r1 _ (by omega)).mono ?_; rw [← HQ.out]; rintro e w2 ⟨rfl, hb_w2⟩; have hR2 := hR1.below hb_w2 (by have := hb_w1.size; simp at this; omega)) | (go_at_call 140; refine (s_Atoi (c :: r) _ (by omega) HA.out _).mono ?_; rintro e w3 ⟨rfl, hb_w3⟩; have hR3 := hR2.below hb_w3 (by have := hb_w1.size; have := hb_w2.size; simp at *; omega)) | (go_at_call 141; refine (ad_number t1 _ HO1.out.1 HO1.out.2.2.1).mono ?_; rintro e w4 ⟨rfl, hb_w4⟩; have hR4 := hR3.below hb_w4 (by have := hb_w1.size; have := hb_w2.size; have := hb_w3.size; simp at *; omega)) | (refine wpList_store_row rfl 37 _ _ rfl w.heap.size _ rfl rfl 37 #[.int .i64 0, .int .i64 0, .bool false, .bool false] (by first | exact hR4 | exact hR2 | exact hR1) refInfo rfl (by simp [Value.oneCell']) ?_))
            refine bodyPost_ret (results_cell2 Tryz.results106 _ _ w.heap.size _ _ _ rfl ((by first | exact hR4 | exact hR2 | exact hR1 : RecAt _ w.heap.size _ _).set _) Tryz.underlying37 rfl refInfo) rfl ⟨by rw [HZ.out]; rfl, (below_setRow (by repeat (first | exact Below.refl _ _ | assumption | apply bel_alloc | (refine Bel.trans ?_ (by assumption)))) (Nat.le_refl _) _)⟩
end Go.Proofs.YtnmbpmomilehoaaGreatDoor

namespace Go.Proofs.YtnmbpmomilehoaaGreatDoor
open Go.RowKit

set_option maxRecDepth 100000 in
set_option maxHeartbeats 800000 in
theorem ad_Name (l : B) (w : World) (hs : l.length ≤ 1000000) : Calls Tryz.prog 68 #[.string (mkB l)] w fun e w' => e = .returned (.bool (nameB l)) ∧ Below w.heap.size w w' := by
  have hms := mkB_size; have hma := mkB_append; have hmx := mkB_extract; have hmt := mkB_toList; have hmtl := subB_tail; have hmhd := subB_head
  have k1 : (⟨#[65, 66, 67, 68, 69, 70, 71, 72, 73, 74, 75, 76, 77, 78, 79, 80, 81, 82, 83, 84, 85, 86, 87, 88, 89, 90, 97, 98, 99, 100, 101, 102, 103, 104, 105, 106, 107, 108, 109, 110, 111, 112, 113, 114, 115, 116, 117, 118, 119, 120, 121, 122, 48, 49, 50, 51, 52, 53, 54, 55, 56, 57, 95]⟩ : ByteArray) = mkB nameS := rfl
  have k2 : (⟨#[48, 49, 50, 51, 52, 53, 54, 55, 56, 57]⟩ : ByteArray) = mkB digS := rfl
  have HN := Lib.hid (nameB_run l)
  go_enter Tryz.func68, Tryz.ntmps68
  go_wp2_with (first | (go_at_call_of 101 (Value.string (mkB nameS)); refine (ad_run l nameS _ hs nameS_low (by decide)).mono ?_; rintro e w1 ⟨rfl, hb_w1⟩; have hz_w1 := hb_w1.size) | (go_at_call_of 101 (Value.string (mkB digS)); refine (ad_run l digS _ hs digS_low (by decide)).mono ?_; rintro e w2 ⟨rfl, hb_w2⟩; have hz_w2 := hb_w2.size))
  all_goals
    go_ret
    refine ⟨ret_b ?_, (by repeat (first | exact Below.refl _ _ | assumption | apply bel_drew | apply bel_drewN | apply bel_alloc | (refine bel_set ?_ (by first | (simp; done) | omega) _) | (refine Bel.trans ?_ (by assumption))))⟩
    rw [HN.out]
    rw [Bool.eq_iff_iff]
    simp only [Bool.and_eq_true, decide_eq_true_eq, beq_iff_eq, Bool.false_eq_true, false_iff]
    omega
end Go.Proofs.YtnmbpmomilehoaaGreatDoor

namespace Go.Proofs.YtnmbpmomilehoaaGreatDoor
open Go.RowKit

theorem hasP_brk (l : B) : Lib.hasPrefix l [91] = brkF l := by
  cases l with
  | nil => rfl
  | cons c r =>
    simp only [Lib.hasPrefix, List.isPrefixOf, brkF]
    by_cases h : c = 91
    · subst h; rfl
    · have h2 : ¬ (c.toNat : Int) = 91 := fun e => h (UInt8.toNat_inj.1 (by show c.toNat = 91; omega))
      have : ¬ (91 : UInt8) = c := fun e => h e.symm
      rw [beq_false_of_ne this, beq_false_of_ne h2]; rfl
theorem trimP_brk (l : B) : Lib.trimPrefix l [91] = if brkF l = true then l.drop 1 else l := by
  rw [Lib.trimPrefix, hasP_brk]; rfl
theorem cutAt_len (l : B) (c : UInt8) : (cutAt l c).1.length ≤ l.length ∧ (cutAt l c).2.1.length ≤ l.length := by
  unfold cutAt
  split
  · simp
  · simp only [List.length_take, List.length_drop]; omega
theorem bookR_cut (l : B) (h : brkF l = true) : bookR l = if (cutAt (l.drop 1) 93).2.2 = true ∧ nameB (cutAt (l.drop 1) 93).1 = true then some ((cutAt (l.drop 1) 93).1, (cutAt (l.drop 1) 93).2.1) else none := by
  rw [bookR, if_pos h]
  cases l with
  | nil => simp [brkF] at h
  | cons c r =>
    have hc : ¬ c = 93 := by intro e; subst e; simp [brkF] at h
    rw [idxB, if_neg hc, List.drop_succ_cons, List.drop_zero, cutAt]
    cases hi : idxB r 93 with
    | none => simp
    | some i =>
      simp only [Option.map_some, true_and]
      rw [show subB (c :: r) 1 (i + 1) = r.take i by simp [subB]]
      rfl
/-- the book, the sheet, what is behind them -/
def whereR (l : B) : B × B × B × Bool :=
  match bookR l with
  | none => ([], [], [], false)
  | some (book, r) =>
    if (cutAt r 33).2.2 = true then if nameB (cutAt r 33).1 = true then (book, (cutAt r 33).1, (cutAt r 33).2.1, true) else ([], [], [], false)
    else ([], [], r, book.isEmpty)
set_option maxRecDepth 100000 in
set_option maxHeartbeats 1600000 in
theorem ad_where (l : B) (w : World) (hs : l.length ≤ 1000000) (hG : Glob w) : Calls Tryz.prog 105 #[.string (mkB l)] w fun e w' => e = .returned (.tuple #[.string (mkB (whereR l).1), .string (mkB (whereR l).2.1), .string (mkB (whereR l).2.2.1), .bool (whereR l).2.2.2]) ∧ Below w.heap.size w w' := by
  have hms := mkB_size; have hma := mkB_append; have hmx := mkB_extract; have hmt := mkB_toList; have hmtl := subB_tail; have hmhd := subB_head
  have k1 : (⟨#[91]⟩ : ByteArray) = mkB [91] := rfl
  have k2 : (⟨#[93]⟩ : ByteArray) = mkB [93] := rfl
  have k3 : (⟨#[33]⟩ : ByteArray) = mkB [33] := rfl
  have k4 : (⟨#[]⟩ : ByteArray) = mkB [] := rfl
  go_enter Tryz.func105, Tryz.ntmps105
  go_upto_if 13 with (go_at_call 64; refine (s_CutPrefix l [91] _).mono ?_; rw [hasP_brk, trimP_brk]; rintro e w' ⟨rfl, rfl⟩)
  go_cut [0, 2, 6, 7] (fun s b _ _ wc => ∃ book r, bookR l = some (book, r) ∧ s = .string (mkB r) ∧ b = .string (mkB book) ∧ r.length ≤ 1000000 ∧ book.length ≤ 1000000 ∧ Below w.heap.size w wc)
  case first =>
    cases hb : brkF l with
    | false =>
      go_wp2
      go_meet
      exact ⟨[], l, by simp [bookR, hb], rfl, rfl, hs, by simp, Below.refl _ _⟩
    | true =>
      obtain ⟨t, rfl⟩ : ∃ t, l = 91 :: t := by
        cases l with
        | nil => simp [brkF] at hb
        | cons c r => exact ⟨r, by simp only [brkF, beq_iff_eq] at hb; rw [show c = 91 from UInt8.toNat_inj.1 (by show c.toNat = 91; omega)]⟩
      have hs2 : t.length ≤ 1000000 := by simp at hs; omega
      have hl := cutAt_len t 93
      have hk : bookR (91 :: t) = _ := bookR_cut (91 :: t) rfl
      simp only [List.drop_succ_cons, List.drop_zero] at hk
      obtain ⟨⟨x, y, ok⟩, hx⟩ : ∃ x, x = cutAt t 93 := ⟨_, rfl⟩
      rw [← hx] at hl hk
      simp only [] at hl hk
      have HX := Lib.hid hx
      clear hx
      cases ok with
      | false =>
        have HZ := Lib.hid (show whereR (91 :: t) = ([], [], [], false) by rw [whereR, hk, if_neg (by simp)])
        clear hk
        go_wp2_with (first | (go_at_call 63; refine (s_Cut t 93 _ (by omega) hG).mono ?_; rw [← HX.out]; rintro e w1 ⟨rfl, hb_w1⟩))
        exact bodyPost_ret (v := .tuple #[.string (mkB []), .string (mkB []), .string (mkB []), .bool false]) (by simp [results, Tryz.results105, mkB_nil]) rfl ⟨by rw [HZ.out], (by repeat (first | exact Below.refl _ _ | assumption | apply bel_drew | apply bel_drewN | apply bel_alloc | (refine bel_set ?_ (by first | (simp; done) | omega) _) | (refine Bel.trans ?_ (by assumption))))⟩
      | true =>
        cases hn : nameB x with
        | false =>
          have HZ := Lib.hid (show whereR (91 :: t) = ([], [], [], false) by rw [whereR, hk, if_neg (by simp [hn])])
          clear hk
          go_wp2_with (first | (go_at_call 63; refine (s_Cut t 93 _ (by omega) hG).mono ?_; rw [← HX.out]; rintro e w1 ⟨rfl, hb_w1⟩) | (go_at_call 68; refine (ad_Name x _ (by omega)).mono ?_; rw [hn]; rintro e w2 ⟨rfl, hb_w2⟩))
          exact bodyPost_ret (v := .tuple #[.string (mkB []), .string (mkB []), .string (mkB []), .bool false]) (by simp [results, Tryz.results105, mkB_nil]) rfl ⟨by rw [HZ.out], (by repeat (first | exact Below.refl _ _ | assumption | apply bel_drew | apply bel_drewN | apply bel_alloc | (refine bel_set ?_ (by first | (simp; done) | omega) _) | (refine Bel.trans ?_ (by assumption))))⟩
        | true =>
          have HK := Lib.hid (show bookR (91 :: t) = some (x, y) by rw [hk, if_pos ⟨rfl, hn⟩])
          clear hk
          go_wp2_with (first | (go_at_call 63; refine (s_Cut t 93 _ (by omega) hG).mono ?_; rw [← HX.out]; rintro e w1 ⟨rfl, hb_w1⟩) | (go_at_call 68; refine (ad_Name x _ (by omega)).mono ?_; rw [hn]; rintro e w2 ⟨rfl, hb_w2⟩))
          go_meet
          exact ⟨x, y, HK.out, rfl, rfl, by omega, by omega, (by repeat (first | exact Below.refl _ _ | assumption | apply bel_drew | apply bel_drewN | apply bel_alloc | (refine bel_set ?_ (by first | (simp; done) | omega) _) | (refine Bel.trans ?_ (by assumption))))⟩
  case rest =>
    obtain ⟨book, r, hk, rfl, rfl, hr, hbk, hbw⟩ := hcut
    have hl := cutAt_len r 33
    obtain ⟨⟨x, y, ok⟩, hx⟩ : ∃ x, x = cutAt r 33 := ⟨_, rfl⟩
    have hw : whereR l = if ok = true then if nameB x = true then (book, x, y, true) else ([], [], [], false) else ([], [], r, book.isEmpty) := by
      rw [whereR, hk]; simp only []; rw [← hx]
    rw [← hx] at hl
    simp only [] at hl
    have HX := Lib.hid hx
    clear hx hk
    cases ok with
    | false =>
      have HZ := Lib.hid (show whereR l = ([], [], r, book.isEmpty) by rw [hw, if_neg (by simp)])
      clear hw
      go_wp2_with (first | (go_at_call 63; refine (s_Cut r 33 _ (by omega) (hG.below hbw)).mono ?_; rw [← HX.out]; rintro e w3 ⟨rfl, hb_w3⟩))
      exact bodyPost_ret (v := .tuple #[.string (mkB []), .string (mkB []), .string (mkB r), .bool book.isEmpty]) (by simp [results, Tryz.results105, mkB_nil]) rfl ⟨by rw [HZ.out], (by repeat (first | exact Below.refl _ _ | assumption | apply bel_drew | apply bel_drewN | apply bel_alloc | (refine bel_set ?_ (by first | (simp; done) | omega) _) | (refine Bel.trans ?_ (by assumption))))⟩
    | true =>
      cases hn : nameB x with
      | false =>
        have HZ := Lib.hid (show whereR l = ([], [], [], false) by rw [hw, if_pos rfl, if_neg (by simp [hn])])
        clear hw
        go_wp2_with (first | (go_at_call 63; refine (s_Cut r 33 _ (by omega) (hG.below hbw)).mono ?_; rw [← HX.out]; rintro e w3 ⟨rfl, hb_w3⟩) | (go_at_call 68; refine (ad_Name x _ (by omega)).mono ?_; rw [hn]; rintro e w2 ⟨rfl, hb_w2⟩))
        exact bodyPost_ret (v := .tuple #[.string (mkB []), .string (mkB []), .string (mkB []), .bool false]) (by simp [results, Tryz.results105, mkB_nil]) rfl ⟨by rw [HZ.out], (by repeat (first | exact Below.refl _ _ | assumption | apply bel_drew | apply bel_drewN | apply bel_alloc | (refine bel_set ?_ (by first | (simp; done) | omega) _) | (refine Bel.trans ?_ (by assumption))))⟩
      | true =>
        have HZ := Lib.hid (show whereR l = (book, x, y, true) by rw [hw, if_pos rfl, if_pos hn])
        clear hw
        go_wp2_with (first | (go_at_call 63; refine (s_Cut r 33 _ (by omega) (hG.below hbw)).mono ?_; rw [← HX.out]; rintro e w3 ⟨rfl, hb_w3⟩) | (go_at_call 68; refine (ad_Name x _ (by omega)).mono ?_; rw [hn]; rintro e w2 ⟨rfl, hb_w2⟩))
        exact bodyPost_ret (v := .tuple #[.string (mkB book), .string (mkB x), .string (mkB y), .bool true]) (by simp [results, Tryz.results105]) rfl ⟨by rw [HZ.out], (by repeat (first | exact Below.refl _ _ | assumption | apply bel_drew | apply bel_drewN | apply bel_alloc | (refine bel_set ?_ (by first | (simp; done) | omega) _) | (refine Bel.trans ?_ (by assumption))))⟩
end Go.Proofs.YtnmbpmomilehoaaGreatDoor
