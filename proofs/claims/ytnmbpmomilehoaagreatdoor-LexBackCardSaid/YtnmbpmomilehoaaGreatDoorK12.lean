/-
  Part 12 of what the proof stands on: Gl.
-/
import Derived.Test.YtnmbpmomilehoaaGreatDoorCards
import Derived.Test.YtnmbpmomilehoaaGreatDoorTie
import Derived.ProofKit
import Derived.OpenShut
import Derived.Deep.DeepHandedRow
import Derived.Lib.LaidU8
import Derived.Shelf.Vars
import Derived.Lay
import Derived.MakeChecks
import Derived.SevenTiedAt
import Derived.Test.YtnmbpmomilehoaaGreatDoorK3
namespace Go.Proofs.YtnmbpmomilehoaaGreatDoor
open Go.ChangeShapes Go.WideShapes Go.ChangeAt Go.RowKit

theorem own : ownKnob Tryz.prog.godebug = none := by kernel_rfl
theorem gSig : Tryz.prog.globalNamed "lattice/value.signs" = some 0 := by kernel_rfl
theorem gSigT : (Tryz.prog.globals[0]?).map (·.type) = some 92 := by kernel_rfl
theorem gPow : Tryz.prog.globalNamed "internal/strconv.uint64pow10" = some 2 := by kernel_rfl
theorem gPowT : (Tryz.prog.globals[2]?).map (·.type) = some 165 := by kernel_rfl
theorem cStr : Tryz.prog.cellsOf 9 = 1 := by kernel_rfl
theorem cU64 : Tryz.prog.cellsOf 87 = 1 := by kernel_rfl
theorem cPow : Tryz.prog.cellsOf 165 = 20 := by kernel_rfl
/-- the eight variables that every row of the seat lists -/
abbrev theLaid : List (String × DataW Unit) := Rows.lexLongRow.laid
theorem glob_of {W : World} (hS : W.ShapedOpen Tryz.prog) (hL : laidMetH Tryz.prog theLaid W) : Glob W := by
  rw [MakeChecks.laidMetH_plain _ _ _ (by kernel_rfl)] at hL
  refine ⟨?_, fun i hi => ?_, ?_⟩
  · exact cell_of_shapedOpen_int (P := Tryz.prog) (g := 1) (t := 3) (zero := #[.int .i64 0]) hS (of_decide_eq_true (by kernel_rfl)) (by kernel_rfl) rfl (by kernel_rfl) (by kernel_rfl) Tryz.underlying3
  · obtain ⟨g, t, cs, fuel, p, hg, ht, hv, hd⟩ := Lib.laidMet.reads hL (n := "lattice/value.signs") (d := Rows.laid_lattice_value_signs) (by simp [theLaid, Rows.lexLongRow])
    obtain rfl := Option.some.inj (gSig.symm.trans hg)
    obtain rfl := Option.some.inj (gSigT.symm.trans ht)
    obtain ⟨f, d, q, hds, htr⟩ := Lib.array_elem Tryz.underlying92 hd i hi
    rw [cStr] at htr
    obtain ⟨s, hs, he, _⟩ := DataW.trod_string Tryz.underlying9 htr
    have h1 := World.var?_cell hg hv i
    have h2 : cs[i]? = some (.string s) := by
      have := congrArg (·[0]?) hs
      simpa using this
    rw [h1, h2]
    have he1 := congrArg Prod.fst he
    simp only at he1
    subst he1
    have h3 : (([.lit (.string []), .lit (.string [35, 68, 73, 86, 47, 48, 33]), .lit (.string [35, 78, 85, 77, 33]), .lit (.string [35, 86, 65, 76, 85, 69, 33]), .lit (.string [35, 82, 69, 70, 33]), .lit (.string [35, 78, 65, 77, 69, 63]), .lit (.string [35, 78, 47, 65]), .lit (.string [35, 67, 89, 67, 76, 69, 33]), .lit (.string [35, 76, 73, 78, 75, 33])] : List (DataW Unit))[i]?) = some (.lit (.string s.data.toList)) := hds
    have h4 : s.data.toList = signsB (i : Int) := by
      rcases (show i = 0 ∨ i = 1 ∨ i = 2 ∨ i = 3 ∨ i = 4 ∨ i = 5 ∨ i = 6 ∨ i = 7 ∨ i = 8 by omega) with rfl | rfl | rfl | rfl | rfl | rfl | rfl | rfl | rfl <;> (simp only [List.getElem?_cons_zero, List.getElem?_cons_succ, Option.some.injEq, DataW.lit.injEq, Lit.string.injEq] at h3; rw [← h3]; rfl)
    rw [← h4, mkB_of]
  · have := laidMet.filter (fun x => x.1 == "internal/strconv.uint64pow10") hL
    exact Lib.tabIs_of_head (rest := []) gPow gPowT Tryz.underlying165 Tryz.underlying87 cU64 cPow this
end Go.Proofs.YtnmbpmomilehoaaGreatDoor
