/- The package-level table inflate.order as the row lays it. -/
import Derived.Test.YtolcdlopgbgilaaDoorInfJ
import Derived.Test.YtolcdlopgbgilaaDoorLawKit
import Derived.LaidMore
import Derived.Stop.Joined
namespace Go.Proofs.YtolcdlopgbgilaaDoor
open Go.ChangeShapes Go.WideShapes Go.ChangeAt Go.RowKit Go.Dray

/-- A row of integers that reads as a known datum. -/
theorem trod_row {H : Type} {enc : TypeId × Value → H} {W : World} {base : Nat} {sp : Nat → Bool} {held : Bool} {fuel : Nat} {t e : TypeId} {n : Nat} {k : IntKind} {cs : List Value} {x : DataW H × List MemPlace}
    (ht : Tryd.prog.underlying t = some (.array n e)) (he : Tryd.prog.underlying e = some (.int k)) (hc : Tryd.prog.cellsOf e = 1) (hct : Tryd.prog.cellsOf t = n) (h : DataW.trod enc Tryd.prog W base sp held fuel t cs = some x)
    (zs : List Int) (hx : x.1 = .agg (zs.map fun z => .lit (.int k z))) : cs = zs.map (Value.int k) := by
  obtain ⟨xs, m, rfl, rfl, hlen, hn, hel⟩ := DataW.trod_array ht h
  simp only [DataW.agg.injEq] at hx
  have hl : zs.length = n := by
    have := congrArg List.length hx
    simp at this
    omega
  apply List.ext_getElem?
  intro i
  rw [hct] at hlen
  rcases Nat.lt_or_ge i n with hi | hi
  · have h1 := hel i hi
    rw [hc, Nat.mul_one, List.getElem?_eq_getElem (by omega)] at h1
    obtain ⟨z, e1, e2, _⟩ := DataW.trod_int he h1
    have h2 : (xs.map (·.1))[i]? = some (.lit (.int k z)) := by rw [List.getElem?_map, List.getElem?_eq_getElem (by omega), e2]; rfl
    rw [hx, List.getElem?_map, List.getElem?_eq_getElem (by omega)] at h2
    simp at h2
    have h3 : ((cs.drop i).take 1)[0]? = some (Value.int k z) := by rw [e1]; rfl
    rw [List.getElem?_take_of_lt (by omega), List.getElem?_drop, Nat.add_zero] at h3
    rw [h3, List.getElem?_map, List.getElem?_eq_getElem (by omega), ← h2]
    rfl
  · rw [List.getElem?_eq_none (by omega), List.getElem?_eq_none (by rw [List.length_map]; omega)]

def ordI : List Int := orderL.map fun n : Nat => (n : Int)
theorem ordI_cell {cs : Array Value} (h : cs.toList = ordI.map (Value.int .i64)) (i : Nat) (hi : i < 19) : cs[i]? = some (.int .i64 (orderL.getD i 0 : Nat)) := by
  rw [← Array.getElem?_toList, h]
  unfold ordI
  rw [List.map_map, List.getElem?_map, List.getElem?_eq_getElem (show i < orderL.length from hi)]
  simp [List.getD, show i < orderL.length from hi]

def laidI : List (String × DataW Unit) := [("drayage/inflate.order", Rows.laid_drayage_inflate_order)]

theorem doorI (os : Os) (args : Array Value) : laidMetH Tryd.prog laidI ((World.doorLaid Tryd.prog 400 os).forCall (fun _ _ => 0) ⟨#[], args, []⟩).memory :=
  laidMetH_of_parts3 (fuel := 8) (laidMet_of_run' 8 (by kernel_rfl) (by kernel_rfl)) (by kernel_rfl) (by kernel_rfl)

theorem of_laidI {W : World} (h : laidMetH Tryd.prog laidI W) : OrdI W := by
  rw [MakeChecks.laidMetH_plain _ _ _ (by kernel_rfl)] at h
  obtain ⟨ps, ⟨g0, t0, cs0, f0, p0, q0, hg0, ht0, hv0, hd0, _⟩, _, _⟩ := h
  obtain rfl := Option.some.inj ((show Tryd.prog.globalNamed "drayage/inflate.order" = some 1 by kernel_rfl).symm.trans hg0)
  obtain rfl := Option.some.inj ((show (Tryd.prog.globals[1]?).map (·.type) = some 123 by kernel_rfl).symm.trans ht0)
  have r0 := trod_row (n := 19) (e := 3) (k := .i64) (by kernel_rfl) (by kernel_rfl) (by kernel_rfl) (by kernel_rfl) hd0 ordI rfl
  intro i hi
  rw [World.var?_cell hg0 hv0 i]
  exact ordI_cell r0 i hi

end Go.Proofs.YtolcdlopgbgilaaDoor
