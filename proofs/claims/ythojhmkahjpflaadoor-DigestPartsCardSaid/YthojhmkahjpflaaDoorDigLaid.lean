/- The package-level tables as the row lays them: what the walks read. -/
import Derived.Test.YthojhmkahjpflaaDoorDigC
import Derived.Test.YthojhmkahjpflaaDoorLawKit
import Derived.LaidMore
import Derived.Stop.Joined
namespace Go.Proofs.YthojhmkahjpflaaDoor
open Go.ChangeShapes Go.WideShapes Go.ChangeAt Go.RowKit Go.Dray

/-- A row of integers that reads as a known datum. -/
theorem trod_row {H : Type} {enc : TypeId × Value → H} {W : World} {base : Nat} {sp : Nat → Bool} {held : Bool} {fuel : Nat} {t e : TypeId} {n : Nat} {k : IntKind} {cs : List Value} {x : DataW H × List MemPlace}
    (ht : Tryd.prog.underlying t = some (.array n e)) (he : Tryd.prog.underlying e = some (.int k)) (hc : Tryd.prog.cellsOf e = 1) (hct : Tryd.prog.cellsOf t = n) (h : DataW.trod enc Tryd.prog W base sp held fuel t cs = some x)
    (zs : List Int) (hx : x.1 = .agg (zs.map fun z => .lit (.int k z))) : cs = zs.map (Value.int k) := by
  obtain ⟨xs, m, rfl, rfl, hlen, hn, hel⟩ := DataW.trod_array ht h
  simp only [DataW.agg.injEq] at hx
  have hl : zs.length = n := by
    have := congrArg List.length hx
    simp at this
    omega
  apply List.ext_getElem?
  intro i
  rw [hct] at hlen
  rcases Nat.lt_or_ge i n with hi | hi
  · have h1 := hel i hi
    rw [hc, Nat.mul_one, List.getElem?_eq_getElem (by omega)] at h1
    obtain ⟨z, e1, e2, _⟩ := DataW.trod_int he h1
    have h2 : (xs.map (·.1))[i]? = some (.lit (.int k z)) := by rw [List.getElem?_map, List.getElem?_eq_getElem (by omega), e2]; rfl
    rw [hx, List.getElem?_map, List.getElem?_eq_getElem (by omega)] at h2
    simp at h2
    have h3 : ((cs.drop i).take 1)[0]? = some (Value.int k z) := by rw [e1]; rfl
    rw [List.getElem?_take_of_lt (by omega), List.getElem?_drop, Nat.add_zero] at h3
    rw [h3, List.getElem?_map, List.getElem?_eq_getElem (by omega), ← h2]
    rfl
  · rw [List.getElem?_eq_none (by omega), List.getElem?_eq_none (by rw [List.length_map]; omega)]

def laidL : List (String × DataW Unit) := [("drayage/api.Md5Table", Rows.laid_drayage_api_Md5Table), ("drayage/api.ShaTable", Rows.laid_drayage_api_ShaTable), ("drayage/digest.turns", Rows.laid_drayage_digest_turns)]

/-- The door's own heap meets the condition. -/
theorem door_met (os : Os) (args : Array Value) : laidMetH Tryd.prog laidL ((World.doorLaid Tryd.prog 400 os).forCall (fun _ _ => 0) ⟨#[], args, []⟩).memory :=
  laidMetH_of_parts3 (fuel := 8) (laidMet_of_run' 8 (by kernel_rfl) (by kernel_rfl)) (by kernel_rfl) (by kernel_rfl)

theorem of_laid {W : World} (h : laidMetH Tryd.prog laidL W) : Tabs W := by
  rw [MakeChecks.laidMetH_plain _ _ _ (by kernel_rfl)] at h
  obtain ⟨ps, ⟨g0, t0, cs0, f0, p0, q0, hg0, ht0, hv0, hd0, ⟨g1, t1, cs1, f1, p1, q1, hg1, ht1, hv1, hd1, ⟨g2, t2, cs2, f2, p2, q2, hg2, ht2, hv2, hd2, _, _⟩, _⟩, _⟩, _, _⟩ := h
  obtain rfl := Option.some.inj ((show Tryd.prog.globalNamed "drayage/api.Md5Table" = some 0 by kernel_rfl).symm.trans hg0)
  obtain rfl := Option.some.inj ((show Tryd.prog.globalNamed "drayage/api.ShaTable" = some 1 by kernel_rfl).symm.trans hg1)
  obtain rfl := Option.some.inj ((show Tryd.prog.globalNamed "drayage/digest.turns" = some 2 by kernel_rfl).symm.trans hg2)
  obtain rfl := Option.some.inj ((show (Tryd.prog.globals[0]?).map (·.type) = some 54 by kernel_rfl).symm.trans ht0)
  obtain rfl := Option.some.inj ((show (Tryd.prog.globals[1]?).map (·.type) = some 54 by kernel_rfl).symm.trans ht1)
  obtain rfl := Option.some.inj ((show (Tryd.prog.globals[2]?).map (·.type) = some 60 by kernel_rfl).symm.trans ht2)
  have r0 := trod_row (n := 64) (e := 24) (k := .u32) (by kernel_rfl) (by kernel_rfl) (by kernel_rfl) (by kernel_rfl) hd0 md5L rfl
  have r1 := trod_row (n := 64) (e := 24) (k := .u32) (by kernel_rfl) (by kernel_rfl) (by kernel_rfl) (by kernel_rfl) hd1 shaL rfl
  have tab : ∀ {l : List Int} {k : IntKind} {i : Nat}, i < l.length → (l.map (Value.int k))[i]? = some (.int k (l.getD i 0)) := fun {l k i} hi => by
    rw [List.getElem?_map, List.getElem?_eq_getElem hi]
    simp [List.getD, hi]
  refine ⟨fun i hi => ?_, fun i hi => ?_, fun i hi => ?_⟩
  · rw [World.var?_cell hg0 hv0 i, ← Array.getElem?_toList, r0]
    exact tab (by simpa [md5L] using hi)
  · rw [World.var?_cell hg1 hv1 i, ← Array.getElem?_toList, r1]
    exact tab (by simpa [shaL] using hi)
  · obtain ⟨xs, m, rfl, hx, hlen, hn, hel⟩ := DataW.trod_array (n := 4) (e := 59) (by kernel_rfl) hd2
    simp only [Prod.mk.injEq, Rows.laid_drayage_digest_turns, DataW.agg.injEq] at hx
    have hrow : ∀ q, q < 4 → (cs2.toList.drop (q * 4)).take 4 = ((turnL.drop (q * 4)).take 4).map (Value.int .i64) := fun q hq => by
      have h1 := hel q hq
      rw [show Tryd.prog.cellsOf 59 = 4 by kernel_rfl, List.getElem?_eq_getElem (by omega)] at h1
      refine trod_row (n := 4) (e := 3) (k := .i64) (by kernel_rfl) (by kernel_rfl) (by kernel_rfl) (by kernel_rfl) h1 _ ?_
      have h2 : (xs.map (·.1))[q]? = some xs[q].1 := by rw [List.getElem?_map, List.getElem?_eq_getElem (by omega)]; rfl
      rw [← hx.1] at h2
      rcases q with _ | _ | _ | _ | q
      · simp at h2; exact h2.symm
      · simp at h2; exact h2.symm
      · simp at h2; exact h2.symm
      · simp at h2; exact h2.symm
      · omega
    rw [World.var?_cell hg2 hv2, ← Array.getElem?_toList]
    have h3 := congrArg (·[i % 4]?) (hrow (i / 16) (by omega))
    rw [List.getElem?_take_of_lt (by omega), List.getElem?_drop, List.getElem?_map, List.getElem?_take_of_lt (by omega), List.getElem?_drop, Nat.mul_comm] at h3
    rw [h3, List.getElem?_eq_getElem (by show _ < 16; omega)]
    have hl : 4 * (i / 16) + i % 4 < turnL.length := by show _ < 16; omega
    simp [turnT, List.getD, hl]

end Go.Proofs.YthojhmkahjpflaaDoor
