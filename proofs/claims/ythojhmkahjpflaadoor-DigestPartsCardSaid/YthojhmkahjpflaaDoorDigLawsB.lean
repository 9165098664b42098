/- The walk of drayagelaw02.DigestOf. -/
import Derived.Test.YthojhmkahjpflaaDoorDigLawsA
import Derived.Deep.RegionWith
namespace Go.Proofs.YthojhmkahjpflaaDoor
open Go.RowKit Go.Dray

/-- The text of a sum. -/
theorem sum_str {w : World} {B : Nat} {A : Option Addr} {n c : Nat} {zs : List Int} (h : Own w B 5 1 A n c (zs.map (Value.int .u8))) : (convert 22 9 (.slice A n c)).run Tryd.prog w = .ok (.string (strOfNums zs)) w :=
  (Ints.ofOwn h).str Tryd.underlying22 Tryd.underlying5 Tryd.underlying9 c
theorem nil_str (w : World) : (convert 22 9 (.slice none 0 0)).run Tryd.prog w = .ok (.string (strOfNums [])) w :=
  run_convert_bytes_nil w 22 5 Tryd.underlying22 Tryd.underlying5 0 0 9 Tryd.underlying9

set_option maxRecDepth 100000 in
set_option maxHeartbeats 1000000 in
theorem digestOf_walk (kind : Int) (A : Option Addr) (n c : Nat) (zs : List Int) (w : World) (_hk : (Lit.int .i64 kind).wf = true) (hin : InInts .u8 w A n c zs) (hT : Tabs w) :
    Calls Tryd.prog 4 #[.int .i64 kind, .slice A n c] w fun e w' => e = .returned (.bool true) ∧ Below w.heap.size w w' := by
  have HZ := Lib.hid (bytes_bd hin)
  have HT := Lib.hid hT
  have HS := Lib.hid hin.1
  have hnc := hin.2.1
  clear hin hT
  by_cases hn : 3000 < n
  · have d1 : decide ((3000 : Int) < n) = true := by simp; omega
    go_enter Tryd.func4, Tryd.ntmps4
    go_wp2_with (go_at_call 7; refine (awake_any _ HT.out).mono ?_; rintro e w1 ⟨rfl, hu1⟩)
    go_ret
    exact ⟨rfl, hu1.below (Nat.le_refl _) (by simp)⟩
  · have d1 : decide ((3000 : Int) < n) = false := by simp; omega
    by_cases hk : IsKind kind
    · have HK := Lib.hid hk
      clear hk
      go_enter Tryd.func4, Tryd.ntmps4
      go_upto_region 5 with (go_at_call 7; refine (awake_any _ HT.out).mono ?_; rintro e w1 ⟨rfl, hu1⟩; have HU1 := Lib.hid hu1; clear hu1)
      have HI : Hid (∀ W, Upd [] w1 W → Ints .u8 W A n zs) := fun W hW => (HS.out.upd HU1.out (by simp)).upd hW (by simp)
      have HTT : Hid (∀ W, Upd [] w1 W → Tabs W) := fun W hW => (HT.out.upd HU1.out (by simp)).upd hW (by simp)
      have hcur : Upd [] w1 w1.drew := (Upd.refl _ _).drew
      clear HS HT
      go_region_with (first
        | (go_at_call 11; refine (of_ok _ kind HK.out A n c zs (HI.out _ (by assumption)) HZ.out hnc (HTT.out _ (by assumption)) (by omega)).mono ?_; rintro e wa ⟨A1, c1, rfl, ho1, hv1⟩; have hca := Upd.trans (by assumption) hv1; have s1 := sum_str ho1; (try have t2 := sum_str (ho2.upd hv1 (by simp))))
        | (go_at_call 12; refine (rof_ok _ kind HK.out A n c zs (HI.out _ (by assumption)) HZ.out (HTT.out _ (by assumption)) (by omega)).mono ?_; rintro e wb ⟨A2, c2, rfl, ho2, hv2⟩; have hcb := Upd.trans (by assumption) hv2; have s2 := sum_str ho2; (try have t1 := sum_str (ho1.upd hv2 (by simp)))))
      all_goals
        go_wp2
        go_ret
        exact ⟨rfl, (HU1.out.trans (by assumption)).below (Nat.le_refl _) (by simp)⟩
    · have HK := Lib.hid hk
      clear hk
      go_enter Tryd.func4, Tryd.ntmps4
      go_upto_region 5 with (go_at_call 7; refine (awake_any _ HT.out).mono ?_; rintro e w1 ⟨rfl, hu1⟩; have HU1 := Lib.hid hu1; clear hu1)
      have hcur : Upd [] w1 w1.drew := (Upd.refl _ _).drew
      have hnil := nil_str
      go_region_with (first
        | (go_at_call 11; refine (of_bad _ kind HK.out A n c).mono ?_; rintro e wa ⟨rfl, hv1⟩; have hca := Upd.trans (by assumption) hv1)
        | (go_at_call 12; refine (rof_bad _ kind HK.out A n c).mono ?_; rintro e wb ⟨rfl, hv2⟩; have hcb := Upd.trans (by assumption) hv2))
      all_goals
        go_wp2
        go_ret
        exact ⟨rfl, (HU1.out.trans (by assumption)).below (Nat.le_refl _) (by simp)⟩

end Go.Proofs.YthojhmkahjpflaaDoor
