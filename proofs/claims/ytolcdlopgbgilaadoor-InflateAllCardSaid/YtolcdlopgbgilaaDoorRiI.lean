/- The walk of drayagelaw04.InflateAll. -/
import Derived.Test.YtolcdlopgbgilaaDoorRiH
import Derived.Test.YtolcdlopgbgilaaDoorInfL
namespace Go.Proofs.YtolcdlopgbgilaaDoor
open Go.RowKit Go.Dray

set_option maxRecDepth 100000 in
set_option maxHeartbeats 2000000 in
theorem inflateAll_walk (A : Option Addr) (n c : Nat) (zs : List Int) (most : Int) (w : World) (hin : InInts .u8 w A n c zs) (_ : (Lit.int .i64 most).wf = true) (hT : OrdI w) :
    Calls Tryd.prog 3 #[.slice A n c, .int .i64 most] w fun e w' => e = .returned (.bool true) ∧ Below w.heap.size w w' := by
  have HZ := Lib.hid (inBytes_bd hin)
  have HT := Lib.hid hT
  have HS := Lib.hid hin.1
  have HL := hin.1.len
  clear hin hT
  by_cases h1 : 300 < n
  · have d1 : decide ((300 : Int) < n) = true := by simp; omega
    go_enter Tryd.func3, Tryd.ntmps3
    go_wp2_with (go_at_call 11; refine (awake_any _ HT.out).mono ?_; rintro e w1 ⟨rfl, hu1⟩)
    go_ret
    exact ⟨rfl, hu1.below (Nat.le_refl _) (by simp)⟩
  · have d1 : decide ((300 : Int) < n) = false := by simp; omega
    by_cases h2 : 5000 < most ∧ most ≤ 16777216
    · have d2 : decide (5000 < most) = true := by simp; omega
      have d3 : decide (most ≤ 16777216) = true := by simp; omega
      go_enter Tryd.func3, Tryd.ntmps3
      go_wp2_with (go_at_call 11; refine (awake_any _ HT.out).mono ?_; rintro e w1 ⟨rfl, hu1⟩)
      go_ret
      exact ⟨rfl, hu1.below (Nat.le_refl _) (by simp)⟩
    · have d2 : (decide (5000 < most) = true ∧ decide (most ≤ 16777216) = false) ∨ decide (5000 < most) = false := by
        by_cases h : 5000 < most
        · left; simp; omega
        · right; simp; omega
      have hn : n ≤ 300 := by omega
      have HM : Hid (0 ≤ most → most ≤ 16777216 → most ≤ 5000) := fun _ _ => by omega
      clear h2 h1
      rcases d2 with ⟨d2, d3⟩ | d2
      all_goals
        go_enter Tryd.func3, Tryd.ntmps3
        go_wp2_with (first | (go_at_call 11; refine (awake_any _ HT.out).mono ?_; rintro e w1 ⟨rfl, hu1⟩) | fail)
        have HT1 := Lib.hid (HT.out.upd hu1)
        have HS1 := Lib.hid (HS.out.upd hu1 (by simp))
        have HU1 := Lib.hid hu1
        clear hu1
        refine (inflate_any A n c zs most w1 HS1.out HZ.out HT1.out (by omega) (8 * n + 1) (by omega)).mono ?_
        rintro e w2 ⟨hu2, hI⟩
        have HU2 : Hid (Upd [] w w2) := HU1.out.trans hu2
        have HS2 := Lib.hid (HS1.out.upd hu2 (by simp))
        clear hu2 HS1 HU1 HT1
        rcases hI with ⟨hm, rfl⟩ | ⟨hm0, hm1, x, hx0, hr, rfl⟩ | ⟨hm0, hm1, out, p, OA, on, oc, hr, rfl, hi, hon, -, -, -, hp8, -⟩
        · go_wp2_with fail
          refine (rinflate_any A n c zs most w2 HS2.out HZ.out (by omega) (8 * n + 1) (by omega)).mono ?_
          rintro e w3 ⟨RA, rn, rc, used, err, rfl, hu3, ⟨_, rfl, rfl, rfl⟩ | ⟨h, h', _⟩ | ⟨h, h', _⟩⟩
          · have HU3 : Hid (Upd [] w w3) := HU2.out.trans hu3
            have HA : Hid (Ints .u8 w3 none 0 []) := Seg.nil _ _ _
            have HB : Hid (Ints .u8 w3 RA 0 []) := Seg.nil _ _ _
            have hu4 : Upd [] w3 (w3.alloc (.cells #[.slice RA 0 rc, .int .i64 0, .int .i64 1] 28)) := (Upd.refl _ _).alloc _
            have c1 := str_cut (c := 0) (HA.out.upd hu4 (by simp))
            have c2 := str_cut (c := rc) (HB.out.upd hu4 (by simp))
            have HU4 : Hid (Upd [] w (w3.alloc (.cells #[.slice RA 0 rc, .int .i64 0, .int .i64 1] 28))) := HU3.out.trans hu4
            clear hu3 hu4
            go_wp2
            go_ret
            exact ⟨rfl, HU4.out.below (Nat.le_refl _) (by simp)⟩
          · exact absurd ⟨h, h'⟩ hm
          · exact absurd ⟨h, h'⟩ hm
        · go_wp2_with fail
          refine (rinflate_any A n c zs most w2 HS2.out HZ.out (by omega) (8 * n + 1) (by omega)).mono ?_
          rintro e w3 ⟨RA, rn, rc, used, err, rfl, hu3, ⟨h, _⟩ | ⟨_, _, _, rfl, rfl, rfl, hr2⟩ | ⟨_, _, _, out, p, hr2, _⟩⟩
          · exact absurd ⟨hm0, hm1⟩ h
          · rw [hr] at hr2
            injection hr2 with hr2
            subst hr2
            clear hr
            have HU3 : Hid (Upd [] w w3) := HU2.out.trans hu3
            have HA : Hid (Ints .u8 w3 none 0 []) := Seg.nil _ _ _
            have HB : Hid (Ints .u8 w3 none 0 []) := Seg.nil _ _ _
            have hu4 : Upd [] w3 (w3.alloc (.cells #[.slice none 0 rc, .int .i64 0, .int .i64 x] 28)) := (Upd.refl _ _).alloc _
            have c1 := str_cut (c := 0) (HA.out.upd hu4 (by simp))
            have c2 := str_cut (c := rc) (HB.out.upd hu4 (by simp))
            have HU4 : Hid (Upd [] w (w3.alloc (.cells #[.slice none 0 rc, .int .i64 0, .int .i64 x] 28))) := HU3.out.trans hu4
            clear hu3 hu4
            go_wp2
            go_ret
            exact ⟨rfl, HU4.out.below (Nat.le_refl _) (by simp)⟩
          · rw [hr] at hr2; cases hr2
        · obtain ⟨U, hU⟩ : ∃ U : Int, U = ((p + 7) / 8 : Nat) := ⟨_, rfl⟩
          rw [← hU]
          have HUU := Lib.hid hU
          clear hU
          go_wp2_with fail
          refine (rinflate_any A n c zs most w2 HS2.out HZ.out (by omega) (8 * n + 1) (by omega)).mono ?_
          rintro e w3 ⟨RA, rn, rc, used, err, rfl, hu3, ⟨h, _⟩ | ⟨_, _, _, _, _, _, hr2⟩ | ⟨_, _, rfl, out2, p2, hr2, rfl, hi2, -, -, -⟩⟩
          · exact absurd ⟨hm0, hm1⟩ h
          · rw [hr] at hr2; cases hr2
          · rw [hr] at hr2
            injection hr2 with hr2 hr3
            subst hr2 hr3
            clear hr
            rw [← HUU.out]
            clear HUU
            have HU3 : Hid (Upd [] w w3) := HU2.out.trans hu3
            have HA : Hid (Ints .u8 w3 OA on out) := hi.upd hu3 (by simp)
            have HB : Hid (Ints .u8 w3 RA rn out) := hi2
            have hu4 : Upd [] w3 (w3.alloc (.cells #[.slice RA rn rc, .int .i64 U, .int .i64 0] 28)) := (Upd.refl _ _).alloc _
            have c1 := str_cut (c := oc) (HA.out.upd hu4 (by simp))
            have c2 := str_cut (c := rc) (HB.out.upd hu4 (by simp))
            have HU4 : Hid (Upd [] w (w3.alloc (.cells #[.slice RA rn rc, .int .i64 U, .int .i64 0] 28))) := HU3.out.trans hu4
            clear hu3 hu4
            go_wp2
            go_ret
            exact ⟨rfl, HU4.out.below (Nat.le_refl _) (by simp)⟩

end Go.Proofs.YtolcdlopgbgilaaDoor
