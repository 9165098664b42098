/- The walk of says, of numbers. -/
import Derived.Test.YtogknbpbjgdldaaRfD
import Derived.StillTailTactics
namespace Go.Proofs.Ytogknbpbjgdldaa
open Go.RowKit Go.Dray
set_option linter.unusedVariables false

set_option maxRecDepth 100000 in
set_option maxHeartbeats 2000000 in
theorem says_num (w : World) (tg ty : Int) (D : Option Addr) (m dc : Nat) (d : List Int) (hD : Ints .u8 w D m d) (hd : ∀ z ∈ d, 0 ≤ z ∧ z ≤ 255) (hmc : m ≤ dc) (hm : m ≤ 100000000) (fr cnt : Nat) (hfrb : fr ≤ 4294967295) (hcnb : cnt ≤ 4294967295) (g_b4 : Hid (cnt ≠ 0)) (g_hnum : Hid (numT ty = true)) :
    Calls Try.prog 30 #[.agg #[.int .i64 tg, .int .i64 ty, .slice none 0 0, .slice none 0 0, .slice none 0 0], .slice D m dc, .int .i64 fr, .int .i64 cnt] w (SaysPost (sayV tg ty d fr cnt) w) := by
  have HD := Lib.hid hD
  have HDB := Lib.hid hd
  have HDL := hD.len
  clear hD hd
  go_enter Try.func30, Try.ntmps30
  go_upto_region 1 with (fail)
  obtain ⟨B, HBB0⟩ : ∃ B, Hid (B = w.heap.size) := ⟨_, rfl⟩
  have HBK : Hid (Blk ((w.alloc (.cells #[.int .i64 tg, .int .i64 ty, .slice none 0 0, .slice none 0 0, .slice none 0 0] 40)).alloc (.cells #[.int .i64 0, .int .i64 0, .slice none 0 0, .slice none 0 0, .slice none 0 0, .int .i64 0] 61)) w.heap.size 40 #[.int .i64 tg, .int .i64 ty, .slice none 0 0, .slice none 0 0, .slice none 0 0]) := (Blk.new _ _ _).alloc _
  have HRK : Hid (Blk ((w.alloc (.cells #[.int .i64 tg, .int .i64 ty, .slice none 0 0, .slice none 0 0, .slice none 0 0] 40)).alloc (.cells #[.int .i64 0, .int .i64 0, .slice none 0 0, .slice none 0 0, .slice none 0 0, .int .i64 0] 61)) (w.heap.size + 1) 61 #[.int .i64 0, .int .i64 0, .slice none 0 0, .slice none 0 0, .slice none 0 0, .int .i64 0]) := by
    have := Blk.new (w.alloc (.cells #[.int .i64 tg, .int .i64 ty, .slice none 0 0, .slice none 0 0, .slice none 0 0] 40)) 61 #[.int .i64 0, .int .i64 0, .slice none 0 0, .slice none 0 0, .slice none 0 0, .int .i64 0]
    simp at this
    exact this
  have HU1 : Hid (Upd [] w ((w.alloc (.cells #[.int .i64 tg, .int .i64 ty, .slice none 0 0, .slice none 0 0, .slice none 0 0] 40)).alloc (.cells #[.int .i64 0, .int .i64 0, .slice none 0 0, .slice none 0 0, .slice none 0 0, .int .i64 0] 61))) := ((Upd.refl _ _).alloc _).alloc _
  rw [← HBB0.out] at HBK HRK ⊢
  generalize hw1 : World.alloc (w.alloc _) _ = w1 at *
  clear hw1
  have z0 : w1.cell? ⟨B + 1, 0, none⟩ = some (.int .i64 0) := by rw [HRK.out.cell]; rfl
  have z1 : w1.cell? ⟨B + 1, 1, none⟩ = some (.int .i64 0) := by rw [HRK.out.cell]; rfl
  have z2 : w1.cell? ⟨B + 1, 2, none⟩ = some (.slice none 0 0) := by rw [HRK.out.cell]; rfl
  have z3 : w1.cell? ⟨B + 1, 3, none⟩ = some (.slice none 0 0) := by rw [HRK.out.cell]; rfl
  have z4 : w1.cell? ⟨B + 1, 4, none⟩ = some (.slice none 0 0) := by rw [HRK.out.cell]; rfl
  have z5 : w1.cell? ⟨B + 1, 5, none⟩ = some (.int .i64 0) := by rw [HRK.out.cell]; rfl
  have fz := HRK.out.frozen
  have e0 : w1.cell? ⟨B, 0, none⟩ = some (.int .i64 tg) := by rw [HBK.out.cell]; rfl
  have e1 : w1.cell? ⟨B, 1, none⟩ = some (.int .i64 ty) := by rw [HBK.out.cell]; rfl
  have e2 : w1.cell? ⟨B, 2, none⟩ = some (.slice none 0 0) := by rw [HBK.out.cell]; rfl
  have e3 : w1.cell? ⟨B, 3, none⟩ = some (.slice none 0 0) := by rw [HBK.out.cell]; rfl
  have e4 : w1.cell? ⟨B, 4, none⟩ = some (.slice none 0 0) := by rw [HBK.out.cell]; rfl
  go_wp2_with fail
  refine (rsize_any ty w1).mono ?_
  rintro e w' ⟨rfl, rfl⟩
  have b4 := g_b4.out
  have hnum := g_hnum.out
  have d4 : ((cnt : Int) == 0) = false := by simp; omega
  have HNUM := Lib.hid hnum
  have h6 : ¬ ty = 6 := by rintro rfl; revert hnum; decide
  have h7 : ¬ ty = 7 := by rintro rfl; revert hnum; decide
  obtain ⟨s, HS⟩ : ∃ s, Hid (s = sizeT ty) := ⟨_, rfl⟩
  have hsb := sizeT_bd ty
  rw [← HS.out] at hsb
  have HRZ : Hid ((rsz ty : Int) = (s : Int)) := by show _ = _; unfold rsz; rw [if_pos HNUM.out, HS.out]
  rw [HRZ.out]
  clear hnum
  have ds : decide ((0 : Int) < s) = true := by simp; omega
  have d6 : (ty == 6) = false := by simpa using h6
  have d7 : (ty == 7) = false := by simpa using h7
  have hs0 : ((s : Int) == 0) = false := by simp; omega
  have HMN : Hid ((fr : Int) % s = ((fr % s : Nat) : Int)) := by show _ = _; rw [Int.natCast_emod]
  by_cases b5 : fr % s = 0
  · have hmn : ((fr : Int) % s != 0) = false := by rw [HMN.out, b5]; rfl
    have E5 := Lib.hid b5
    have HX : Hid (¬ (cnt = 0 ∨ (ty = 6 ∧ cnt ≠ 1) ∨ fr % sizeT ty ≠ 0)) := by
      rw [← HS.out]
      rintro (h | h | h)
      · exact b4 h
      · exact h6 h.1
      · exact h E5.out
    clear b5
    by_cases b6 : m < fr
    · have d8 : decide ((m : Int) < fr) = true := by simp; omega
      go_wp2
      have HK9 := Lib.hid (blk_set6 (y0 := .int .i64 0) (y1 := .int .i64 0) (y2 := .slice none 0 0) (y3 := .slice none 0 0) (y4 := .slice none 0 0) (y5 := .int .i64 2) HRK.out)
      have HU9 := Lib.hid (upd_set6 (g := B + 1) (y0 := .int .i64 0) (y1 := .int .i64 0) (y2 := .slice none 0 0) (y3 := .slice none 0 0) (y4 := .slice none 0 0) (y5 := .int .i64 2) HU1.out (by have := HBB0.out; omega))
      generalize hw9 : World.setCell _ _ _ = w9 at *
      have y0 : w9.cell? ⟨B + 1, 0, none⟩ = some (.int .i64 0) := by rw [HK9.out.cell]; rfl
      have y1 : w9.cell? ⟨B + 1, 1, none⟩ = some (.int .i64 0) := by rw [HK9.out.cell]; rfl
      have y2 : w9.cell? ⟨B + 1, 2, none⟩ = some (.slice none 0 0) := by rw [HK9.out.cell]; rfl
      have y3 : w9.cell? ⟨B + 1, 3, none⟩ = some (.slice none 0 0) := by rw [HK9.out.cell]; rfl
      have y4 : w9.cell? ⟨B + 1, 4, none⟩ = some (.slice none 0 0) := by rw [HK9.out.cell]; rfl
      have y5 : w9.cell? ⟨B + 1, 5, none⟩ = some (.int .i64 2) := by rw [HK9.out.cell]; rfl
      have HV : Hid (sayV tg ty d fr cnt = .error 2) := by
        show _ = _
        unfold sayV
        rw [if_neg HX.out, if_pos (by rw [HDL.out]; exact b6)]
      rw [HV.out]
      exact bodyPost_ret (v := .agg #[.int .i64 0, .int .i64 0, .slice none 0 0, .slice none 0 0, .slice none 0 0, .int .i64 2]) (by simp [results, Try.results30, go_sem, y0, y1, y2, y3, y4, y5]) rfl ⟨rfl, HU9.out⟩
    · have d8 : decide ((m : Int) < fr) = false := by simp; omega
      obtain ⟨Q, HQ⟩ : ∃ Q, Hid (Q = (m - fr) / s) := ⟨_, rfl⟩
      have hq : Int.tdiv ((m : Int) - fr) s = (Q : Int) := by
        rw [show (m : Int) - fr = ((m - fr : Nat) : Int) by omega, HQ.out]
        rfl
      have hQb : Q ≤ m := by rw [HQ.out]; exact Nat.le_trans (Nat.div_le_self _ _) (by omega)
      have HQC : Hid (Q < cnt ↔ m - fr < cnt * s) := by
        show _ ↔ _
        rw [HQ.out]
        exact Nat.div_lt_iff_lt_mul (by omega)
      by_cases b7 : Q < cnt
      · have d9 : decide ((Q : Int) < cnt) = true := by simp; omega
        go_wp2
        have HK9 := Lib.hid (blk_set6 (y0 := .int .i64 0) (y1 := .int .i64 0) (y2 := .slice none 0 0) (y3 := .slice none 0 0) (y4 := .slice none 0 0) (y5 := .int .i64 2) HRK.out)
        have HU9 := Lib.hid (upd_set6 (g := B + 1) (y0 := .int .i64 0) (y1 := .int .i64 0) (y2 := .slice none 0 0) (y3 := .slice none 0 0) (y4 := .slice none 0 0) (y5 := .int .i64 2) HU1.out (by have := HBB0.out; omega))
        generalize hw9 : World.setCell _ _ _ = w9 at *
        have y0 : w9.cell? ⟨B + 1, 0, none⟩ = some (.int .i64 0) := by rw [HK9.out.cell]; rfl
        have y1 : w9.cell? ⟨B + 1, 1, none⟩ = some (.int .i64 0) := by rw [HK9.out.cell]; rfl
        have y2 : w9.cell? ⟨B + 1, 2, none⟩ = some (.slice none 0 0) := by rw [HK9.out.cell]; rfl
        have y3 : w9.cell? ⟨B + 1, 3, none⟩ = some (.slice none 0 0) := by rw [HK9.out.cell]; rfl
        have y4 : w9.cell? ⟨B + 1, 4, none⟩ = some (.slice none 0 0) := by rw [HK9.out.cell]; rfl
        have y5 : w9.cell? ⟨B + 1, 5, none⟩ = some (.int .i64 2) := by rw [HK9.out.cell]; rfl
        have HV : Hid (sayV tg ty d fr cnt = .error 2) := by
          show _ = _
          unfold sayV
          rw [if_neg HX.out, if_neg (by rw [HDL.out]; exact b6), if_pos HNUM.out, if_pos (by rw [List.length_drop, HDL.out, ← HS.out]; exact HQC.out.1 b7)]
        rw [HV.out]
        exact bodyPost_ret (v := .agg #[.int .i64 0, .int .i64 0, .slice none 0 0, .slice none 0 0, .slice none 0 0, .int .i64 2]) (by simp [results, Try.results30, go_sem, y0, y1, y2, y3, y4, y5]) rfl ⟨rfl, HU9.out⟩
      · have d9 : decide ((Q : Int) < cnt) = false := by simp; omega
        have hcs : cnt * s ≤ m - fr := by
          have := HQC.out
          omega
        have hcm : cnt ≤ m := by
          have : cnt ≤ cnt * s := Nat.le_mul_of_pos_right _ (by omega)
          omega
        have HSV : Hid (sayV tg ty d fr cnt = if (numsV (d.drop fr) s cnt).all (fun z => decide (z ≤ 9223372036854775807)) = true then .ok ⟨tg, ty, numsV (d.drop fr) s cnt, [], []⟩ else .error 3) := by
          show _ = _
          unfold sayV
          rw [if_neg HX.out, if_neg (by rw [HDL.out]; exact b6), if_pos HNUM.out, if_neg (by rw [List.length_drop, HDL.out, ← HS.out]; omega), ← HS.out]
        obtain ⟨u, HUU⟩ : ∃ u, Hid (u = d.drop fr) := ⟨_, rfl⟩
        rw [← HUU.out] at HSV
        have HUB : Hid (∀ z ∈ u, 0 ≤ z ∧ z ≤ 255) := fun z hz => HDB.out z (by rw [HUU.out] at hz; exact List.mem_of_mem_drop hz)
        have HCS := Lib.hid hcs
        have hfm : fr ≤ m := by omega
        clear hcs
        go_wp2_with fail
        clear hq hmn ds d6 d7 hs0 d8 d9 hQb b6 b7 d4 h6 h7
        clear z0 z1 z2 z3 z4 z5 fz
        clear e0 e1 e2 e3 e4
        go_loopw [10] (fun i wr => ∃ (j : Nat) (IA : Option Addr) (ic : Nat), j ≤ cnt ∧ i = .int .i64 j ∧ Hid (Blk wr B 40 #[.int .i64 tg, .int .i64 ty, .slice IA j ic, .slice none 0 0, .slice none 0 0]) ∧ Hid (Blk wr (B + 1) 61 #[.int .i64 0, .int .i64 0, .slice none 0 0, .slice none 0 0, .slice none 0 0, .int .i64 0]) ∧ Hid (Own wr w.heap.size 3 1 IA j ic (((numsV u s cnt).take j).map (Value.int .i64))) ∧ Hid (Upd [] w wr) ∧ Hid (∀ i, i < j → numV u s i ≤ 9223372036854775807)) (fun i _ => cnt - (intOf i).toNat)
        case atStart => exact ⟨0, none, 0, by omega, rfl, HBK, HRK, Own.nil _ _ _ _, HU1, fun i hi => by omega⟩
        case round =>
          clear HBK HRK HU1
          obtain ⟨j, IA, ic, hj, rfl, HBK, HRK, HO, HU, HOK⟩ := hrel
          by_cases hlt : j < cnt
          · have HDr := Lib.hid (HD.out.upd HU.out (by simp))
            obtain ⟨a, HA⟩ : ∃ a, Hid (a = j * s) := ⟨_, rfl⟩
            have has : fr + a + s ≤ m := by
              have h1 : (j + 1) * s ≤ cnt * s := Nat.mul_le_mul_right s hlt
              rw [Nat.succ_mul] at h1
              have h2 := HA.out
              have h3 := HCS.out
              omega
            have hw : wrap64 ((j : Int) * s) = (a : Int) := by
              rw [← Int.natCast_mul, ← HA.out]
              exact IntWalk.wrap64_in _ (by omega)
            go_wp2_with fail
            clear hw
            refine (rgetBe_ok D m dc d ((fr : Int) + a) s wr HDr.out HDB.out (by omega) (by omega) (by omega) (by omega) (by omega)).mono ?_
            rintro e w' ⟨rfl, rfl⟩
            obtain ⟨x, HX2⟩ : ∃ x, Hid (x = numV u s j) := ⟨_, rfl⟩
            have HE : Hid (beNum ((d.drop ((fr : Int) + a).toNat).take (s : Int).toNat) = x) := by
              show _ = _
              rw [HX2.out, Int.toNat_natCast, show ((fr : Int) + a).toNat = fr + a by omega, HUU.out]
              unfold numV
              rw [List.drop_drop, HA.out]
            rw [HE.out]
            have hxb := numV_nonneg HUB.out s j (by omega)
            rw [← HX2.out] at hxb
            have hx0 := hxb.1
            have hx1 := hxb.2
            have e2 : wr.cell? ⟨B, 2, none⟩ = some (.slice IA j ic) := by rw [HBK.out.cell]; rfl
            have f2 := HBK.out.frozen 2
            by_cases hbig : 9223372036854775807 < x
            · have d2 : decide (9223372036854775807 < x) = true := by simpa using hbig
              have z0 : wr.cell? ⟨B + 1, 0, none⟩ = some (.int .i64 0) := by rw [HRK.out.cell]; rfl
              have z1 : wr.cell? ⟨B + 1, 1, none⟩ = some (.int .i64 0) := by rw [HRK.out.cell]; rfl
              have z2 : wr.cell? ⟨B + 1, 2, none⟩ = some (.slice none 0 0) := by rw [HRK.out.cell]; rfl
              have z3 : wr.cell? ⟨B + 1, 3, none⟩ = some (.slice none 0 0) := by rw [HRK.out.cell]; rfl
              have z4 : wr.cell? ⟨B + 1, 4, none⟩ = some (.slice none 0 0) := by rw [HRK.out.cell]; rfl
              have z5 : wr.cell? ⟨B + 1, 5, none⟩ = some (.int .i64 0) := by rw [HRK.out.cell]; rfl
              have fz := HRK.out.frozen
              go_wp2
              have HK9 := Lib.hid (blk_set6 (y0 := .int .i64 0) (y1 := .int .i64 0) (y2 := .slice none 0 0) (y3 := .slice none 0 0) (y4 := .slice none 0 0) (y5 := .int .i64 3) HRK.out)
              have HU9 := Lib.hid (upd_set6 (g := B + 1) (y0 := .int .i64 0) (y1 := .int .i64 0) (y2 := .slice none 0 0) (y3 := .slice none 0 0) (y4 := .slice none 0 0) (y5 := .int .i64 3) HU.out (by have := HBB0.out; omega))
              generalize hw9 : World.setCell _ _ _ = w9 at *
              have y0 : w9.cell? ⟨B + 1, 0, none⟩ = some (.int .i64 0) := by rw [HK9.out.cell]; rfl
              have y1 : w9.cell? ⟨B + 1, 1, none⟩ = some (.int .i64 0) := by rw [HK9.out.cell]; rfl
              have y2 : w9.cell? ⟨B + 1, 2, none⟩ = some (.slice none 0 0) := by rw [HK9.out.cell]; rfl
              have y3 : w9.cell? ⟨B + 1, 3, none⟩ = some (.slice none 0 0) := by rw [HK9.out.cell]; rfl
              have y4 : w9.cell? ⟨B + 1, 4, none⟩ = some (.slice none 0 0) := by rw [HK9.out.cell]; rfl
              have y5 : w9.cell? ⟨B + 1, 5, none⟩ = some (.int .i64 3) := by rw [HK9.out.cell]; rfl
              have HV : Hid (sayV tg ty d fr cnt = .error 3) := by
                show _ = _
                rw [HSV.out, if_neg (fun h => by have := nums_all.1 h j hlt; rw [← HX2.out] at this; omega)]
              rw [HV.out]
              exact bodyPost_ret (v := .agg #[.int .i64 0, .int .i64 0, .slice none 0 0, .slice none 0 0, .slice none 0 0, .int .i64 3]) (by simp [results, Try.results30, go_sem, y0, y1, y2, y3, y4, y5]) rfl ⟨rfl, HU9.out⟩
            · have d2 : decide (9223372036854775807 < x) = false := by simpa using hbig
              have hB1 : w.heap.size ≤ wr.heap.size := HU.out.size
              have hbl := HBK.out.lt
              go_wp2_with (at_builtin; refine wpList_app rfl rfl el_int rfl (HO.out.alloc _) rfl (Seg.one _ _ _) (by intro u hu; simp at hu; subst hu; rfl) (by simp only [maxLen]; omega) (by omega) (by simp; omega) ?_; intro I3 c3 w3 hown3 hu3 hfr3; have HV3 : Hid (Upd [ob IA] wr w3) := ((Upd.refl _ _).alloc _).trans hu3; have HO3 := Lib.hid hown3; have HBK3 := Lib.hid (HBK.out.upd HV3.out (by simp; exact fun h => HO.out.neBlk HBK.out (by decide) h.symm)); have HRK3 := Lib.hid (HRK.out.upd HV3.out (by simp; exact fun h => HO.out.neBlk HRK.out (by decide) h.symm)); clear hown3 hu3 hfr3 e2 f2; have e2 : w3.cell? ⟨B, 2, none⟩ = some (.slice IA j ic) := (by rw [HBK3.out.cell]; rfl); have f2 := HBK3.out.frozen 2)
              have HU3 : Hid (Upd [] w w3) := HU.out.then HV3.out (fun b hb => by simp at hb; right; exact (HO.out.base hb.symm).1)
              have HO4 : Hid (Own (w3.setCell ⟨B, 2, none⟩ (.slice I3 (j + 1) c3)) w.heap.size 3 1 I3 (j + 1) c3 (((numsV u s cnt).take (j + 1)).map (Value.int .i64))) := by
                rw [numsV_take _ _ _ hlt, List.map_append, ← HX2.out]
                exact HO3.out.far (HO3.out.neBlk HBK3.out (by decide)) _
              have HBK4 := Lib.hid (HBK3.out.set 2 (.slice I3 (j + 1) c3))
              have HRK4 := Lib.hid (HRK3.out.far (p := ⟨B, 2, none⟩) (by simp) (.slice I3 (j + 1) c3))
              have HU4 := Lib.hid (HU3.out.put (b := B) (o := 2) (by have := HBB0.out; omega) (.slice I3 (j + 1) c3))
              clear HO HBK HRK HU HV3 HO3 HBK3 HRK3 HU3
              go_roundw
              case rel =>
                refine ⟨j + 1, I3, c3, by omega, by go_num, HBK4, HRK4, HO4, HU4, fun i hi => ?_⟩
                rcases Nat.lt_or_ge i j with h | h
                · exact HOK.out i h
                · obtain rfl : i = j := by omega
                  rw [← HX2.out]
                  omega
              case measure => simp [intOf]; omega
          · obtain rfl : j = cnt := by omega
            have z0 : wr.cell? ⟨B + 1, 0, none⟩ = some (.int .i64 0) := by rw [HRK.out.cell]; rfl
            have z1 : wr.cell? ⟨B + 1, 1, none⟩ = some (.int .i64 0) := by rw [HRK.out.cell]; rfl
            have z2 : wr.cell? ⟨B + 1, 2, none⟩ = some (.slice none 0 0) := by rw [HRK.out.cell]; rfl
            have z3 : wr.cell? ⟨B + 1, 3, none⟩ = some (.slice none 0 0) := by rw [HRK.out.cell]; rfl
            have z4 : wr.cell? ⟨B + 1, 4, none⟩ = some (.slice none 0 0) := by rw [HRK.out.cell]; rfl
            have z5 : wr.cell? ⟨B + 1, 5, none⟩ = some (.int .i64 0) := by rw [HRK.out.cell]; rfl
            have fz := HRK.out.frozen
            have e0 : wr.cell? ⟨B, 0, none⟩ = some (.int .i64 tg) := by rw [HBK.out.cell]; rfl
            have e1 : wr.cell? ⟨B, 1, none⟩ = some (.int .i64 ty) := by rw [HBK.out.cell]; rfl
            have e2 : wr.cell? ⟨B, 2, none⟩ = some (.slice IA j ic) := by rw [HBK.out.cell]; rfl
            have e3 : wr.cell? ⟨B, 3, none⟩ = some (.slice none 0 0) := by rw [HBK.out.cell]; rfl
            have e4 : wr.cell? ⟨B, 4, none⟩ = some (.slice none 0 0) := by rw [HBK.out.cell]; rfl
            have HO5 : Hid (Own wr w.heap.size 3 1 IA j ic ((numsV u s j).map (Value.int .i64))) := by
              have h := HO.out
              rw [List.take_of_length_le (by simp [numsV, tab_len])] at h
              exact h
            have HV : Hid (sayV tg ty d fr j = .ok ⟨tg, ty, numsV u s j, [], []⟩) := by
              show _ = _
              rw [HSV.out, if_pos (nums_all.2 HOK.out)]
            go_wp2
            have HK9 := Lib.hid (blk_set6 (y0 := .int .i64 tg) (y1 := .int .i64 ty) (y2 := .slice IA j ic) (y3 := .slice none 0 0) (y4 := .slice none 0 0) (y5 := .int .i64 0) HRK.out)
            have HU9 := Lib.hid (upd_set6 (g := B + 1) (y0 := .int .i64 tg) (y1 := .int .i64 ty) (y2 := .slice IA j ic) (y3 := .slice none 0 0) (y4 := .slice none 0 0) (y5 := .int .i64 0) HU.out (by have := HBB0.out; omega))
            have HV9 := Lib.hid (upd6 (w := wr) (g := B + 1) (y0 := .int .i64 tg) (y1 := .int .i64 ty) (y2 := .slice IA j ic) (y3 := .slice none 0 0) (y4 := .slice none 0 0) (y5 := .int .i64 0))
            generalize hw9 : World.setCell _ _ _ = w9 at *
            have y0 : w9.cell? ⟨B + 1, 0, none⟩ = some (.int .i64 tg) := by rw [HK9.out.cell]; rfl
            have y1 : w9.cell? ⟨B + 1, 1, none⟩ = some (.int .i64 ty) := by rw [HK9.out.cell]; rfl
            have y2 : w9.cell? ⟨B + 1, 2, none⟩ = some (.slice IA j ic) := by rw [HK9.out.cell]; rfl
            have y3 : w9.cell? ⟨B + 1, 3, none⟩ = some (.slice none 0 0) := by rw [HK9.out.cell]; rfl
            have y4 : w9.cell? ⟨B + 1, 4, none⟩ = some (.slice none 0 0) := by rw [HK9.out.cell]; rfl
            have y5 : w9.cell? ⟨B + 1, 5, none⟩ = some (.int .i64 0) := by rw [HK9.out.cell]; rfl
            rw [HV.out]
            exact bodyPost_ret (v := .agg #[.int .i64 tg, .int .i64 ty, .slice IA j ic, .slice none 0 0, .slice none 0 0, .int .i64 0]) (by simp [results, Try.results30, go_sem, y0, y1, y2, y3, y4, y5]) rfl ⟨⟨IA, j, ic, none, 0, 0, none, 0, 0⟩, rfl, ⟨own9 HO5.out (Nat.le_refl _) HV9.out HRK.out (by decide), Own.nil _ _ _ _, Own.nil _ _ _ _, (fun z hz => by unfold numsV tab at hz; obtain ⟨i, hi, rfl⟩ := List.mem_map.1 hz; have h1 := HOK.out i (List.mem_range.1 hi); have h2 := (numV_nonneg HUB.out s i (by omega)).1; omega), (by simp)⟩, HU9.out⟩
  · have hmn : ((fr : Int) % s != 0) = true := by rw [HMN.out]; exact nat_ne_b b5
    go_wp2
    have HK9 := Lib.hid (blk_set6 (y0 := .int .i64 0) (y1 := .int .i64 0) (y2 := .slice none 0 0) (y3 := .slice none 0 0) (y4 := .slice none 0 0) (y5 := .int .i64 3) HRK.out)
    have HU9 := Lib.hid (upd_set6 (g := B + 1) (y0 := .int .i64 0) (y1 := .int .i64 0) (y2 := .slice none 0 0) (y3 := .slice none 0 0) (y4 := .slice none 0 0) (y5 := .int .i64 3) HU1.out (by have := HBB0.out; omega))
    generalize hw9 : World.setCell _ _ _ = w9 at *
    have y0 : w9.cell? ⟨B + 1, 0, none⟩ = some (.int .i64 0) := by rw [HK9.out.cell]; rfl
    have y1 : w9.cell? ⟨B + 1, 1, none⟩ = some (.int .i64 0) := by rw [HK9.out.cell]; rfl
    have y2 : w9.cell? ⟨B + 1, 2, none⟩ = some (.slice none 0 0) := by rw [HK9.out.cell]; rfl
    have y3 : w9.cell? ⟨B + 1, 3, none⟩ = some (.slice none 0 0) := by rw [HK9.out.cell]; rfl
    have y4 : w9.cell? ⟨B + 1, 4, none⟩ = some (.slice none 0 0) := by rw [HK9.out.cell]; rfl
    have y5 : w9.cell? ⟨B + 1, 5, none⟩ = some (.int .i64 3) := by rw [HK9.out.cell]; rfl
    have HV : Hid (sayV tg ty d fr cnt = .error 3) := by
      show _ = _
      unfold sayV
      rw [if_pos (Or.inr (Or.inr (by rw [← HS.out]; exact b5)))]
    rw [HV.out]
    exact bodyPost_ret (v := .agg #[.int .i64 0, .int .i64 0, .slice none 0 0, .slice none 0 0, .slice none 0 0, .int .i64 3]) (by simp [results, Try.results30, go_sem, y0, y1, y2, y3, y4, y5]) rfl ⟨rfl, HU9.out⟩

end Go.Proofs.Ytogknbpbjgdldaa
