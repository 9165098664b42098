/- The walk of says, of one text. -/
import Derived.Test.YtogknbpbjgdldaaRfD
import Derived.StillTailTactics
namespace Go.Proofs.Ytogknbpbjgdldaa
open Go.RowKit Go.Dray
set_option linter.unusedVariables false

set_option maxRecDepth 100000 in
set_option maxHeartbeats 2000000 in
theorem says_txt6 (w : World) (tg ty : Int) (D : Option Addr) (m dc : Nat) (d : List Int) (hD : Ints .u8 w D m d) (hd : ∀ z ∈ d, 0 ≤ z ∧ z ≤ 255) (hmc : m ≤ dc) (hm : m ≤ 100000000) (fr cnt : Nat) (hfrb : fr ≤ 4294967295) (hcnb : cnt ≤ 4294967295) (g_b4 : Hid (cnt ≠ 0)) (g_b8 : Hid (cnt = 1)) (g_hnum : Hid (numT ty = false)) (g_h6 : Hid (ty = 6)) (g_h7 : Hid (¬ ty = 7)) :
    Calls Try.prog 30 #[.agg #[.int .i64 tg, .int .i64 ty, .slice none 0 0, .slice none 0 0, .slice none 0 0], .slice D m dc, .int .i64 fr, .int .i64 cnt] w (SaysPost (sayV tg ty d fr cnt) w) := by
  have HD := Lib.hid hD
  have HDB := Lib.hid hd
  have HDL := hD.len
  clear hD hd
  go_enter Try.func30, Try.ntmps30
  go_upto_region 1 with (fail)
  obtain ⟨B, HBB0⟩ : ∃ B, Hid (B = w.heap.size) := ⟨_, rfl⟩
  have HBK : Hid (Blk ((w.alloc (.cells #[.int .i64 tg, .int .i64 ty, .slice none 0 0, .slice none 0 0, .slice none 0 0] 40)).alloc (.cells #[.int .i64 0, .int .i64 0, .slice none 0 0, .slice none 0 0, .slice none 0 0, .int .i64 0] 61)) w.heap.size 40 #[.int .i64 tg, .int .i64 ty, .slice none 0 0, .slice none 0 0, .slice none 0 0]) := (Blk.new _ _ _).alloc _
  have HRK : Hid (Blk ((w.alloc (.cells #[.int .i64 tg, .int .i64 ty, .slice none 0 0, .slice none 0 0, .slice none 0 0] 40)).alloc (.cells #[.int .i64 0, .int .i64 0, .slice none 0 0, .slice none 0 0, .slice none 0 0, .int .i64 0] 61)) (w.heap.size + 1) 61 #[.int .i64 0, .int .i64 0, .slice none 0 0, .slice none 0 0, .slice none 0 0, .int .i64 0]) := by
    have := Blk.new (w.alloc (.cells #[.int .i64 tg, .int .i64 ty, .slice none 0 0, .slice none 0 0, .slice none 0 0] 40)) 61 #[.int .i64 0, .int .i64 0, .slice none 0 0, .slice none 0 0, .slice none 0 0, .int .i64 0]
    simp at this
    exact this
  have HU1 : Hid (Upd [] w ((w.alloc (.cells #[.int .i64 tg, .int .i64 ty, .slice none 0 0, .slice none 0 0, .slice none 0 0] 40)).alloc (.cells #[.int .i64 0, .int .i64 0, .slice none 0 0, .slice none 0 0, .slice none 0 0, .int .i64 0] 61))) := ((Upd.refl _ _).alloc _).alloc _
  rw [← HBB0.out] at HBK HRK ⊢
  generalize hw1 : World.alloc (w.alloc _) _ = w1 at *
  clear hw1
  have z0 : w1.cell? ⟨B + 1, 0, none⟩ = some (.int .i64 0) := by rw [HRK.out.cell]; rfl
  have z1 : w1.cell? ⟨B + 1, 1, none⟩ = some (.int .i64 0) := by rw [HRK.out.cell]; rfl
  have z2 : w1.cell? ⟨B + 1, 2, none⟩ = some (.slice none 0 0) := by rw [HRK.out.cell]; rfl
  have z3 : w1.cell? ⟨B + 1, 3, none⟩ = some (.slice none 0 0) := by rw [HRK.out.cell]; rfl
  have z4 : w1.cell? ⟨B + 1, 4, none⟩ = some (.slice none 0 0) := by rw [HRK.out.cell]; rfl
  have z5 : w1.cell? ⟨B + 1, 5, none⟩ = some (.int .i64 0) := by rw [HRK.out.cell]; rfl
  have fz := HRK.out.frozen
  have e0 : w1.cell? ⟨B, 0, none⟩ = some (.int .i64 tg) := by rw [HBK.out.cell]; rfl
  have e1 : w1.cell? ⟨B, 1, none⟩ = some (.int .i64 ty) := by rw [HBK.out.cell]; rfl
  have e2 : w1.cell? ⟨B, 2, none⟩ = some (.slice none 0 0) := by rw [HBK.out.cell]; rfl
  have e3 : w1.cell? ⟨B, 3, none⟩ = some (.slice none 0 0) := by rw [HBK.out.cell]; rfl
  have e4 : w1.cell? ⟨B, 4, none⟩ = some (.slice none 0 0) := by rw [HBK.out.cell]; rfl
  go_wp2_with fail
  refine (rsize_any ty w1).mono ?_
  rintro e w' ⟨rfl, rfl⟩
  have b4 := g_b4.out
  have b8 := g_b8.out
  have hnum := g_hnum.out
  have h6 := g_h6.out
  have h7 := g_h7.out
  have d4 : ((cnt : Int) == 0) = false := by simp; omega
  have HNUM := Lib.hid hnum
  have HS1 : Hid (sizeT ty = 1) := by
    show _ = _
    unfold numT at hnum
    simp at hnum
    unfold sizeT
    rw [if_neg (by omega), if_neg (by omega), if_neg (by omega)]
  have HRZ : Hid ((rsz ty : Int) = 0) := by show _ = _; unfold rsz; rw [HNUM.out]; rfl
  rw [HRZ.out]
  clear hnum
  have H7 := Lib.hid h7
  have d7 : (ty == 7) = false := by simpa using h7
  clear h7
  have E6 := Lib.hid h6
  have d6 : (ty == 6) = true := by simp [h6]
  clear h6
  have dn : ((cnt : Int) != 1) = false := by simp [b8]
  have E8 := Lib.hid b8
  clear b8
  have HX : Hid (¬ (cnt = 0 ∨ (ty = 6 ∧ cnt ≠ 1) ∨ fr % sizeT ty ≠ 0)) := by
    rintro (h | h | h)
    · exact b4 h
    · exact h.2 E8.out
    · exact h (by rw [HS1.out]; exact Nat.mod_one _)
  have HSV : Hid (sayV tg ty d fr cnt = match textsR (d.drop fr) cnt with | none => .error 2 | some ss => .ok ⟨tg, ty, [], ss, []⟩) := sayV_texts HX.out HNUM.out H7.out b4
  have hdm : d.length = m := HDL.out
  go_wp2_with fail
  clear z0 z1 z2 z3 z4 z5 fz
  clear e0 e1 e2 e3 e4
  go_loopw [2, 13] (fun x i wr => ∃ (j a : Nat) (ss : List ByteArray) (TA : Option Addr) (tc : Nat), j ≤ cnt ∧ i = .int .i64 j ∧ a ≤ 4294967295 ∧ j ≤ m ∧ x = .int .i64 a ∧ Hid (Blk wr B 40 #[.int .i64 tg, .int .i64 ty, .slice none 0 0, .slice TA j tc, .slice none 0 0]) ∧ Hid (Blk wr (B + 1) 61 #[.int .i64 0, .int .i64 0, .slice none 0 0, .slice none 0 0, .slice none 0 0, .int .i64 0]) ∧ Hid (Own wr w.heap.size 9 1 TA j tc (ss.map Value.string)) ∧ Hid (textsR (d.drop fr) cnt = (textsR (d.drop a) (cnt - j)).map (ss ++ ·)) ∧ Hid (j ≤ a) ∧ Hid (Upd [] w wr)) (fun _ i _ => cnt - (intOf i).toNat)
  case atStart => exact ⟨0, fr, [], none, 0, by omega, rfl, hfrb, by omega, rfl, HBK, HRK, Own.nil _ _ _ _, by show _ = _; simp, Nat.zero_le _, HU1⟩
  case round =>
    clear HBK HRK HU1
    obtain ⟨j, a, ss, TA, tc, hj, rfl, hab, hjm, rfl, HBK, HRK, HO, HTR, HJA, HU⟩ := hrel
    have HDr := Lib.hid (HD.out.upd HU.out (by simp))
    by_cases hlt : j < cnt
    · have dlt : decide ((j : Int) < cnt) = true := by simp; omega
      have HST : Hid (cnt - j = (cnt - (j + 1)) + 1) := by show _ = _; omega
      obtain ⟨w4, hw4⟩ : ∃ w4 : World, w4 = wr := ⟨wr, rfl⟩
      rw [← hw4] at HBK HRK HO HU HDr
      go_wp2_with fail
      rw [← hw4]
      clear hw4
      go_loop [14] (fun x => ∃ (k : Nat), a ≤ k ∧ (k ≤ a ∨ k ≤ m) ∧ x = .int .i64 k ∧ Hid (∀ i, a + i < k → (d.drop a)[i]? ≠ some 0)) (fun x => m - (intOf x).toNat)
      case atStart => exact ⟨a, by omega, by omega, rfl, fun i hi => by omega⟩
      case round =>
        obtain ⟨k, hak, hkm, rfl, HNZ⟩ := hrel
        have hkb : k ≤ 4294967295 := by omega
        by_cases hk : k < m
        · have dk : decide ((k : Int) < m) = true := by simp; omega
          obtain ⟨z, HZ, hcell⟩ := HDr.out.int hk
          have hix := HDr.out.index el_byte dc .i64 k hk
          have HZD : Hid ((d.drop a)[k - a]? = some z) := by
            show _ = _
            rw [List.getElem?_drop, show a + (k - a) = k by omega]
            exact HZ.out
          by_cases hz : z = 0
          · have dz : (z != 0) = false := by simp [hz]
            have HNA : Hid (noughtAt (d.drop a) = k - a) := nought_run (by rw [HZD.out, hz]) (fun i hi => HNZ.out i (by omega))
            have HLT : Hid (noughtAt (d.drop a) < (d.drop a).length) := by
              show _ < _
              rw [HNA.out, List.length_drop, hdm]
              omega
            clear hz
            obtain ⟨S, HSS⟩ : ∃ S, Hid (S = strOfNums ((d.drop a).take (k - a))) := ⟨_, rfl⟩
            obtain ⟨F, HF⟩ : ∃ F, Hid (F = cutA 1 D dc a) := ⟨_, rfl⟩
            have hcut3 := run_cut_lh el_byte D m dc .i64 .i64 (a : Int) (k : Int) a k rfl rfl (by omega) (by omega)
            rw [← HF.out] at hcut3
            have hstr : (convert 25 9 (.slice F (k - a) (dc - a))).run Try.prog w4.drew = .ok (.string S) w4.drew := by
              rw [HSS.out, HF.out]
              exact ((HDr.out.cut (lo := a) (hi := k) (c := dc) (by omega) (by omega) hmc).drewN 1).str Try.underlying25 Try.underlying5 Try.underlying9 (dc - a)
            have e3 : w4.cell? ⟨B, 3, none⟩ = some (.slice TA j tc) := by rw [HBK.out.cell]; rfl
            have hRl := HBK.out.lt
            have HSEG := Lib.hid (show Seg (w4.alloc (.cells #[.string S] 9)).drew 1 (some ⟨w4.heap.size, 0, none⟩) 1 [.string S] from (Seg.one w4 (.string S) 9).drewN 1)
            have HOA := Lib.hid (show Own (w4.alloc (.cells #[.string S] 9)).drew w.heap.size 9 1 TA j tc (ss.map Value.string) from (HO.out.alloc _).drew)
            have HBA := Lib.hid (show w.heap.size ≤ (w4.alloc (.cells #[.string S] 9)).drew.heap.size from Nat.le_trans HU.out.size (by show _ ≤ (w4.heap.push _).size; simp))
            have dge : decide ((m : Int) ≤ k) = false := by simp; omega
            go_wp2_with fail
            go_region_law (refine step_app rfl (s := .tmp 138) (x := .tmp 144) rfl el_str (by rfl) HOA.out (by rfl) HSEG.out (by intro u hu; simp at hu; subst hu; rfl) (by simp only [maxLen]; omega) (by omega) HBA.out ?_; intro X3 c3 w3 hown3 hu3 hfr3; have HO3 := Lib.hid hown3; have HV3 : Hid (Upd [ob TA] w4 w3) := (((Upd.refl _ _).alloc _).drew).trans hu3; have HBK3 := Lib.hid (HBK.out.upd HV3.out (by simp; exact fun h => HO.out.neBlk HBK.out (by decide) h.symm)); have HRK3 := Lib.hid (HRK.out.upd HV3.out (by simp; exact fun h => HO.out.neBlk HRK.out (by decide) h.symm)); clear hown3 hu3 hfr3; have g3 : w3.cell? ⟨B, 3, none⟩ = some (.slice TA j tc) := (by rw [HBK3.out.cell]; rfl); have gf := HBK3.out.frozen 3)
            all_goals
              have HO4 : Hid (Own (w3.setCell ⟨B, 3, none⟩ (.slice X3 (j + 1) c3)) w.heap.size 9 1 X3 (j + 1) c3 ((ss ++ [S]).map Value.string)) := by
                have h := HO3.out
                rw [List.map_append]
                exact h.far (h.neBlk HBK3.out (by decide)) _
              have HBK4 := Lib.hid (HBK3.out.set 3 (.slice X3 (j + 1) c3))
              have HRK4 := Lib.hid (HRK3.out.far (p := ⟨B, 3, none⟩) (by simp) (.slice X3 (j + 1) c3))
              have HU4 := Lib.hid ((HU.out.then HV3.out (fun b hb => by simp at hb; right; exact (HO.out.base hb.symm).1)).put (b := B) (o := 3) (by have := HBB0.out; omega) (.slice X3 (j + 1) c3))
              generalize hw5 : w3.setCell _ _ = w5 at *
              clear hw5 g3 gf HO3 HV3 HBK3 HRK3 hcut3 hstr e3 hRl HSEG HOA HBA
              go_wp2
              go_roundw
              case rel =>
                have hja := HJA.out
                refine ⟨j + 1, k + 1, ss ++ [S], X3, c3, by omega, by go_num, by omega, by omega, by go_num, HBK4, HRK4, HO4, ?_, ?_, HU4⟩
                · show _ = _
                  rw [HTR.out, HST.out]
                  conv => lhs; unfold textsR
                  rw [if_pos HLT.out, HNA.out, ← HSS.out, Option.map_map, List.drop_drop, show a + (k - a + 1) = k + 1 by omega]
                  congr 1
                  funext l
                  simp
                · show _ ≤ _
                  omega
              case measure => simp [intOf]; omega
          · have dz : (z != 0) = true := by simp [hz]
            go_wp2
            go_round
            case rel =>
              refine ⟨k + 1, by omega, by omega, by go_num, fun i hi => ?_⟩
              rcases Nat.lt_or_ge (a + i) k with h | h
              · exact HNZ.out i h
              · rw [show i = k - a by omega, HZD.out]
                intro he
                injection he with he
                exact hz he
            case measure => simp [intOf]; omega
        · have dk : decide ((k : Int) < m) = false := by simp; omega
          have dge : decide ((m : Int) ≤ k) = true := by simp; omega
          have HNA : Hid (¬ noughtAt (d.drop a) < (d.drop a).length) := nought_none (fun i hi => HNZ.out i (by rw [List.length_drop, hdm] at hi; omega))
          have z0 : w4.cell? ⟨B + 1, 0, none⟩ = some (.int .i64 0) := by rw [HRK.out.cell]; rfl
          have z1 : w4.cell? ⟨B + 1, 1, none⟩ = some (.int .i64 0) := by rw [HRK.out.cell]; rfl
          have z2 : w4.cell? ⟨B + 1, 2, none⟩ = some (.slice none 0 0) := by rw [HRK.out.cell]; rfl
          have z3 : w4.cell? ⟨B + 1, 3, none⟩ = some (.slice none 0 0) := by rw [HRK.out.cell]; rfl
          have z4 : w4.cell? ⟨B + 1, 4, none⟩ = some (.slice none 0 0) := by rw [HRK.out.cell]; rfl
          have z5 : w4.cell? ⟨B + 1, 5, none⟩ = some (.int .i64 0) := by rw [HRK.out.cell]; rfl
          have fz := HRK.out.frozen
          go_wp2
          have HK9 := Lib.hid (blk_set6 (y0 := .int .i64 0) (y1 := .int .i64 0) (y2 := .slice none 0 0) (y3 := .slice none 0 0) (y4 := .slice none 0 0) (y5 := .int .i64 2) HRK.out)
          have HU9 := Lib.hid (upd_set6 (g := B + 1) (y0 := .int .i64 0) (y1 := .int .i64 0) (y2 := .slice none 0 0) (y3 := .slice none 0 0) (y4 := .slice none 0 0) (y5 := .int .i64 2) HU.out (by have := HBB0.out; omega))
          generalize hw9 : World.setCell _ _ _ = w9 at *
          have y0 : w9.cell? ⟨B + 1, 0, none⟩ = some (.int .i64 0) := by rw [HK9.out.cell]; rfl
          have y1 : w9.cell? ⟨B + 1, 1, none⟩ = some (.int .i64 0) := by rw [HK9.out.cell]; rfl
          have y2 : w9.cell? ⟨B + 1, 2, none⟩ = some (.slice none 0 0) := by rw [HK9.out.cell]; rfl
          have y3 : w9.cell? ⟨B + 1, 3, none⟩ = some (.slice none 0 0) := by rw [HK9.out.cell]; rfl
          have y4 : w9.cell? ⟨B + 1, 4, none⟩ = some (.slice none 0 0) := by rw [HK9.out.cell]; rfl
          have y5 : w9.cell? ⟨B + 1, 5, none⟩ = some (.int .i64 2) := by rw [HK9.out.cell]; rfl
          have HV : Hid (sayV tg ty d fr cnt = .error 2) := by
            show _ = _
            rw [HSV.out, HTR.out, HST.out]
            conv => lhs; unfold textsR
            rw [if_neg HNA.out]
            rfl
          rw [HV.out]
          exact bodyPost_ret (v := .agg #[.int .i64 0, .int .i64 0, .slice none 0 0, .slice none 0 0, .slice none 0 0, .int .i64 2]) (by simp [results, Try.results30, go_sem, y0, y1, y2, y3, y4, y5]) rfl ⟨rfl, HU9.out⟩
    · have dlt : decide ((j : Int) < cnt) = false := by simp; omega
      obtain rfl : j = cnt := by omega
      have z0 : wr.cell? ⟨B + 1, 0, none⟩ = some (.int .i64 0) := by rw [HRK.out.cell]; rfl
      have z1 : wr.cell? ⟨B + 1, 1, none⟩ = some (.int .i64 0) := by rw [HRK.out.cell]; rfl
      have z2 : wr.cell? ⟨B + 1, 2, none⟩ = some (.slice none 0 0) := by rw [HRK.out.cell]; rfl
      have z3 : wr.cell? ⟨B + 1, 3, none⟩ = some (.slice none 0 0) := by rw [HRK.out.cell]; rfl
      have z4 : wr.cell? ⟨B + 1, 4, none⟩ = some (.slice none 0 0) := by rw [HRK.out.cell]; rfl
      have z5 : wr.cell? ⟨B + 1, 5, none⟩ = some (.int .i64 0) := by rw [HRK.out.cell]; rfl
      have fz := HRK.out.frozen
      have e0 : wr.cell? ⟨B, 0, none⟩ = some (.int .i64 tg) := by rw [HBK.out.cell]; rfl
      have e1 : wr.cell? ⟨B, 1, none⟩ = some (.int .i64 ty) := by rw [HBK.out.cell]; rfl
      have e2 : wr.cell? ⟨B, 2, none⟩ = some (.slice none 0 0) := by rw [HBK.out.cell]; rfl
      have e3 : wr.cell? ⟨B, 3, none⟩ = some (.slice TA j tc) := by rw [HBK.out.cell]; rfl
      have e4 : wr.cell? ⟨B, 4, none⟩ = some (.slice none 0 0) := by rw [HBK.out.cell]; rfl
      have HV : Hid (sayV tg ty d fr j = .ok ⟨tg, ty, [], ss, []⟩) := by
        show _ = _
        rw [HSV.out, HTR.out, Nat.sub_self]
        simp [textsR]
      go_wp2
      have HK9 := Lib.hid (blk_set6 (y0 := .int .i64 tg) (y1 := .int .i64 ty) (y2 := .slice none 0 0) (y3 := .slice TA j tc) (y4 := .slice none 0 0) (y5 := .int .i64 0) HRK.out)
      have HU9 := Lib.hid (upd_set6 (g := B + 1) (y0 := .int .i64 tg) (y1 := .int .i64 ty) (y2 := .slice none 0 0) (y3 := .slice TA j tc) (y4 := .slice none 0 0) (y5 := .int .i64 0) HU.out (by have := HBB0.out; omega))
      have HV9 := Lib.hid (upd6 (w := wr) (g := B + 1) (y0 := .int .i64 tg) (y1 := .int .i64 ty) (y2 := .slice none 0 0) (y3 := .slice TA j tc) (y4 := .slice none 0 0) (y5 := .int .i64 0))
      generalize hw9 : World.setCell _ _ _ = w9 at *
      have y0 : w9.cell? ⟨B + 1, 0, none⟩ = some (.int .i64 tg) := by rw [HK9.out.cell]; rfl
      have y1 : w9.cell? ⟨B + 1, 1, none⟩ = some (.int .i64 ty) := by rw [HK9.out.cell]; rfl
      have y2 : w9.cell? ⟨B + 1, 2, none⟩ = some (.slice none 0 0) := by rw [HK9.out.cell]; rfl
      have y3 : w9.cell? ⟨B + 1, 3, none⟩ = some (.slice TA j tc) := by rw [HK9.out.cell]; rfl
      have y4 : w9.cell? ⟨B + 1, 4, none⟩ = some (.slice none 0 0) := by rw [HK9.out.cell]; rfl
      have y5 : w9.cell? ⟨B + 1, 5, none⟩ = some (.int .i64 0) := by rw [HK9.out.cell]; rfl
      rw [HV.out]
      exact bodyPost_ret (v := .agg #[.int .i64 tg, .int .i64 ty, .slice none 0 0, .slice TA j tc, .slice none 0 0, .int .i64 0]) (by simp [results, Try.results30, go_sem, y0, y1, y2, y3, y4, y5]) rfl ⟨⟨none, 0, 0, TA, j, tc, none, 0, 0⟩, rfl, ⟨Own.nil _ _ _ _, own9 HO.out (Nat.le_refl _) HV9.out HRK.out (by decide), Own.nil _ _ _ _, (by simp), (by simp)⟩, HU9.out⟩

end Go.Proofs.Ytogknbpbjgdldaa
