/- The walk of the reference's Parse. -/
import Derived.Test.YtogknbpbjgdldaaRfI
import Derived.StillTailTactics
import Derived.BigQuiet
import Derived.Deep.RegionHeld3
namespace Go.Proofs.Ytogknbpbjgdldaa
open Go.RowKit Go.Dray

set_option maxRecDepth 100000 in
set_option maxHeartbeats 4000000 in
theorem rparse_any (w : World) (A : Option Addr) (n c : Nat) (b : List Int) (hA : Ints .u8 w A n b) (hb : ∀ z ∈ b, 0 ≤ z ∧ z ≤ 255) (hnc : n ≤ c) (hn : n ≤ 10000000) :
    Calls Try.prog 13 #[.slice A n c] w (ParsePost (parseB b) w) := by
  have HA := Lib.hid hA
  have HBB := Lib.hid hb
  have HL := hA.len
  clear hA hb
  go_enter Try.func13, Try.ntmps13
  go_upto_region 1 with (fail)
  obtain ⟨R, HRR⟩ : ∃ R, Hid (R = w.heap.size) := ⟨_, rfl⟩
  have HRK : Hid (Blk (w.alloc (.cells #[.string ⟨#[]⟩, .int .i64 0, .int .i64 0] 32)) w.heap.size 32 #[.string ⟨#[]⟩, .int .i64 0, .int .i64 0]) := Blk.new _ _ _
  have HU1 : Hid (Upd [] w (w.alloc (.cells #[.string ⟨#[]⟩, .int .i64 0, .int .i64 0] 32))) := (Upd.refl _ _).alloc _
  rw [← HRR.out] at HRK ⊢
  generalize hw1 : w.alloc _ = w1 at *
  have HA1 := Lib.hid (HA.out.upd HU1.out (by simp))
  clear hw1
  have z0 : w1.cell? ⟨R, 0, none⟩ = some (.string ⟨#[]⟩) := by rw [HRK.out.cell]; rfl
  have z1 : w1.cell? ⟨R, 1, none⟩ = some (.int .i64 0) := by rw [HRK.out.cell]; rfl
  have z2 : w1.cell? ⟨R, 2, none⟩ = some (.int .i64 0) := by rw [HRK.out.cell]; rfl
  have fz := HRK.out.frozen
  by_cases a0 : n < 8
  · have d0 : decide ((n : Int) < 8) = true := by simp; omega
    go_wp2
    have HK9 := Lib.hid (blk_set3 (y0 := .string ⟨#[]⟩) (y1 := .int .i64 0) (y2 := .int .i64 2) HRK.out)
    have HU9 := Lib.hid (upd_set3 (g := R) (y0 := .string ⟨#[]⟩) (y1 := .int .i64 0) (y2 := .int .i64 2) HU1.out (by have := HRR.out; omega))
    generalize hw9 : World.setCell _ _ _ = w9 at *
    have y0 : w9.cell? ⟨R, 0, none⟩ = some (.string ⟨#[]⟩) := by rw [HK9.out.cell]; rfl
    have y1 : w9.cell? ⟨R, 1, none⟩ = some (.int .i64 0) := by rw [HK9.out.cell]; rfl
    have y2 : w9.cell? ⟨R, 2, none⟩ = some (.int .i64 2) := by rw [HK9.out.cell]; rfl
    have HV : Hid (parseB b = .error (0, 2)) := by
      show _ = _
      unfold parseB
      rw [if_pos (by rw [HL.out]; exact a0)]
    rw [HV.out]
    exact bodyPost_ret (v := .tuple #[.slice none 0 0, .agg #[.string ⟨#[]⟩, .int .i64 (0), .int .i64 2]]) (by simp [results, Try.results13, go_sem, y0, y1, y2]) rfl ⟨rfl, HU9.out⟩
  · have d0 : decide ((n : Int) < 8) = false := by simp; omega
    obtain ⟨N, HN⟩ : ∃ N : Nat, Hid ((N : Int) = num4 b 0) := ⟨(num4 b 0).toNat, by have := (num4_bd HBB.out 0).1; show _ = _; omega⟩
    obtain ⟨d, HD⟩ : ∃ d : Nat, Hid ((d : Int) = num4 b 4) := ⟨(num4 b 4).toNat, by have := (num4_bd HBB.out 4).1; show _ = _; omega⟩
    have hNb : N ≤ 4294967295 := by have h1 := (num4_bd HBB.out 0).2; have h2 := HN.out; omega
    have hdb : d ≤ 4294967295 := by have h1 := (num4_bd HBB.out 4).2; have h2 := HD.out; omega
    have HP0 : Hid (parseB b = if 257 < N ∨ 1048576 < d then .error (0, 4) else if n < 8 + 16 * N + d then .error (0, 2) else if 8 + 16 * N + d < n then .error (0, 3)
        else if N = 0 ∨ d < 16 ∨ (b.drop 8).take 16 ≠ headB d then .error (8, 3) else if b.drop (n - 16) ≠ footB N then .error (n - 16, 3) else entR b ((b.drop (8 + 16 * N)).take (d - 16)) 1 (N - 1) none) := by
      show _ = _
      unfold parseB
      rw [if_neg (by rw [HL.out]; exact a0), ← HN.out, ← HD.out, HL.out, Int.toNat_natCast, Int.toNat_natCast]
      have e1 : (257 < (N : Int) ∨ 1048576 < (d : Int)) ↔ (257 < N ∨ 1048576 < d) := by omega
      have e2 : ((n : Int) < 8 + 16 * (N : Int) + (d : Int)) ↔ n < 8 + 16 * N + d := by omega
      have e3 : (8 + 16 * (N : Int) + (d : Int) < (n : Int)) ↔ 8 + 16 * N + d < n := by omega
      have e4 : ((N : Int) = 0 ∨ (d : Int) < 16 ∨ (b.drop 8).take 16 ≠ headB d) ↔ (N = 0 ∨ d < 16 ∨ (b.drop 8).take 16 ≠ headB d) := by
        constructor
        · rintro (h | h | h)
          · exact Or.inl (by omega)
          · exact Or.inr (Or.inl (by omega))
          · exact Or.inr (Or.inr h)
        · rintro (h | h | h)
          · exact Or.inl (by omega)
          · exact Or.inr (Or.inl (by omega))
          · exact Or.inr (Or.inr h)
      simp only [e1, e2, e3, e4]
    go_wp2_with fail
    refine (rget_any A n c b 0 0 rfl w1 HA1.out HBB.out (by omega) (by omega)).mono ?_
    rintro e w' ⟨rfl, rfl⟩
    rw [← HN.out]
    go_wp2_with fail
    refine (rget_any A n c b 4 4 rfl w1 HA1.out HBB.out (by omega) (by omega)).mono ?_
    rintro e w' ⟨rfl, rfl⟩
    rw [← HD.out]
    by_cases a1 : 257 < N
    · have d1 : decide ((257 : Int) < N) = true := by simp; omega
      go_wp2
      have HK9 := Lib.hid (blk_set3 (y0 := .string ⟨#[]⟩) (y1 := .int .i64 0) (y2 := .int .i64 4) HRK.out)
      have HU9 := Lib.hid (upd_set3 (g := R) (y0 := .string ⟨#[]⟩) (y1 := .int .i64 0) (y2 := .int .i64 4) HU1.out (by have := HRR.out; omega))
      generalize hw9 : World.setCell _ _ _ = w9 at *
      have y0 : w9.cell? ⟨R, 0, none⟩ = some (.string ⟨#[]⟩) := by rw [HK9.out.cell]; rfl
      have y1 : w9.cell? ⟨R, 1, none⟩ = some (.int .i64 0) := by rw [HK9.out.cell]; rfl
      have y2 : w9.cell? ⟨R, 2, none⟩ = some (.int .i64 4) := by rw [HK9.out.cell]; rfl
      have HV : Hid (parseB b = .error (0, 4)) := by
        show _ = _
        rw [HP0.out, if_pos (Or.inl a1)]
      rw [HV.out]
      exact bodyPost_ret (v := .tuple #[.slice none 0 0, .agg #[.string ⟨#[]⟩, .int .i64 (0), .int .i64 4]]) (by simp [results, Try.results13, go_sem, y0, y1, y2]) rfl ⟨rfl, HU9.out⟩
    · have d1 : decide ((257 : Int) < N) = false := by simp; omega
      by_cases a2 : 1048576 < d
      · have d2 : decide ((1048576 : Int) < d) = true := by simp; omega
        go_wp2
        have HK9 := Lib.hid (blk_set3 (y0 := .string ⟨#[]⟩) (y1 := .int .i64 0) (y2 := .int .i64 4) HRK.out)
        have HU9 := Lib.hid (upd_set3 (g := R) (y0 := .string ⟨#[]⟩) (y1 := .int .i64 0) (y2 := .int .i64 4) HU1.out (by have := HRR.out; omega))
        generalize hw9 : World.setCell _ _ _ = w9 at *
        have y0 : w9.cell? ⟨R, 0, none⟩ = some (.string ⟨#[]⟩) := by rw [HK9.out.cell]; rfl
        have y1 : w9.cell? ⟨R, 1, none⟩ = some (.int .i64 0) := by rw [HK9.out.cell]; rfl
        have y2 : w9.cell? ⟨R, 2, none⟩ = some (.int .i64 4) := by rw [HK9.out.cell]; rfl
        have HV : Hid (parseB b = .error (0, 4)) := by
          show _ = _
          rw [HP0.out, if_pos (Or.inr a2)]
        rw [HV.out]
        exact bodyPost_ret (v := .tuple #[.slice none 0 0, .agg #[.string ⟨#[]⟩, .int .i64 (0), .int .i64 4]]) (by simp [results, Try.results13, go_sem, y0, y1, y2]) rfl ⟨rfl, HU9.out⟩
      · have d2 : decide ((1048576 : Int) < d) = false := by simp; omega
        have HP1 : Hid (parseB b = if n < 8 + 16 * N + d then .error (0, 2) else if 8 + 16 * N + d < n then .error (0, 3)
            else if N = 0 ∨ d < 16 ∨ (b.drop 8).take 16 ≠ headB d then .error (8, 3) else if b.drop (n - 16) ≠ footB N then .error (n - 16, 3) else entR b ((b.drop (8 + 16 * N)).take (d - 16)) 1 (N - 1) none) := by
          show _ = _
          rw [HP0.out, if_neg (by omega)]
        clear HP0
        by_cases a3 : n < 8 + 16 * N + d
        · have d3 : decide ((n : Int) < 8 + 16 * (N : Int) + d) = true := by simp; omega
          go_wp2
          have HK9 := Lib.hid (blk_set3 (y0 := .string ⟨#[]⟩) (y1 := .int .i64 0) (y2 := .int .i64 2) HRK.out)
          have HU9 := Lib.hid (upd_set3 (g := R) (y0 := .string ⟨#[]⟩) (y1 := .int .i64 0) (y2 := .int .i64 2) HU1.out (by have := HRR.out; omega))
          generalize hw9 : World.setCell _ _ _ = w9 at *
          have y0 : w9.cell? ⟨R, 0, none⟩ = some (.string ⟨#[]⟩) := by rw [HK9.out.cell]; rfl
          have y1 : w9.cell? ⟨R, 1, none⟩ = some (.int .i64 0) := by rw [HK9.out.cell]; rfl
          have y2 : w9.cell? ⟨R, 2, none⟩ = some (.int .i64 2) := by rw [HK9.out.cell]; rfl
          have HV : Hid (parseB b = .error (0, 2)) := by
            show _ = _
            rw [HP1.out, if_pos a3]
          rw [HV.out]
          exact bodyPost_ret (v := .tuple #[.slice none 0 0, .agg #[.string ⟨#[]⟩, .int .i64 (0), .int .i64 2]]) (by simp [results, Try.results13, go_sem, y0, y1, y2]) rfl ⟨rfl, HU9.out⟩
        · have d3 : decide ((n : Int) < 8 + 16 * (N : Int) + d) = false := by simp; omega
          by_cases a4 : 8 + 16 * N + d < n
          · have d4 : decide (8 + 16 * (N : Int) + d < (n : Int)) = true := by simp; omega
            go_wp2
            have HK9 := Lib.hid (blk_set3 (y0 := .string ⟨#[]⟩) (y1 := .int .i64 0) (y2 := .int .i64 3) HRK.out)
            have HU9 := Lib.hid (upd_set3 (g := R) (y0 := .string ⟨#[]⟩) (y1 := .int .i64 0) (y2 := .int .i64 3) HU1.out (by have := HRR.out; omega))
            generalize hw9 : World.setCell _ _ _ = w9 at *
            have y0 : w9.cell? ⟨R, 0, none⟩ = some (.string ⟨#[]⟩) := by rw [HK9.out.cell]; rfl
            have y1 : w9.cell? ⟨R, 1, none⟩ = some (.int .i64 0) := by rw [HK9.out.cell]; rfl
            have y2 : w9.cell? ⟨R, 2, none⟩ = some (.int .i64 3) := by rw [HK9.out.cell]; rfl
            have HV : Hid (parseB b = .error (0, 3)) := by
              show _ = _
              rw [HP1.out, if_neg a3, if_pos a4]
            rw [HV.out]
            exact bodyPost_ret (v := .tuple #[.slice none 0 0, .agg #[.string ⟨#[]⟩, .int .i64 (0), .int .i64 3]]) (by simp [results, Try.results13, go_sem, y0, y1, y2]) rfl ⟨rfl, HU9.out⟩
          · have d4 : decide (8 + 16 * (N : Int) + d < (n : Int)) = false := by simp; omega
            have HP2 : Hid (parseB b = if N = 0 ∨ d < 16 ∨ (b.drop 8).take 16 ≠ headB d then .error (8, 3) else if b.drop (n - 16) ≠ footB N then .error (n - 16, 3) else entR b ((b.drop (8 + 16 * N)).take (d - 16)) 1 (N - 1) none) := by
              show _ = _
              rw [HP1.out, if_neg a3, if_neg a4]
            have hne : n = 8 + 16 * N + d := by omega
            have HNE := Lib.hid hne
            clear HP1 hne
            by_cases a5 : N = 0
            · have d5 : ((N : Int) == 0) = true := by simp [a5]
              have E5 := Lib.hid a5
              clear a5
              go_wp2
              have HK9 := Lib.hid (blk_set3 (y0 := .string ⟨#[]⟩) (y1 := .int .i64 8) (y2 := .int .i64 3) HRK.out)
              have HU9 := Lib.hid (upd_set3 (g := R) (y0 := .string ⟨#[]⟩) (y1 := .int .i64 8) (y2 := .int .i64 3) HU1.out (by have := HRR.out; omega))
              generalize hw9 : World.setCell _ _ _ = w9 at *
              have y0 : w9.cell? ⟨R, 0, none⟩ = some (.string ⟨#[]⟩) := by rw [HK9.out.cell]; rfl
              have y1 : w9.cell? ⟨R, 1, none⟩ = some (.int .i64 8) := by rw [HK9.out.cell]; rfl
              have y2 : w9.cell? ⟨R, 2, none⟩ = some (.int .i64 3) := by rw [HK9.out.cell]; rfl
              have HV : Hid (parseB b = .error (8, 3)) := by
                show _ = _
                rw [HP2.out, if_pos (Or.inl E5.out)]
              rw [HV.out]
              exact bodyPost_ret (v := .tuple #[.slice none 0 0, .agg #[.string ⟨#[]⟩, .int .i64 (8), .int .i64 3]]) (by simp [results, Try.results13, go_sem, y0, y1, y2]) rfl ⟨rfl, HU9.out⟩
            · have d5 : ((N : Int) == 0) = false := by simp; omega
              by_cases a6 : d < 16
              · have d6 : decide ((d : Int) < 16) = true := by simp; omega
                go_wp2
                have HK9 := Lib.hid (blk_set3 (y0 := .string ⟨#[]⟩) (y1 := .int .i64 8) (y2 := .int .i64 3) HRK.out)
                have HU9 := Lib.hid (upd_set3 (g := R) (y0 := .string ⟨#[]⟩) (y1 := .int .i64 8) (y2 := .int .i64 3) HU1.out (by have := HRR.out; omega))
                generalize hw9 : World.setCell _ _ _ = w9 at *
                have y0 : w9.cell? ⟨R, 0, none⟩ = some (.string ⟨#[]⟩) := by rw [HK9.out.cell]; rfl
                have y1 : w9.cell? ⟨R, 1, none⟩ = some (.int .i64 8) := by rw [HK9.out.cell]; rfl
                have y2 : w9.cell? ⟨R, 2, none⟩ = some (.int .i64 3) := by rw [HK9.out.cell]; rfl
                have HV : Hid (parseB b = .error (8, 3)) := by
                  show _ = _
                  rw [HP2.out, if_pos (Or.inr (Or.inl a6))]
                rw [HV.out]
                exact bodyPost_ret (v := .tuple #[.slice none 0 0, .agg #[.string ⟨#[]⟩, .int .i64 (8), .int .i64 3]]) (by simp [results, Try.results13, go_sem, y0, y1, y2]) rfl ⟨rfl, HU9.out⟩
              · have d6 : decide ((d : Int) < 16) = false := by simp; omega
                have hn24 : 24 ≤ n := by have := HNE.out; omega
                go_wp2_with fail
                refine (rget_any A n c b (8) (8) (by omega) w1 HA1.out HBB.out (by omega) (by omega)).mono ?_
                rintro e w' ⟨rfl, rfl⟩
                by_cases q0 : num4 b (8) = 63
                · have r0 : (num4 b (8) != 63) = false := by simp [q0]
                  have Q0 := Lib.hid q0
                  clear q0
                  go_wp2_with fail
                  refine (rget_any A n c b (12) (12) (by omega) w1 HA1.out HBB.out (by omega) (by omega)).mono ?_
                  rintro e w' ⟨rfl, rfl⟩
                  by_cases q1 : num4 b (12) = 7
                  · have r1 : (num4 b (12) != 7) = false := by simp [q1]
                    have Q1 := Lib.hid q1
                    clear q1
                    go_wp2_with fail
                    refine (rget_any A n c b (16) (16) (by omega) w1 HA1.out HBB.out (by omega) (by omega)).mono ?_
                    rintro e w' ⟨rfl, rfl⟩
                    by_cases q2 : num4 b (16) = (d : Int) - 16
                    · have r2 : (num4 b (16) != ((d : Int) - 16)) = false := by simp [q2]
                      have Q2 := Lib.hid q2
                      clear q2
                      go_wp2_with fail
                      refine (rget_any A n c b (20) (20) (by omega) w1 HA1.out HBB.out (by omega) (by omega)).mono ?_
                      rintro e w' ⟨rfl, rfl⟩
                      by_cases q3 : num4 b (20) = 16
                      · have r3 : (num4 b (20) != 16) = false := by simp [q3]
                        have Q3 := Lib.hid q3
                        clear q3
                        have HP3 : Hid (parseB b = if b.drop (n - 16) ≠ footB N then .error (n - 16, 3) else entR b ((b.drop (8 + 16 * N)).take (d - 16)) 1 (N - 1) none) := by
                          show _ = _
                          rw [HP2.out, if_neg (by rintro (h | h | h) <;> first | exact a5 h | exact a6 h | exact h (head_of HL.out HBB.out (by omega) Q0.out Q1.out Q2.out Q3.out))]
                        clear HP2 Q0 Q1 Q2 Q3
                        go_upto_region 12 with (fail)
                        clear r0 r1 r2 r3 d5 d6
                        go_wp2_with fail
                        refine (rget_any A n c b ((n : Int) - 16) (n - 16) (by omega) w1 HA1.out HBB.out (by omega) (by omega)).mono ?_
                        rintro e w' ⟨rfl, rfl⟩
                        by_cases q0 : num4 b (n - 16) = 63
                        · have r0 : (num4 b (n - 16) != 63) = false := by simp [q0]
                          have Q0 := Lib.hid q0
                          clear q0
                          go_wp2_with fail
                          refine (rget_any A n c b ((n : Int) - 16 + 4) (n - 16 + 4) (by omega) w1 HA1.out HBB.out (by omega) (by omega)).mono ?_
                          rintro e w' ⟨rfl, rfl⟩
                          by_cases q1 : num4 b (n - 16 + 4) = 7
                          · have r1 : (num4 b (n - 16 + 4) != 7) = false := by simp [q1]
                            have Q1 := Lib.hid q1
                            clear q1
                            go_wp2_with fail
                            refine (rget_any A n c b ((n : Int) - 16 + 8) (n - 16 + 8) (by omega) w1 HA1.out HBB.out (by omega) (by omega)).mono ?_
                            rintro e w' ⟨rfl, rfl⟩
                            by_cases q2 : num4 b (n - 16 + 8) = 4294967296 - 16 * (N : Int)
                            · have r2 : (num4 b (n - 16 + 8) != (4294967296 - 16 * (N : Int))) = false := by simp [q2]
                              have Q2 := Lib.hid q2
                              clear q2
                              go_wp2_with fail
                              refine (rget_any A n c b ((n : Int) - 16 + 12) (n - 16 + 12) (by omega) w1 HA1.out HBB.out (by omega) (by omega)).mono ?_
                              rintro e w' ⟨rfl, rfl⟩
                              by_cases q3 : num4 b (n - 16 + 12) = 16
                              · have r3 : (num4 b (n - 16 + 12) != 16) = false := by simp [q3]
                                have Q3 := Lib.hid q3
                                clear q3
                                have HP4 : Hid (parseB b = entR b ((b.drop (8 + 16 * N)).take (d - 16)) 1 (N - 1) none) := by
                                  show _ = _
                                  rw [HP3.out, if_neg (by intro h; exact h (foot_of HL.out HBB.out (by omega) Q0.out Q1.out Q2.out Q3.out))]
                                clear HP3 Q0 Q1 Q2 Q3
                                have HCUT : Hid (∀ W : World, (Instr.sliceAt 25 (.slice A n c) (some (.int .i64 (8 + 16 * (N : Int)))) (some (.int .i64 ((n : Int) - 16))) none).run Try.prog W = .ok (.slice (cutA 1 A c (8 + 16 * N)) (d - 16) (c - (8 + 16 * N))) W) := by
                                  have h := run_cut_lh el_byte A n c .i64 .i64 (8 + 16 * (N : Int)) ((n : Int) - 16) (8 + 16 * N) (n - 16) (by omega) (by omega) (by have := HNE.out; omega) (by omega)
                                  rw [show n - 16 - (8 + 16 * N) = d - 16 by have := HNE.out; omega] at h
                                  exact h
                                have hDs : Hid (∀ W, Upd [] w W → Ints .u8 W (cutA 1 A c (8 + 16 * N)) (d - 16) ((b.drop (8 + 16 * N)).take (d - 16))) := fun W hW => by
                                  have h := (HA.out.upd hW (by simp)).cut (lo := 8 + 16 * N) (hi := n - 16) (c := c) (by have := HNE.out; omega) (by omega) hnc
                                  have e : n - 16 - (8 + 16 * N) = d - 16 := by have := HNE.out; omega
                                  rw [e] at h
                                  exact h
                                obtain ⟨D, HDD⟩ : ∃ D, Hid (D = cutA 1 A c (8 + 16 * N)) := ⟨_, rfl⟩
                                obtain ⟨ds, HDS⟩ : ∃ ds, Hid (ds = (b.drop (8 + 16 * N)).take (d - 16)) := ⟨_, rfl⟩
                                obtain ⟨dc, HDC⟩ : ∃ dc, Hid (dc = c - (8 + 16 * N)) := ⟨_, rfl⟩
                                rw [← HDD.out, ← HDS.out] at hDs
                                rw [← HDS.out] at HP4
                                rw [← HDD.out, ← HDC.out] at HCUT
                                have HDB : Hid (∀ z ∈ ds, 0 ≤ z ∧ z ≤ 255) := fun z hz => HBB.out z (by rw [HDS.out] at hz; exact List.mem_of_mem_drop (List.mem_of_mem_take hz))
                                go_wp2_with fail
                                clear z0 z1 z2 fz r0 r1 r2 r3
                                go_loopw [7, 8] (fun x i wr => ∃ (j : Nat) (L : Option Addr) (lc : Nat) (xs : List (TagP × TagV)), j + 1 ≤ N ∧ i = .int .i64 ((j : Int) + 1) ∧ xs.length = j ∧ x = .slice L j lc ∧ Hid (TagsO wr w.heap.size L lc xs) ∧ Hid (Upd [] w wr) ∧ Hid (Blk wr R 32 #[.string ⟨#[]⟩, .int .i64 0, .int .i64 0]) ∧ Hid (parseB b = preR xs (entR b ds (j + 1) (N - 1 - j) (lastT xs)))) (fun _ i _ => N - (intOf i).toNat)
                                case atStart => exact ⟨0, none, 0, [], by omega, rfl, rfl, rfl, TagsO.nil _ _, HU1, HRK, by show _ = _; rw [HP4.out]; exact (preR_nil _).symm⟩
                                case round =>
                                  obtain ⟨j, L, lc, xs, hj, rfl, hxl, rfl, HT, HU, HK, HP⟩ := hrel
                                  clear HU1 HRK HA1
                                  by_cases hlt : j + 1 < N
                                  · have dlt : decide ((j : Int) + 1 < N) = true := by simp; omega
                                    obtain ⟨k, HKK⟩ : ∃ k : Nat, Hid (k = 8 + 16 * (j + 1)) := ⟨_, rfl⟩
                                    have ek : 8 + 16 * ((j : Int) + 1) = (k : Int) := by rw [HKK.out]; omega
                                    have hkn : k + 16 ≤ n := by have h1 := HNE.out; have h2 := HKK.out; omega
                                    have HAr := Lib.hid (HA.out.upd HU.out (by simp))
                                    obtain ⟨tg, HTG⟩ : ∃ tg, Hid (tg = num4 b k) := ⟨_, rfl⟩
                                    obtain ⟨ty, HTY⟩ : ∃ ty, Hid (ty = num4 b (k + 4)) := ⟨_, rfl⟩
                                    obtain ⟨fr, HFR⟩ : ∃ fr : Nat, Hid ((fr : Int) = num4 b (k + 8)) := ⟨(num4 b (k + 8)).toNat, by have := (num4_bd HBB.out (k + 8)).1; show _ = _; omega⟩
                                    obtain ⟨cnt, HCN⟩ : ∃ cnt : Nat, Hid ((cnt : Int) = num4 b (k + 12)) := ⟨(num4 b (k + 12)).toNat, by have := (num4_bd HBB.out (k + 12)).1; show _ = _; omega⟩
                                    have hfrb : fr ≤ 4294967295 := by have h1 := (num4_bd HBB.out (k + 8)).2; have h2 := HFR.out; omega
                                    have hcnb : cnt ≤ 4294967295 := by have h1 := (num4_bd HBB.out (k + 12)).2; have h2 := HCN.out; omega
                                    have HTV0 : Hid (tagV b (8 + 16 * (j + 1)) ds = if tg < 100 ∨ 2147483647 < tg then .error 1 else if ty < 1 ∨ 9 < ty then .error 9 else sayV tg ty ds fr cnt) := by
                                      show _ = _
                                      rw [← HKK.out]
                                      unfold tagV
                                      rw [← HTG.out, ← HTY.out, ← HFR.out, ← HCN.out, Int.toNat_natCast, Int.toNat_natCast]
                                    have HPE : Hid (parseB b = preR xs (entR b ds (j + 1) (N - 2 - j + 1) (lastT xs))) := by
                                      show _ = _
                                      rw [HP.out, show N - 1 - j = N - 2 - j + 1 by omega]
                                    go_wp2_with fail
                                    refine (rget_any A n c b (k : Int) k rfl wr HAr.out HBB.out (by omega) (by omega)).mono ?_
                                    rintro e w' ⟨rfl, rfl⟩
                                    rw [← HTG.out]
                                    go_wp2_with fail
                                    refine (rget_any A n c b ((k : Int) + 4) (k + 4) (by omega) wr HAr.out HBB.out (by omega) (by omega)).mono ?_
                                    rintro e w' ⟨rfl, rfl⟩
                                    rw [← HTY.out]
                                    go_upto_region 21 with (fail)
                                    have HBw5 : Hid (Blk (wr.alloc (.cells #[.int .i64 tg, .int .i64 ty, .slice none 0 0, .slice none 0 0, .slice none 0 0] 40)) wr.heap.size 40 #[.int .i64 tg, .int .i64 ty, .slice none 0 0, .slice none 0 0, .slice none 0 0]) := Blk.new _ _ _
                                    have HV5 : Hid (Upd [] wr (wr.alloc (.cells #[.int .i64 tg, .int .i64 ty, .slice none 0 0, .slice none 0 0, .slice none 0 0] 40))) := (Upd.refl _ _).alloc _
                                    obtain ⟨G, HG⟩ : ∃ G, Hid (G = wr.heap.size) := ⟨_, rfl⟩
                                    rw [← HG.out] at HBw5 ⊢
                                    generalize hw5 : wr.alloc _ = w5 at *
                                    clear hw5
                                    have HUw5 := Lib.hid (HU.out.trans HV5.out)
                                    have HTw5 := Lib.hid (HT.out.upd HV5.out)
                                    have HKw5 := Lib.hid (HK.out.upd HV5.out (by simp))
                                    clear HV5 HP HT HK HU HAr
                                    have z0 : w5.cell? ⟨R, 0, none⟩ = some (.string ⟨#[]⟩) := by rw [HKw5.out.cell]; rfl
                                    have z1 : w5.cell? ⟨R, 1, none⟩ = some (.int .i64 0) := by rw [HKw5.out.cell]; rfl
                                    have z2 : w5.cell? ⟨R, 2, none⟩ = some (.int .i64 0) := by rw [HKw5.out.cell]; rfl
                                    have fz := HKw5.out.frozen
                                    have g0 : w5.cell? ⟨G, 0, none⟩ = some (.int .i64 tg) := by rw [HBw5.out.cell]; rfl
                                    have g1 : w5.cell? ⟨G, 1, none⟩ = some (.int .i64 ty) := by rw [HBw5.out.cell]; rfl
                                    have g2 : w5.cell? ⟨G, 2, none⟩ = some (.slice none 0 0) := by rw [HBw5.out.cell]; rfl
                                    have g3 : w5.cell? ⟨G, 3, none⟩ = some (.slice none 0 0) := by rw [HBw5.out.cell]; rfl
                                    have g4 : w5.cell? ⟨G, 4, none⟩ = some (.slice none 0 0) := by rw [HBw5.out.cell]; rfl
                                    by_cases b0 : tg < 100
                                    · have d0 : decide (tg < 100) = true := by simpa using b0
                                      go_wp2
                                      have HK9 := Lib.hid (blk_set3 (y0 := .string ⟨#[]⟩) (y1 := .int .i64 ((k : Int))) (y2 := .int .i64 1) HKw5.out)
                                      have HU9 := Lib.hid (upd_set3 (g := R) (y0 := .string ⟨#[]⟩) (y1 := .int .i64 ((k : Int))) (y2 := .int .i64 1) HUw5.out (by have := HRR.out; omega))
                                      generalize hw9 : World.setCell _ _ _ = w9 at *
                                      have y0 : w9.cell? ⟨R, 0, none⟩ = some (.string ⟨#[]⟩) := by rw [HK9.out.cell]; rfl
                                      have y1 : w9.cell? ⟨R, 1, none⟩ = some (.int .i64 ((k : Int))) := by rw [HK9.out.cell]; rfl
                                      have y2 : w9.cell? ⟨R, 2, none⟩ = some (.int .i64 1) := by rw [HK9.out.cell]; rfl
                                      have HV : Hid (parseB b = .error (k, 1)) := by
                                        show _ = _
                                        rw [HPE.out]
                                        exact ent_one (by rw [HTV0.out, if_pos (Or.inl b0)]) (out_err w5 0 (by decide)) HKK.out rfl
                                      rw [HV.out]
                                      exact bodyPost_ret (v := .tuple #[.slice none 0 0, .agg #[.string ⟨#[]⟩, .int .i64 ((k : Int)), .int .i64 1]]) (by simp [results, Try.results13, go_sem, y0, y1, y2]) rfl ⟨rfl, HU9.out⟩
                                    · have d0 : decide (tg < 100) = false := by simpa using b0
                                      by_cases b1 : 2147483647 < tg
                                      · have d1 : decide (2147483647 < tg) = true := by simpa using b1
                                        go_wp2
                                        have HK9 := Lib.hid (blk_set3 (y0 := .string ⟨#[]⟩) (y1 := .int .i64 ((k : Int))) (y2 := .int .i64 1) HKw5.out)
                                        have HU9 := Lib.hid (upd_set3 (g := R) (y0 := .string ⟨#[]⟩) (y1 := .int .i64 ((k : Int))) (y2 := .int .i64 1) HUw5.out (by have := HRR.out; omega))
                                        generalize hw9 : World.setCell _ _ _ = w9 at *
                                        have y0 : w9.cell? ⟨R, 0, none⟩ = some (.string ⟨#[]⟩) := by rw [HK9.out.cell]; rfl
                                        have y1 : w9.cell? ⟨R, 1, none⟩ = some (.int .i64 ((k : Int))) := by rw [HK9.out.cell]; rfl
                                        have y2 : w9.cell? ⟨R, 2, none⟩ = some (.int .i64 1) := by rw [HK9.out.cell]; rfl
                                        have HV : Hid (parseB b = .error (k, 1)) := by
                                          show _ = _
                                          rw [HPE.out]
                                          exact ent_one (by rw [HTV0.out, if_pos (Or.inr b1)]) (out_err w5 0 (by decide)) HKK.out rfl
                                        rw [HV.out]
                                        exact bodyPost_ret (v := .tuple #[.slice none 0 0, .agg #[.string ⟨#[]⟩, .int .i64 ((k : Int)), .int .i64 1]]) (by simp [results, Try.results13, go_sem, y0, y1, y2]) rfl ⟨rfl, HU9.out⟩
                                      · have d1 : decide (2147483647 < tg) = false := by simpa using b1
                                        have HTV : Hid (tagV b (8 + 16 * (j + 1)) ds = if ty < 1 ∨ 9 < ty then .error 9 else sayV tg ty ds fr cnt) := by
                                          show _ = _
                                          rw [HTV0.out, if_neg (by omega)]
                                        have HNE1 : Hid (tagV b (8 + 16 * (j + 1)) ds ≠ .error 1) := tagV_ne1 (by rw [← HKK.out, ← HTG.out]; omega)
                                        clear HTV0
                                        by_cases h0 : 0 < j
                                        · have d8 : decide ((1 : Int) < (j : Int) + 1) = true := by simp; omega
                                          obtain ⟨q, HQ0, hcq⟩ := HTw5.out.last hxl h0
                                          have hixq := HTw5.out.index hxl h0
                                          have hwj : IntKind.i64.wrap ((j : Int) + 1 - 2) = (j : Int) - 1 := by rw [IntKind.wrap_i64]; omega
                                          by_cases hord : tg ≤ q
                                          · have d5 : decide (tg ≤ q) = true := by simpa using hord
                                            go_wp2
                                            go_quiet (fail)
                                            clear hwj hixq hcq d5
                                            generalize hw6 : w5.drewN _ = w6
                                            have HV6 : Hid (Upd [] w5 w6) := by rw [← hw6]; exact (Upd.refl _ _).drewN _
                                            have HUw6 := Lib.hid (HUw5.out.trans HV6.out)
                                            have HTw6 := Lib.hid (HTw5.out.upd HV6.out)
                                            have HKw6 := Lib.hid (HKw5.out.upd HV6.out (by simp))
                                            have HBw6 := Lib.hid (HBw5.out.upd HV6.out (by simp))
                                            clear hw6 HV6 z0 z1 z2 fz g0 g1 g2 g3 g4 HUw5 HTw5 HKw5 HBw5
                                            have z0 : w6.cell? ⟨R, 0, none⟩ = some (.string ⟨#[]⟩) := by rw [HKw6.out.cell]; rfl
                                            have z1 : w6.cell? ⟨R, 1, none⟩ = some (.int .i64 0) := by rw [HKw6.out.cell]; rfl
                                            have z2 : w6.cell? ⟨R, 2, none⟩ = some (.int .i64 0) := by rw [HKw6.out.cell]; rfl
                                            have fz := HKw6.out.frozen
                                            have g0 : w6.cell? ⟨G, 0, none⟩ = some (.int .i64 tg) := by rw [HBw6.out.cell]; rfl
                                            have g1 : w6.cell? ⟨G, 1, none⟩ = some (.int .i64 ty) := by rw [HBw6.out.cell]; rfl
                                            have g2 : w6.cell? ⟨G, 2, none⟩ = some (.slice none 0 0) := by rw [HBw6.out.cell]; rfl
                                            have g3 : w6.cell? ⟨G, 3, none⟩ = some (.slice none 0 0) := by rw [HBw6.out.cell]; rfl
                                            have g4 : w6.cell? ⟨G, 4, none⟩ = some (.slice none 0 0) := by rw [HBw6.out.cell]; rfl
                                            go_wp2
                                            have HK9 := Lib.hid (blk_set3 (y0 := .string ⟨#[]⟩) (y1 := .int .i64 ((k : Int))) (y2 := .int .i64 15) HKw6.out)
                                            have HU9 := Lib.hid (upd_set3 (g := R) (y0 := .string ⟨#[]⟩) (y1 := .int .i64 ((k : Int))) (y2 := .int .i64 15) HUw6.out (by have := HRR.out; omega))
                                            generalize hw9 : World.setCell _ _ _ = w9 at *
                                            have y0 : w9.cell? ⟨R, 0, none⟩ = some (.string ⟨#[]⟩) := by rw [HK9.out.cell]; rfl
                                            have y1 : w9.cell? ⟨R, 1, none⟩ = some (.int .i64 ((k : Int))) := by rw [HK9.out.cell]; rfl
                                            have y2 : w9.cell? ⟨R, 2, none⟩ = some (.int .i64 15) := by rw [HK9.out.cell]; rfl
                                            have HV : Hid (parseB b = .error (k, 15)) := by
                                              show _ = _
                                              rw [HPE.out]
                                              exact ent_ord2 HNE1.out HKK.out (by rw [HQ0.out, ← HTG.out]; simpa using hord)
                                            rw [HV.out]
                                            exact bodyPost_ret (v := .tuple #[.slice none 0 0, .agg #[.string ⟨#[]⟩, .int .i64 ((k : Int)), .int .i64 15]]) (by simp [results, Try.results13, go_sem, y0, y1, y2]) rfl ⟨rfl, HU9.out⟩
                                          · have d5 : decide (tg ≤ q) = false := by simpa using hord
                                            have HQ : Hid ((lastT xs).any (fun x => decide (num4 b k ≤ x)) = false) := by show _ = _; rw [HQ0.out, ← HTG.out]; simpa using hord
                                            go_wp2
                                            go_quiet (fail)
                                            clear hwj hixq hcq d5
                                            generalize hw6 : w5.drewN _ = w6
                                            have HV6 : Hid (Upd [] w5 w6) := by rw [← hw6]; exact (Upd.refl _ _).drewN _
                                            have HUw6 := Lib.hid (HUw5.out.trans HV6.out)
                                            have HTw6 := Lib.hid (HTw5.out.upd HV6.out)
                                            have HKw6 := Lib.hid (HKw5.out.upd HV6.out (by simp))
                                            have HBw6 := Lib.hid (HBw5.out.upd HV6.out (by simp))
                                            clear hw6 HV6 z0 z1 z2 fz g0 g1 g2 g3 g4 HUw5 HTw5 HKw5 HBw5
                                            have z0 : w6.cell? ⟨R, 0, none⟩ = some (.string ⟨#[]⟩) := by rw [HKw6.out.cell]; rfl
                                            have z1 : w6.cell? ⟨R, 1, none⟩ = some (.int .i64 0) := by rw [HKw6.out.cell]; rfl
                                            have z2 : w6.cell? ⟨R, 2, none⟩ = some (.int .i64 0) := by rw [HKw6.out.cell]; rfl
                                            have fz := HKw6.out.frozen
                                            have g0 : w6.cell? ⟨G, 0, none⟩ = some (.int .i64 tg) := by rw [HBw6.out.cell]; rfl
                                            have g1 : w6.cell? ⟨G, 1, none⟩ = some (.int .i64 ty) := by rw [HBw6.out.cell]; rfl
                                            have g2 : w6.cell? ⟨G, 2, none⟩ = some (.slice none 0 0) := by rw [HBw6.out.cell]; rfl
                                            have g3 : w6.cell? ⟨G, 3, none⟩ = some (.slice none 0 0) := by rw [HBw6.out.cell]; rfl
                                            have g4 : w6.cell? ⟨G, 4, none⟩ = some (.slice none 0 0) := by rw [HBw6.out.cell]; rfl
                                            by_cases b2 : ty < 1
                                            · have d2 : decide (ty < 1) = true := by simpa using b2
                                              go_wp2
                                              have HK9 := Lib.hid (blk_set3 (y0 := .string ⟨#[]⟩) (y1 := .int .i64 ((k : Int))) (y2 := .int .i64 9) HKw6.out)
                                              have HU9 := Lib.hid (upd_set3 (g := R) (y0 := .string ⟨#[]⟩) (y1 := .int .i64 ((k : Int))) (y2 := .int .i64 9) HUw6.out (by have := HRR.out; omega))
                                              generalize hw9 : World.setCell _ _ _ = w9 at *
                                              have y0 : w9.cell? ⟨R, 0, none⟩ = some (.string ⟨#[]⟩) := by rw [HK9.out.cell]; rfl
                                              have y1 : w9.cell? ⟨R, 1, none⟩ = some (.int .i64 ((k : Int))) := by rw [HK9.out.cell]; rfl
                                              have y2 : w9.cell? ⟨R, 2, none⟩ = some (.int .i64 9) := by rw [HK9.out.cell]; rfl
                                              have HV : Hid (parseB b = .error (k, 9)) := by
                                                show _ = _
                                                rw [HPE.out]
                                                exact ent_bad (by rw [HTV.out, if_pos (Or.inl b2)]) (out_err w6 0 (by decide)) HKK.out (by decide) (by decide) HQ.out
                                              rw [HV.out]
                                              exact bodyPost_ret (v := .tuple #[.slice none 0 0, .agg #[.string ⟨#[]⟩, .int .i64 ((k : Int)), .int .i64 9]]) (by simp [results, Try.results13, go_sem, y0, y1, y2]) rfl ⟨rfl, HU9.out⟩
                                            · have d2 : decide (ty < 1) = false := by simpa using b2
                                              by_cases b3 : 9 < ty
                                              · have d3 : decide (9 < ty) = true := by simpa using b3
                                                go_wp2
                                                have HK9 := Lib.hid (blk_set3 (y0 := .string ⟨#[]⟩) (y1 := .int .i64 ((k : Int))) (y2 := .int .i64 9) HKw6.out)
                                                have HU9 := Lib.hid (upd_set3 (g := R) (y0 := .string ⟨#[]⟩) (y1 := .int .i64 ((k : Int))) (y2 := .int .i64 9) HUw6.out (by have := HRR.out; omega))
                                                generalize hw9 : World.setCell _ _ _ = w9 at *
                                                have y0 : w9.cell? ⟨R, 0, none⟩ = some (.string ⟨#[]⟩) := by rw [HK9.out.cell]; rfl
                                                have y1 : w9.cell? ⟨R, 1, none⟩ = some (.int .i64 ((k : Int))) := by rw [HK9.out.cell]; rfl
                                                have y2 : w9.cell? ⟨R, 2, none⟩ = some (.int .i64 9) := by rw [HK9.out.cell]; rfl
                                                have HV : Hid (parseB b = .error (k, 9)) := by
                                                  show _ = _
                                                  rw [HPE.out]
                                                  exact ent_bad (by rw [HTV.out, if_pos (Or.inr b3)]) (out_err w6 0 (by decide)) HKK.out (by decide) (by decide) HQ.out
                                                rw [HV.out]
                                                exact bodyPost_ret (v := .tuple #[.slice none 0 0, .agg #[.string ⟨#[]⟩, .int .i64 ((k : Int)), .int .i64 9]]) (by simp [results, Try.results13, go_sem, y0, y1, y2]) rfl ⟨rfl, HU9.out⟩
                                              · have d3 : decide (9 < ty) = false := by simpa using b3
                                                have HRS : Hid (tagV b (8 + 16 * (j + 1)) ds = sayV tg ty ds fr cnt) := by show _ = _; rw [HTV.out, if_neg (by omega)]
                                                have hw1 : IntKind.i64.wrap (16 * (N : Int)) = 16 * (N : Int) := by rw [IntKind.wrap_i64]; omega
                                                have hw2 : IntKind.i64.wrap (8 + 16 * (N : Int)) = 8 + 16 * (N : Int) := by rw [IntKind.wrap_i64]; omega
                                                have hw3 : IntKind.i64.wrap ((k : Int) + 8) = (k : Int) + 8 := by rw [IntKind.wrap_i64]; omega
                                                have hw4 : IntKind.i64.wrap ((k : Int) + 12) = (k : Int) + 12 := by rw [IntKind.wrap_i64]; omega
                                                have hcutD := HCUT.out
                                                have HAr := Lib.hid (HA.out.upd HUw6.out (by simp))
                                                have HS6 : Hid (∀ W, Upd [] w6 W → (fun W => W.cell? ⟨G, 0, none⟩ = some (.int .i64 tg) ∧ W.cell? ⟨G, 1, none⟩ = some (.int .i64 ty) ∧ W.cell? ⟨G, 2, none⟩ = some (.slice none 0 0) ∧ W.cell? ⟨G, 3, none⟩ = some (.slice none 0 0) ∧ W.cell? ⟨G, 4, none⟩ = some (.slice none 0 0) ∧ Upd [] w6 W) W) := fun W hW => ⟨hW.cell g0 (by simp), hW.cell g1 (by simp), hW.cell g2 (by simp), hW.cell g3 (by simp), hW.cell g4 (by simp), hW⟩
                                                have HAw : Hid (∀ W, Upd [] w6 W → Ints .u8 W A n b) := fun W hW => HA.out.upd (HUw6.out.trans hW) (by simp)
                                                have HDw : Hid (∀ W, Upd [] w6 W → Ints .u8 W D (d - 16) ds) := fun W hW => hDs.out W (HUw6.out.trans hW)
                                                have HFR2 : Hid (num4 b ((k : Int) + 8).toNat = (fr : Int)) := by show _ = _; rw [show ((k : Int) + 8).toNat = k + 8 by omega]; exact HFR.out.symm
                                                have HCN2 : Hid (num4 b ((k : Int) + 12).toNat = (cnt : Int)) := by show _ = _; rw [show ((k : Int) + 12).toNat = k + 12 by omega]; exact HCN.out.symm
                                                have hdc : d - 16 ≤ dc := by have h1 := HDC.out; have h2 := HNE.out; omega
                                                have hd8 : d - 16 ≤ 100000000 := by omega
                                                go_wp2_with fail
                                                go_region_held3 (fun W => W.cell? ⟨G, 0, none⟩ = some (.int .i64 tg) ∧ W.cell? ⟨G, 1, none⟩ = some (.int .i64 ty) ∧ W.cell? ⟨G, 2, none⟩ = some (.slice none 0 0) ∧ W.cell? ⟨G, 3, none⟩ = some (.slice none 0 0) ∧ W.cell? ⟨G, 4, none⟩ = some (.slice none 0 0) ∧ Upd [] w6 W) (first | with_reducible assumption | with_reducible exact HS6.out _ (upd_set6 HV67.out (Nat.le_refl _)) | with_reducible exact HS6.out _ (HV67.out.alloc _) | with_reducible exact HS6.out _ HV67.out | with_reducible exact HS6.out _ (Upd.alloc (by go_split_ands; with_reducible assumption) _) | with_reducible exact HS6.out _ (Upd.drew (Upd.refl [] w6))) (first | (go_at_call 29; refine (rget_int A n c b _ _ (by omega) (HAw.out _ (by go_split_ands; with_reducible assumption)) HBB.out (by omega) (by omega)).mono ?_; rintro e w' ⟨rfl, rfl⟩; (first | rw [HFR2.out] | rw [HCN2.out])) | (go_at_call 30; (obtain ⟨oq, hq⟩ : ∃ oq, Upd [] w6 (World.drew (World.alloc w6 oq)) := ⟨_, by with_reducible (go_split_ands; with_reducible assumption)⟩); clear hq oq; refine (says_any _ tg ty D (d - 16) dc ds (HDw.out _ (by go_split_ands; with_reducible assumption)) HDB.out hdc hd8 fr cnt hfrb hcnb).mono ?_; intro e w7 hres; obtain ⟨p, t, ec, rfl, hv7, HO7, hec1⟩ := saysPost_any hres; clear hres; have HV67 : Hid (Upd [] w6 w7) := (Upd.trans (by go_split_ands; with_reducible assumption) hv7); have HBN : Hid (Blk w7 w6.heap.size 61 #[.int .i64 0, .int .i64 0, .slice none 0 0, .slice none 0 0, .slice none 0 0, .int .i64 0]) := Blk.upd (show Blk (World.drew (World.alloc w6 (.cells #[.int .i64 0, .int .i64 0, .slice none 0 0, .slice none 0 0, .slice none 0 0, .int .i64 0] 61))) w6.heap.size 61 #[.int .i64 0, .int .i64 0, .slice none 0 0, .slice none 0 0, .slice none 0 0, .int .i64 0] from Blk.new w6 61 #[.int .i64 0, .int .i64 0, .slice none 0 0, .slice none 0 0, .slice none 0 0, .int .i64 0]) hv7 (by simp); have n0 : w7.cell? ⟨w6.heap.size, 0, none⟩ = some (.int .i64 0) := (by rw [HBN.out.cell]; rfl); have n1 : w7.cell? ⟨w6.heap.size, 1, none⟩ = some (.int .i64 0) := (by rw [HBN.out.cell]; rfl); have n2 : w7.cell? ⟨w6.heap.size, 2, none⟩ = some (.slice none 0 0) := (by rw [HBN.out.cell]; rfl); have n3 : w7.cell? ⟨w6.heap.size, 3, none⟩ = some (.slice none 0 0) := (by rw [HBN.out.cell]; rfl); have n4 : w7.cell? ⟨w6.heap.size, 4, none⟩ = some (.slice none 0 0) := (by rw [HBN.out.cell]; rfl); have n5 : w7.cell? ⟨w6.heap.size, 5, none⟩ = some (.int .i64 0) := (by rw [HBN.out.cell]; rfl); have nf := HBN.out.frozen) | (go_at_call 30; refine (says_any _ tg ty D (d - 16) dc ds (HDw.out _ (by go_split_ands; with_reducible assumption)) HDB.out hdc hd8 fr cnt hfrb hcnb).mono ?_; intro e w7 hres; obtain ⟨p, t, ec, rfl, hv7, HO7, hec1⟩ := saysPost_any hres; clear hres; have HV67 : Hid (Upd [] w6 w7) := (Upd.trans (by go_split_ands; with_reducible assumption) hv7)))
                                                · go_upto_region 28 with (fail)
                                                  have HX8 : Hid (Blk (w7.alloc (.cells #[.int .i64 t.tag, .int .i64 t.typ, .slice p.IA p.i p.ic, .slice p.TA p.n p.tc, .slice p.BA p.m p.bc, .int .i64 ec] 61)) w7.heap.size 61 #[.int .i64 t.tag, .int .i64 t.typ, .slice p.IA p.i p.ic, .slice p.TA p.n p.tc, .slice p.BA p.m p.bc, .int .i64 ec]) := Blk.new _ _ _
                                                  have HV68 : Hid (Upd [] w6 (w7.alloc (.cells #[.int .i64 t.tag, .int .i64 t.typ, .slice p.IA p.i p.ic, .slice p.TA p.n p.tc, .slice p.BA p.m p.bc, .int .i64 ec] 61))) := HV67.out.alloc _
                                                  have HO8 : Hid (TagOut (sayV tg ty ds fr cnt) w6.heap.size (w7.alloc (.cells #[.int .i64 t.tag, .int .i64 t.typ, .slice p.IA p.i p.ic, .slice p.TA p.n p.tc, .slice p.BA p.m p.bc, .int .i64 ec] 61)) p t ec) := HO7.out.upd ((Upd.refl [] w7).alloc _)
                                                  generalize hw8 : w7.alloc _ = w8 at *
                                                  clear hw8 hv7 HO7 HV67
                                                  clear hw1 hw2 hw3 hw4 hcutD HAr HS6 HAw HDw HFR2 HCN2 hdc hd8
                                                  have HSZ : Hid (w.heap.size ≤ w6.heap.size) := HUw6.out.size
                                                  have HUw8 := Lib.hid (HUw6.out.trans HV68.out)
                                                  have HTw8 := Lib.hid (HTw6.out.upd HV68.out)
                                                  have HKw8 := Lib.hid (HKw6.out.upd HV68.out (by simp))
                                                  have HBw8 := Lib.hid (HBw6.out.upd HV68.out (by simp))
                                                  clear HV68 z0 z1 z2 fz g0 g1 g2 g3 g4
                                                  have z0 : w8.cell? ⟨R, 0, none⟩ = some (.string ⟨#[]⟩) := by rw [HKw8.out.cell]; rfl
                                                  have z1 : w8.cell? ⟨R, 1, none⟩ = some (.int .i64 0) := by rw [HKw8.out.cell]; rfl
                                                  have z2 : w8.cell? ⟨R, 2, none⟩ = some (.int .i64 0) := by rw [HKw8.out.cell]; rfl
                                                  have fz := HKw8.out.frozen
                                                  have x0 : w8.cell? ⟨w7.heap.size, 0, none⟩ = some (.int .i64 t.tag) := by rw [HX8.out.cell]; rfl
                                                  have x1 : w8.cell? ⟨w7.heap.size, 1, none⟩ = some (.int .i64 t.typ) := by rw [HX8.out.cell]; rfl
                                                  have x2 : w8.cell? ⟨w7.heap.size, 2, none⟩ = some (.slice p.IA p.i p.ic) := by rw [HX8.out.cell]; rfl
                                                  have x3 : w8.cell? ⟨w7.heap.size, 3, none⟩ = some (.slice p.TA p.n p.tc) := by rw [HX8.out.cell]; rfl
                                                  have x4 : w8.cell? ⟨w7.heap.size, 4, none⟩ = some (.slice p.BA p.m p.bc) := by rw [HX8.out.cell]; rfl
                                                  have x5 : w8.cell? ⟨w7.heap.size, 5, none⟩ = some (.int .i64 ec) := by rw [HX8.out.cell]; rfl
                                                  by_cases a9 : ec = 0
                                                  · have d9 : (ec != 0) = false := by simp [a9]
                                                    obtain ⟨HGO, HTO⟩ : Hid (preR xs (entR b ds (j + 1) (N - 2 - j + 1) (lastT xs)) = preR (xs ++ [(p, t)]) (entR b ds (j + 1 + 1) (N - 2 - j) (lastT (xs ++ [(p, t)])))) ∧ Hid (TagO w8 w6.heap.size p t) := ent_go HRS.out HO8.out HKK.out a9 HQ.out
                                                    clear a9
                                                    have HTO6 := HTw8.out.own
                                                    rw [hxl] at HTO6
                                                    have HOW := Lib.hid HTO6
                                                    have hsz6 := HUw8.out.size
                                                    clear HTO6
                                                    go_wp2_with (at_builtin; refine wpList_app rfl rfl el_tag rfl (HOW.out.alloc _) rfl (seg_tag _ _ _ _ _ _ _) (by intro u hu; simp at hu; rcases hu with rfl | rfl | rfl | rfl | rfl <;> rfl) (by simp only [maxLen]; omega) (by omega) (by simp; omega) ?_; intro L9 c9 w9 hown9 hu9 hfr9)
                                                    have HV9 : Hid (Upd [ob L] w8 w9) := ((Upd.refl _ _).alloc _).trans hu9
                                                    have HT9 := Lib.hid (HTw8.out.more HTO.out HSZ.out (m := j + 1) (by omega) hown9 HV9.out)
                                                    have HK9 := Lib.hid (HKw8.out.upd HV9.out (by simp; exact fun h => HTw8.out.own.neBlk HKw8.out (by decide) h.symm))
                                                    have HU9 := Lib.hid (HUw8.out.then HV9.out (fun b hb => by simp at hb; right; exact (HTw8.out.own.base hb.symm).1))
                                                    clear hown9 hu9 hfr9
                                                    go_roundw
                                                    case rel =>
                                                      refine ⟨j + 1, L9, c9, xs ++ [(p, t)], by omega, by go_num, by simp [hxl], rfl, HT9, HU9, HK9, ?_⟩
                                                      show _ = _
                                                      rw [HPE.out, HGO.out, show N - 1 - (j + 1) = N - 2 - j by omega]
                                                    case measure => simp [intOf]; omega
                                                  · have d9 : (ec != 0) = true := by simp [a9]
                                                    go_upto_region 29 with (fail)
                                                    go_region_law (fail)
                                                    clear z0 z1 z2 fz x0 x1 x2 x3 x4 x5
                                                    go_wp2
                                                    have HK9 := Lib.hid (Blk.drew <| blk_set3 (y0 := .string ⟨#[]⟩) (y1 := .int .i64 ((k : Int))) (y2 := .int .i64 ec) HKw8.out)
                                                    have HU9 := Lib.hid (Upd.drew <| upd_set3 (g := R) (y0 := .string ⟨#[]⟩) (y1 := .int .i64 ((k : Int))) (y2 := .int .i64 ec) HUw8.out (by have := HRR.out; omega))
                                                    generalize hw9 : World.drew _ = w9 at *
                                                    have y0 : w9.cell? ⟨R, 0, none⟩ = some (.string ⟨#[]⟩) := by rw [HK9.out.cell]; rfl
                                                    have y1 : w9.cell? ⟨R, 1, none⟩ = some (.int .i64 ((k : Int))) := by rw [HK9.out.cell]; rfl
                                                    have y2 : w9.cell? ⟨R, 2, none⟩ = some (.int .i64 ec) := by rw [HK9.out.cell]; rfl
                                                    have HV : Hid (parseB b = .error (k, ec)) := by
                                                      show _ = _
                                                      rw [HPE.out]
                                                      exact ent_bad HRS.out HO8.out HKK.out (by assumption) a9 HQ.out
                                                    rw [HV.out]
                                                    exact bodyPost_ret (v := .tuple #[.slice none 0 0, .agg #[.string ⟨#[]⟩, .int .i64 ((k : Int)), .int .i64 ec]]) (by simp [results, Try.results13, go_sem, y0, y1, y2]) rfl ⟨rfl, HU9.out⟩
                                                · go_upto_region 28 with (fail)
                                                  have HX8 : Hid (Blk ((((((w7.setCell ⟨w6.heap.size, 0, none⟩ (.int .i64 t.tag)).setCell ⟨w6.heap.size, 1, none⟩ (.int .i64 t.typ)).setCell ⟨w6.heap.size, 2, none⟩ (.slice p.IA p.i p.ic)).setCell ⟨w6.heap.size, 3, none⟩ (.slice p.TA p.n p.tc)).setCell ⟨w6.heap.size, 4, none⟩ (.slice p.BA p.m p.bc)).setCell ⟨w6.heap.size, 5, none⟩ (.int .i64 ec)) w6.heap.size 61 #[.int .i64 t.tag, .int .i64 t.typ, .slice p.IA p.i p.ic, .slice p.TA p.n p.tc, .slice p.BA p.m p.bc, .int .i64 ec]) := blk_set6 (y0 := .int .i64 t.tag) (y1 := .int .i64 t.typ) (y2 := .slice p.IA p.i p.ic) (y3 := .slice p.TA p.n p.tc) (y4 := .slice p.BA p.m p.bc) (y5 := .int .i64 ec) (show Blk w7 w6.heap.size 61 #[.int .i64 0, .int .i64 0, .slice none 0 0, .slice none 0 0, .slice none 0 0, .int .i64 0] from HBN.out)
                                                  have HV68 : Hid (Upd [] w6 ((((((w7.setCell ⟨w6.heap.size, 0, none⟩ (.int .i64 t.tag)).setCell ⟨w6.heap.size, 1, none⟩ (.int .i64 t.typ)).setCell ⟨w6.heap.size, 2, none⟩ (.slice p.IA p.i p.ic)).setCell ⟨w6.heap.size, 3, none⟩ (.slice p.TA p.n p.tc)).setCell ⟨w6.heap.size, 4, none⟩ (.slice p.BA p.m p.bc)).setCell ⟨w6.heap.size, 5, none⟩ (.int .i64 ec))) := upd_set6 (g := w6.heap.size) (y0 := .int .i64 t.tag) (y1 := .int .i64 t.typ) (y2 := .slice p.IA p.i p.ic) (y3 := .slice p.TA p.n p.tc) (y4 := .slice p.BA p.m p.bc) (y5 := .int .i64 ec) HV67.out (Nat.le_refl _)
                                                  have HO8 : Hid (TagOut (sayV tg ty ds fr cnt) w6.heap.size ((((((w7.setCell ⟨w6.heap.size, 0, none⟩ (.int .i64 t.tag)).setCell ⟨w6.heap.size, 1, none⟩ (.int .i64 t.typ)).setCell ⟨w6.heap.size, 2, none⟩ (.slice p.IA p.i p.ic)).setCell ⟨w6.heap.size, 3, none⟩ (.slice p.TA p.n p.tc)).setCell ⟨w6.heap.size, 4, none⟩ (.slice p.BA p.m p.bc)).setCell ⟨w6.heap.size, 5, none⟩ (.int .i64 ec)) p t ec) := HO7.out.farU (upd6 (w := w7) (g := w6.heap.size) (y0 := .int .i64 t.tag) (y1 := .int .i64 t.typ) (y2 := .slice p.IA p.i p.ic) (y3 := .slice p.TA p.n p.tc) (y4 := .slice p.BA p.m p.bc) (y5 := .int .i64 ec)) (fun g hg => by simp at hg ⊢; omega) (by simp)
                                                  generalize hw8 : World.setCell _ _ _ = w8 at *
                                                  clear hw8 hv7 HO7 HV67 HBN n0 n1 n2 n3 n4 n5 nf
                                                  clear hw1 hw2 hw3 hw4 hcutD HAr HS6 HAw HDw HFR2 HCN2 hdc hd8
                                                  have HSZ : Hid (w.heap.size ≤ w6.heap.size) := HUw6.out.size
                                                  have HUw8 := Lib.hid (HUw6.out.trans HV68.out)
                                                  have HTw8 := Lib.hid (HTw6.out.upd HV68.out)
                                                  have HKw8 := Lib.hid (HKw6.out.upd HV68.out (by simp))
                                                  have HBw8 := Lib.hid (HBw6.out.upd HV68.out (by simp))
                                                  clear HV68 z0 z1 z2 fz g0 g1 g2 g3 g4
                                                  have z0 : w8.cell? ⟨R, 0, none⟩ = some (.string ⟨#[]⟩) := by rw [HKw8.out.cell]; rfl
                                                  have z1 : w8.cell? ⟨R, 1, none⟩ = some (.int .i64 0) := by rw [HKw8.out.cell]; rfl
                                                  have z2 : w8.cell? ⟨R, 2, none⟩ = some (.int .i64 0) := by rw [HKw8.out.cell]; rfl
                                                  have fz := HKw8.out.frozen
                                                  have x0 : w8.cell? ⟨w6.heap.size, 0, none⟩ = some (.int .i64 t.tag) := by rw [HX8.out.cell]; rfl
                                                  have x1 : w8.cell? ⟨w6.heap.size, 1, none⟩ = some (.int .i64 t.typ) := by rw [HX8.out.cell]; rfl
                                                  have x2 : w8.cell? ⟨w6.heap.size, 2, none⟩ = some (.slice p.IA p.i p.ic) := by rw [HX8.out.cell]; rfl
                                                  have x3 : w8.cell? ⟨w6.heap.size, 3, none⟩ = some (.slice p.TA p.n p.tc) := by rw [HX8.out.cell]; rfl
                                                  have x4 : w8.cell? ⟨w6.heap.size, 4, none⟩ = some (.slice p.BA p.m p.bc) := by rw [HX8.out.cell]; rfl
                                                  have x5 : w8.cell? ⟨w6.heap.size, 5, none⟩ = some (.int .i64 ec) := by rw [HX8.out.cell]; rfl
                                                  by_cases a9 : ec = 0
                                                  · have d9 : (ec != 0) = false := by simp [a9]
                                                    obtain ⟨HGO, HTO⟩ : Hid (preR xs (entR b ds (j + 1) (N - 2 - j + 1) (lastT xs)) = preR (xs ++ [(p, t)]) (entR b ds (j + 1 + 1) (N - 2 - j) (lastT (xs ++ [(p, t)])))) ∧ Hid (TagO w8 w6.heap.size p t) := ent_go HRS.out HO8.out HKK.out a9 HQ.out
                                                    clear a9
                                                    have HTO6 := HTw8.out.own
                                                    rw [hxl] at HTO6
                                                    have HOW := Lib.hid HTO6
                                                    have hsz6 := HUw8.out.size
                                                    clear HTO6
                                                    go_wp2_with (at_builtin; refine wpList_app rfl rfl el_tag rfl (HOW.out.alloc _) rfl (seg_tag _ _ _ _ _ _ _) (by intro u hu; simp at hu; rcases hu with rfl | rfl | rfl | rfl | rfl <;> rfl) (by simp only [maxLen]; omega) (by omega) (by simp; omega) ?_; intro L9 c9 w9 hown9 hu9 hfr9)
                                                    have HV9 : Hid (Upd [ob L] w8 w9) := ((Upd.refl _ _).alloc _).trans hu9
                                                    have HT9 := Lib.hid (HTw8.out.more HTO.out HSZ.out (m := j + 1) (by omega) hown9 HV9.out)
                                                    have HK9 := Lib.hid (HKw8.out.upd HV9.out (by simp; exact fun h => HTw8.out.own.neBlk HKw8.out (by decide) h.symm))
                                                    have HU9 := Lib.hid (HUw8.out.then HV9.out (fun b hb => by simp at hb; right; exact (HTw8.out.own.base hb.symm).1))
                                                    clear hown9 hu9 hfr9
                                                    go_roundw
                                                    case rel =>
                                                      refine ⟨j + 1, L9, c9, xs ++ [(p, t)], by omega, by go_num, by simp [hxl], rfl, HT9, HU9, HK9, ?_⟩
                                                      show _ = _
                                                      rw [HPE.out, HGO.out, show N - 1 - (j + 1) = N - 2 - j by omega]
                                                    case measure => simp [intOf]; omega
                                                  · have d9 : (ec != 0) = true := by simp [a9]
                                                    go_upto_region 29 with (fail)
                                                    go_region_law (fail)
                                                    clear z0 z1 z2 fz x0 x1 x2 x3 x4 x5
                                                    go_wp2
                                                    have HK9 := Lib.hid (Blk.drew <| blk_set3 (y0 := .string ⟨#[]⟩) (y1 := .int .i64 ((k : Int))) (y2 := .int .i64 ec) HKw8.out)
                                                    have HU9 := Lib.hid (Upd.drew <| upd_set3 (g := R) (y0 := .string ⟨#[]⟩) (y1 := .int .i64 ((k : Int))) (y2 := .int .i64 ec) HUw8.out (by have := HRR.out; omega))
                                                    generalize hw9 : World.drew _ = w9 at *
                                                    have y0 : w9.cell? ⟨R, 0, none⟩ = some (.string ⟨#[]⟩) := by rw [HK9.out.cell]; rfl
                                                    have y1 : w9.cell? ⟨R, 1, none⟩ = some (.int .i64 ((k : Int))) := by rw [HK9.out.cell]; rfl
                                                    have y2 : w9.cell? ⟨R, 2, none⟩ = some (.int .i64 ec) := by rw [HK9.out.cell]; rfl
                                                    have HV : Hid (parseB b = .error (k, ec)) := by
                                                      show _ = _
                                                      rw [HPE.out]
                                                      exact ent_bad HRS.out HO8.out HKK.out (by assumption) a9 HQ.out
                                                    rw [HV.out]
                                                    exact bodyPost_ret (v := .tuple #[.slice none 0 0, .agg #[.string ⟨#[]⟩, .int .i64 ((k : Int)), .int .i64 ec]]) (by simp [results, Try.results13, go_sem, y0, y1, y2]) rfl ⟨rfl, HU9.out⟩
                                                · go_upto_region 28 with (fail)
                                                  have HX8 : Hid (Blk ((((((w7.setCell ⟨w6.heap.size, 0, none⟩ (.int .i64 t.tag)).setCell ⟨w6.heap.size, 1, none⟩ (.int .i64 t.typ)).setCell ⟨w6.heap.size, 2, none⟩ (.slice p.IA p.i p.ic)).setCell ⟨w6.heap.size, 3, none⟩ (.slice p.TA p.n p.tc)).setCell ⟨w6.heap.size, 4, none⟩ (.slice p.BA p.m p.bc)).setCell ⟨w6.heap.size, 5, none⟩ (.int .i64 ec)) w6.heap.size 61 #[.int .i64 t.tag, .int .i64 t.typ, .slice p.IA p.i p.ic, .slice p.TA p.n p.tc, .slice p.BA p.m p.bc, .int .i64 ec]) := blk_set6 (y0 := .int .i64 t.tag) (y1 := .int .i64 t.typ) (y2 := .slice p.IA p.i p.ic) (y3 := .slice p.TA p.n p.tc) (y4 := .slice p.BA p.m p.bc) (y5 := .int .i64 ec) (show Blk w7 w6.heap.size 61 #[.int .i64 0, .int .i64 0, .slice none 0 0, .slice none 0 0, .slice none 0 0, .int .i64 0] from HBN.out)
                                                  have HV68 : Hid (Upd [] w6 ((((((w7.setCell ⟨w6.heap.size, 0, none⟩ (.int .i64 t.tag)).setCell ⟨w6.heap.size, 1, none⟩ (.int .i64 t.typ)).setCell ⟨w6.heap.size, 2, none⟩ (.slice p.IA p.i p.ic)).setCell ⟨w6.heap.size, 3, none⟩ (.slice p.TA p.n p.tc)).setCell ⟨w6.heap.size, 4, none⟩ (.slice p.BA p.m p.bc)).setCell ⟨w6.heap.size, 5, none⟩ (.int .i64 ec))) := upd_set6 (g := w6.heap.size) (y0 := .int .i64 t.tag) (y1 := .int .i64 t.typ) (y2 := .slice p.IA p.i p.ic) (y3 := .slice p.TA p.n p.tc) (y4 := .slice p.BA p.m p.bc) (y5 := .int .i64 ec) HV67.out (Nat.le_refl _)
                                                  have HO8 : Hid (TagOut (sayV tg ty ds fr cnt) w6.heap.size ((((((w7.setCell ⟨w6.heap.size, 0, none⟩ (.int .i64 t.tag)).setCell ⟨w6.heap.size, 1, none⟩ (.int .i64 t.typ)).setCell ⟨w6.heap.size, 2, none⟩ (.slice p.IA p.i p.ic)).setCell ⟨w6.heap.size, 3, none⟩ (.slice p.TA p.n p.tc)).setCell ⟨w6.heap.size, 4, none⟩ (.slice p.BA p.m p.bc)).setCell ⟨w6.heap.size, 5, none⟩ (.int .i64 ec)) p t ec) := HO7.out.farU (upd6 (w := w7) (g := w6.heap.size) (y0 := .int .i64 t.tag) (y1 := .int .i64 t.typ) (y2 := .slice p.IA p.i p.ic) (y3 := .slice p.TA p.n p.tc) (y4 := .slice p.BA p.m p.bc) (y5 := .int .i64 ec)) (fun g hg => by simp at hg ⊢; omega) (by simp)
                                                  generalize hw8 : World.setCell _ _ _ = w8 at *
                                                  clear hw8 hv7 HO7 HV67 HBN n0 n1 n2 n3 n4 n5 nf
                                                  clear hw1 hw2 hw3 hw4 hcutD HAr HS6 HAw HDw HFR2 HCN2 hdc hd8
                                                  have HSZ : Hid (w.heap.size ≤ w6.heap.size) := HUw6.out.size
                                                  have HUw8 := Lib.hid (HUw6.out.trans HV68.out)
                                                  have HTw8 := Lib.hid (HTw6.out.upd HV68.out)
                                                  have HKw8 := Lib.hid (HKw6.out.upd HV68.out (by simp))
                                                  have HBw8 := Lib.hid (HBw6.out.upd HV68.out (by simp))
                                                  clear HV68 z0 z1 z2 fz g0 g1 g2 g3 g4
                                                  have z0 : w8.cell? ⟨R, 0, none⟩ = some (.string ⟨#[]⟩) := by rw [HKw8.out.cell]; rfl
                                                  have z1 : w8.cell? ⟨R, 1, none⟩ = some (.int .i64 0) := by rw [HKw8.out.cell]; rfl
                                                  have z2 : w8.cell? ⟨R, 2, none⟩ = some (.int .i64 0) := by rw [HKw8.out.cell]; rfl
                                                  have fz := HKw8.out.frozen
                                                  have x0 : w8.cell? ⟨w6.heap.size, 0, none⟩ = some (.int .i64 t.tag) := by rw [HX8.out.cell]; rfl
                                                  have x1 : w8.cell? ⟨w6.heap.size, 1, none⟩ = some (.int .i64 t.typ) := by rw [HX8.out.cell]; rfl
                                                  have x2 : w8.cell? ⟨w6.heap.size, 2, none⟩ = some (.slice p.IA p.i p.ic) := by rw [HX8.out.cell]; rfl
                                                  have x3 : w8.cell? ⟨w6.heap.size, 3, none⟩ = some (.slice p.TA p.n p.tc) := by rw [HX8.out.cell]; rfl
                                                  have x4 : w8.cell? ⟨w6.heap.size, 4, none⟩ = some (.slice p.BA p.m p.bc) := by rw [HX8.out.cell]; rfl
                                                  have x5 : w8.cell? ⟨w6.heap.size, 5, none⟩ = some (.int .i64 ec) := by rw [HX8.out.cell]; rfl
                                                  by_cases a9 : ec = 0
                                                  · have d9 : (ec != 0) = false := by simp [a9]
                                                    obtain ⟨HGO, HTO⟩ : Hid (preR xs (entR b ds (j + 1) (N - 2 - j + 1) (lastT xs)) = preR (xs ++ [(p, t)]) (entR b ds (j + 1 + 1) (N - 2 - j) (lastT (xs ++ [(p, t)])))) ∧ Hid (TagO w8 w6.heap.size p t) := ent_go HRS.out HO8.out HKK.out a9 HQ.out
                                                    clear a9
                                                    have HTO6 := HTw8.out.own
                                                    rw [hxl] at HTO6
                                                    have HOW := Lib.hid HTO6
                                                    have hsz6 := HUw8.out.size
                                                    clear HTO6
                                                    go_wp2_with (at_builtin; refine wpList_app rfl rfl el_tag rfl (HOW.out.alloc _) rfl (seg_tag _ _ _ _ _ _ _) (by intro u hu; simp at hu; rcases hu with rfl | rfl | rfl | rfl | rfl <;> rfl) (by simp only [maxLen]; omega) (by omega) (by simp; omega) ?_; intro L9 c9 w9 hown9 hu9 hfr9)
                                                    have HV9 : Hid (Upd [ob L] w8 w9) := ((Upd.refl _ _).alloc _).trans hu9
                                                    have HT9 := Lib.hid (HTw8.out.more HTO.out HSZ.out (m := j + 1) (by omega) hown9 HV9.out)
                                                    have HK9 := Lib.hid (HKw8.out.upd HV9.out (by simp; exact fun h => HTw8.out.own.neBlk HKw8.out (by decide) h.symm))
                                                    have HU9 := Lib.hid (HUw8.out.then HV9.out (fun b hb => by simp at hb; right; exact (HTw8.out.own.base hb.symm).1))
                                                    clear hown9 hu9 hfr9
                                                    go_roundw
                                                    case rel =>
                                                      refine ⟨j + 1, L9, c9, xs ++ [(p, t)], by omega, by go_num, by simp [hxl], rfl, HT9, HU9, HK9, ?_⟩
                                                      show _ = _
                                                      rw [HPE.out, HGO.out, show N - 1 - (j + 1) = N - 2 - j by omega]
                                                    case measure => simp [intOf]; omega
                                                  · have d9 : (ec != 0) = true := by simp [a9]
                                                    go_upto_region 29 with (fail)
                                                    go_region_law (fail)
                                                    clear z0 z1 z2 fz x0 x1 x2 x3 x4 x5
                                                    go_wp2
                                                    have HK9 := Lib.hid (Blk.drew <| blk_set3 (y0 := .string ⟨#[]⟩) (y1 := .int .i64 ((k : Int))) (y2 := .int .i64 ec) HKw8.out)
                                                    have HU9 := Lib.hid (Upd.drew <| upd_set3 (g := R) (y0 := .string ⟨#[]⟩) (y1 := .int .i64 ((k : Int))) (y2 := .int .i64 ec) HUw8.out (by have := HRR.out; omega))
                                                    generalize hw9 : World.drew _ = w9 at *
                                                    have y0 : w9.cell? ⟨R, 0, none⟩ = some (.string ⟨#[]⟩) := by rw [HK9.out.cell]; rfl
                                                    have y1 : w9.cell? ⟨R, 1, none⟩ = some (.int .i64 ((k : Int))) := by rw [HK9.out.cell]; rfl
                                                    have y2 : w9.cell? ⟨R, 2, none⟩ = some (.int .i64 ec) := by rw [HK9.out.cell]; rfl
                                                    have HV : Hid (parseB b = .error (k, ec)) := by
                                                      show _ = _
                                                      rw [HPE.out]
                                                      exact ent_bad HRS.out HO8.out HKK.out (by assumption) a9 HQ.out
                                                    rw [HV.out]
                                                    exact bodyPost_ret (v := .tuple #[.slice none 0 0, .agg #[.string ⟨#[]⟩, .int .i64 ((k : Int)), .int .i64 ec]]) (by simp [results, Try.results13, go_sem, y0, y1, y2]) rfl ⟨rfl, HU9.out⟩
                                                · go_upto_region 28 with (fail)
                                                  have HX8 : Hid (Blk ((((((w7.setCell ⟨w6.heap.size, 0, none⟩ (.int .i64 t.tag)).setCell ⟨w6.heap.size, 1, none⟩ (.int .i64 t.typ)).setCell ⟨w6.heap.size, 2, none⟩ (.slice p.IA p.i p.ic)).setCell ⟨w6.heap.size, 3, none⟩ (.slice p.TA p.n p.tc)).setCell ⟨w6.heap.size, 4, none⟩ (.slice p.BA p.m p.bc)).setCell ⟨w6.heap.size, 5, none⟩ (.int .i64 ec)) w6.heap.size 61 #[.int .i64 t.tag, .int .i64 t.typ, .slice p.IA p.i p.ic, .slice p.TA p.n p.tc, .slice p.BA p.m p.bc, .int .i64 ec]) := blk_set6 (y0 := .int .i64 t.tag) (y1 := .int .i64 t.typ) (y2 := .slice p.IA p.i p.ic) (y3 := .slice p.TA p.n p.tc) (y4 := .slice p.BA p.m p.bc) (y5 := .int .i64 ec) (show Blk w7 w6.heap.size 61 #[.int .i64 0, .int .i64 0, .slice none 0 0, .slice none 0 0, .slice none 0 0, .int .i64 0] from HBN.out)
                                                  have HV68 : Hid (Upd [] w6 ((((((w7.setCell ⟨w6.heap.size, 0, none⟩ (.int .i64 t.tag)).setCell ⟨w6.heap.size, 1, none⟩ (.int .i64 t.typ)).setCell ⟨w6.heap.size, 2, none⟩ (.slice p.IA p.i p.ic)).setCell ⟨w6.heap.size, 3, none⟩ (.slice p.TA p.n p.tc)).setCell ⟨w6.heap.size, 4, none⟩ (.slice p.BA p.m p.bc)).setCell ⟨w6.heap.size, 5, none⟩ (.int .i64 ec))) := upd_set6 (g := w6.heap.size) (y0 := .int .i64 t.tag) (y1 := .int .i64 t.typ) (y2 := .slice p.IA p.i p.ic) (y3 := .slice p.TA p.n p.tc) (y4 := .slice p.BA p.m p.bc) (y5 := .int .i64 ec) HV67.out (Nat.le_refl _)
                                                  have HO8 : Hid (TagOut (sayV tg ty ds fr cnt) w6.heap.size ((((((w7.setCell ⟨w6.heap.size, 0, none⟩ (.int .i64 t.tag)).setCell ⟨w6.heap.size, 1, none⟩ (.int .i64 t.typ)).setCell ⟨w6.heap.size, 2, none⟩ (.slice p.IA p.i p.ic)).setCell ⟨w6.heap.size, 3, none⟩ (.slice p.TA p.n p.tc)).setCell ⟨w6.heap.size, 4, none⟩ (.slice p.BA p.m p.bc)).setCell ⟨w6.heap.size, 5, none⟩ (.int .i64 ec)) p t ec) := HO7.out.farU (upd6 (w := w7) (g := w6.heap.size) (y0 := .int .i64 t.tag) (y1 := .int .i64 t.typ) (y2 := .slice p.IA p.i p.ic) (y3 := .slice p.TA p.n p.tc) (y4 := .slice p.BA p.m p.bc) (y5 := .int .i64 ec)) (fun g hg => by simp at hg ⊢; omega) (by simp)
                                                  generalize hw8 : World.setCell _ _ _ = w8 at *
                                                  clear hw8 hv7 HO7 HV67 HBN n0 n1 n2 n3 n4 n5 nf
                                                  clear hw1 hw2 hw3 hw4 hcutD HAr HS6 HAw HDw HFR2 HCN2 hdc hd8
                                                  have HSZ : Hid (w.heap.size ≤ w6.heap.size) := HUw6.out.size
                                                  have HUw8 := Lib.hid (HUw6.out.trans HV68.out)
                                                  have HTw8 := Lib.hid (HTw6.out.upd HV68.out)
                                                  have HKw8 := Lib.hid (HKw6.out.upd HV68.out (by simp))
                                                  have HBw8 := Lib.hid (HBw6.out.upd HV68.out (by simp))
                                                  clear HV68 z0 z1 z2 fz g0 g1 g2 g3 g4
                                                  have z0 : w8.cell? ⟨R, 0, none⟩ = some (.string ⟨#[]⟩) := by rw [HKw8.out.cell]; rfl
                                                  have z1 : w8.cell? ⟨R, 1, none⟩ = some (.int .i64 0) := by rw [HKw8.out.cell]; rfl
                                                  have z2 : w8.cell? ⟨R, 2, none⟩ = some (.int .i64 0) := by rw [HKw8.out.cell]; rfl
                                                  have fz := HKw8.out.frozen
                                                  have x0 : w8.cell? ⟨w6.heap.size, 0, none⟩ = some (.int .i64 t.tag) := by rw [HX8.out.cell]; rfl
                                                  have x1 : w8.cell? ⟨w6.heap.size, 1, none⟩ = some (.int .i64 t.typ) := by rw [HX8.out.cell]; rfl
                                                  have x2 : w8.cell? ⟨w6.heap.size, 2, none⟩ = some (.slice p.IA p.i p.ic) := by rw [HX8.out.cell]; rfl
                                                  have x3 : w8.cell? ⟨w6.heap.size, 3, none⟩ = some (.slice p.TA p.n p.tc) := by rw [HX8.out.cell]; rfl
                                                  have x4 : w8.cell? ⟨w6.heap.size, 4, none⟩ = some (.slice p.BA p.m p.bc) := by rw [HX8.out.cell]; rfl
                                                  have x5 : w8.cell? ⟨w6.heap.size, 5, none⟩ = some (.int .i64 ec) := by rw [HX8.out.cell]; rfl
                                                  by_cases a9 : ec = 0
                                                  · have d9 : (ec != 0) = false := by simp [a9]
                                                    obtain ⟨HGO, HTO⟩ : Hid (preR xs (entR b ds (j + 1) (N - 2 - j + 1) (lastT xs)) = preR (xs ++ [(p, t)]) (entR b ds (j + 1 + 1) (N - 2 - j) (lastT (xs ++ [(p, t)])))) ∧ Hid (TagO w8 w6.heap.size p t) := ent_go HRS.out HO8.out HKK.out a9 HQ.out
                                                    clear a9
                                                    have HTO6 := HTw8.out.own
                                                    rw [hxl] at HTO6
                                                    have HOW := Lib.hid HTO6
                                                    have hsz6 := HUw8.out.size
                                                    clear HTO6
                                                    go_wp2_with (at_builtin; refine wpList_app rfl rfl el_tag rfl (HOW.out.alloc _) rfl (seg_tag _ _ _ _ _ _ _) (by intro u hu; simp at hu; rcases hu with rfl | rfl | rfl | rfl | rfl <;> rfl) (by simp only [maxLen]; omega) (by omega) (by simp; omega) ?_; intro L9 c9 w9 hown9 hu9 hfr9)
                                                    have HV9 : Hid (Upd [ob L] w8 w9) := ((Upd.refl _ _).alloc _).trans hu9
                                                    have HT9 := Lib.hid (HTw8.out.more HTO.out HSZ.out (m := j + 1) (by omega) hown9 HV9.out)
                                                    have HK9 := Lib.hid (HKw8.out.upd HV9.out (by simp; exact fun h => HTw8.out.own.neBlk HKw8.out (by decide) h.symm))
                                                    have HU9 := Lib.hid (HUw8.out.then HV9.out (fun b hb => by simp at hb; right; exact (HTw8.out.own.base hb.symm).1))
                                                    clear hown9 hu9 hfr9
                                                    go_roundw
                                                    case rel =>
                                                      refine ⟨j + 1, L9, c9, xs ++ [(p, t)], by omega, by go_num, by simp [hxl], rfl, HT9, HU9, HK9, ?_⟩
                                                      show _ = _
                                                      rw [HPE.out, HGO.out, show N - 1 - (j + 1) = N - 2 - j by omega]
                                                    case measure => simp [intOf]; omega
                                                  · have d9 : (ec != 0) = true := by simp [a9]
                                                    go_upto_region 29 with (fail)
                                                    go_region_law (fail)
                                                    clear z0 z1 z2 fz x0 x1 x2 x3 x4 x5
                                                    go_wp2
                                                    have HK9 := Lib.hid (Blk.drew <| blk_set3 (y0 := .string ⟨#[]⟩) (y1 := .int .i64 ((k : Int))) (y2 := .int .i64 ec) HKw8.out)
                                                    have HU9 := Lib.hid (Upd.drew <| upd_set3 (g := R) (y0 := .string ⟨#[]⟩) (y1 := .int .i64 ((k : Int))) (y2 := .int .i64 ec) HUw8.out (by have := HRR.out; omega))
                                                    generalize hw9 : World.drew _ = w9 at *
                                                    have y0 : w9.cell? ⟨R, 0, none⟩ = some (.string ⟨#[]⟩) := by rw [HK9.out.cell]; rfl
                                                    have y1 : w9.cell? ⟨R, 1, none⟩ = some (.int .i64 ((k : Int))) := by rw [HK9.out.cell]; rfl
                                                    have y2 : w9.cell? ⟨R, 2, none⟩ = some (.int .i64 ec) := by rw [HK9.out.cell]; rfl
                                                    have HV : Hid (parseB b = .error (k, ec)) := by
                                                      show _ = _
                                                      rw [HPE.out]
                                                      exact ent_bad HRS.out HO8.out HKK.out (by assumption) a9 HQ.out
                                                    rw [HV.out]
                                                    exact bodyPost_ret (v := .tuple #[.slice none 0 0, .agg #[.string ⟨#[]⟩, .int .i64 ((k : Int)), .int .i64 ec]]) (by simp [results, Try.results13, go_sem, y0, y1, y2]) rfl ⟨rfl, HU9.out⟩
                                        · have d8 : decide ((1 : Int) < (j : Int) + 1) = false := by simp; omega
                                          have HQ : Hid ((lastT xs).any (fun x => decide (num4 b k ≤ x)) = false) := by
                                            show _ = _
                                            have : xs = [] := List.length_eq_zero_iff.1 (by omega)
                                            rw [this]
                                            rfl
                                          go_wp2
                                          go_quiet (fail)
                                          generalize hw6 : w5.drewN _ = w6
                                          have HV6 : Hid (Upd [] w5 w6) := by rw [← hw6]; exact (Upd.refl _ _).drewN _
                                          have HUw6 := Lib.hid (HUw5.out.trans HV6.out)
                                          have HTw6 := Lib.hid (HTw5.out.upd HV6.out)
                                          have HKw6 := Lib.hid (HKw5.out.upd HV6.out (by simp))
                                          have HBw6 := Lib.hid (HBw5.out.upd HV6.out (by simp))
                                          clear hw6 HV6 z0 z1 z2 fz g0 g1 g2 g3 g4 HUw5 HTw5 HKw5 HBw5
                                          have z0 : w6.cell? ⟨R, 0, none⟩ = some (.string ⟨#[]⟩) := by rw [HKw6.out.cell]; rfl
                                          have z1 : w6.cell? ⟨R, 1, none⟩ = some (.int .i64 0) := by rw [HKw6.out.cell]; rfl
                                          have z2 : w6.cell? ⟨R, 2, none⟩ = some (.int .i64 0) := by rw [HKw6.out.cell]; rfl
                                          have fz := HKw6.out.frozen
                                          have g0 : w6.cell? ⟨G, 0, none⟩ = some (.int .i64 tg) := by rw [HBw6.out.cell]; rfl
                                          have g1 : w6.cell? ⟨G, 1, none⟩ = some (.int .i64 ty) := by rw [HBw6.out.cell]; rfl
                                          have g2 : w6.cell? ⟨G, 2, none⟩ = some (.slice none 0 0) := by rw [HBw6.out.cell]; rfl
                                          have g3 : w6.cell? ⟨G, 3, none⟩ = some (.slice none 0 0) := by rw [HBw6.out.cell]; rfl
                                          have g4 : w6.cell? ⟨G, 4, none⟩ = some (.slice none 0 0) := by rw [HBw6.out.cell]; rfl
                                          by_cases b2 : ty < 1
                                          · have d2 : decide (ty < 1) = true := by simpa using b2
                                            go_wp2
                                            have HK9 := Lib.hid (blk_set3 (y0 := .string ⟨#[]⟩) (y1 := .int .i64 ((k : Int))) (y2 := .int .i64 9) HKw6.out)
                                            have HU9 := Lib.hid (upd_set3 (g := R) (y0 := .string ⟨#[]⟩) (y1 := .int .i64 ((k : Int))) (y2 := .int .i64 9) HUw6.out (by have := HRR.out; omega))
                                            generalize hw9 : World.setCell _ _ _ = w9 at *
                                            have y0 : w9.cell? ⟨R, 0, none⟩ = some (.string ⟨#[]⟩) := by rw [HK9.out.cell]; rfl
                                            have y1 : w9.cell? ⟨R, 1, none⟩ = some (.int .i64 ((k : Int))) := by rw [HK9.out.cell]; rfl
                                            have y2 : w9.cell? ⟨R, 2, none⟩ = some (.int .i64 9) := by rw [HK9.out.cell]; rfl
                                            have HV : Hid (parseB b = .error (k, 9)) := by
                                              show _ = _
                                              rw [HPE.out]
                                              exact ent_bad (by rw [HTV.out, if_pos (Or.inl b2)]) (out_err w6 0 (by decide)) HKK.out (by decide) (by decide) HQ.out
                                            rw [HV.out]
                                            exact bodyPost_ret (v := .tuple #[.slice none 0 0, .agg #[.string ⟨#[]⟩, .int .i64 ((k : Int)), .int .i64 9]]) (by simp [results, Try.results13, go_sem, y0, y1, y2]) rfl ⟨rfl, HU9.out⟩
                                          · have d2 : decide (ty < 1) = false := by simpa using b2
                                            by_cases b3 : 9 < ty
                                            · have d3 : decide (9 < ty) = true := by simpa using b3
                                              go_wp2
                                              have HK9 := Lib.hid (blk_set3 (y0 := .string ⟨#[]⟩) (y1 := .int .i64 ((k : Int))) (y2 := .int .i64 9) HKw6.out)
                                              have HU9 := Lib.hid (upd_set3 (g := R) (y0 := .string ⟨#[]⟩) (y1 := .int .i64 ((k : Int))) (y2 := .int .i64 9) HUw6.out (by have := HRR.out; omega))
                                              generalize hw9 : World.setCell _ _ _ = w9 at *
                                              have y0 : w9.cell? ⟨R, 0, none⟩ = some (.string ⟨#[]⟩) := by rw [HK9.out.cell]; rfl
                                              have y1 : w9.cell? ⟨R, 1, none⟩ = some (.int .i64 ((k : Int))) := by rw [HK9.out.cell]; rfl
                                              have y2 : w9.cell? ⟨R, 2, none⟩ = some (.int .i64 9) := by rw [HK9.out.cell]; rfl
                                              have HV : Hid (parseB b = .error (k, 9)) := by
                                                show _ = _
                                                rw [HPE.out]
                                                exact ent_bad (by rw [HTV.out, if_pos (Or.inr b3)]) (out_err w6 0 (by decide)) HKK.out (by decide) (by decide) HQ.out
                                              rw [HV.out]
                                              exact bodyPost_ret (v := .tuple #[.slice none 0 0, .agg #[.string ⟨#[]⟩, .int .i64 ((k : Int)), .int .i64 9]]) (by simp [results, Try.results13, go_sem, y0, y1, y2]) rfl ⟨rfl, HU9.out⟩
                                            · have d3 : decide (9 < ty) = false := by simpa using b3
                                              have HRS : Hid (tagV b (8 + 16 * (j + 1)) ds = sayV tg ty ds fr cnt) := by show _ = _; rw [HTV.out, if_neg (by omega)]
                                              have hw1 : IntKind.i64.wrap (16 * (N : Int)) = 16 * (N : Int) := by rw [IntKind.wrap_i64]; omega
                                              have hw2 : IntKind.i64.wrap (8 + 16 * (N : Int)) = 8 + 16 * (N : Int) := by rw [IntKind.wrap_i64]; omega
                                              have hw3 : IntKind.i64.wrap ((k : Int) + 8) = (k : Int) + 8 := by rw [IntKind.wrap_i64]; omega
                                              have hw4 : IntKind.i64.wrap ((k : Int) + 12) = (k : Int) + 12 := by rw [IntKind.wrap_i64]; omega
                                              have hcutD := HCUT.out
                                              have HAr := Lib.hid (HA.out.upd HUw6.out (by simp))
                                              have HS6 : Hid (∀ W, Upd [] w6 W → (fun W => W.cell? ⟨G, 0, none⟩ = some (.int .i64 tg) ∧ W.cell? ⟨G, 1, none⟩ = some (.int .i64 ty) ∧ W.cell? ⟨G, 2, none⟩ = some (.slice none 0 0) ∧ W.cell? ⟨G, 3, none⟩ = some (.slice none 0 0) ∧ W.cell? ⟨G, 4, none⟩ = some (.slice none 0 0) ∧ Upd [] w6 W) W) := fun W hW => ⟨hW.cell g0 (by simp), hW.cell g1 (by simp), hW.cell g2 (by simp), hW.cell g3 (by simp), hW.cell g4 (by simp), hW⟩
                                              have HAw : Hid (∀ W, Upd [] w6 W → Ints .u8 W A n b) := fun W hW => HA.out.upd (HUw6.out.trans hW) (by simp)
                                              have HDw : Hid (∀ W, Upd [] w6 W → Ints .u8 W D (d - 16) ds) := fun W hW => hDs.out W (HUw6.out.trans hW)
                                              have HFR2 : Hid (num4 b ((k : Int) + 8).toNat = (fr : Int)) := by show _ = _; rw [show ((k : Int) + 8).toNat = k + 8 by omega]; exact HFR.out.symm
                                              have HCN2 : Hid (num4 b ((k : Int) + 12).toNat = (cnt : Int)) := by show _ = _; rw [show ((k : Int) + 12).toNat = k + 12 by omega]; exact HCN.out.symm
                                              have hdc : d - 16 ≤ dc := by have h1 := HDC.out; have h2 := HNE.out; omega
                                              have hd8 : d - 16 ≤ 100000000 := by omega
                                              go_wp2_with fail
                                              go_region_held3 (fun W => W.cell? ⟨G, 0, none⟩ = some (.int .i64 tg) ∧ W.cell? ⟨G, 1, none⟩ = some (.int .i64 ty) ∧ W.cell? ⟨G, 2, none⟩ = some (.slice none 0 0) ∧ W.cell? ⟨G, 3, none⟩ = some (.slice none 0 0) ∧ W.cell? ⟨G, 4, none⟩ = some (.slice none 0 0) ∧ Upd [] w6 W) (first | with_reducible assumption | with_reducible exact HS6.out _ (upd_set6 HV67.out (Nat.le_refl _)) | with_reducible exact HS6.out _ (HV67.out.alloc _) | with_reducible exact HS6.out _ HV67.out | with_reducible exact HS6.out _ (Upd.alloc (by go_split_ands; with_reducible assumption) _) | with_reducible exact HS6.out _ (Upd.drew (Upd.refl [] w6))) (first | (go_at_call 29; refine (rget_int A n c b _ _ (by omega) (HAw.out _ (by go_split_ands; with_reducible assumption)) HBB.out (by omega) (by omega)).mono ?_; rintro e w' ⟨rfl, rfl⟩; (first | rw [HFR2.out] | rw [HCN2.out])) | (go_at_call 30; (obtain ⟨oq, hq⟩ : ∃ oq, Upd [] w6 (World.drew (World.alloc w6 oq)) := ⟨_, by with_reducible (go_split_ands; with_reducible assumption)⟩); clear hq oq; refine (says_any _ tg ty D (d - 16) dc ds (HDw.out _ (by go_split_ands; with_reducible assumption)) HDB.out hdc hd8 fr cnt hfrb hcnb).mono ?_; intro e w7 hres; obtain ⟨p, t, ec, rfl, hv7, HO7, hec1⟩ := saysPost_any hres; clear hres; have HV67 : Hid (Upd [] w6 w7) := (Upd.trans (by go_split_ands; with_reducible assumption) hv7); have HBN : Hid (Blk w7 w6.heap.size 61 #[.int .i64 0, .int .i64 0, .slice none 0 0, .slice none 0 0, .slice none 0 0, .int .i64 0]) := Blk.upd (show Blk (World.drew (World.alloc w6 (.cells #[.int .i64 0, .int .i64 0, .slice none 0 0, .slice none 0 0, .slice none 0 0, .int .i64 0] 61))) w6.heap.size 61 #[.int .i64 0, .int .i64 0, .slice none 0 0, .slice none 0 0, .slice none 0 0, .int .i64 0] from Blk.new w6 61 #[.int .i64 0, .int .i64 0, .slice none 0 0, .slice none 0 0, .slice none 0 0, .int .i64 0]) hv7 (by simp); have n0 : w7.cell? ⟨w6.heap.size, 0, none⟩ = some (.int .i64 0) := (by rw [HBN.out.cell]; rfl); have n1 : w7.cell? ⟨w6.heap.size, 1, none⟩ = some (.int .i64 0) := (by rw [HBN.out.cell]; rfl); have n2 : w7.cell? ⟨w6.heap.size, 2, none⟩ = some (.slice none 0 0) := (by rw [HBN.out.cell]; rfl); have n3 : w7.cell? ⟨w6.heap.size, 3, none⟩ = some (.slice none 0 0) := (by rw [HBN.out.cell]; rfl); have n4 : w7.cell? ⟨w6.heap.size, 4, none⟩ = some (.slice none 0 0) := (by rw [HBN.out.cell]; rfl); have n5 : w7.cell? ⟨w6.heap.size, 5, none⟩ = some (.int .i64 0) := (by rw [HBN.out.cell]; rfl); have nf := HBN.out.frozen) | (go_at_call 30; refine (says_any _ tg ty D (d - 16) dc ds (HDw.out _ (by go_split_ands; with_reducible assumption)) HDB.out hdc hd8 fr cnt hfrb hcnb).mono ?_; intro e w7 hres; obtain ⟨p, t, ec, rfl, hv7, HO7, hec1⟩ := saysPost_any hres; clear hres; have HV67 : Hid (Upd [] w6 w7) := (Upd.trans (by go_split_ands; with_reducible assumption) hv7)))
                                              · go_upto_region 28 with (fail)
                                                have HX8 : Hid (Blk (w7.alloc (.cells #[.int .i64 t.tag, .int .i64 t.typ, .slice p.IA p.i p.ic, .slice p.TA p.n p.tc, .slice p.BA p.m p.bc, .int .i64 ec] 61)) w7.heap.size 61 #[.int .i64 t.tag, .int .i64 t.typ, .slice p.IA p.i p.ic, .slice p.TA p.n p.tc, .slice p.BA p.m p.bc, .int .i64 ec]) := Blk.new _ _ _
                                                have HV68 : Hid (Upd [] w6 (w7.alloc (.cells #[.int .i64 t.tag, .int .i64 t.typ, .slice p.IA p.i p.ic, .slice p.TA p.n p.tc, .slice p.BA p.m p.bc, .int .i64 ec] 61))) := HV67.out.alloc _
                                                have HO8 : Hid (TagOut (sayV tg ty ds fr cnt) w6.heap.size (w7.alloc (.cells #[.int .i64 t.tag, .int .i64 t.typ, .slice p.IA p.i p.ic, .slice p.TA p.n p.tc, .slice p.BA p.m p.bc, .int .i64 ec] 61)) p t ec) := HO7.out.upd ((Upd.refl [] w7).alloc _)
                                                generalize hw8 : w7.alloc _ = w8 at *
                                                clear hw8 hv7 HO7 HV67
                                                clear hw1 hw2 hw3 hw4 hcutD HAr HS6 HAw HDw HFR2 HCN2 hdc hd8
                                                have HSZ : Hid (w.heap.size ≤ w6.heap.size) := HUw6.out.size
                                                have HUw8 := Lib.hid (HUw6.out.trans HV68.out)
                                                have HTw8 := Lib.hid (HTw6.out.upd HV68.out)
                                                have HKw8 := Lib.hid (HKw6.out.upd HV68.out (by simp))
                                                have HBw8 := Lib.hid (HBw6.out.upd HV68.out (by simp))
                                                clear HV68 z0 z1 z2 fz g0 g1 g2 g3 g4
                                                have z0 : w8.cell? ⟨R, 0, none⟩ = some (.string ⟨#[]⟩) := by rw [HKw8.out.cell]; rfl
                                                have z1 : w8.cell? ⟨R, 1, none⟩ = some (.int .i64 0) := by rw [HKw8.out.cell]; rfl
                                                have z2 : w8.cell? ⟨R, 2, none⟩ = some (.int .i64 0) := by rw [HKw8.out.cell]; rfl
                                                have fz := HKw8.out.frozen
                                                have x0 : w8.cell? ⟨w7.heap.size, 0, none⟩ = some (.int .i64 t.tag) := by rw [HX8.out.cell]; rfl
                                                have x1 : w8.cell? ⟨w7.heap.size, 1, none⟩ = some (.int .i64 t.typ) := by rw [HX8.out.cell]; rfl
                                                have x2 : w8.cell? ⟨w7.heap.size, 2, none⟩ = some (.slice p.IA p.i p.ic) := by rw [HX8.out.cell]; rfl
                                                have x3 : w8.cell? ⟨w7.heap.size, 3, none⟩ = some (.slice p.TA p.n p.tc) := by rw [HX8.out.cell]; rfl
                                                have x4 : w8.cell? ⟨w7.heap.size, 4, none⟩ = some (.slice p.BA p.m p.bc) := by rw [HX8.out.cell]; rfl
                                                have x5 : w8.cell? ⟨w7.heap.size, 5, none⟩ = some (.int .i64 ec) := by rw [HX8.out.cell]; rfl
                                                by_cases a9 : ec = 0
                                                · have d9 : (ec != 0) = false := by simp [a9]
                                                  obtain ⟨HGO, HTO⟩ : Hid (preR xs (entR b ds (j + 1) (N - 2 - j + 1) (lastT xs)) = preR (xs ++ [(p, t)]) (entR b ds (j + 1 + 1) (N - 2 - j) (lastT (xs ++ [(p, t)])))) ∧ Hid (TagO w8 w6.heap.size p t) := ent_go HRS.out HO8.out HKK.out a9 HQ.out
                                                  clear a9
                                                  have HTO6 := HTw8.out.own
                                                  rw [hxl] at HTO6
                                                  have HOW := Lib.hid HTO6
                                                  have hsz6 := HUw8.out.size
                                                  clear HTO6
                                                  go_wp2_with (at_builtin; refine wpList_app rfl rfl el_tag rfl (HOW.out.alloc _) rfl (seg_tag _ _ _ _ _ _ _) (by intro u hu; simp at hu; rcases hu with rfl | rfl | rfl | rfl | rfl <;> rfl) (by simp only [maxLen]; omega) (by omega) (by simp; omega) ?_; intro L9 c9 w9 hown9 hu9 hfr9)
                                                  have HV9 : Hid (Upd [ob L] w8 w9) := ((Upd.refl _ _).alloc _).trans hu9
                                                  have HT9 := Lib.hid (HTw8.out.more HTO.out HSZ.out (m := j + 1) (by omega) hown9 HV9.out)
                                                  have HK9 := Lib.hid (HKw8.out.upd HV9.out (by simp; exact fun h => HTw8.out.own.neBlk HKw8.out (by decide) h.symm))
                                                  have HU9 := Lib.hid (HUw8.out.then HV9.out (fun b hb => by simp at hb; right; exact (HTw8.out.own.base hb.symm).1))
                                                  clear hown9 hu9 hfr9
                                                  go_roundw
                                                  case rel =>
                                                    refine ⟨j + 1, L9, c9, xs ++ [(p, t)], by omega, by go_num, by simp [hxl], rfl, HT9, HU9, HK9, ?_⟩
                                                    show _ = _
                                                    rw [HPE.out, HGO.out, show N - 1 - (j + 1) = N - 2 - j by omega]
                                                  case measure => simp [intOf]; omega
                                                · have d9 : (ec != 0) = true := by simp [a9]
                                                  go_upto_region 29 with (fail)
                                                  go_region_law (fail)
                                                  clear z0 z1 z2 fz x0 x1 x2 x3 x4 x5
                                                  go_wp2
                                                  have HK9 := Lib.hid (Blk.drew <| blk_set3 (y0 := .string ⟨#[]⟩) (y1 := .int .i64 ((k : Int))) (y2 := .int .i64 ec) HKw8.out)
                                                  have HU9 := Lib.hid (Upd.drew <| upd_set3 (g := R) (y0 := .string ⟨#[]⟩) (y1 := .int .i64 ((k : Int))) (y2 := .int .i64 ec) HUw8.out (by have := HRR.out; omega))
                                                  generalize hw9 : World.drew _ = w9 at *
                                                  have y0 : w9.cell? ⟨R, 0, none⟩ = some (.string ⟨#[]⟩) := by rw [HK9.out.cell]; rfl
                                                  have y1 : w9.cell? ⟨R, 1, none⟩ = some (.int .i64 ((k : Int))) := by rw [HK9.out.cell]; rfl
                                                  have y2 : w9.cell? ⟨R, 2, none⟩ = some (.int .i64 ec) := by rw [HK9.out.cell]; rfl
                                                  have HV : Hid (parseB b = .error (k, ec)) := by
                                                    show _ = _
                                                    rw [HPE.out]
                                                    exact ent_bad HRS.out HO8.out HKK.out (by assumption) a9 HQ.out
                                                  rw [HV.out]
                                                  exact bodyPost_ret (v := .tuple #[.slice none 0 0, .agg #[.string ⟨#[]⟩, .int .i64 ((k : Int)), .int .i64 ec]]) (by simp [results, Try.results13, go_sem, y0, y1, y2]) rfl ⟨rfl, HU9.out⟩
                                              · go_upto_region 28 with (fail)
                                                have HX8 : Hid (Blk ((((((w7.setCell ⟨w6.heap.size, 0, none⟩ (.int .i64 t.tag)).setCell ⟨w6.heap.size, 1, none⟩ (.int .i64 t.typ)).setCell ⟨w6.heap.size, 2, none⟩ (.slice p.IA p.i p.ic)).setCell ⟨w6.heap.size, 3, none⟩ (.slice p.TA p.n p.tc)).setCell ⟨w6.heap.size, 4, none⟩ (.slice p.BA p.m p.bc)).setCell ⟨w6.heap.size, 5, none⟩ (.int .i64 ec)) w6.heap.size 61 #[.int .i64 t.tag, .int .i64 t.typ, .slice p.IA p.i p.ic, .slice p.TA p.n p.tc, .slice p.BA p.m p.bc, .int .i64 ec]) := blk_set6 (y0 := .int .i64 t.tag) (y1 := .int .i64 t.typ) (y2 := .slice p.IA p.i p.ic) (y3 := .slice p.TA p.n p.tc) (y4 := .slice p.BA p.m p.bc) (y5 := .int .i64 ec) (show Blk w7 w6.heap.size 61 #[.int .i64 0, .int .i64 0, .slice none 0 0, .slice none 0 0, .slice none 0 0, .int .i64 0] from HBN.out)
                                                have HV68 : Hid (Upd [] w6 ((((((w7.setCell ⟨w6.heap.size, 0, none⟩ (.int .i64 t.tag)).setCell ⟨w6.heap.size, 1, none⟩ (.int .i64 t.typ)).setCell ⟨w6.heap.size, 2, none⟩ (.slice p.IA p.i p.ic)).setCell ⟨w6.heap.size, 3, none⟩ (.slice p.TA p.n p.tc)).setCell ⟨w6.heap.size, 4, none⟩ (.slice p.BA p.m p.bc)).setCell ⟨w6.heap.size, 5, none⟩ (.int .i64 ec))) := upd_set6 (g := w6.heap.size) (y0 := .int .i64 t.tag) (y1 := .int .i64 t.typ) (y2 := .slice p.IA p.i p.ic) (y3 := .slice p.TA p.n p.tc) (y4 := .slice p.BA p.m p.bc) (y5 := .int .i64 ec) HV67.out (Nat.le_refl _)
                                                have HO8 : Hid (TagOut (sayV tg ty ds fr cnt) w6.heap.size ((((((w7.setCell ⟨w6.heap.size, 0, none⟩ (.int .i64 t.tag)).setCell ⟨w6.heap.size, 1, none⟩ (.int .i64 t.typ)).setCell ⟨w6.heap.size, 2, none⟩ (.slice p.IA p.i p.ic)).setCell ⟨w6.heap.size, 3, none⟩ (.slice p.TA p.n p.tc)).setCell ⟨w6.heap.size, 4, none⟩ (.slice p.BA p.m p.bc)).setCell ⟨w6.heap.size, 5, none⟩ (.int .i64 ec)) p t ec) := HO7.out.farU (upd6 (w := w7) (g := w6.heap.size) (y0 := .int .i64 t.tag) (y1 := .int .i64 t.typ) (y2 := .slice p.IA p.i p.ic) (y3 := .slice p.TA p.n p.tc) (y4 := .slice p.BA p.m p.bc) (y5 := .int .i64 ec)) (fun g hg => by simp at hg ⊢; omega) (by simp)
                                                generalize hw8 : World.setCell _ _ _ = w8 at *
                                                clear hw8 hv7 HO7 HV67 HBN n0 n1 n2 n3 n4 n5 nf
                                                clear hw1 hw2 hw3 hw4 hcutD HAr HS6 HAw HDw HFR2 HCN2 hdc hd8
                                                have HSZ : Hid (w.heap.size ≤ w6.heap.size) := HUw6.out.size
                                                have HUw8 := Lib.hid (HUw6.out.trans HV68.out)
                                                have HTw8 := Lib.hid (HTw6.out.upd HV68.out)
                                                have HKw8 := Lib.hid (HKw6.out.upd HV68.out (by simp))
                                                have HBw8 := Lib.hid (HBw6.out.upd HV68.out (by simp))
                                                clear HV68 z0 z1 z2 fz g0 g1 g2 g3 g4
                                                have z0 : w8.cell? ⟨R, 0, none⟩ = some (.string ⟨#[]⟩) := by rw [HKw8.out.cell]; rfl
                                                have z1 : w8.cell? ⟨R, 1, none⟩ = some (.int .i64 0) := by rw [HKw8.out.cell]; rfl
                                                have z2 : w8.cell? ⟨R, 2, none⟩ = some (.int .i64 0) := by rw [HKw8.out.cell]; rfl
                                                have fz := HKw8.out.frozen
                                                have x0 : w8.cell? ⟨w6.heap.size, 0, none⟩ = some (.int .i64 t.tag) := by rw [HX8.out.cell]; rfl
                                                have x1 : w8.cell? ⟨w6.heap.size, 1, none⟩ = some (.int .i64 t.typ) := by rw [HX8.out.cell]; rfl
                                                have x2 : w8.cell? ⟨w6.heap.size, 2, none⟩ = some (.slice p.IA p.i p.ic) := by rw [HX8.out.cell]; rfl
                                                have x3 : w8.cell? ⟨w6.heap.size, 3, none⟩ = some (.slice p.TA p.n p.tc) := by rw [HX8.out.cell]; rfl
                                                have x4 : w8.cell? ⟨w6.heap.size, 4, none⟩ = some (.slice p.BA p.m p.bc) := by rw [HX8.out.cell]; rfl
                                                have x5 : w8.cell? ⟨w6.heap.size, 5, none⟩ = some (.int .i64 ec) := by rw [HX8.out.cell]; rfl
                                                by_cases a9 : ec = 0
                                                · have d9 : (ec != 0) = false := by simp [a9]
                                                  obtain ⟨HGO, HTO⟩ : Hid (preR xs (entR b ds (j + 1) (N - 2 - j + 1) (lastT xs)) = preR (xs ++ [(p, t)]) (entR b ds (j + 1 + 1) (N - 2 - j) (lastT (xs ++ [(p, t)])))) ∧ Hid (TagO w8 w6.heap.size p t) := ent_go HRS.out HO8.out HKK.out a9 HQ.out
                                                  clear a9
                                                  have HTO6 := HTw8.out.own
                                                  rw [hxl] at HTO6
                                                  have HOW := Lib.hid HTO6
                                                  have hsz6 := HUw8.out.size
                                                  clear HTO6
                                                  go_wp2_with (at_builtin; refine wpList_app rfl rfl el_tag rfl (HOW.out.alloc _) rfl (seg_tag _ _ _ _ _ _ _) (by intro u hu; simp at hu; rcases hu with rfl | rfl | rfl | rfl | rfl <;> rfl) (by simp only [maxLen]; omega) (by omega) (by simp; omega) ?_; intro L9 c9 w9 hown9 hu9 hfr9)
                                                  have HV9 : Hid (Upd [ob L] w8 w9) := ((Upd.refl _ _).alloc _).trans hu9
                                                  have HT9 := Lib.hid (HTw8.out.more HTO.out HSZ.out (m := j + 1) (by omega) hown9 HV9.out)
                                                  have HK9 := Lib.hid (HKw8.out.upd HV9.out (by simp; exact fun h => HTw8.out.own.neBlk HKw8.out (by decide) h.symm))
                                                  have HU9 := Lib.hid (HUw8.out.then HV9.out (fun b hb => by simp at hb; right; exact (HTw8.out.own.base hb.symm).1))
                                                  clear hown9 hu9 hfr9
                                                  go_roundw
                                                  case rel =>
                                                    refine ⟨j + 1, L9, c9, xs ++ [(p, t)], by omega, by go_num, by simp [hxl], rfl, HT9, HU9, HK9, ?_⟩
                                                    show _ = _
                                                    rw [HPE.out, HGO.out, show N - 1 - (j + 1) = N - 2 - j by omega]
                                                  case measure => simp [intOf]; omega
                                                · have d9 : (ec != 0) = true := by simp [a9]
                                                  go_upto_region 29 with (fail)
                                                  go_region_law (fail)
                                                  clear z0 z1 z2 fz x0 x1 x2 x3 x4 x5
                                                  go_wp2
                                                  have HK9 := Lib.hid (Blk.drew <| blk_set3 (y0 := .string ⟨#[]⟩) (y1 := .int .i64 ((k : Int))) (y2 := .int .i64 ec) HKw8.out)
                                                  have HU9 := Lib.hid (Upd.drew <| upd_set3 (g := R) (y0 := .string ⟨#[]⟩) (y1 := .int .i64 ((k : Int))) (y2 := .int .i64 ec) HUw8.out (by have := HRR.out; omega))
                                                  generalize hw9 : World.drew _ = w9 at *
                                                  have y0 : w9.cell? ⟨R, 0, none⟩ = some (.string ⟨#[]⟩) := by rw [HK9.out.cell]; rfl
                                                  have y1 : w9.cell? ⟨R, 1, none⟩ = some (.int .i64 ((k : Int))) := by rw [HK9.out.cell]; rfl
                                                  have y2 : w9.cell? ⟨R, 2, none⟩ = some (.int .i64 ec) := by rw [HK9.out.cell]; rfl
                                                  have HV : Hid (parseB b = .error (k, ec)) := by
                                                    show _ = _
                                                    rw [HPE.out]
                                                    exact ent_bad HRS.out HO8.out HKK.out (by assumption) a9 HQ.out
                                                  rw [HV.out]
                                                  exact bodyPost_ret (v := .tuple #[.slice none 0 0, .agg #[.string ⟨#[]⟩, .int .i64 ((k : Int)), .int .i64 ec]]) (by simp [results, Try.results13, go_sem, y0, y1, y2]) rfl ⟨rfl, HU9.out⟩
                                              · go_upto_region 28 with (fail)
                                                have HX8 : Hid (Blk ((((((w7.setCell ⟨w6.heap.size, 0, none⟩ (.int .i64 t.tag)).setCell ⟨w6.heap.size, 1, none⟩ (.int .i64 t.typ)).setCell ⟨w6.heap.size, 2, none⟩ (.slice p.IA p.i p.ic)).setCell ⟨w6.heap.size, 3, none⟩ (.slice p.TA p.n p.tc)).setCell ⟨w6.heap.size, 4, none⟩ (.slice p.BA p.m p.bc)).setCell ⟨w6.heap.size, 5, none⟩ (.int .i64 ec)) w6.heap.size 61 #[.int .i64 t.tag, .int .i64 t.typ, .slice p.IA p.i p.ic, .slice p.TA p.n p.tc, .slice p.BA p.m p.bc, .int .i64 ec]) := blk_set6 (y0 := .int .i64 t.tag) (y1 := .int .i64 t.typ) (y2 := .slice p.IA p.i p.ic) (y3 := .slice p.TA p.n p.tc) (y4 := .slice p.BA p.m p.bc) (y5 := .int .i64 ec) (show Blk w7 w6.heap.size 61 #[.int .i64 0, .int .i64 0, .slice none 0 0, .slice none 0 0, .slice none 0 0, .int .i64 0] from HBN.out)
                                                have HV68 : Hid (Upd [] w6 ((((((w7.setCell ⟨w6.heap.size, 0, none⟩ (.int .i64 t.tag)).setCell ⟨w6.heap.size, 1, none⟩ (.int .i64 t.typ)).setCell ⟨w6.heap.size, 2, none⟩ (.slice p.IA p.i p.ic)).setCell ⟨w6.heap.size, 3, none⟩ (.slice p.TA p.n p.tc)).setCell ⟨w6.heap.size, 4, none⟩ (.slice p.BA p.m p.bc)).setCell ⟨w6.heap.size, 5, none⟩ (.int .i64 ec))) := upd_set6 (g := w6.heap.size) (y0 := .int .i64 t.tag) (y1 := .int .i64 t.typ) (y2 := .slice p.IA p.i p.ic) (y3 := .slice p.TA p.n p.tc) (y4 := .slice p.BA p.m p.bc) (y5 := .int .i64 ec) HV67.out (Nat.le_refl _)
                                                have HO8 : Hid (TagOut (sayV tg ty ds fr cnt) w6.heap.size ((((((w7.setCell ⟨w6.heap.size, 0, none⟩ (.int .i64 t.tag)).setCell ⟨w6.heap.size, 1, none⟩ (.int .i64 t.typ)).setCell ⟨w6.heap.size, 2, none⟩ (.slice p.IA p.i p.ic)).setCell ⟨w6.heap.size, 3, none⟩ (.slice p.TA p.n p.tc)).setCell ⟨w6.heap.size, 4, none⟩ (.slice p.BA p.m p.bc)).setCell ⟨w6.heap.size, 5, none⟩ (.int .i64 ec)) p t ec) := HO7.out.farU (upd6 (w := w7) (g := w6.heap.size) (y0 := .int .i64 t.tag) (y1 := .int .i64 t.typ) (y2 := .slice p.IA p.i p.ic) (y3 := .slice p.TA p.n p.tc) (y4 := .slice p.BA p.m p.bc) (y5 := .int .i64 ec)) (fun g hg => by simp at hg ⊢; omega) (by simp)
                                                generalize hw8 : World.setCell _ _ _ = w8 at *
                                                clear hw8 hv7 HO7 HV67 HBN n0 n1 n2 n3 n4 n5 nf
                                                clear hw1 hw2 hw3 hw4 hcutD HAr HS6 HAw HDw HFR2 HCN2 hdc hd8
                                                have HSZ : Hid (w.heap.size ≤ w6.heap.size) := HUw6.out.size
                                                have HUw8 := Lib.hid (HUw6.out.trans HV68.out)
                                                have HTw8 := Lib.hid (HTw6.out.upd HV68.out)
                                                have HKw8 := Lib.hid (HKw6.out.upd HV68.out (by simp))
                                                have HBw8 := Lib.hid (HBw6.out.upd HV68.out (by simp))
                                                clear HV68 z0 z1 z2 fz g0 g1 g2 g3 g4
                                                have z0 : w8.cell? ⟨R, 0, none⟩ = some (.string ⟨#[]⟩) := by rw [HKw8.out.cell]; rfl
                                                have z1 : w8.cell? ⟨R, 1, none⟩ = some (.int .i64 0) := by rw [HKw8.out.cell]; rfl
                                                have z2 : w8.cell? ⟨R, 2, none⟩ = some (.int .i64 0) := by rw [HKw8.out.cell]; rfl
                                                have fz := HKw8.out.frozen
                                                have x0 : w8.cell? ⟨w6.heap.size, 0, none⟩ = some (.int .i64 t.tag) := by rw [HX8.out.cell]; rfl
                                                have x1 : w8.cell? ⟨w6.heap.size, 1, none⟩ = some (.int .i64 t.typ) := by rw [HX8.out.cell]; rfl
                                                have x2 : w8.cell? ⟨w6.heap.size, 2, none⟩ = some (.slice p.IA p.i p.ic) := by rw [HX8.out.cell]; rfl
                                                have x3 : w8.cell? ⟨w6.heap.size, 3, none⟩ = some (.slice p.TA p.n p.tc) := by rw [HX8.out.cell]; rfl
                                                have x4 : w8.cell? ⟨w6.heap.size, 4, none⟩ = some (.slice p.BA p.m p.bc) := by rw [HX8.out.cell]; rfl
                                                have x5 : w8.cell? ⟨w6.heap.size, 5, none⟩ = some (.int .i64 ec) := by rw [HX8.out.cell]; rfl
                                                by_cases a9 : ec = 0
                                                · have d9 : (ec != 0) = false := by simp [a9]
                                                  obtain ⟨HGO, HTO⟩ : Hid (preR xs (entR b ds (j + 1) (N - 2 - j + 1) (lastT xs)) = preR (xs ++ [(p, t)]) (entR b ds (j + 1 + 1) (N - 2 - j) (lastT (xs ++ [(p, t)])))) ∧ Hid (TagO w8 w6.heap.size p t) := ent_go HRS.out HO8.out HKK.out a9 HQ.out
                                                  clear a9
                                                  have HTO6 := HTw8.out.own
                                                  rw [hxl] at HTO6
                                                  have HOW := Lib.hid HTO6
                                                  have hsz6 := HUw8.out.size
                                                  clear HTO6
                                                  go_wp2_with (at_builtin; refine wpList_app rfl rfl el_tag rfl (HOW.out.alloc _) rfl (seg_tag _ _ _ _ _ _ _) (by intro u hu; simp at hu; rcases hu with rfl | rfl | rfl | rfl | rfl <;> rfl) (by simp only [maxLen]; omega) (by omega) (by simp; omega) ?_; intro L9 c9 w9 hown9 hu9 hfr9)
                                                  have HV9 : Hid (Upd [ob L] w8 w9) := ((Upd.refl _ _).alloc _).trans hu9
                                                  have HT9 := Lib.hid (HTw8.out.more HTO.out HSZ.out (m := j + 1) (by omega) hown9 HV9.out)
                                                  have HK9 := Lib.hid (HKw8.out.upd HV9.out (by simp; exact fun h => HTw8.out.own.neBlk HKw8.out (by decide) h.symm))
                                                  have HU9 := Lib.hid (HUw8.out.then HV9.out (fun b hb => by simp at hb; right; exact (HTw8.out.own.base hb.symm).1))
                                                  clear hown9 hu9 hfr9
                                                  go_roundw
                                                  case rel =>
                                                    refine ⟨j + 1, L9, c9, xs ++ [(p, t)], by omega, by go_num, by simp [hxl], rfl, HT9, HU9, HK9, ?_⟩
                                                    show _ = _
                                                    rw [HPE.out, HGO.out, show N - 1 - (j + 1) = N - 2 - j by omega]
                                                  case measure => simp [intOf]; omega
                                                · have d9 : (ec != 0) = true := by simp [a9]
                                                  go_upto_region 29 with (fail)
                                                  go_region_law (fail)
                                                  clear z0 z1 z2 fz x0 x1 x2 x3 x4 x5
                                                  go_wp2
                                                  have HK9 := Lib.hid (Blk.drew <| blk_set3 (y0 := .string ⟨#[]⟩) (y1 := .int .i64 ((k : Int))) (y2 := .int .i64 ec) HKw8.out)
                                                  have HU9 := Lib.hid (Upd.drew <| upd_set3 (g := R) (y0 := .string ⟨#[]⟩) (y1 := .int .i64 ((k : Int))) (y2 := .int .i64 ec) HUw8.out (by have := HRR.out; omega))
                                                  generalize hw9 : World.drew _ = w9 at *
                                                  have y0 : w9.cell? ⟨R, 0, none⟩ = some (.string ⟨#[]⟩) := by rw [HK9.out.cell]; rfl
                                                  have y1 : w9.cell? ⟨R, 1, none⟩ = some (.int .i64 ((k : Int))) := by rw [HK9.out.cell]; rfl
                                                  have y2 : w9.cell? ⟨R, 2, none⟩ = some (.int .i64 ec) := by rw [HK9.out.cell]; rfl
                                                  have HV : Hid (parseB b = .error (k, ec)) := by
                                                    show _ = _
                                                    rw [HPE.out]
                                                    exact ent_bad HRS.out HO8.out HKK.out (by assumption) a9 HQ.out
                                                  rw [HV.out]
                                                  exact bodyPost_ret (v := .tuple #[.slice none 0 0, .agg #[.string ⟨#[]⟩, .int .i64 ((k : Int)), .int .i64 ec]]) (by simp [results, Try.results13, go_sem, y0, y1, y2]) rfl ⟨rfl, HU9.out⟩
                                              · go_upto_region 28 with (fail)
                                                have HX8 : Hid (Blk ((((((w7.setCell ⟨w6.heap.size, 0, none⟩ (.int .i64 t.tag)).setCell ⟨w6.heap.size, 1, none⟩ (.int .i64 t.typ)).setCell ⟨w6.heap.size, 2, none⟩ (.slice p.IA p.i p.ic)).setCell ⟨w6.heap.size, 3, none⟩ (.slice p.TA p.n p.tc)).setCell ⟨w6.heap.size, 4, none⟩ (.slice p.BA p.m p.bc)).setCell ⟨w6.heap.size, 5, none⟩ (.int .i64 ec)) w6.heap.size 61 #[.int .i64 t.tag, .int .i64 t.typ, .slice p.IA p.i p.ic, .slice p.TA p.n p.tc, .slice p.BA p.m p.bc, .int .i64 ec]) := blk_set6 (y0 := .int .i64 t.tag) (y1 := .int .i64 t.typ) (y2 := .slice p.IA p.i p.ic) (y3 := .slice p.TA p.n p.tc) (y4 := .slice p.BA p.m p.bc) (y5 := .int .i64 ec) (show Blk w7 w6.heap.size 61 #[.int .i64 0, .int .i64 0, .slice none 0 0, .slice none 0 0, .slice none 0 0, .int .i64 0] from HBN.out)
                                                have HV68 : Hid (Upd [] w6 ((((((w7.setCell ⟨w6.heap.size, 0, none⟩ (.int .i64 t.tag)).setCell ⟨w6.heap.size, 1, none⟩ (.int .i64 t.typ)).setCell ⟨w6.heap.size, 2, none⟩ (.slice p.IA p.i p.ic)).setCell ⟨w6.heap.size, 3, none⟩ (.slice p.TA p.n p.tc)).setCell ⟨w6.heap.size, 4, none⟩ (.slice p.BA p.m p.bc)).setCell ⟨w6.heap.size, 5, none⟩ (.int .i64 ec))) := upd_set6 (g := w6.heap.size) (y0 := .int .i64 t.tag) (y1 := .int .i64 t.typ) (y2 := .slice p.IA p.i p.ic) (y3 := .slice p.TA p.n p.tc) (y4 := .slice p.BA p.m p.bc) (y5 := .int .i64 ec) HV67.out (Nat.le_refl _)
                                                have HO8 : Hid (TagOut (sayV tg ty ds fr cnt) w6.heap.size ((((((w7.setCell ⟨w6.heap.size, 0, none⟩ (.int .i64 t.tag)).setCell ⟨w6.heap.size, 1, none⟩ (.int .i64 t.typ)).setCell ⟨w6.heap.size, 2, none⟩ (.slice p.IA p.i p.ic)).setCell ⟨w6.heap.size, 3, none⟩ (.slice p.TA p.n p.tc)).setCell ⟨w6.heap.size, 4, none⟩ (.slice p.BA p.m p.bc)).setCell ⟨w6.heap.size, 5, none⟩ (.int .i64 ec)) p t ec) := HO7.out.farU (upd6 (w := w7) (g := w6.heap.size) (y0 := .int .i64 t.tag) (y1 := .int .i64 t.typ) (y2 := .slice p.IA p.i p.ic) (y3 := .slice p.TA p.n p.tc) (y4 := .slice p.BA p.m p.bc) (y5 := .int .i64 ec)) (fun g hg => by simp at hg ⊢; omega) (by simp)
                                                generalize hw8 : World.setCell _ _ _ = w8 at *
                                                clear hw8 hv7 HO7 HV67 HBN n0 n1 n2 n3 n4 n5 nf
                                                clear hw1 hw2 hw3 hw4 hcutD HAr HS6 HAw HDw HFR2 HCN2 hdc hd8
                                                have HSZ : Hid (w.heap.size ≤ w6.heap.size) := HUw6.out.size
                                                have HUw8 := Lib.hid (HUw6.out.trans HV68.out)
                                                have HTw8 := Lib.hid (HTw6.out.upd HV68.out)
                                                have HKw8 := Lib.hid (HKw6.out.upd HV68.out (by simp))
                                                have HBw8 := Lib.hid (HBw6.out.upd HV68.out (by simp))
                                                clear HV68 z0 z1 z2 fz g0 g1 g2 g3 g4
                                                have z0 : w8.cell? ⟨R, 0, none⟩ = some (.string ⟨#[]⟩) := by rw [HKw8.out.cell]; rfl
                                                have z1 : w8.cell? ⟨R, 1, none⟩ = some (.int .i64 0) := by rw [HKw8.out.cell]; rfl
                                                have z2 : w8.cell? ⟨R, 2, none⟩ = some (.int .i64 0) := by rw [HKw8.out.cell]; rfl
                                                have fz := HKw8.out.frozen
                                                have x0 : w8.cell? ⟨w6.heap.size, 0, none⟩ = some (.int .i64 t.tag) := by rw [HX8.out.cell]; rfl
                                                have x1 : w8.cell? ⟨w6.heap.size, 1, none⟩ = some (.int .i64 t.typ) := by rw [HX8.out.cell]; rfl
                                                have x2 : w8.cell? ⟨w6.heap.size, 2, none⟩ = some (.slice p.IA p.i p.ic) := by rw [HX8.out.cell]; rfl
                                                have x3 : w8.cell? ⟨w6.heap.size, 3, none⟩ = some (.slice p.TA p.n p.tc) := by rw [HX8.out.cell]; rfl
                                                have x4 : w8.cell? ⟨w6.heap.size, 4, none⟩ = some (.slice p.BA p.m p.bc) := by rw [HX8.out.cell]; rfl
                                                have x5 : w8.cell? ⟨w6.heap.size, 5, none⟩ = some (.int .i64 ec) := by rw [HX8.out.cell]; rfl
                                                by_cases a9 : ec = 0
                                                · have d9 : (ec != 0) = false := by simp [a9]
                                                  obtain ⟨HGO, HTO⟩ : Hid (preR xs (entR b ds (j + 1) (N - 2 - j + 1) (lastT xs)) = preR (xs ++ [(p, t)]) (entR b ds (j + 1 + 1) (N - 2 - j) (lastT (xs ++ [(p, t)])))) ∧ Hid (TagO w8 w6.heap.size p t) := ent_go HRS.out HO8.out HKK.out a9 HQ.out
                                                  clear a9
                                                  have HTO6 := HTw8.out.own
                                                  rw [hxl] at HTO6
                                                  have HOW := Lib.hid HTO6
                                                  have hsz6 := HUw8.out.size
                                                  clear HTO6
                                                  go_wp2_with (at_builtin; refine wpList_app rfl rfl el_tag rfl (HOW.out.alloc _) rfl (seg_tag _ _ _ _ _ _ _) (by intro u hu; simp at hu; rcases hu with rfl | rfl | rfl | rfl | rfl <;> rfl) (by simp only [maxLen]; omega) (by omega) (by simp; omega) ?_; intro L9 c9 w9 hown9 hu9 hfr9)
                                                  have HV9 : Hid (Upd [ob L] w8 w9) := ((Upd.refl _ _).alloc _).trans hu9
                                                  have HT9 := Lib.hid (HTw8.out.more HTO.out HSZ.out (m := j + 1) (by omega) hown9 HV9.out)
                                                  have HK9 := Lib.hid (HKw8.out.upd HV9.out (by simp; exact fun h => HTw8.out.own.neBlk HKw8.out (by decide) h.symm))
                                                  have HU9 := Lib.hid (HUw8.out.then HV9.out (fun b hb => by simp at hb; right; exact (HTw8.out.own.base hb.symm).1))
                                                  clear hown9 hu9 hfr9
                                                  go_roundw
                                                  case rel =>
                                                    refine ⟨j + 1, L9, c9, xs ++ [(p, t)], by omega, by go_num, by simp [hxl], rfl, HT9, HU9, HK9, ?_⟩
                                                    show _ = _
                                                    rw [HPE.out, HGO.out, show N - 1 - (j + 1) = N - 2 - j by omega]
                                                  case measure => simp [intOf]; omega
                                                · have d9 : (ec != 0) = true := by simp [a9]
                                                  go_upto_region 29 with (fail)
                                                  go_region_law (fail)
                                                  clear z0 z1 z2 fz x0 x1 x2 x3 x4 x5
                                                  go_wp2
                                                  have HK9 := Lib.hid (Blk.drew <| blk_set3 (y0 := .string ⟨#[]⟩) (y1 := .int .i64 ((k : Int))) (y2 := .int .i64 ec) HKw8.out)
                                                  have HU9 := Lib.hid (Upd.drew <| upd_set3 (g := R) (y0 := .string ⟨#[]⟩) (y1 := .int .i64 ((k : Int))) (y2 := .int .i64 ec) HUw8.out (by have := HRR.out; omega))
                                                  generalize hw9 : World.drew _ = w9 at *
                                                  have y0 : w9.cell? ⟨R, 0, none⟩ = some (.string ⟨#[]⟩) := by rw [HK9.out.cell]; rfl
                                                  have y1 : w9.cell? ⟨R, 1, none⟩ = some (.int .i64 ((k : Int))) := by rw [HK9.out.cell]; rfl
                                                  have y2 : w9.cell? ⟨R, 2, none⟩ = some (.int .i64 ec) := by rw [HK9.out.cell]; rfl
                                                  have HV : Hid (parseB b = .error (k, ec)) := by
                                                    show _ = _
                                                    rw [HPE.out]
                                                    exact ent_bad HRS.out HO8.out HKK.out (by assumption) a9 HQ.out
                                                  rw [HV.out]
                                                  exact bodyPost_ret (v := .tuple #[.slice none 0 0, .agg #[.string ⟨#[]⟩, .int .i64 ((k : Int)), .int .i64 ec]]) (by simp [results, Try.results13, go_sem, y0, y1, y2]) rfl ⟨rfl, HU9.out⟩
                                  · have dlt : decide ((j : Int) + 1 < N) = false := by simp; omega
                                    have z0 : wr.cell? ⟨R, 0, none⟩ = some (.string ⟨#[]⟩) := by rw [HK.out.cell]; rfl
                                    have z1 : wr.cell? ⟨R, 1, none⟩ = some (.int .i64 0) := by rw [HK.out.cell]; rfl
                                    have z2 : wr.cell? ⟨R, 2, none⟩ = some (.int .i64 0) := by rw [HK.out.cell]; rfl
                                    have fz := HK.out.frozen
                                    go_wp2
                                    have HK9 := Lib.hid (blk_set3 (y0 := .string ⟨#[]⟩) (y1 := .int .i64 0) (y2 := .int .i64 0) HK.out)
                                    have HU9 := Lib.hid (upd_set3 (g := R) (y0 := .string ⟨#[]⟩) (y1 := .int .i64 0) (y2 := .int .i64 0) HU.out (by have := HRR.out; omega))
                                    have HT9 := Lib.hid (HT.out.fault HK.out (upd3 (y0 := .string ⟨#[]⟩) (y1 := .int .i64 0) (y2 := .int .i64 0)))
                                    generalize hw9 : World.setCell _ _ _ = w9 at *
                                    have y0 : w9.cell? ⟨R, 0, none⟩ = some (.string ⟨#[]⟩) := by rw [HK9.out.cell]; rfl
                                    have y1 : w9.cell? ⟨R, 1, none⟩ = some (.int .i64 0) := by rw [HK9.out.cell]; rfl
                                    have y2 : w9.cell? ⟨R, 2, none⟩ = some (.int .i64 0) := by rw [HK9.out.cell]; rfl
                                    have HV : Hid (parseB b = .ok (xs.map (·.2))) := by
                                      show _ = _
                                      rw [HP.out, show N - 1 - j = 0 by omega]
                                      simp [entR, preR]
                                    rw [HV.out]
                                    exact bodyPost_ret (v := .tuple #[.slice L j lc, .agg #[.string ⟨#[]⟩, .int .i64 0, .int .i64 0]]) (by simp [results, Try.results13, go_sem, y0, y1, y2]) rfl ⟨L, lc, xs, rfl, by rw [hxl], HT9.out, HU9.out⟩
                              · have r3 : (num4 b (n - 16 + 12) != 16) = true := by simp [q3]
                                go_wp2
                                have HK9 := Lib.hid (blk_set3 (y0 := .string ⟨#[]⟩) (y1 := .int .i64 ((n : Int) - 16)) (y2 := .int .i64 3) HRK.out)
                                have HU9 := Lib.hid (upd_set3 (g := R) (y0 := .string ⟨#[]⟩) (y1 := .int .i64 ((n : Int) - 16)) (y2 := .int .i64 3) HU1.out (by have := HRR.out; omega))
                                generalize hw9 : World.setCell _ _ _ = w9 at *
                                have y0 : w9.cell? ⟨R, 0, none⟩ = some (.string ⟨#[]⟩) := by rw [HK9.out.cell]; rfl
                                have y1 : w9.cell? ⟨R, 1, none⟩ = some (.int .i64 ((n : Int) - 16)) := by rw [HK9.out.cell]; rfl
                                have y2 : w9.cell? ⟨R, 2, none⟩ = some (.int .i64 3) := by rw [HK9.out.cell]; rfl
                                have HV : Hid (parseB b = .error (n - 16, 3)) := by
                                  show _ = _
                                  rw [HP3.out, if_pos (fun h => q3 ((foot_nums HL.out HBB.out (by omega) (by omega) h).2.2.2))]
                                rw [HV.out]
                                exact bodyPost_ret (v := .tuple #[.slice none 0 0, .agg #[.string ⟨#[]⟩, .int .i64 ((n : Int) - 16), .int .i64 3]]) (by simp [results, Try.results13, go_sem, y0, y1, y2]) rfl ⟨by rw [show ((n - 16 : Nat) : Int) = (n : Int) - 16 by omega], HU9.out⟩
                            · have r2 : (num4 b (n - 16 + 8) != (4294967296 - 16 * (N : Int))) = true := by simp [q2]
                              go_wp2
                              have HK9 := Lib.hid (blk_set3 (y0 := .string ⟨#[]⟩) (y1 := .int .i64 ((n : Int) - 16)) (y2 := .int .i64 3) HRK.out)
                              have HU9 := Lib.hid (upd_set3 (g := R) (y0 := .string ⟨#[]⟩) (y1 := .int .i64 ((n : Int) - 16)) (y2 := .int .i64 3) HU1.out (by have := HRR.out; omega))
                              generalize hw9 : World.setCell _ _ _ = w9 at *
                              have y0 : w9.cell? ⟨R, 0, none⟩ = some (.string ⟨#[]⟩) := by rw [HK9.out.cell]; rfl
                              have y1 : w9.cell? ⟨R, 1, none⟩ = some (.int .i64 ((n : Int) - 16)) := by rw [HK9.out.cell]; rfl
                              have y2 : w9.cell? ⟨R, 2, none⟩ = some (.int .i64 3) := by rw [HK9.out.cell]; rfl
                              have HV : Hid (parseB b = .error (n - 16, 3)) := by
                                show _ = _
                                rw [HP3.out, if_pos (fun h => q2 ((foot_nums HL.out HBB.out (by omega) (by omega) h).2.2.1))]
                              rw [HV.out]
                              exact bodyPost_ret (v := .tuple #[.slice none 0 0, .agg #[.string ⟨#[]⟩, .int .i64 ((n : Int) - 16), .int .i64 3]]) (by simp [results, Try.results13, go_sem, y0, y1, y2]) rfl ⟨by rw [show ((n - 16 : Nat) : Int) = (n : Int) - 16 by omega], HU9.out⟩
                          · have r1 : (num4 b (n - 16 + 4) != 7) = true := by simp [q1]
                            go_wp2
                            have HK9 := Lib.hid (blk_set3 (y0 := .string ⟨#[]⟩) (y1 := .int .i64 ((n : Int) - 16)) (y2 := .int .i64 3) HRK.out)
                            have HU9 := Lib.hid (upd_set3 (g := R) (y0 := .string ⟨#[]⟩) (y1 := .int .i64 ((n : Int) - 16)) (y2 := .int .i64 3) HU1.out (by have := HRR.out; omega))
                            generalize hw9 : World.setCell _ _ _ = w9 at *
                            have y0 : w9.cell? ⟨R, 0, none⟩ = some (.string ⟨#[]⟩) := by rw [HK9.out.cell]; rfl
                            have y1 : w9.cell? ⟨R, 1, none⟩ = some (.int .i64 ((n : Int) - 16)) := by rw [HK9.out.cell]; rfl
                            have y2 : w9.cell? ⟨R, 2, none⟩ = some (.int .i64 3) := by rw [HK9.out.cell]; rfl
                            have HV : Hid (parseB b = .error (n - 16, 3)) := by
                              show _ = _
                              rw [HP3.out, if_pos (fun h => q1 ((foot_nums HL.out HBB.out (by omega) (by omega) h).2.1))]
                            rw [HV.out]
                            exact bodyPost_ret (v := .tuple #[.slice none 0 0, .agg #[.string ⟨#[]⟩, .int .i64 ((n : Int) - 16), .int .i64 3]]) (by simp [results, Try.results13, go_sem, y0, y1, y2]) rfl ⟨by rw [show ((n - 16 : Nat) : Int) = (n : Int) - 16 by omega], HU9.out⟩
                        · have r0 : (num4 b (n - 16) != 63) = true := by simp [q0]
                          go_wp2
                          have HK9 := Lib.hid (blk_set3 (y0 := .string ⟨#[]⟩) (y1 := .int .i64 ((n : Int) - 16)) (y2 := .int .i64 3) HRK.out)
                          have HU9 := Lib.hid (upd_set3 (g := R) (y0 := .string ⟨#[]⟩) (y1 := .int .i64 ((n : Int) - 16)) (y2 := .int .i64 3) HU1.out (by have := HRR.out; omega))
                          generalize hw9 : World.setCell _ _ _ = w9 at *
                          have y0 : w9.cell? ⟨R, 0, none⟩ = some (.string ⟨#[]⟩) := by rw [HK9.out.cell]; rfl
                          have y1 : w9.cell? ⟨R, 1, none⟩ = some (.int .i64 ((n : Int) - 16)) := by rw [HK9.out.cell]; rfl
                          have y2 : w9.cell? ⟨R, 2, none⟩ = some (.int .i64 3) := by rw [HK9.out.cell]; rfl
                          have HV : Hid (parseB b = .error (n - 16, 3)) := by
                            show _ = _
                            rw [HP3.out, if_pos (fun h => q0 ((foot_nums HL.out HBB.out (by omega) (by omega) h).1))]
                          rw [HV.out]
                          exact bodyPost_ret (v := .tuple #[.slice none 0 0, .agg #[.string ⟨#[]⟩, .int .i64 ((n : Int) - 16), .int .i64 3]]) (by simp [results, Try.results13, go_sem, y0, y1, y2]) rfl ⟨by rw [show ((n - 16 : Nat) : Int) = (n : Int) - 16 by omega], HU9.out⟩
                      · have r3 : (num4 b (20) != 16) = true := by simp [q3]
                        go_wp2
                        have HK9 := Lib.hid (blk_set3 (y0 := .string ⟨#[]⟩) (y1 := .int .i64 8) (y2 := .int .i64 3) HRK.out)
                        have HU9 := Lib.hid (upd_set3 (g := R) (y0 := .string ⟨#[]⟩) (y1 := .int .i64 8) (y2 := .int .i64 3) HU1.out (by have := HRR.out; omega))
                        generalize hw9 : World.setCell _ _ _ = w9 at *
                        have y0 : w9.cell? ⟨R, 0, none⟩ = some (.string ⟨#[]⟩) := by rw [HK9.out.cell]; rfl
                        have y1 : w9.cell? ⟨R, 1, none⟩ = some (.int .i64 8) := by rw [HK9.out.cell]; rfl
                        have y2 : w9.cell? ⟨R, 2, none⟩ = some (.int .i64 3) := by rw [HK9.out.cell]; rfl
                        have HV : Hid (parseB b = .error (8, 3)) := by
                          show _ = _
                          rw [HP2.out, if_pos (Or.inr (Or.inr (fun h => q3 ((head_nums HL.out HBB.out (by omega) h).2.2.2))))]
                        rw [HV.out]
                        exact bodyPost_ret (v := .tuple #[.slice none 0 0, .agg #[.string ⟨#[]⟩, .int .i64 (8), .int .i64 3]]) (by simp [results, Try.results13, go_sem, y0, y1, y2]) rfl ⟨rfl, HU9.out⟩
                    · have r2 : (num4 b (16) != ((d : Int) - 16)) = true := by simp [q2]
                      go_wp2
                      have HK9 := Lib.hid (blk_set3 (y0 := .string ⟨#[]⟩) (y1 := .int .i64 8) (y2 := .int .i64 3) HRK.out)
                      have HU9 := Lib.hid (upd_set3 (g := R) (y0 := .string ⟨#[]⟩) (y1 := .int .i64 8) (y2 := .int .i64 3) HU1.out (by have := HRR.out; omega))
                      generalize hw9 : World.setCell _ _ _ = w9 at *
                      have y0 : w9.cell? ⟨R, 0, none⟩ = some (.string ⟨#[]⟩) := by rw [HK9.out.cell]; rfl
                      have y1 : w9.cell? ⟨R, 1, none⟩ = some (.int .i64 8) := by rw [HK9.out.cell]; rfl
                      have y2 : w9.cell? ⟨R, 2, none⟩ = some (.int .i64 3) := by rw [HK9.out.cell]; rfl
                      have HV : Hid (parseB b = .error (8, 3)) := by
                        show _ = _
                        rw [HP2.out, if_pos (Or.inr (Or.inr (fun h => q2 ((head_nums HL.out HBB.out (by omega) h).2.2.1))))]
                      rw [HV.out]
                      exact bodyPost_ret (v := .tuple #[.slice none 0 0, .agg #[.string ⟨#[]⟩, .int .i64 (8), .int .i64 3]]) (by simp [results, Try.results13, go_sem, y0, y1, y2]) rfl ⟨rfl, HU9.out⟩
                  · have r1 : (num4 b (12) != 7) = true := by simp [q1]
                    go_wp2
                    have HK9 := Lib.hid (blk_set3 (y0 := .string ⟨#[]⟩) (y1 := .int .i64 8) (y2 := .int .i64 3) HRK.out)
                    have HU9 := Lib.hid (upd_set3 (g := R) (y0 := .string ⟨#[]⟩) (y1 := .int .i64 8) (y2 := .int .i64 3) HU1.out (by have := HRR.out; omega))
                    generalize hw9 : World.setCell _ _ _ = w9 at *
                    have y0 : w9.cell? ⟨R, 0, none⟩ = some (.string ⟨#[]⟩) := by rw [HK9.out.cell]; rfl
                    have y1 : w9.cell? ⟨R, 1, none⟩ = some (.int .i64 8) := by rw [HK9.out.cell]; rfl
                    have y2 : w9.cell? ⟨R, 2, none⟩ = some (.int .i64 3) := by rw [HK9.out.cell]; rfl
                    have HV : Hid (parseB b = .error (8, 3)) := by
                      show _ = _
                      rw [HP2.out, if_pos (Or.inr (Or.inr (fun h => q1 ((head_nums HL.out HBB.out (by omega) h).2.1))))]
                    rw [HV.out]
                    exact bodyPost_ret (v := .tuple #[.slice none 0 0, .agg #[.string ⟨#[]⟩, .int .i64 (8), .int .i64 3]]) (by simp [results, Try.results13, go_sem, y0, y1, y2]) rfl ⟨rfl, HU9.out⟩
                · have r0 : (num4 b (8) != 63) = true := by simp [q0]
                  go_wp2
                  have HK9 := Lib.hid (blk_set3 (y0 := .string ⟨#[]⟩) (y1 := .int .i64 8) (y2 := .int .i64 3) HRK.out)
                  have HU9 := Lib.hid (upd_set3 (g := R) (y0 := .string ⟨#[]⟩) (y1 := .int .i64 8) (y2 := .int .i64 3) HU1.out (by have := HRR.out; omega))
                  generalize hw9 : World.setCell _ _ _ = w9 at *
                  have y0 : w9.cell? ⟨R, 0, none⟩ = some (.string ⟨#[]⟩) := by rw [HK9.out.cell]; rfl
                  have y1 : w9.cell? ⟨R, 1, none⟩ = some (.int .i64 8) := by rw [HK9.out.cell]; rfl
                  have y2 : w9.cell? ⟨R, 2, none⟩ = some (.int .i64 3) := by rw [HK9.out.cell]; rfl
                  have HV : Hid (parseB b = .error (8, 3)) := by
                    show _ = _
                    rw [HP2.out, if_pos (Or.inr (Or.inr (fun h => q0 ((head_nums HL.out HBB.out (by omega) h).1))))]
                  rw [HV.out]
                  exact bodyPost_ret (v := .tuple #[.slice none 0 0, .agg #[.string ⟨#[]⟩, .int .i64 (8), .int .i64 3]]) (by simp [results, Try.results13, go_sem, y0, y1, y2]) rfl ⟨rfl, HU9.out⟩

end Go.Proofs.Ytogknbpbjgdldaa
