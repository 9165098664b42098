/- The walk of says, of bytes. -/
import Derived.Test.YtogknbpbjgdldaaRfD
import Derived.StillTailTactics
namespace Go.Proofs.Ytogknbpbjgdldaa
open Go.RowKit Go.Dray
set_option linter.unusedVariables false

set_option maxRecDepth 100000 in
set_option maxHeartbeats 2000000 in
theorem says_zero (w : World) (tg ty : Int) (D : Option Addr) (m dc : Nat) (d : List Int) (hD : Ints .u8 w D m d) (hd : ∀ z ∈ d, 0 ≤ z ∧ z ≤ 255) (hmc : m ≤ dc) (hm : m ≤ 100000000) (fr cnt : Nat) (hfrb : fr ≤ 4294967295) (hcnb : cnt ≤ 4294967295) (g_b4 : Hid (cnt = 0)) :
    Calls Try.prog 30 #[.agg #[.int .i64 tg, .int .i64 ty, .slice none 0 0, .slice none 0 0, .slice none 0 0], .slice D m dc, .int .i64 fr, .int .i64 cnt] w (SaysPost (sayV tg ty d fr cnt) w) := by
  have HD := Lib.hid hD
  have HDB := Lib.hid hd
  have HDL := hD.len
  clear hD hd
  go_enter Try.func30, Try.ntmps30
  go_upto_region 1 with (fail)
  obtain ⟨B, HBB0⟩ : ∃ B, Hid (B = w.heap.size) := ⟨_, rfl⟩
  have HBK : Hid (Blk ((w.alloc (.cells #[.int .i64 tg, .int .i64 ty, .slice none 0 0, .slice none 0 0, .slice none 0 0] 40)).alloc (.cells #[.int .i64 0, .int .i64 0, .slice none 0 0, .slice none 0 0, .slice none 0 0, .int .i64 0] 61)) w.heap.size 40 #[.int .i64 tg, .int .i64 ty, .slice none 0 0, .slice none 0 0, .slice none 0 0]) := (Blk.new _ _ _).alloc _
  have HRK : Hid (Blk ((w.alloc (.cells #[.int .i64 tg, .int .i64 ty, .slice none 0 0, .slice none 0 0, .slice none 0 0] 40)).alloc (.cells #[.int .i64 0, .int .i64 0, .slice none 0 0, .slice none 0 0, .slice none 0 0, .int .i64 0] 61)) (w.heap.size + 1) 61 #[.int .i64 0, .int .i64 0, .slice none 0 0, .slice none 0 0, .slice none 0 0, .int .i64 0]) := by
    have := Blk.new (w.alloc (.cells #[.int .i64 tg, .int .i64 ty, .slice none 0 0, .slice none 0 0, .slice none 0 0] 40)) 61 #[.int .i64 0, .int .i64 0, .slice none 0 0, .slice none 0 0, .slice none 0 0, .int .i64 0]
    simp at this
    exact this
  have HU1 : Hid (Upd [] w ((w.alloc (.cells #[.int .i64 tg, .int .i64 ty, .slice none 0 0, .slice none 0 0, .slice none 0 0] 40)).alloc (.cells #[.int .i64 0, .int .i64 0, .slice none 0 0, .slice none 0 0, .slice none 0 0, .int .i64 0] 61))) := ((Upd.refl _ _).alloc _).alloc _
  rw [← HBB0.out] at HBK HRK ⊢
  generalize hw1 : World.alloc (w.alloc _) _ = w1 at *
  clear hw1
  have z0 : w1.cell? ⟨B + 1, 0, none⟩ = some (.int .i64 0) := by rw [HRK.out.cell]; rfl
  have z1 : w1.cell? ⟨B + 1, 1, none⟩ = some (.int .i64 0) := by rw [HRK.out.cell]; rfl
  have z2 : w1.cell? ⟨B + 1, 2, none⟩ = some (.slice none 0 0) := by rw [HRK.out.cell]; rfl
  have z3 : w1.cell? ⟨B + 1, 3, none⟩ = some (.slice none 0 0) := by rw [HRK.out.cell]; rfl
  have z4 : w1.cell? ⟨B + 1, 4, none⟩ = some (.slice none 0 0) := by rw [HRK.out.cell]; rfl
  have z5 : w1.cell? ⟨B + 1, 5, none⟩ = some (.int .i64 0) := by rw [HRK.out.cell]; rfl
  have fz := HRK.out.frozen
  have e0 : w1.cell? ⟨B, 0, none⟩ = some (.int .i64 tg) := by rw [HBK.out.cell]; rfl
  have e1 : w1.cell? ⟨B, 1, none⟩ = some (.int .i64 ty) := by rw [HBK.out.cell]; rfl
  have e2 : w1.cell? ⟨B, 2, none⟩ = some (.slice none 0 0) := by rw [HBK.out.cell]; rfl
  have e3 : w1.cell? ⟨B, 3, none⟩ = some (.slice none 0 0) := by rw [HBK.out.cell]; rfl
  have e4 : w1.cell? ⟨B, 4, none⟩ = some (.slice none 0 0) := by rw [HBK.out.cell]; rfl
  go_wp2_with fail
  refine (rsize_any ty w1).mono ?_
  rintro e w' ⟨rfl, rfl⟩
  have b4 := g_b4.out
  have d4 : ((cnt : Int) == 0) = true := by simp [b4]
  have E4 := Lib.hid b4
  clear b4
  go_wp2
  have HK9 := Lib.hid (blk_set6 (y0 := .int .i64 0) (y1 := .int .i64 0) (y2 := .slice none 0 0) (y3 := .slice none 0 0) (y4 := .slice none 0 0) (y5 := .int .i64 3) HRK.out)
  have HU9 := Lib.hid (upd_set6 (g := B + 1) (y0 := .int .i64 0) (y1 := .int .i64 0) (y2 := .slice none 0 0) (y3 := .slice none 0 0) (y4 := .slice none 0 0) (y5 := .int .i64 3) HU1.out (by have := HBB0.out; omega))
  generalize hw9 : World.setCell _ _ _ = w9 at *
  have y0 : w9.cell? ⟨B + 1, 0, none⟩ = some (.int .i64 0) := by rw [HK9.out.cell]; rfl
  have y1 : w9.cell? ⟨B + 1, 1, none⟩ = some (.int .i64 0) := by rw [HK9.out.cell]; rfl
  have y2 : w9.cell? ⟨B + 1, 2, none⟩ = some (.slice none 0 0) := by rw [HK9.out.cell]; rfl
  have y3 : w9.cell? ⟨B + 1, 3, none⟩ = some (.slice none 0 0) := by rw [HK9.out.cell]; rfl
  have y4 : w9.cell? ⟨B + 1, 4, none⟩ = some (.slice none 0 0) := by rw [HK9.out.cell]; rfl
  have y5 : w9.cell? ⟨B + 1, 5, none⟩ = some (.int .i64 3) := by rw [HK9.out.cell]; rfl
  have HV : Hid (sayV tg ty d fr cnt = .error 3) := by
    show _ = _
    unfold sayV
    rw [if_pos (Or.inl E4.out)]
  rw [HV.out]
  exact bodyPost_ret (v := .agg #[.int .i64 0, .int .i64 0, .slice none 0 0, .slice none 0 0, .slice none 0 0, .int .i64 3]) (by simp [results, Try.results30, go_sem, y0, y1, y2, y3, y4, y5]) rfl ⟨rfl, HU9.out⟩

set_option maxRecDepth 100000 in
set_option maxHeartbeats 2000000 in
theorem says_six (w : World) (tg ty : Int) (D : Option Addr) (m dc : Nat) (d : List Int) (hD : Ints .u8 w D m d) (hd : ∀ z ∈ d, 0 ≤ z ∧ z ≤ 255) (hmc : m ≤ dc) (hm : m ≤ 100000000) (fr cnt : Nat) (hfrb : fr ≤ 4294967295) (hcnb : cnt ≤ 4294967295) (g_b4 : Hid (cnt ≠ 0)) (g_b8 : Hid (cnt ≠ 1)) (g_hnum : Hid (numT ty = false)) (g_h6 : Hid (ty = 6)) :
    Calls Try.prog 30 #[.agg #[.int .i64 tg, .int .i64 ty, .slice none 0 0, .slice none 0 0, .slice none 0 0], .slice D m dc, .int .i64 fr, .int .i64 cnt] w (SaysPost (sayV tg ty d fr cnt) w) := by
  have HD := Lib.hid hD
  have HDB := Lib.hid hd
  have HDL := hD.len
  clear hD hd
  go_enter Try.func30, Try.ntmps30
  go_upto_region 1 with (fail)
  obtain ⟨B, HBB0⟩ : ∃ B, Hid (B = w.heap.size) := ⟨_, rfl⟩
  have HBK : Hid (Blk ((w.alloc (.cells #[.int .i64 tg, .int .i64 ty, .slice none 0 0, .slice none 0 0, .slice none 0 0] 40)).alloc (.cells #[.int .i64 0, .int .i64 0, .slice none 0 0, .slice none 0 0, .slice none 0 0, .int .i64 0] 61)) w.heap.size 40 #[.int .i64 tg, .int .i64 ty, .slice none 0 0, .slice none 0 0, .slice none 0 0]) := (Blk.new _ _ _).alloc _
  have HRK : Hid (Blk ((w.alloc (.cells #[.int .i64 tg, .int .i64 ty, .slice none 0 0, .slice none 0 0, .slice none 0 0] 40)).alloc (.cells #[.int .i64 0, .int .i64 0, .slice none 0 0, .slice none 0 0, .slice none 0 0, .int .i64 0] 61)) (w.heap.size + 1) 61 #[.int .i64 0, .int .i64 0, .slice none 0 0, .slice none 0 0, .slice none 0 0, .int .i64 0]) := by
    have := Blk.new (w.alloc (.cells #[.int .i64 tg, .int .i64 ty, .slice none 0 0, .slice none 0 0, .slice none 0 0] 40)) 61 #[.int .i64 0, .int .i64 0, .slice none 0 0, .slice none 0 0, .slice none 0 0, .int .i64 0]
    simp at this
    exact this
  have HU1 : Hid (Upd [] w ((w.alloc (.cells #[.int .i64 tg, .int .i64 ty, .slice none 0 0, .slice none 0 0, .slice none 0 0] 40)).alloc (.cells #[.int .i64 0, .int .i64 0, .slice none 0 0, .slice none 0 0, .slice none 0 0, .int .i64 0] 61))) := ((Upd.refl _ _).alloc _).alloc _
  rw [← HBB0.out] at HBK HRK ⊢
  generalize hw1 : World.alloc (w.alloc _) _ = w1 at *
  clear hw1
  have z0 : w1.cell? ⟨B + 1, 0, none⟩ = some (.int .i64 0) := by rw [HRK.out.cell]; rfl
  have z1 : w1.cell? ⟨B + 1, 1, none⟩ = some (.int .i64 0) := by rw [HRK.out.cell]; rfl
  have z2 : w1.cell? ⟨B + 1, 2, none⟩ = some (.slice none 0 0) := by rw [HRK.out.cell]; rfl
  have z3 : w1.cell? ⟨B + 1, 3, none⟩ = some (.slice none 0 0) := by rw [HRK.out.cell]; rfl
  have z4 : w1.cell? ⟨B + 1, 4, none⟩ = some (.slice none 0 0) := by rw [HRK.out.cell]; rfl
  have z5 : w1.cell? ⟨B + 1, 5, none⟩ = some (.int .i64 0) := by rw [HRK.out.cell]; rfl
  have fz := HRK.out.frozen
  have e0 : w1.cell? ⟨B, 0, none⟩ = some (.int .i64 tg) := by rw [HBK.out.cell]; rfl
  have e1 : w1.cell? ⟨B, 1, none⟩ = some (.int .i64 ty) := by rw [HBK.out.cell]; rfl
  have e2 : w1.cell? ⟨B, 2, none⟩ = some (.slice none 0 0) := by rw [HBK.out.cell]; rfl
  have e3 : w1.cell? ⟨B, 3, none⟩ = some (.slice none 0 0) := by rw [HBK.out.cell]; rfl
  have e4 : w1.cell? ⟨B, 4, none⟩ = some (.slice none 0 0) := by rw [HBK.out.cell]; rfl
  go_wp2_with fail
  refine (rsize_any ty w1).mono ?_
  rintro e w' ⟨rfl, rfl⟩
  have b4 := g_b4.out
  have b8 := g_b8.out
  have hnum := g_hnum.out
  have h6 := g_h6.out
  have d4 : ((cnt : Int) == 0) = false := by simp; omega
  have HNUM := Lib.hid hnum
  have HS1 : Hid (sizeT ty = 1) := by
    show _ = _
    unfold numT at hnum
    simp at hnum
    unfold sizeT
    rw [if_neg (by omega), if_neg (by omega), if_neg (by omega)]
  have HRZ : Hid ((rsz ty : Int) = 0) := by show _ = _; unfold rsz; rw [HNUM.out]; rfl
  rw [HRZ.out]
  clear hnum
  have E6 := Lib.hid h6
  have d6 : (ty == 6) = true := by simp [h6]
  clear h6
  have dn : ((cnt : Int) != 1) = true := by simp; omega
  go_wp2
  have HK9 := Lib.hid (blk_set6 (y0 := .int .i64 0) (y1 := .int .i64 0) (y2 := .slice none 0 0) (y3 := .slice none 0 0) (y4 := .slice none 0 0) (y5 := .int .i64 3) HRK.out)
  have HU9 := Lib.hid (upd_set6 (g := B + 1) (y0 := .int .i64 0) (y1 := .int .i64 0) (y2 := .slice none 0 0) (y3 := .slice none 0 0) (y4 := .slice none 0 0) (y5 := .int .i64 3) HU1.out (by have := HBB0.out; omega))
  generalize hw9 : World.setCell _ _ _ = w9 at *
  have y0 : w9.cell? ⟨B + 1, 0, none⟩ = some (.int .i64 0) := by rw [HK9.out.cell]; rfl
  have y1 : w9.cell? ⟨B + 1, 1, none⟩ = some (.int .i64 0) := by rw [HK9.out.cell]; rfl
  have y2 : w9.cell? ⟨B + 1, 2, none⟩ = some (.slice none 0 0) := by rw [HK9.out.cell]; rfl
  have y3 : w9.cell? ⟨B + 1, 3, none⟩ = some (.slice none 0 0) := by rw [HK9.out.cell]; rfl
  have y4 : w9.cell? ⟨B + 1, 4, none⟩ = some (.slice none 0 0) := by rw [HK9.out.cell]; rfl
  have y5 : w9.cell? ⟨B + 1, 5, none⟩ = some (.int .i64 3) := by rw [HK9.out.cell]; rfl
  have HV : Hid (sayV tg ty d fr cnt = .error 3) := by
    show _ = _
    unfold sayV
    rw [if_pos (Or.inr (Or.inl ⟨E6.out, b8⟩))]
  rw [HV.out]
  exact bodyPost_ret (v := .agg #[.int .i64 0, .int .i64 0, .slice none 0 0, .slice none 0 0, .slice none 0 0, .int .i64 3]) (by simp [results, Try.results30, go_sem, y0, y1, y2, y3, y4, y5]) rfl ⟨rfl, HU9.out⟩

set_option maxRecDepth 100000 in
set_option maxHeartbeats 2000000 in
theorem says_bin (w : World) (tg ty : Int) (D : Option Addr) (m dc : Nat) (d : List Int) (hD : Ints .u8 w D m d) (hd : ∀ z ∈ d, 0 ≤ z ∧ z ≤ 255) (hmc : m ≤ dc) (hm : m ≤ 100000000) (fr cnt : Nat) (hfrb : fr ≤ 4294967295) (hcnb : cnt ≤ 4294967295) (g_b4 : Hid (cnt ≠ 0)) (g_hnum : Hid (numT ty = false)) (g_h7 : Hid (ty = 7)) :
    Calls Try.prog 30 #[.agg #[.int .i64 tg, .int .i64 ty, .slice none 0 0, .slice none 0 0, .slice none 0 0], .slice D m dc, .int .i64 fr, .int .i64 cnt] w (SaysPost (sayV tg ty d fr cnt) w) := by
  have HD := Lib.hid hD
  have HDB := Lib.hid hd
  have HDL := hD.len
  clear hD hd
  go_enter Try.func30, Try.ntmps30
  go_upto_region 1 with (fail)
  obtain ⟨B, HBB0⟩ : ∃ B, Hid (B = w.heap.size) := ⟨_, rfl⟩
  have HBK : Hid (Blk ((w.alloc (.cells #[.int .i64 tg, .int .i64 ty, .slice none 0 0, .slice none 0 0, .slice none 0 0] 40)).alloc (.cells #[.int .i64 0, .int .i64 0, .slice none 0 0, .slice none 0 0, .slice none 0 0, .int .i64 0] 61)) w.heap.size 40 #[.int .i64 tg, .int .i64 ty, .slice none 0 0, .slice none 0 0, .slice none 0 0]) := (Blk.new _ _ _).alloc _
  have HRK : Hid (Blk ((w.alloc (.cells #[.int .i64 tg, .int .i64 ty, .slice none 0 0, .slice none 0 0, .slice none 0 0] 40)).alloc (.cells #[.int .i64 0, .int .i64 0, .slice none 0 0, .slice none 0 0, .slice none 0 0, .int .i64 0] 61)) (w.heap.size + 1) 61 #[.int .i64 0, .int .i64 0, .slice none 0 0, .slice none 0 0, .slice none 0 0, .int .i64 0]) := by
    have := Blk.new (w.alloc (.cells #[.int .i64 tg, .int .i64 ty, .slice none 0 0, .slice none 0 0, .slice none 0 0] 40)) 61 #[.int .i64 0, .int .i64 0, .slice none 0 0, .slice none 0 0, .slice none 0 0, .int .i64 0]
    simp at this
    exact this
  have HU1 : Hid (Upd [] w ((w.alloc (.cells #[.int .i64 tg, .int .i64 ty, .slice none 0 0, .slice none 0 0, .slice none 0 0] 40)).alloc (.cells #[.int .i64 0, .int .i64 0, .slice none 0 0, .slice none 0 0, .slice none 0 0, .int .i64 0] 61))) := ((Upd.refl _ _).alloc _).alloc _
  rw [← HBB0.out] at HBK HRK ⊢
  generalize hw1 : World.alloc (w.alloc _) _ = w1 at *
  clear hw1
  have z0 : w1.cell? ⟨B + 1, 0, none⟩ = some (.int .i64 0) := by rw [HRK.out.cell]; rfl
  have z1 : w1.cell? ⟨B + 1, 1, none⟩ = some (.int .i64 0) := by rw [HRK.out.cell]; rfl
  have z2 : w1.cell? ⟨B + 1, 2, none⟩ = some (.slice none 0 0) := by rw [HRK.out.cell]; rfl
  have z3 : w1.cell? ⟨B + 1, 3, none⟩ = some (.slice none 0 0) := by rw [HRK.out.cell]; rfl
  have z4 : w1.cell? ⟨B + 1, 4, none⟩ = some (.slice none 0 0) := by rw [HRK.out.cell]; rfl
  have z5 : w1.cell? ⟨B + 1, 5, none⟩ = some (.int .i64 0) := by rw [HRK.out.cell]; rfl
  have fz := HRK.out.frozen
  have e0 : w1.cell? ⟨B, 0, none⟩ = some (.int .i64 tg) := by rw [HBK.out.cell]; rfl
  have e1 : w1.cell? ⟨B, 1, none⟩ = some (.int .i64 ty) := by rw [HBK.out.cell]; rfl
  have e2 : w1.cell? ⟨B, 2, none⟩ = some (.slice none 0 0) := by rw [HBK.out.cell]; rfl
  have e3 : w1.cell? ⟨B, 3, none⟩ = some (.slice none 0 0) := by rw [HBK.out.cell]; rfl
  have e4 : w1.cell? ⟨B, 4, none⟩ = some (.slice none 0 0) := by rw [HBK.out.cell]; rfl
  go_wp2_with fail
  refine (rsize_any ty w1).mono ?_
  rintro e w' ⟨rfl, rfl⟩
  have b4 := g_b4.out
  have hnum := g_hnum.out
  have h7 := g_h7.out
  have d4 : ((cnt : Int) == 0) = false := by simp; omega
  have HNUM := Lib.hid hnum
  have HS1 : Hid (sizeT ty = 1) := by
    show _ = _
    unfold numT at hnum
    simp at hnum
    unfold sizeT
    rw [if_neg (by omega), if_neg (by omega), if_neg (by omega)]
  have HRZ : Hid ((rsz ty : Int) = 0) := by show _ = _; unfold rsz; rw [HNUM.out]; rfl
  rw [HRZ.out]
  clear hnum
  have E7 := Lib.hid h7
  have d7 : (ty == 7) = true := by simp [h7]
  have d6 : (ty == 6) = false := by simp [h7]
  clear h7
  have HX : Hid (¬ (cnt = 0 ∨ (ty = 6 ∧ cnt ≠ 1) ∨ fr % sizeT ty ≠ 0)) := by
    rintro (h | h | h)
    · exact b4 h
    · exact absurd h.1 (by rw [E7.out]; decide)
    · exact h (by rw [HS1.out]; exact Nat.mod_one _)
  by_cases b6 : m < fr
  · have d8 : decide ((m : Int) < fr) = true := by simp; omega
    go_wp2
    have HK9 := Lib.hid (blk_set6 (y0 := .int .i64 0) (y1 := .int .i64 0) (y2 := .slice none 0 0) (y3 := .slice none 0 0) (y4 := .slice none 0 0) (y5 := .int .i64 2) HRK.out)
    have HU9 := Lib.hid (upd_set6 (g := B + 1) (y0 := .int .i64 0) (y1 := .int .i64 0) (y2 := .slice none 0 0) (y3 := .slice none 0 0) (y4 := .slice none 0 0) (y5 := .int .i64 2) HU1.out (by have := HBB0.out; omega))
    generalize hw9 : World.setCell _ _ _ = w9 at *
    have y0 : w9.cell? ⟨B + 1, 0, none⟩ = some (.int .i64 0) := by rw [HK9.out.cell]; rfl
    have y1 : w9.cell? ⟨B + 1, 1, none⟩ = some (.int .i64 0) := by rw [HK9.out.cell]; rfl
    have y2 : w9.cell? ⟨B + 1, 2, none⟩ = some (.slice none 0 0) := by rw [HK9.out.cell]; rfl
    have y3 : w9.cell? ⟨B + 1, 3, none⟩ = some (.slice none 0 0) := by rw [HK9.out.cell]; rfl
    have y4 : w9.cell? ⟨B + 1, 4, none⟩ = some (.slice none 0 0) := by rw [HK9.out.cell]; rfl
    have y5 : w9.cell? ⟨B + 1, 5, none⟩ = some (.int .i64 2) := by rw [HK9.out.cell]; rfl
    have HV : Hid (sayV tg ty d fr cnt = .error 2) := by
      show _ = _
      unfold sayV
      rw [if_neg HX.out, if_pos (by rw [HDL.out]; exact b6)]
    rw [HV.out]
    exact bodyPost_ret (v := .agg #[.int .i64 0, .int .i64 0, .slice none 0 0, .slice none 0 0, .slice none 0 0, .int .i64 2]) (by simp [results, Try.results30, go_sem, y0, y1, y2, y3, y4, y5]) rfl ⟨rfl, HU9.out⟩
  · have d8 : decide ((m : Int) < fr) = false := by simp; omega
    by_cases b7 : m - fr < cnt
    · have d9 : decide ((m : Int) - fr < cnt) = true := by simp; omega
      go_wp2
      have HK9 := Lib.hid (blk_set6 (y0 := .int .i64 0) (y1 := .int .i64 0) (y2 := .slice none 0 0) (y3 := .slice none 0 0) (y4 := .slice none 0 0) (y5 := .int .i64 2) HRK.out)
      have HU9 := Lib.hid (upd_set6 (g := B + 1) (y0 := .int .i64 0) (y1 := .int .i64 0) (y2 := .slice none 0 0) (y3 := .slice none 0 0) (y4 := .slice none 0 0) (y5 := .int .i64 2) HU1.out (by have := HBB0.out; omega))
      generalize hw9 : World.setCell _ _ _ = w9 at *
      have y0 : w9.cell? ⟨B + 1, 0, none⟩ = some (.int .i64 0) := by rw [HK9.out.cell]; rfl
      have y1 : w9.cell? ⟨B + 1, 1, none⟩ = some (.int .i64 0) := by rw [HK9.out.cell]; rfl
      have y2 : w9.cell? ⟨B + 1, 2, none⟩ = some (.slice none 0 0) := by rw [HK9.out.cell]; rfl
      have y3 : w9.cell? ⟨B + 1, 3, none⟩ = some (.slice none 0 0) := by rw [HK9.out.cell]; rfl
      have y4 : w9.cell? ⟨B + 1, 4, none⟩ = some (.slice none 0 0) := by rw [HK9.out.cell]; rfl
      have y5 : w9.cell? ⟨B + 1, 5, none⟩ = some (.int .i64 2) := by rw [HK9.out.cell]; rfl
      have HV : Hid (sayV tg ty d fr cnt = .error 2) := by
        show _ = _
        unfold sayV
        rw [if_neg HX.out, if_neg (by rw [HDL.out]; exact b6), HNUM.out, if_neg (by decide), if_pos E7.out, if_pos (by rw [List.length_drop, HDL.out]; exact b7)]
      rw [HV.out]
      exact bodyPost_ret (v := .agg #[.int .i64 0, .int .i64 0, .slice none 0 0, .slice none 0 0, .slice none 0 0, .int .i64 2]) (by simp [results, Try.results30, go_sem, y0, y1, y2, y3, y4, y5]) rfl ⟨rfl, HU9.out⟩
    · have d9 : decide ((m : Int) - fr < cnt) = false := by simp; omega
      have hcut2 := run_cut_lh el_byte D m dc .i64 .i64 (fr : Int) ((fr : Int) + cnt) fr (fr + cnt) rfl (by omega) (by omega) (by omega)
      rw [show fr + cnt - fr = cnt by omega] at hcut2
      have hwf : IntKind.i64.wrap ((fr : Int) + cnt) = (fr : Int) + cnt := by rw [IntKind.wrap_i64]; omega
      obtain ⟨X2, HX2⟩ : ∃ X2, Hid (X2 = cutA 1 D dc fr) := ⟨_, rfl⟩
      rw [← HX2.out] at hcut2
      have HSG : Hid (Ints .u8 w1.drew X2 cnt ((d.drop fr).take cnt)) := by
        have h := ((HD.out.upd HU1.out (by simp)).cut (lo := fr) (hi := fr + cnt) (c := dc) (by omega) (by omega) hmc).drewN 1
        rw [show fr + cnt - fr = cnt by omega] at h
        rw [HX2.out]
        exact h
      have HBW : Hid (w.heap.size ≤ w1.drew.heap.size) := HU1.out.size
      go_wp2_with fail
      go_region_law (refine step_app rfl (s := .tmp 57) (x := .tmp 63) rfl el_byte (by rfl) (Own.nil w1.drew w.heap.size _ _) (by rfl) HSG.out (ints_one _ _) (by simp only [maxLen]; omega) (by omega) HBW.out ?_; intro X3 c3 w3 hown3 hu3 hfr3; have HO3 := Lib.hid hown3; have HV3 : Hid (Upd [] w1 w3) := ((Upd.refl _ _).drew).then hu3 (by simp [ob]); have HBK3 := Lib.hid (HBK.out.upd HV3.out (by simp)); have HRK3 := Lib.hid (HRK.out.upd HV3.out (by simp)); clear hown3 hu3 hfr3; have g4 : w3.cell? ⟨B, 4, none⟩ = some (.slice none 0 0) := (by rw [HBK3.out.cell]; rfl); have gf := HBK3.out.frozen 4)
      all_goals
        have HO4 : Hid (Own (w3.setCell ⟨B, 4, none⟩ (.slice X3 cnt c3)) w.heap.size 5 1 X3 cnt c3 (((d.drop fr).take cnt).map (Value.int .u8))) := by
          have h := HO3.out
          rw [Nat.zero_add, List.nil_append] at h
          exact h.far (h.neBlk HBK3.out (by decide)) _
        have HBK4 := Lib.hid (HBK3.out.set 4 (.slice X3 cnt c3))
        have HRK4 := Lib.hid (HRK3.out.far (p := ⟨B, 4, none⟩) (by simp) (.slice X3 cnt c3))
        have HU4 := Lib.hid ((HU1.out.trans HV3.out).put (b := B) (o := 4) (by have := HBB0.out; omega) (.slice X3 cnt c3))
        have HV : Hid (sayV tg ty d fr cnt = .ok ⟨tg, ty, [], [], (d.drop fr).take cnt⟩) := by
          show _ = _
          unfold sayV
          rw [if_neg HX.out, if_neg (by rw [HDL.out]; exact b6), HNUM.out, if_neg (by decide), if_pos E7.out, if_neg (by rw [List.length_drop, HDL.out]; exact b7)]
        generalize hw4 : w3.setCell _ _ = w4 at *
        clear hw4 g4 gf HO3 HV3 HBK3 HRK3 hcut2
        clear z0 z1 z2 z3 z4 z5 fz
        clear e0 e1 e2 e3 e4
        have z0 : w4.cell? ⟨B + 1, 0, none⟩ = some (.int .i64 0) := by rw [HRK4.out.cell]; rfl
        have z1 : w4.cell? ⟨B + 1, 1, none⟩ = some (.int .i64 0) := by rw [HRK4.out.cell]; rfl
        have z2 : w4.cell? ⟨B + 1, 2, none⟩ = some (.slice none 0 0) := by rw [HRK4.out.cell]; rfl
        have z3 : w4.cell? ⟨B + 1, 3, none⟩ = some (.slice none 0 0) := by rw [HRK4.out.cell]; rfl
        have z4 : w4.cell? ⟨B + 1, 4, none⟩ = some (.slice none 0 0) := by rw [HRK4.out.cell]; rfl
        have z5 : w4.cell? ⟨B + 1, 5, none⟩ = some (.int .i64 0) := by rw [HRK4.out.cell]; rfl
        have fz := HRK4.out.frozen
        have e0 : w4.cell? ⟨B, 0, none⟩ = some (.int .i64 tg) := by rw [HBK4.out.cell]; rfl
        have e1 : w4.cell? ⟨B, 1, none⟩ = some (.int .i64 ty) := by rw [HBK4.out.cell]; rfl
        have e2 : w4.cell? ⟨B, 2, none⟩ = some (.slice none 0 0) := by rw [HBK4.out.cell]; rfl
        have e3 : w4.cell? ⟨B, 3, none⟩ = some (.slice none 0 0) := by rw [HBK4.out.cell]; rfl
        have e4 : w4.cell? ⟨B, 4, none⟩ = some (.slice X3 cnt c3) := by rw [HBK4.out.cell]; rfl
        go_wp2
        have HK9 := Lib.hid (blk_set6 (y0 := .int .i64 tg) (y1 := .int .i64 ty) (y2 := .slice none 0 0) (y3 := .slice none 0 0) (y4 := .slice X3 cnt c3) (y5 := .int .i64 0) HRK4.out)
        have HU9 := Lib.hid (upd_set6 (g := B + 1) (y0 := .int .i64 tg) (y1 := .int .i64 ty) (y2 := .slice none 0 0) (y3 := .slice none 0 0) (y4 := .slice X3 cnt c3) (y5 := .int .i64 0) HU4.out (by have := HBB0.out; omega))
        have HV9 := Lib.hid (upd6 (w := w4) (g := B + 1) (y0 := .int .i64 tg) (y1 := .int .i64 ty) (y2 := .slice none 0 0) (y3 := .slice none 0 0) (y4 := .slice X3 cnt c3) (y5 := .int .i64 0))
        generalize hw9 : World.setCell _ _ _ = w9 at *
        have y0 : w9.cell? ⟨B + 1, 0, none⟩ = some (.int .i64 tg) := by rw [HK9.out.cell]; rfl
        have y1 : w9.cell? ⟨B + 1, 1, none⟩ = some (.int .i64 ty) := by rw [HK9.out.cell]; rfl
        have y2 : w9.cell? ⟨B + 1, 2, none⟩ = some (.slice none 0 0) := by rw [HK9.out.cell]; rfl
        have y3 : w9.cell? ⟨B + 1, 3, none⟩ = some (.slice none 0 0) := by rw [HK9.out.cell]; rfl
        have y4 : w9.cell? ⟨B + 1, 4, none⟩ = some (.slice X3 cnt c3) := by rw [HK9.out.cell]; rfl
        have y5 : w9.cell? ⟨B + 1, 5, none⟩ = some (.int .i64 0) := by rw [HK9.out.cell]; rfl
        rw [HV.out]
        exact bodyPost_ret (v := .agg #[.int .i64 tg, .int .i64 ty, .slice none 0 0, .slice none 0 0, .slice X3 cnt c3, .int .i64 0]) (by simp [results, Try.results30, go_sem, y0, y1, y2, y3, y4, y5]) rfl ⟨⟨none, 0, 0, none, 0, 0, X3, cnt, c3⟩, rfl, ⟨Own.nil _ _ _ _, Own.nil _ _ _ _, own9 HO4.out (Nat.le_refl _) HV9.out HRK4.out (by decide), (by simp), fun z hz => HDB.out z (List.mem_of_mem_drop (List.mem_of_mem_take hz))⟩, HU9.out⟩

end Go.Proofs.Ytogknbpbjgdldaa
