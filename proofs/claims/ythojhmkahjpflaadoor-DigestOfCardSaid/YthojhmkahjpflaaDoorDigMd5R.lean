/- The walk of the reference's md5. -/
import Derived.Test.YthojhmkahjpflaaDoorDigMd5
import Derived.Test.YthojhmkahjpflaaDoorCalm
namespace Go.Proofs.YthojhmkahjpflaaDoor
open Go.RowKit Go.Dray

set_option maxRecDepth 100000 in
set_option maxHeartbeats 1000000 in
theorem rmd5_any (w : World) (S : Option Addr) (sc : Nat) (s0 s1 s2 s3 : Int) (W : Option Addr) (wc : Nat) (ws : List Int) (hS : Ints .u32 w S 4 [s0, s1, s2, s3]) (hW : Ints .u32 w W 16 ws) (hT : Tabs w) :
    Calls Tryd.prog 18 #[.slice S 4 sc, .slice W 16 wc] w
      (NewWords 4 [add32 s0 (md5Run ws 64 ⟨s0, s1, s2, s3⟩).a, add32 s1 (md5Run ws 64 ⟨s0, s1, s2, s3⟩).b, add32 s2 (md5Run ws 64 ⟨s0, s1, s2, s3⟩).c, add32 s3 (md5Run ws 64 ⟨s0, s1, s2, s3⟩).d] w) := by
  have HT := Lib.hid hT
  have HS := Lib.hid hS
  have HW := Lib.hid hW
  have hnot := run_not32
  have hadd := add32_wrap
  have hadd' := add32_mod
  have c0 : w.cell? ⟨bl S, ofs S, none⟩ = some (.int .u32 s0) := HS.out.cell (i := 0) rfl
  have c1 : w.cell? ⟨bl S, ofs S + 1, none⟩ = some (.int .u32 s1) := HS.out.cell (i := 1) rfl
  have c2 : w.cell? ⟨bl S, ofs S + 2, none⟩ = some (.int .u32 s2) := HS.out.cell (i := 2) rfl
  have c3 : w.cell? ⟨bl S, ofs S + 3, none⟩ = some (.int .u32 s3) := HS.out.cell (i := 3) rfl
  have i0 := HS.out.indexI el_u32 sc .i64 0 0 rfl (by omega)
  have i1 := HS.out.indexI el_u32 sc .i64 1 1 rfl (by omega)
  have i2 := HS.out.indexI el_u32 sc .i64 2 2 rfl (by omega)
  have i3 := HS.out.indexI el_u32 sc .i64 3 3 rfl (by omega)
  rw [Nat.add_zero] at i0
  clear hS hT hW
  go_enter Tryd.func18, Tryd.ntmps18
  go_wp2
  go_quiet (fail)
  go_wp2
  generalize hw2 : w.drewN _ = w2
  have HU2 : Hid (Upd [] w w2) := by rw [← hw2]; exact (Upd.refl _ w).drewN _
  clear hw2 c0 c1 c2 c3
  go_loopw [5, 6, 7, 8, 9] (fun a b c d i wr => ∃ k : Nat, k ≤ 64 ∧ i = .int .i64 k ∧ a = .int .u32 (md5Run ws k ⟨s0, s1, s2, s3⟩).a ∧ b = .int .u32 (md5Run ws k ⟨s0, s1, s2, s3⟩).b ∧ c = .int .u32 (md5Run ws k ⟨s0, s1, s2, s3⟩).c ∧ d = .int .u32 (md5Run ws k ⟨s0, s1, s2, s3⟩).d ∧ Upd [] w wr) (fun _ _ _ _ i _ => 64 - (intOf i).toNat)
  case atStart => exact ⟨0, by omega, rfl, rfl, rfl, rfl, rfl, HU2.out⟩
  case round =>
    obtain ⟨k, hk, rfl, rfl, rfl, rfl, rfl, hu3⟩ := hrel
    have HU3 := Lib.hid hu3
    clear hu3 HU2
    obtain ⟨⟨xa, xb, xc, xd⟩, HQ⟩ : ∃ q : Q4, Hid (q = md5Run ws k ⟨s0, s1, s2, s3⟩) := ⟨_, rfl⟩
    rw [← HQ.out]
    by_cases hlt : k < 64
    · have ct : wr.cell? ⟨0, k, none⟩ = some (.int .u32 (md5T k)) := (HT.out.upd HU3.out (by simp)).md5 k hlt
      have hWr := HW.out.upd HU3.out (by simp)
      have cw : wr.cell? ⟨bl W, ofs W + md5G k, none⟩ = some (.int .u32 (at0 ws (md5G k))) := hWr.cell (at0_get (by rw [hWr.len.out]; exact md5G_lt k))
      have hix := hWr.index el_u32 wc .i64 (md5G k) (md5G_lt k)
      have htb := turnT_bd k hlt
      clear hWr i0 i1 i2 i3
      by_cases h16 : k < 16
      · have HF := Lib.hid (md5F0 h16)
        have hGe : (k : Int) = ((md5G k : Nat) : Int) := by simp [md5G, h16]
        rw [← hGe] at hix
        clear hGe
        go_wp2
        have ct4 := fun x => later_cell ct x
        have cw4 := fun x => later_cell cw x
        clear ct cw
        refine wp_region_later (by kernel_rfl) (by kernel_rfl) ?_
        repeat (go_big_quiet_step (first | (go_at_call 29; exact laterU (turn_any k _ hlt)) | (go_at_call 28; exact laterL (left_any _ _ _ (by omega) (by omega)))))
        refine wpQuiet_nil ?_
        intro _ hw'
        obtain ⟨xq, hw''⟩ := hw'
        subst hw''
        obtain ⟨w5, hw5⟩ : ∃ w5 : World, w5 = later wr xq := ⟨_, rfl⟩
        rw [← hw5]
        have HU5 : Hid (Upd [] w w5) := by rw [hw5]; exact HU3.out.trans (later_upd wr xq)
        clear hw5 ct4 cw4
        go_wp2
        go_roundw
        case rel => exact ⟨k + 1, by omega, by go_num, by rw [md5Run, ← HQ.out]; rfl, by rw [md5Run, ← HQ.out, md5Step, HF.out], by rw [md5Run, ← HQ.out]; rfl, by rw [md5Run, ← HQ.out]; rfl, HU5.out⟩
        case measure => simp [intOf]; omega
      · by_cases h32 : k < 32
        · have HF := Lib.hid (md5F1 h16 h32)
          have hGe : (5 * (k : Int) + 1) % 16 = ((md5G k : Nat) : Int) := by simp [md5G, h16, h32]; try omega
          go_wp2
          have ct4 := fun x => later_cell ct x
          have cw4 := fun x => later_cell cw x
          clear ct cw
          refine wp_region_later (by kernel_rfl) (by kernel_rfl) ?_
          repeat (go_big_quiet_step (first | (go_at_call 29; exact laterU (turn_any k _ hlt)) | (go_at_call 28; exact laterL (left_any _ _ _ (by omega) (by omega)))))
          refine wpQuiet_nil ?_
          intro _ hw'
          obtain ⟨xq, hw''⟩ := hw'
          subst hw''
          obtain ⟨w5, hw5⟩ : ∃ w5 : World, w5 = later wr xq := ⟨_, rfl⟩
          rw [← hw5]
          have HU5 : Hid (Upd [] w w5) := by rw [hw5]; exact HU3.out.trans (later_upd wr xq)
          clear hw5 ct4 cw4
          go_wp2
          go_roundw
          case rel => exact ⟨k + 1, by omega, by go_num, by rw [md5Run, ← HQ.out]; rfl, by rw [md5Run, ← HQ.out, md5Step, HF.out], by rw [md5Run, ← HQ.out]; rfl, by rw [md5Run, ← HQ.out]; rfl, HU5.out⟩
          case measure => simp [intOf]; omega
        · by_cases h48 : k < 48
          · have HF := Lib.hid (md5F2 h16 h32 h48)
            have hGe : (3 * (k : Int) + 5) % 16 = ((md5G k : Nat) : Int) := by simp [md5G, h16, h32, h48]; try omega
            go_wp2
            have ct4 := fun x => later_cell ct x
            have cw4 := fun x => later_cell cw x
            clear ct cw
            refine wp_region_later (by kernel_rfl) (by kernel_rfl) ?_
            repeat (go_big_quiet_step (first | (go_at_call 29; exact laterU (turn_any k _ hlt)) | (go_at_call 28; exact laterL (left_any _ _ _ (by omega) (by omega)))))
            refine wpQuiet_nil ?_
            intro _ hw'
            obtain ⟨xq, hw''⟩ := hw'
            subst hw''
            obtain ⟨w5, hw5⟩ : ∃ w5 : World, w5 = later wr xq := ⟨_, rfl⟩
            rw [← hw5]
            have HU5 : Hid (Upd [] w w5) := by rw [hw5]; exact HU3.out.trans (later_upd wr xq)
            clear hw5 ct4 cw4
            go_wp2
            go_roundw
            case rel => exact ⟨k + 1, by omega, by go_num, by rw [md5Run, ← HQ.out]; rfl, by rw [md5Run, ← HQ.out, md5Step, HF.out], by rw [md5Run, ← HQ.out]; rfl, by rw [md5Run, ← HQ.out]; rfl, HU5.out⟩
            case measure => simp [intOf]; omega
          · have HF := Lib.hid (md5F3 h16 h32 h48)
            have hGe : 7 * (k : Int) % 16 = ((md5G k : Nat) : Int) := by simp [md5G, h16, h32, h48]; try omega
            go_wp2
            have ct4 := fun x => later_cell ct x
            have cw4 := fun x => later_cell cw x
            clear ct cw
            refine wp_region_later (by kernel_rfl) (by kernel_rfl) ?_
            repeat (go_big_quiet_step (first | (go_at_call 29; exact laterU (turn_any k _ hlt)) | (go_at_call 28; exact laterL (left_any _ _ _ (by omega) (by omega)))))
            refine wpQuiet_nil ?_
            intro _ hw'
            obtain ⟨xq, hw''⟩ := hw'
            subst hw''
            obtain ⟨w5, hw5⟩ : ∃ w5 : World, w5 = later wr xq := ⟨_, rfl⟩
            rw [← hw5]
            have HU5 : Hid (Upd [] w w5) := by rw [hw5]; exact HU3.out.trans (later_upd wr xq)
            clear hw5 ct4 cw4
            go_wp2
            go_roundw
            case rel => exact ⟨k + 1, by omega, by go_num, by rw [md5Run, ← HQ.out]; rfl, by rw [md5Run, ← HQ.out, md5Step, HF.out], by rw [md5Run, ← HQ.out]; rfl, by rw [md5Run, ← HQ.out]; rfl, HU5.out⟩
            case measure => simp [intOf]; omega
    · obtain rfl : k = 64 := by omega
      have hSr := HS.out.upd HU3.out (by simp)
      have c0 : wr.cell? ⟨bl S, ofs S, none⟩ = some (.int .u32 s0) := hSr.cell (i := 0) rfl
      have c1 : wr.cell? ⟨bl S, ofs S + 1, none⟩ = some (.int .u32 s1) := hSr.cell (i := 1) rfl
      have c2 : wr.cell? ⟨bl S, ofs S + 2, none⟩ = some (.int .u32 s2) := hSr.cell (i := 2) rfl
      have c3 : wr.cell? ⟨bl S, ofs S + 3, none⟩ = some (.int .u32 s3) := hSr.cell (i := 3) rfl
      clear hSr
      go_wp2
      go_region
      go_wp2
      go_ret
      rw [← HQ.out]
      exact ⟨_, 4, rfl, Own.mk (n := 4) (c := 4) rfl (Nat.le_refl _) (by simp [maxLen]) rfl HU3.out.size (Blk.new wr _ _).drew rfl rfl, (HU3.out.alloc _).drew⟩

end Go.Proofs.YthojhmkahjpflaaDoor
