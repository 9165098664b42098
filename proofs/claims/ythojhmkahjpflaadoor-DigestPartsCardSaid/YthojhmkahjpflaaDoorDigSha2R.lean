/- The walk of the reference's sha256. -/
import Derived.Test.YthojhmkahjpflaaDoorDigSha2
import Derived.Test.YthojhmkahjpflaaDoorDigSha1R
namespace Go.Proofs.YthojhmkahjpflaaDoor
open Go.RowKit Go.Dray

set_option maxRecDepth 100000 in
set_option maxHeartbeats 1000000 in
theorem rsha256_any (w : World) (B : Nat) (S : Option Addr) (sc : Nat) (s0 s1 s2 s3 s4 s5 s6 s7 : Int) (W : Option Addr) (wc : Nat) (ws : List Int) (hS : Ints .u32 w S 8 [s0, s1, s2, s3, s4, s5, s6, s7]) (hW : Own w B 24 1 W 16 wc (ws.map (Value.int .u32))) (hB : B ≤ w.heap.size) (hSW : some (bl S) ∉ [ob W]) (hT : Tabs w) (hWt : ∀ g, ob W = some g → 3 ≤ g) :
    Calls Tryd.prog 20 #[.slice S 8 sc, .slice W 16 wc] w
      (WordsPost W 8 [add32 s0 (shaRun (ext2 ws 48) 64 ⟨s0, s1, s2, s3, s4, s5, s6, s7⟩).a, add32 s1 (shaRun (ext2 ws 48) 64 ⟨s0, s1, s2, s3, s4, s5, s6, s7⟩).b, add32 s2 (shaRun (ext2 ws 48) 64 ⟨s0, s1, s2, s3, s4, s5, s6, s7⟩).c, add32 s3 (shaRun (ext2 ws 48) 64 ⟨s0, s1, s2, s3, s4, s5, s6, s7⟩).d, add32 s4 (shaRun (ext2 ws 48) 64 ⟨s0, s1, s2, s3, s4, s5, s6, s7⟩).e, add32 s5 (shaRun (ext2 ws 48) 64 ⟨s0, s1, s2, s3, s4, s5, s6, s7⟩).f, add32 s6 (shaRun (ext2 ws 48) 64 ⟨s0, s1, s2, s3, s4, s5, s6, s7⟩).g, add32 s7 (shaRun (ext2 ws 48) 64 ⟨s0, s1, s2, s3, s4, s5, s6, s7⟩).h] w) := by
  have HW := Lib.hid hW
  have HSW := Lib.hid hSW
  have HS := Lib.hid hS
  have HWL : Hid (ws.length = 16) := (Ints.ofOwn hW).len
  have hnot := run_not32
  have hadd := add32_wrap
  have hadd' := add32_mod
  have HT := Lib.hid hT
  have HWt := Lib.hid hWt
  clear hT hWt
  clear hS hW hSW
  go_enter Tryd.func20, Tryd.ntmps20
  go_wp2
  go_loopw [1, 5] (fun x i wr => ∃ n : Nat, n ≤ 48 ∧ i = .int .i64 (16 + n : Nat) ∧ ∃ X cc, x = .slice X (16 + n) cc ∧ Own wr B 24 1 X (16 + n) cc ((ext2 ws n).map (Value.int .u32)) ∧ Upd [ob W] w wr ∧ Fresh w W X) (fun _ i _ => 64 - (intOf i).toNat)
  case atStart => exact ⟨0, by omega, rfl, W, wc, rfl, HW.out, Upd.refl _ _, fun g hg => Or.inl hg⟩
  case round =>
    obtain ⟨n, hn, rfl, X, cc, rfl, hownr, hur, hfr⟩ := hrel
    have HOr := Lib.hid hownr
    have HUr := Lib.hid hur
    have HFr := Lib.hid hfr
    clear hownr hur hfr
    by_cases hlt : n < 48
    · have hl := ext2_len ws HWL.out n
      have hint := Ints.ofOwn HOr.out
      have l1 : wr.cell? ⟨bl X, ofs X + (1 + n), none⟩ = some (.int .u32 (at0 (ext2 ws n) (1 + n))) := hint.cell (at0_get (by omega))
      have j1 := hint.indexI el_u32 cc .i64 (16 + (n : Int) - 15) (1 + n) (by omega) (by omega)
      have x1 := i64_in (16 + (n : Int) - 15) (by omega) (by omega)
      have l14 : wr.cell? ⟨bl X, ofs X + (14 + n), none⟩ = some (.int .u32 (at0 (ext2 ws n) (14 + n))) := hint.cell (at0_get (by omega))
      have j14 := hint.indexI el_u32 cc .i64 (16 + (n : Int) - 2) (14 + n) (by omega) (by omega)
      have x14 := i64_in (16 + (n : Int) - 2) (by omega) (by omega)
      have l9 : wr.cell? ⟨bl X, ofs X + (9 + n), none⟩ = some (.int .u32 (at0 (ext2 ws n) (9 + n))) := hint.cell (at0_get (by omega))
      have j9 := hint.indexI el_u32 cc .i64 (16 + (n : Int) - 7) (9 + n) (by omega) (by omega)
      have x9 := i64_in (16 + (n : Int) - 7) (by omega) (by omega)
      have l0 : wr.cell? ⟨bl X, ofs X + (n), none⟩ = some (.int .u32 (at0 (ext2 ws n) (n))) := hint.cell (at0_get (by omega))
      have j0 := hint.indexI el_u32 cc .i64 (16 + (n : Int) - 16) (n) (by omega) (by omega)
      have x0 := i64_in (16 + (n : Int) - 16) (by omega) (by omega)
      clear hint
      go_wp2
      go_quiet ((go_at_call 30; exact quietL (rright_any _ _ _ (by omega) (by omega))))
      clear l1 l14 l9 l0
      generalize hw_wa : wr.drewN _ = wa
      have HO_wa : Hid (Own wa B 24 1 X (16 + n) cc ((ext2 ws n).map (Value.int .u32))) := by rw [← hw_wa]; exact HOr.out.drewN _
      have HU_wa : Hid (Upd [ob W] w wa) := by rw [← hw_wa]; exact HUr.out.drewN _
      have hint := Ints.ofOwn HO_wa.out
      have l1 : wa.cell? ⟨bl X, ofs X + (1 + n), none⟩ = some (.int .u32 (at0 (ext2 ws n) (1 + n))) := hint.cell (at0_get (by omega))
      have l14 : wa.cell? ⟨bl X, ofs X + (14 + n), none⟩ = some (.int .u32 (at0 (ext2 ws n) (14 + n))) := hint.cell (at0_get (by omega))
      have l9 : wa.cell? ⟨bl X, ofs X + (9 + n), none⟩ = some (.int .u32 (at0 (ext2 ws n) (9 + n))) := hint.cell (at0_get (by omega))
      have l0 : wa.cell? ⟨bl X, ofs X + (n), none⟩ = some (.int .u32 (at0 (ext2 ws n) (n))) := hint.cell (at0_get (by omega))
      clear hw_wa hint HOr HUr
      go_wp2
      go_quiet ((go_at_call 30; exact quietL (rright_any _ _ _ (by omega) (by omega))))
      clear l1 l14 l9 l0
      generalize hw_wb : wa.drewN _ = wb
      have HO_wb : Hid (Own wb B 24 1 X (16 + n) cc ((ext2 ws n).map (Value.int .u32))) := by rw [← hw_wb]; exact HO_wa.out.drewN _
      have HU_wb : Hid (Upd [ob W] w wb) := by rw [← hw_wb]; exact HU_wa.out.drewN _
      have hint := Ints.ofOwn HO_wb.out
      have l1 : wb.cell? ⟨bl X, ofs X + (1 + n), none⟩ = some (.int .u32 (at0 (ext2 ws n) (1 + n))) := hint.cell (at0_get (by omega))
      have l14 : wb.cell? ⟨bl X, ofs X + (14 + n), none⟩ = some (.int .u32 (at0 (ext2 ws n) (14 + n))) := hint.cell (at0_get (by omega))
      have l9 : wb.cell? ⟨bl X, ofs X + (9 + n), none⟩ = some (.int .u32 (at0 (ext2 ws n) (9 + n))) := hint.cell (at0_get (by omega))
      have l0 : wb.cell? ⟨bl X, ofs X + (n), none⟩ = some (.int .u32 (at0 (ext2 ws n) (n))) := hint.cell (at0_get (by omega))
      clear hw_wb hint HO_wa HU_wa
      go_wp2
      refine wp_region_lag1 16 (by kernel_rfl) rfl rfl (by kernel_rfl) (by kernel_rfl) (by kernel_rfl) (by kernel_rfl) (fun _ _ _ _ h => h) ?_
      simp only [List.take_succ_cons, List.take_zero, List.drop_succ_cons, List.drop_zero]
      repeat still_step
      refine wpStill_nil ?_
      obtain ⟨w4, hw4⟩ : ∃ w4 : World, w4 = wb.drew := ⟨_, rfl⟩
      rw [← hw4]
      have HO4 : Hid (Own w4 B 24 1 X (16 + n) cc ((ext2 ws n).map (Value.int .u32))) := by rw [hw4]; exact HO_wb.out.drew
      have HU4 : Hid (Upd [ob W] w w4) := by rw [hw4]; exact HU_wb.out.drew
      have hB4 : B ≤ w4.heap.size := Nat.le_trans hB HU4.out.size
      clear hw4 HO_wb HU_wb l1 j1 x1 l14 j14 x14 l9 j9 x9 l0 j0 x0
      go_wp2_with (at_builtin; refine wpList_app rfl rfl el_u32 rfl (HO4.out.alloc _) rfl (Seg.one w4 _ _) (by intro u hu; simp at hu; subst hu; rfl) (by simp only [maxLen]; omega) (by omega) (by simp; omega) ?_; intro X3 c3 w3 hown3 hu3 hfr3)
      go_roundw
      case rel =>
        refine ⟨n + 1, by omega, by go_num, X3, c3, rfl, ?_, (HU4.out.alloc _).then hu3 (fun b hb => (HFr.out b (by simp at hb; exact hb.symm)).imp (fun h => by simp [h]) id), fun g hg => ?_⟩
        · rw [ext2, List.map_append]
          exact hown3
        · rcases hfr3 g hg with h1 | h1
          · exact HFr.out g h1
          · right
            have := HU4.out.size
            simp at h1
            omega
      case measure => simp [intOf]; omega
    · obtain rfl : n = 48 := by omega
      rw [show ((16 + 48 : Nat) : Int) = 64 from rfl, show 16 + 48 = 64 from rfl] at *
      obtain ⟨xs, HX⟩ : ∃ xs, Hid (xs = ext2 ws 48) := ⟨_, rfl⟩
      have HL : Hid (xs.length = 64) := by rw [HX.out]; exact ext2_len ws HWL.out 48
      rw [← HX.out] at HOr
      have hSr := HS.out.upd HUr.out (fun _ => HSW.out)
      have c0 : wr.cell? ⟨bl S, ofs S, none⟩ = some (.int .u32 s0) := hSr.cell (i := 0) rfl
      have c1 : wr.cell? ⟨bl S, ofs S + 1, none⟩ = some (.int .u32 s1) := hSr.cell (i := 1) rfl
      have c2 : wr.cell? ⟨bl S, ofs S + 2, none⟩ = some (.int .u32 s2) := hSr.cell (i := 2) rfl
      have c3 : wr.cell? ⟨bl S, ofs S + 3, none⟩ = some (.int .u32 s3) := hSr.cell (i := 3) rfl
      have c4 : wr.cell? ⟨bl S, ofs S + 4, none⟩ = some (.int .u32 s4) := hSr.cell (i := 4) rfl
      have c5 : wr.cell? ⟨bl S, ofs S + 5, none⟩ = some (.int .u32 s5) := hSr.cell (i := 5) rfl
      have c6 : wr.cell? ⟨bl S, ofs S + 6, none⟩ = some (.int .u32 s6) := hSr.cell (i := 6) rfl
      have c7 : wr.cell? ⟨bl S, ofs S + 7, none⟩ = some (.int .u32 s7) := hSr.cell (i := 7) rfl
      have i0 := HS.out.indexI el_u32 sc .i64 0 0 rfl (by omega)
      have i1 := HS.out.indexI el_u32 sc .i64 1 1 rfl (by omega)
      have i2 := HS.out.indexI el_u32 sc .i64 2 2 rfl (by omega)
      have i3 := HS.out.indexI el_u32 sc .i64 3 3 rfl (by omega)
      have i4 := HS.out.indexI el_u32 sc .i64 4 4 rfl (by omega)
      have i5 := HS.out.indexI el_u32 sc .i64 5 5 rfl (by omega)
      have i6 := HS.out.indexI el_u32 sc .i64 6 6 rfl (by omega)
      have i7 := HS.out.indexI el_u32 sc .i64 7 7 rfl (by omega)
      rw [Nat.add_zero] at i0
      clear hSr
      go_wp2
      go_quiet (fail)
      go_wp2
      generalize hw2 : wr.drewN _ = w2
      have HO2 : Hid (Own w2 B 24 1 X 64 cc (xs.map (Value.int .u32))) := by rw [← hw2]; exact HOr.out.drewN _
      have HU2 : Hid (Upd [ob W] w w2) := by rw [← hw2]; exact HUr.out.drewN _
      clear hw2 HOr HUr c0 c1 c2 c3 c4 c5 c6 c7
      go_loopw [8, 9, 10, 11, 12, 13, 14, 15, 16] (fun a b c d e f g h i wr => ∃ k : Nat, k ≤ 64 ∧ i = .int .i64 k ∧ a = .int .u32 (shaRun xs k ⟨s0, s1, s2, s3, s4, s5, s6, s7⟩).a ∧ b = .int .u32 (shaRun xs k ⟨s0, s1, s2, s3, s4, s5, s6, s7⟩).b ∧ c = .int .u32 (shaRun xs k ⟨s0, s1, s2, s3, s4, s5, s6, s7⟩).c ∧ d = .int .u32 (shaRun xs k ⟨s0, s1, s2, s3, s4, s5, s6, s7⟩).d ∧ e = .int .u32 (shaRun xs k ⟨s0, s1, s2, s3, s4, s5, s6, s7⟩).e ∧ f = .int .u32 (shaRun xs k ⟨s0, s1, s2, s3, s4, s5, s6, s7⟩).f ∧ g = .int .u32 (shaRun xs k ⟨s0, s1, s2, s3, s4, s5, s6, s7⟩).g ∧ h = .int .u32 (shaRun xs k ⟨s0, s1, s2, s3, s4, s5, s6, s7⟩).h ∧ ∃ q, wr = w2.drewN q) (fun _ _ _ _ _ _ _ _ i _ => 64 - (intOf i).toNat)
      case atStart => exact ⟨0, by omega, rfl, rfl, rfl, rfl, rfl, rfl, rfl, rfl, rfl, 0, rfl⟩
      case round =>
        obtain ⟨k, hk, rfl, rfl, rfl, rfl, rfl, rfl, rfl, rfl, rfl, q, rfl⟩ := hrel
        obtain ⟨⟨xa, xb, xc, xd, xe, xf, xg, xh⟩, HQ⟩ : ∃ q : Q8, Hid (q = shaRun xs k ⟨s0, s1, s2, s3, s4, s5, s6, s7⟩) := ⟨_, rfl⟩
        rw [← HQ.out]
        by_cases hlt : k < 64
        · generalize hw3 : w2.drewN q = w3
          have HD : Hid (∀ n, w3.drewN n = w2.drewN (q + n)) := fun n => by rw [← hw3, World.drewN_drewN]
          have hint := Ints.ofOwn (HO2.out.drewN q)
          have cw : w3.cell? ⟨bl X, ofs X + k, none⟩ = some (.int .u32 (at0 xs k)) := by rw [← hw3]; exact hint.cell (at0_get (by rw [HL.out]; omega))
          have ik := hint.index el_u32 cc .i64 k (by omega)
          have ct : w3.cell? ⟨1, k, none⟩ = some (.int .u32 (shaT k)) := by rw [← hw3]; exact ((HT.out.upd HU2.out (fun b hb => HWt.out b (by simp at hb; exact hb.symm))).drewN q).sha k (by omega)
          have it := words_index (t := 54) (n := 64) (by kernel_rfl) 1 k (k : Int) rfl (by omega)
          clear hw3 hint i0 i1 i2 i3 i4 i5 i6 i7
          have HR := Lib.hid (show shaRun xs (k + 1) ⟨s0, s1, s2, s3, s4, s5, s6, s7⟩ = shaStep xs k ⟨xa, xb, xc, xd, xe, xf, xg, xh⟩ by rw [HQ.out]; rfl)
          clear hk
          go_wp2
          go_quiet ((go_at_call 30; exact quietL (rright_any _ _ _ (by omega) (by omega))))
          generalize hw5 : w3.drewN _ = w5
          have HD5 : Hid (∃ q, w5 = w2.drewN q) := ⟨_, by rw [← hw5]; exact HD.out _⟩
          clear hw5 cw ct ik it
          go_wp2_with fail
          refine (rright_any _ _ _ (by omega) (by omega)).mono ?_
          rintro e w' ⟨rfl, rfl⟩
          go_wp2_with fail
          refine (rright_any _ _ _ (by omega) (by omega)).mono ?_
          rintro e w' ⟨rfl, rfl⟩
          go_wp2_with fail
          refine (rright_any _ _ _ (by omega) (by omega)).mono ?_
          rintro e w' ⟨rfl, rfl⟩
          go_wp2
          go_roundw
          case rel => exact ⟨k + 1, by omega, by go_num, by rw [HR.out]; rfl, by rw [HR.out]; rfl, by rw [HR.out]; rfl, by rw [HR.out]; rfl, by rw [HR.out]; rfl, by rw [HR.out]; rfl, by rw [HR.out]; rfl, by rw [HR.out]; rfl, HD5.out⟩
          case measure => simp [intOf]; omega
        · obtain rfl : k = 64 := by omega
          generalize hw3 : w2.drewN q = w3
          have hSr := HS.out.upd (HU2.out.drewN q) (fun _ => HSW.out)
          have HU3 : Hid (Upd [ob W] w w3) := by rw [← hw3]; exact HU2.out.drewN _
          rw [hw3] at hSr
          have c0 : w3.cell? ⟨bl S, ofs S, none⟩ = some (.int .u32 s0) := hSr.cell (i := 0) rfl
          have c1 : w3.cell? ⟨bl S, ofs S + 1, none⟩ = some (.int .u32 s1) := hSr.cell (i := 1) rfl
          have c2 : w3.cell? ⟨bl S, ofs S + 2, none⟩ = some (.int .u32 s2) := hSr.cell (i := 2) rfl
          have c3 : w3.cell? ⟨bl S, ofs S + 3, none⟩ = some (.int .u32 s3) := hSr.cell (i := 3) rfl
          have c4 : w3.cell? ⟨bl S, ofs S + 4, none⟩ = some (.int .u32 s4) := hSr.cell (i := 4) rfl
          have c5 : w3.cell? ⟨bl S, ofs S + 5, none⟩ = some (.int .u32 s5) := hSr.cell (i := 5) rfl
          have c6 : w3.cell? ⟨bl S, ofs S + 6, none⟩ = some (.int .u32 s6) := hSr.cell (i := 6) rfl
          have c7 : w3.cell? ⟨bl S, ofs S + 7, none⟩ = some (.int .u32 s7) := hSr.cell (i := 7) rfl
          clear hSr hw3
          go_wp2
          go_still_tail 40, (by kernel_rfl)
          change wpList _ _ _ _ _ w3.drew
          go_wp2
          go_ret
          rw [← HX.out, ← HQ.out]
          exact ⟨_, 8, rfl, Own.mk (n := 8) (c := 8) rfl (Nat.le_refl _) (by simp [maxLen]) rfl HU3.out.size (Blk.new w3 _ _).drew rfl rfl, (HU3.out.alloc _).drew⟩

end Go.Proofs.YthojhmkahjpflaaDoor
