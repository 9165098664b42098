/- The walk of the reference's sha1. -/
import Derived.Test.YthojhmkahjpflaaDoorDigSha2
import Derived.Test.YthojhmkahjpflaaDoorCalm
import Derived.Test.YthojhmkahjpflaaDoorLag
namespace Go.Proofs.YthojhmkahjpflaaDoor
open Go.RowKit Go.Dray

/-- New words; but for them only w's own block may have turned. -/
def WordsPost (W : Option Addr) (n : Nat) (ys : List Int) (w : World) (e : Ending) (w' : World) : Prop :=
  ∃ A c, e = .returned (.slice A n c) ∧ Own w' w.heap.size 24 1 A n c (ys.map (Value.int .u32)) ∧ Upd [ob W] w w'

set_option maxRecDepth 100000 in
set_option maxHeartbeats 1000000 in
theorem rsha1_any (w : World) (B : Nat) (S : Option Addr) (sc : Nat) (s0 s1 s2 s3 s4 : Int) (W : Option Addr) (wc : Nat) (ws : List Int) (hS : Ints .u32 w S 5 [s0, s1, s2, s3, s4]) (hW : Own w B 24 1 W 16 wc (ws.map (Value.int .u32))) (hB : B ≤ w.heap.size) (hSW : some (bl S) ∉ [ob W]) :
    Calls Tryd.prog 19 #[.slice S 5 sc, .slice W 16 wc] w
      (WordsPost W 5 [add32 s0 (sha1Run (ext1 ws 64) 80 ⟨s0, s1, s2, s3, s4⟩).a, add32 s1 (sha1Run (ext1 ws 64) 80 ⟨s0, s1, s2, s3, s4⟩).b, add32 s2 (sha1Run (ext1 ws 64) 80 ⟨s0, s1, s2, s3, s4⟩).c, add32 s3 (sha1Run (ext1 ws 64) 80 ⟨s0, s1, s2, s3, s4⟩).d, add32 s4 (sha1Run (ext1 ws 64) 80 ⟨s0, s1, s2, s3, s4⟩).e] w) := by
  have HW := Lib.hid hW
  have HSW := Lib.hid hSW
  have HS := Lib.hid hS
  have HWL : Hid (ws.length = 16) := (Ints.ofOwn hW).len
  have hnot := run_not32
  have hadd := add32_wrap
  have hadd' := add32_mod
  clear hS hW hSW
  go_enter Tryd.func19, Tryd.ntmps19
  go_wp2
  go_loopw [1, 5] (fun x i wr => ∃ n : Nat, n ≤ 64 ∧ i = .int .i64 (16 + n : Nat) ∧ ∃ X cc, x = .slice X (16 + n) cc ∧ Own wr B 24 1 X (16 + n) cc ((ext1 ws n).map (Value.int .u32)) ∧ Upd [ob W] w wr ∧ Fresh w W X) (fun _ i _ => 80 - (intOf i).toNat)
  case atStart => exact ⟨0, by omega, rfl, W, wc, rfl, HW.out, Upd.refl _ _, fun g hg => Or.inl hg⟩
  case round =>
    obtain ⟨n, hn, rfl, X, cc, rfl, hownr, hur, hfr⟩ := hrel
    have HOr := Lib.hid hownr
    have HUr := Lib.hid hur
    have HFr := Lib.hid hfr
    clear hownr hur hfr
    by_cases hlt : n < 64
    · have hl := ext1_len ws HWL.out n
      have hint := Ints.ofOwn HOr.out
      have l13 : wr.cell? ⟨bl X, ofs X + (13 + n), none⟩ = some (.int .u32 (at0 (ext1 ws n) (13 + n))) := hint.cell (at0_get (by omega))
      have j13 := hint.indexI el_u32 cc .i64 (16 + (n : Int) - 3) (13 + n) (by omega) (by omega)
      have x13 := i64_in (16 + (n : Int) - 3) (by omega) (by omega)
      have l8 : wr.cell? ⟨bl X, ofs X + (8 + n), none⟩ = some (.int .u32 (at0 (ext1 ws n) (8 + n))) := hint.cell (at0_get (by omega))
      have j8 := hint.indexI el_u32 cc .i64 (16 + (n : Int) - 8) (8 + n) (by omega) (by omega)
      have x8 := i64_in (16 + (n : Int) - 8) (by omega) (by omega)
      have l2 : wr.cell? ⟨bl X, ofs X + (2 + n), none⟩ = some (.int .u32 (at0 (ext1 ws n) (2 + n))) := hint.cell (at0_get (by omega))
      have j2 := hint.indexI el_u32 cc .i64 (16 + (n : Int) - 14) (2 + n) (by omega) (by omega)
      have x2 := i64_in (16 + (n : Int) - 14) (by omega) (by omega)
      have l0 : wr.cell? ⟨bl X, ofs X + (n), none⟩ = some (.int .u32 (at0 (ext1 ws n) (n))) := hint.cell (at0_get (by omega))
      have j0 := hint.indexI el_u32 cc .i64 (16 + (n : Int) - 16) (n) (by omega) (by omega)
      have x0 := i64_in (16 + (n : Int) - 16) (by omega) (by omega)
      clear hint
      go_wp2
      refine wp_region_lag1 25 (by kernel_rfl) rfl rfl (by kernel_rfl) (by kernel_rfl) (by kernel_rfl) (by kernel_rfl) (fun _ _ _ _ h => h) ?_
      simp only [List.take_succ_cons, List.take_zero, List.drop_succ_cons, List.drop_zero]
      repeat still_step
      still_call (stillL (left_any _ _ _ (by omega) (by omega)))
      refine wpStill_nil ?_
      obtain ⟨w4, hw4⟩ : ∃ w4 : World, w4 = wr.drew := ⟨_, rfl⟩
      rw [← hw4]
      have HO4 : Hid (Own w4 B 24 1 X (16 + n) cc ((ext1 ws n).map (Value.int .u32))) := by rw [hw4]; exact HOr.out.drew
      have HU4 : Hid (Upd [ob W] w w4) := by rw [hw4]; exact HUr.out.drew
      have hB4 : B ≤ w4.heap.size := Nat.le_trans hB HU4.out.size
      clear hw4 HOr HUr l13 j13 x13 l8 j8 x8 l2 j2 x2 l0 j0 x0
      go_wp2_with (at_builtin; refine wpList_app rfl rfl el_u32 rfl (HO4.out.alloc _) rfl (Seg.one w4 _ _) (by intro u hu; simp at hu; subst hu; rfl) (by simp only [maxLen]; omega) (by omega) (by simp; omega) ?_; intro X3 c3 w3 hown3 hu3 hfr3)
      go_roundw
      case rel =>
        refine ⟨n + 1, by omega, by go_num, X3, c3, rfl, ?_, (HU4.out.alloc _).then hu3 (fun b hb => (HFr.out b (by simp at hb; exact hb.symm)).imp (fun h => by simp [h]) id), fun g hg => ?_⟩
        · rw [ext1, List.map_append]
          exact hown3
        · rcases hfr3 g hg with h1 | h1
          · exact HFr.out g h1
          · right
            have := HU4.out.size
            simp at h1
            omega
      case measure => simp [intOf]; omega
    · obtain rfl : n = 64 := by omega
      rw [show ((16 + 64 : Nat) : Int) = 80 from rfl, show 16 + 64 = 80 from rfl] at *
      obtain ⟨xs, HX⟩ : ∃ xs, Hid (xs = ext1 ws 64) := ⟨_, rfl⟩
      have HL : Hid (xs.length = 80) := by rw [HX.out]; exact ext1_len ws HWL.out 64
      rw [← HX.out] at HOr
      have hSr := HS.out.upd HUr.out (fun _ => HSW.out)
      have c0 : wr.cell? ⟨bl S, ofs S, none⟩ = some (.int .u32 s0) := hSr.cell (i := 0) rfl
      have c1 : wr.cell? ⟨bl S, ofs S + 1, none⟩ = some (.int .u32 s1) := hSr.cell (i := 1) rfl
      have c2 : wr.cell? ⟨bl S, ofs S + 2, none⟩ = some (.int .u32 s2) := hSr.cell (i := 2) rfl
      have c3 : wr.cell? ⟨bl S, ofs S + 3, none⟩ = some (.int .u32 s3) := hSr.cell (i := 3) rfl
      have c4 : wr.cell? ⟨bl S, ofs S + 4, none⟩ = some (.int .u32 s4) := hSr.cell (i := 4) rfl
      have i0 := HS.out.indexI el_u32 sc .i64 0 0 rfl (by omega)
      have i1 := HS.out.indexI el_u32 sc .i64 1 1 rfl (by omega)
      have i2 := HS.out.indexI el_u32 sc .i64 2 2 rfl (by omega)
      have i3 := HS.out.indexI el_u32 sc .i64 3 3 rfl (by omega)
      have i4 := HS.out.indexI el_u32 sc .i64 4 4 rfl (by omega)
      rw [Nat.add_zero] at i0
      clear hSr
      go_wp2
      go_quiet (fail)
      go_wp2
      generalize hw2 : wr.drewN _ = w2
      have HO2 : Hid (Own w2 B 24 1 X 80 cc (xs.map (Value.int .u32))) := by rw [← hw2]; exact HOr.out.drewN _
      have HU2 : Hid (Upd [ob W] w w2) := by rw [← hw2]; exact HUr.out.drewN _
      clear hw2 HOr HUr c0 c1 c2 c3 c4
      go_loopw [6, 7, 8, 9, 10, 11] (fun a b c d e i wr => ∃ k : Nat, k ≤ 80 ∧ i = .int .i64 k ∧ a = .int .u32 (sha1Run xs k ⟨s0, s1, s2, s3, s4⟩).a ∧ b = .int .u32 (sha1Run xs k ⟨s0, s1, s2, s3, s4⟩).b ∧ c = .int .u32 (sha1Run xs k ⟨s0, s1, s2, s3, s4⟩).c ∧ d = .int .u32 (sha1Run xs k ⟨s0, s1, s2, s3, s4⟩).d ∧ e = .int .u32 (sha1Run xs k ⟨s0, s1, s2, s3, s4⟩).e ∧ ∃ q, wr = w2.drewN q) (fun _ _ _ _ _ i _ => 80 - (intOf i).toNat)
      case atStart => exact ⟨0, by omega, rfl, rfl, rfl, rfl, rfl, rfl, 0, rfl⟩
      case round =>
        obtain ⟨k, hk, rfl, rfl, rfl, rfl, rfl, rfl, q, rfl⟩ := hrel
        obtain ⟨⟨xa, xb, xc, xd, xe⟩, HQ⟩ : ∃ q : Q5, Hid (q = sha1Run xs k ⟨s0, s1, s2, s3, s4⟩) := ⟨_, rfl⟩
        rw [← HQ.out]
        by_cases hlt : k < 80
        · generalize hw3 : w2.drewN q = w3
          have HD : Hid (∀ n, w3.drewN n = w2.drewN (q + n)) := fun n => by rw [← hw3, World.drewN_drewN]
          have hint := Ints.ofOwn (HO2.out.drewN q)
          have cw : w3.cell? ⟨bl X, ofs X + k, none⟩ = some (.int .u32 (at0 xs k)) := by rw [← hw3]; exact hint.cell (at0_get (by rw [HL.out]; omega))
          have ik := hint.index el_u32 cc .i64 k (by omega)
          clear hw3 hint i0 i1 i2 i3 i4
          have HR := Lib.hid (show sha1Run xs (k + 1) ⟨s0, s1, s2, s3, s4⟩ = sha1Step xs k ⟨xa, xb, xc, xd, xe⟩ by rw [HQ.out]; rfl)
          by_cases h20 : k < 20
          · have HF : Hid (sha1Step xs k ⟨xa, xb, xc, xd, xe⟩ = ⟨add32 (add32 (add32 (add32 (rotl xa 5) (bits .or .u32 (bits .and .u32 xb xc) (bits .and .u32 (not32 xb) xd))) xe) 1518500249) (at0 xs k), xa, rotl xb 30, xc, xd⟩) := by show _ = _; simp [sha1Step, sha1F, sha1K, h20]
            clear hk
            go_wp2
            go_quiet ((go_at_call 28; exact quietL (left_any _ _ _ (by omega) (by omega))))
            generalize hw5 : w3.drewN _ = w5
            have HD5 : Hid (∃ q, w5 = w2.drewN q) := ⟨_, by rw [← hw5]; exact HD.out _⟩
            clear hw5 cw
            go_wp2_with fail
            refine (left_any _ _ _ (by omega) (by omega)).mono ?_
            rintro e w' ⟨rfl, rfl⟩
            go_wp2
            go_roundw
            case rel => exact ⟨k + 1, by omega, by go_num, by rw [HR.out, HF.out], by rw [HR.out, HF.out], by rw [HR.out, HF.out], by rw [HR.out, HF.out], by rw [HR.out, HF.out], HD5.out⟩
            case measure => simp [intOf]; omega
          · by_cases h40 : k < 40
            · have HF : Hid (sha1Step xs k ⟨xa, xb, xc, xd, xe⟩ = ⟨add32 (add32 (add32 (add32 (rotl xa 5) (bits .xor .u32 (bits .xor .u32 xb xc) xd)) xe) 1859775393) (at0 xs k), xa, rotl xb 30, xc, xd⟩) := by show _ = _; simp [sha1Step, sha1F, sha1K, h20, h40]
              clear hk
              go_wp2
              go_quiet ((go_at_call 28; exact quietL (left_any _ _ _ (by omega) (by omega))))
              generalize hw5 : w3.drewN _ = w5
              have HD5 : Hid (∃ q, w5 = w2.drewN q) := ⟨_, by rw [← hw5]; exact HD.out _⟩
              clear hw5 cw
              go_wp2_with fail
              refine (left_any _ _ _ (by omega) (by omega)).mono ?_
              rintro e w' ⟨rfl, rfl⟩
              go_wp2
              go_roundw
              case rel => exact ⟨k + 1, by omega, by go_num, by rw [HR.out, HF.out], by rw [HR.out, HF.out], by rw [HR.out, HF.out], by rw [HR.out, HF.out], by rw [HR.out, HF.out], HD5.out⟩
              case measure => simp [intOf]; omega
            · by_cases h60 : k < 60
              · have HF : Hid (sha1Step xs k ⟨xa, xb, xc, xd, xe⟩ = ⟨add32 (add32 (add32 (add32 (rotl xa 5) (bits .or .u32 (bits .or .u32 (bits .and .u32 xb xc) (bits .and .u32 xb xd)) (bits .and .u32 xc xd))) xe) 2400959708) (at0 xs k), xa, rotl xb 30, xc, xd⟩) := by show _ = _; simp [sha1Step, sha1F, sha1K, h20, h40, h60]
                clear hk
                go_wp2
                go_quiet ((go_at_call 28; exact quietL (left_any _ _ _ (by omega) (by omega))))
                generalize hw5 : w3.drewN _ = w5
                have HD5 : Hid (∃ q, w5 = w2.drewN q) := ⟨_, by rw [← hw5]; exact HD.out _⟩
                clear hw5 cw
                go_wp2_with fail
                refine (left_any _ _ _ (by omega) (by omega)).mono ?_
                rintro e w' ⟨rfl, rfl⟩
                go_wp2
                go_roundw
                case rel => exact ⟨k + 1, by omega, by go_num, by rw [HR.out, HF.out], by rw [HR.out, HF.out], by rw [HR.out, HF.out], by rw [HR.out, HF.out], by rw [HR.out, HF.out], HD5.out⟩
                case measure => simp [intOf]; omega
              · have HF : Hid (sha1Step xs k ⟨xa, xb, xc, xd, xe⟩ = ⟨add32 (add32 (add32 (add32 (rotl xa 5) (bits .xor .u32 (bits .xor .u32 xb xc) xd)) xe) 3395469782) (at0 xs k), xa, rotl xb 30, xc, xd⟩) := by show _ = _; simp [sha1Step, sha1F, sha1K, h20, h40, h60]
                clear hk
                go_wp2
                go_quiet ((go_at_call 28; exact quietL (left_any _ _ _ (by omega) (by omega))))
                generalize hw5 : w3.drewN _ = w5
                have HD5 : Hid (∃ q, w5 = w2.drewN q) := ⟨_, by rw [← hw5]; exact HD.out _⟩
                clear hw5 cw
                go_wp2_with fail
                refine (left_any _ _ _ (by omega) (by omega)).mono ?_
                rintro e w' ⟨rfl, rfl⟩
                go_wp2
                go_roundw
                case rel => exact ⟨k + 1, by omega, by go_num, by rw [HR.out, HF.out], by rw [HR.out, HF.out], by rw [HR.out, HF.out], by rw [HR.out, HF.out], by rw [HR.out, HF.out], HD5.out⟩
                case measure => simp [intOf]; omega
        · obtain rfl : k = 80 := by omega
          generalize hw3 : w2.drewN q = w3
          have hSr := HS.out.upd (HU2.out.drewN q) (fun _ => HSW.out)
          have HU3 : Hid (Upd [ob W] w w3) := by rw [← hw3]; exact HU2.out.drewN _
          rw [hw3] at hSr
          have c0 : w3.cell? ⟨bl S, ofs S, none⟩ = some (.int .u32 s0) := hSr.cell (i := 0) rfl
          have c1 : w3.cell? ⟨bl S, ofs S + 1, none⟩ = some (.int .u32 s1) := hSr.cell (i := 1) rfl
          have c2 : w3.cell? ⟨bl S, ofs S + 2, none⟩ = some (.int .u32 s2) := hSr.cell (i := 2) rfl
          have c3 : w3.cell? ⟨bl S, ofs S + 3, none⟩ = some (.int .u32 s3) := hSr.cell (i := 3) rfl
          have c4 : w3.cell? ⟨bl S, ofs S + 4, none⟩ = some (.int .u32 s4) := hSr.cell (i := 4) rfl
          clear hSr hw3
          go_wp2
          go_still_tail 25, (by kernel_rfl)
          change wpList _ _ _ _ _ w3.drew
          go_wp2
          go_ret
          rw [← HX.out, ← HQ.out]
          exact ⟨_, 5, rfl, Own.mk (n := 5) (c := 5) rfl (Nat.le_refl _) (by simp [maxLen]) rfl HU3.out.size (Blk.new w3 _ _).drew rfl rfl, (HU3.out.alloc _).drew⟩

end Go.Proofs.YthojhmkahjpflaaDoor
