/- Merged by wip/tools/merge.py: GzT. -/
import Derived.Test.YtolcdlopgbgilaaDoorMc23

/-! Text GzT. -/
namespace Go.Proofs.YtolcdlopgbgilaaDoor
open Go.RowKit Go.Dray

set_option maxRecDepth 100000 in
set_option maxHeartbeats 4000000 in
theorem gzipTells_walk (A : Option Addr) (n c : Nat) (zs : List Int) (p q : Int) (w : World) (hin : InInts .u8 w A n c zs) (_ : (Lit.int .i64 p).wf = true) (_ : (Lit.int .i64 q).wf = true) (hT : Ords w) :
    Calls Tryd.prog 10 #[.slice A n c, .int .i64 p, .int .i64 q] w fun e w' => e = .returned (.bool true) ∧ Below w.heap.size w w' := by
  have HZ := Lib.hid (inBytes_bd hin)
  have HT := Lib.hid hT
  have HS := Lib.hid hin.1
  have hnc := hin.2.1
  have HL := hin.1.len
  clear hin hT
  by_cases hok : n ≤ 1000 ∧ 0 ≤ p ∧ p < n + 8 ∧ 0 ≤ q ∧ q ≤ 7
  · obtain ⟨hn, hp0, hp1, hq0, hq1⟩ := hok
    obtain ⟨k, rfl⟩ := Int.eq_ofNat_of_zero_le hp0
    obtain ⟨b, rfl⟩ := Int.eq_ofNat_of_zero_le hq0
    have hk : k < n + 8 := by omega
    have hb : b ≤ 7 := by omega
    have d1 : decide ((1000 : Int) < n) = false := by simp; omega
    have d2 : decide ((k : Int) < 0) = false := by simp
    have d3 : decide ((n : Int) + 8 ≤ k) = false := by simp; omega
    have d4 : decide ((b : Int) < 0) = false := by simp
    have d5 : decide ((7 : Int) < b) = false := by simp; omega
    clear hp0 hp1 hq0 hq1
    go_enter Tryd.func10, Tryd.ntmps10
    go_wp2_with (first | (go_at_call 17; refine (awake6_any _ HT.out).mono ?_; rintro e w1 ⟨rfl, hu1⟩) | fail)
    have HU1 := Lib.hid hu1
    have HT1 := Lib.hid (HT.out.upd hu1)
    have HS1 := Lib.hid (HS.out.upd hu1 (by simp))
    clear hu1 d1 d2 d3 d4 d5
    refine (pack_ok ⟨#[]⟩ 0 A n c zs 0 w1 HS1.out HZ.out hnc (by omega) (Or.inl rfl) HT1.out.2 (by omega) (by omega) (by decide +kernel) (Nat.zero_le _)).mono ?_
    rintro e w2 ⟨X, N, xc, out, rfl, hN, hown, hd, -, hu2⟩
    have hl : zs.length ≤ 1000 := by rw [HL.out]; exact hn
    obtain rfl := stored_out hd (by omega)
    obtain ⟨B, hB⟩ : ∃ B, B = gzBytes ⟨#[]⟩ 0 (stOne 1 zs) zs := ⟨_, rfl⟩
    have hBl : N = n + 23 := by rw [hN, stored_len, HL.out]
    rw [← hB] at hown
    have HBB := Lib.hid hB
    have HBD : Hid (∀ z ∈ B, 0 ≤ z ∧ z ≤ 255) := by
      show ∀ z ∈ B, _
      rw [hB]
      exact gzBytes_bd (stOne_bd (Or.inr rfl) (by omega) HZ.out)
    have HU2 := Lib.hid (HU1.out.trans hu2)
    have HT2 := Lib.hid (HT1.out.upd hu2)
    have HO2 := Lib.hid hown
    have hxc := hown.le
    have hNn : N ≤ n + 23 := by omega
    have hkN : 15 + k < N := by omega
    have dN : ((N : Int) != 15 + (n : Int) + 8) = false := by simp; omega
    obtain ⟨x, HX, hcell⟩ := (Ints.ofOwn hown).int hkN
    have hix := (Ints.ofOwn hown).indexI el_byte xc .i64 (15 + (k : Int)) (15 + k) (by omega) hkN
    have hfz := hown.frozen (by omega) (15 + k)
    obtain ⟨hx0, hx1⟩ := HBD.out x (List.mem_of_getElem? HX.out)
    obtain ⟨y, hy, hy0, hy1, hne⟩ := flip_byte x b hx0 hx1 hb
    have HO3 := Lib.hid (hown.set (k := 15 + k) (by omega) (.int .u8 y))
    rw [← List.map_set] at HO3
    have HX2 : Hid (w1.heap.size ≤ bl X) := (hown.base (hown.obl (by omega))).1
    have HU3 : Hid (Upd [] w (w2.setCell ⟨bl X, ofs X + (15 + k), none⟩ (.int .u8 y))) := HU2.out.put (by have h1 := HU1.out.size; have h2 := HX2.out; omega) _
    have HT3 : Hid (Ords (w2.setCell ⟨bl X, ofs X + (15 + k), none⟩ (.int .u8 y))) := by
      have h1 := HT1.out.1.low
      have h2 := HT1.out.2.low
      have h3 := HX2.out
      have hv : Upd [some (bl X)] w2 (w2.setCell ⟨bl X, ofs X + (15 + k), none⟩ (.int .u8 y)) := (Upd.refl _ _).putIn (by simp) _
      exact ⟨fun i hi => hv.cell (HT2.out.1 i hi) (by simp; omega), HT2.out.2.upd hv (by simp; omega)⟩
    have HME : Hid (memOf (8 * n + 3400) (B.set (15 + k) y) 2000 = .bad 5) := by
      have h := HX.out
      show _ = _
      rw [hB] at h ⊢
      exact stored_tells HZ.out hl h hy0 hy1 hne (by omega)
    have HUN : Hid (unpackAt (8 * n + 3400) (B.set (15 + k) y) (N + 1) 0 2000 [] = .bad 0 5) := by
      show _ = _
      rw [unpackAt_succ, List.drop_zero, HME.out]
    have hsh : IntKind.u8.wrap (2 ^ b) = 2 ^ b := by
      have hc : b = 0 ∨ b = 1 ∨ b = 2 ∨ b = 3 ∨ b = 4 ∨ b = 5 ∨ b = 6 ∨ b = 7 := by omega
      rcases hc with rfl | rfl | rfl | rfl | rfl | rfl | rfl | rfl <;> decide
    have hsh2 : (2 : Int) ^ b % 256 = 2 ^ b := by
      rw [IntKind.wrap_u8'] at hsh
      exact hsh
    clear hB hN hBl hown hd hu2 HO2 HU2 HT2 HS1 HME hne
    go_upto_region 9 with (fail)
    generalize World.setCell _ _ _ = w3 at HO3 HU3 HT3 ⊢
    clear hix hcell hfz hsh hsh2 hy dN
    go_wp2_with fail
    refine (unpack_any X N xc (B.set (15 + k) y) 2000 (8 * n + 3400) w3 (Ints.ofOwn HO3.out) (fun z hz => by
      rcases List.mem_or_eq_of_mem_set hz with h | h
      · exact HBD.out z h
      · omega) hxc (by omega) (by omega) (by omega) HT3.out.1).mono ?_
    rw [HUN.out]
    rintro e w4 ⟨-, rfl, hu4⟩
    have HU4 := Lib.hid (HU3.out.trans hu4)
    clear hu4
    go_upto_region 10 with (fail)
    have hv5 : Upd [] w4 (w4.alloc (.cells #[.string ⟨#[]⟩, .int .i64 0, .int .i64 5] 44)) := (Upd.refl _ _).alloc _
    have HB5 : Hid (Blk (w4.alloc (.cells #[.string ⟨#[]⟩, .int .i64 0, .int .i64 5] 44)) w4.heap.size 44 #[.string ⟨#[]⟩, .int .i64 0, .int .i64 5]) := Blk.new _ _ _
    have HU5 := Lib.hid (HU4.out.trans hv5)
    obtain ⟨g, hg⟩ : ∃ g, g = w4.heap.size := ⟨_, rfl⟩
    first | rw [← hg] at HB5 ⊢ | skip
    generalize w4.alloc _ = w5 at hv5 HB5 HU5 ⊢
    clear hg hv5
    have k0 := HB5.out.cell 0
    have k1 := HB5.out.cell 1
    have k2 := HB5.out.cell 2
    simp at k0 k1 k2
    go_wp2
    go_ret
    exact ⟨rfl, HU5.out.below (Nat.le_refl _) (by simp)⟩
  · by_cases b0 : 1000 < n
    · have e0 : decide ((1000 : Int) < n) = true := by simp; omega
      clear hok
      go_enter Tryd.func10, Tryd.ntmps10
      go_wp2_with (go_at_call 17; refine (awake6_any _ HT.out).mono ?_; rintro e w1 ⟨rfl, hu1⟩)
      go_ret
      exact ⟨rfl, hu1.below (Nat.le_refl _) (by simp)⟩
    · have e0 : decide ((1000 : Int) < n) = false := by simp; omega
      by_cases b1 : q < 0
      · have e1 : decide (q < 0) = true := by simp; omega
        clear hok
        go_enter Tryd.func10, Tryd.ntmps10
        go_wp2_with (go_at_call 17; refine (awake6_any _ HT.out).mono ?_; rintro e w1 ⟨rfl, hu1⟩)
        go_ret
        exact ⟨rfl, hu1.below (Nat.le_refl _) (by simp)⟩
      · have e1 : decide (q < 0) = false := by simp; omega
        by_cases b2 : 7 < q
        · have e2 : decide (7 < q) = true := by simp; omega
          clear hok
          go_enter Tryd.func10, Tryd.ntmps10
          go_wp2_with (go_at_call 17; refine (awake6_any _ HT.out).mono ?_; rintro e w1 ⟨rfl, hu1⟩)
          go_ret
          exact ⟨rfl, hu1.below (Nat.le_refl _) (by simp)⟩
        · have e2 : decide (7 < q) = false := by simp; omega
          by_cases b3 : p < 0
          · have e3 : decide (p < 0) = true := by simp; omega
            clear hok
            go_enter Tryd.func10, Tryd.ntmps10
            go_wp2_with (go_at_call 17; refine (awake6_any _ HT.out).mono ?_; rintro e w1 ⟨rfl, hu1⟩)
            go_ret
            exact ⟨rfl, hu1.below (Nat.le_refl _) (by simp)⟩
          · have e3 : decide (p < 0) = false := by simp; omega
            have e4 : decide ((n : Int) + 8 ≤ p) = true := by simp; omega
            clear hok
            go_enter Tryd.func10, Tryd.ntmps10
            go_wp2_with (go_at_call 17; refine (awake6_any _ HT.out).mono ?_; rintro e w1 ⟨rfl, hu1⟩)
            go_ret
            exact ⟨rfl, hu1.below (Nat.le_refl _) (by simp)⟩

end Go.Proofs.YtolcdlopgbgilaaDoor
