/- The walk of slices.symMergeCmpFunc at huff.Lengths' closure, the case of two rows with more than one element each (printed by gen/symm.py). -/
import Derived.Test.YtndgijcjpkoooaaSortY
namespace Go.Proofs.Ytndgijcjpkoooaa
open Go.RowKit Go.Dray

set_option maxRecDepth 100000 in
set_option maxHeartbeats 4000000 in
theorem symMerge_lo {w0 w : World} {B : Nat} {A : Option Addr} {n c bx : Nat} {CA : Option Addr} {cn cc : Nat} {zs : List Int} {d : Nat → Int} (h : SS w0 w B A n c bx CA cn cc zs d) (N : Nat) (hn : n ≤ 1000)
    (ih : ∀ (w : World) (d : Nat → Int) (a m b : Nat), b - a < N → SS w0 w B A n c bx CA cn cc zs d → a < m → m < b → b ≤ n → Sd (keyOf zs) a m d → Sd (keyOf zs) m b d →
      Calls Try.prog 45 #[.slice A n c, .int .i64 a, .int .i64 m, .int .i64 b, .func (.func 39) #[] #[.pointer (some ⟨bx, 0, none⟩)]] w (SPost w0 B A n c bx CA cn cc zs fun d' => Mv n a b d d' ∧ Sd (keyOf zs) a b d'))
    (a m b mid : Nat) (hN : b - a ≤ N) (ham : a + 1 < m) (hmb : m + 1 < b) (hb : b ≤ n) (hs1 : Sd (keyOf zs) a m d) (hs2 : Sd (keyOf zs) m b d) (hm1 : 2 * mid ≤ a + b) (hm2 : a + b ≤ 2 * mid + 1) (hc : m ≤ mid) :
    Calls Try.prog 45 #[.slice A n c, .int .i64 a, .int .i64 m, .int .i64 b, .func (.func 39) #[] #[.pointer (some ⟨bx, 0, none⟩)]] w (SPost w0 B A n c bx CA cn cc zs fun d' => Mv n a b d d' ∧ Sd (keyOf zs) a b d') := by
  have HS := Lib.hid h
  have HS1 := Lib.hid hs1
  have HS2 := Lib.hid hs2
  have IH := Lib.hid ih
  clear h hs1 hs2 ih
  have hone0 : ((m : Int) - a == 1) = false := by simp; omega
  have hone : ((b : Int) - m == 1) = false := by simp; omega
  have HMZ : Hid (((a : Int) + b) / 2 = (mid : Int)) := by show _ = _; omega
  obtain ⟨lo, hlo⟩ : ∃ lo, lo = a := ⟨a, by omega⟩
  obtain ⟨hi, hhi⟩ : ∃ hi, hi = m := ⟨_, rfl⟩
  have hlo1 : a ≤ lo := by omega
  have hhi1 : hi ≤ m := by omega
  have hhi2 : hi ≤ mid := by omega
  have hlh : lo ≤ hi := by omega
  have hlob : mid + m ≤ b + lo := by omega
  have HLO : Hid (lo = a) := by show _ = _; omega
  have HHI : Hid (hi = m) := hhi
  go_enter Try.func45, Try.ntmps45
  go_wp2
  rw [HMZ.out]
  go_loopw [20, 21] (fun v u wr => ∃ s r : Nat, lo ≤ s ∧ s ≤ r ∧ r ≤ hi ∧ v = .int .i64 s ∧ u = .int .i64 r ∧ Hid (SS w0 wr B A n c bx CA cn cc zs d) ∧ Hid ((s = lo ∨ keyOf zs (d (s - 1)) ≤ keyOf zs (d (mid + m - s))) ∧ (r = hi ∨ keyOf zs (d (mid + m - 1 - r)) < keyOf zs (d r)))) (fun v u _ => (intOf u).toNat - (intOf v).toNat)
  case atStart => exact ⟨lo, hi, by omega, by omega, by omega, by rw [hlo], by rw [hhi], HS, ⟨Or.inl rfl, Or.inl rfl⟩⟩
  case round =>
    clear HS
    obtain ⟨s, r0, hls, hsr, hrh, rfl, rfl, HI, HM⟩ := hrel
    by_cases hlt : s < r0
    · obtain ⟨ct, hct⟩ : ∃ ct, ct = (s + r0) / 2 := ⟨_, rfl⟩
      have hct1 : s ≤ ct := by omega
      have hct2 : ct < r0 := by omega
      have HCZ : Hid (((s : Int) + r0) / 2 = (ct : Int)) := by show _ = _; omega
      obtain ⟨pc, hpc⟩ : ∃ pc, pc + ct + 1 = mid + m := ⟨mid + m - 1 - ct, by omega⟩
      have HPZ : Hid ((mid : Int) + m - 1 = (pc : Int) + ct) := by show _ = _; omega
      clear hct
      have c1 := HI.out.cell (i := pc) (by omega)
      have c2 := HI.out.cell (i := ct) (by omega)
      have i1 := HI.out.index (i := pc) (by omega) ((pc : Int)) (by omega)
      have i2 := HI.out.index (i := ct) (by omega) ((ct : Int)) (by omega)
      obtain ⟨x, hx⟩ : ∃ x, x = d (pc) := ⟨_, rfl⟩
      obtain ⟨y, hy⟩ : ∃ y, y = d (ct) := ⟨_, rfl⟩
      have HX := Lib.hid hx
      have HY := Lib.hid hy
      have g1 := HI.out.good (pc) (by omega)
      have g2 := HI.out.good (ct) (by omega)
      have hcmp := HI.out.cmp
      rw [← hx] at c1 g1
      rw [← hy] at c2 g2
      obtain ⟨p, hp⟩ : ∃ p, p = ofs A + (pc) := ⟨_, rfl⟩
      obtain ⟨q, hq⟩ : ∃ q, q = ofs A + (ct) := ⟨_, rfl⟩
      rw [← hp] at c1 i1
      rw [← hq] at c2 i2
      have hcl := fun q => closure_any (hcmp.drewN q) x y g1 g2
      obtain ⟨r, hr⟩ : ∃ r, r = cmpI (keyOf zs x) (keyOf zs y) := ⟨_, rfl⟩
      rw [← hr] at hcl
      clear hx hy hp hq hcmp
      by_cases hneg : r < 0
      · have hkey : keyOf zs x < keyOf zs y := by rw [hr, cmpI_neg] at hneg; omega
        have HK := Lib.hid hkey
        have hdr : decide (r < 0) = true := by simp [hneg]
        clear hkey hr hneg
        go_wp2
        rw [HCZ.out, HPZ.out]
        go_quiet (first | (go_at_call 39; refine quietD (hcl _)))
        rw [← HPZ.out]
        clear hcl c1 c2 i1 i2
        go_wp2
        go_roundw
        case rel =>
          have hk := HK.out
          rw [HX.out, HY.out, show pc = mid + m - 1 - ct from by omega] at hk
          exact ⟨s, ct, hls, by omega, by omega, rfl, by go_num, HI.out.drewN _, ⟨HM.out.1, Or.inr hk⟩⟩
        case measure => simp [intOf]; omega
      · have hkey : keyOf zs y ≤ keyOf zs x := by rw [hr, cmpI_neg] at hneg; omega
        have HK := Lib.hid hkey
        have hdr : decide (r < 0) = false := by simp; omega
        clear hkey hr hneg
        go_wp2
        rw [HCZ.out, HPZ.out]
        go_quiet (first | (go_at_call 39; refine quietD (hcl _)))
        rw [← HPZ.out]
        clear hcl c1 c2 i1 i2
        go_wp2
        go_roundw
        case rel =>
          have hk := HK.out
          rw [HX.out, HY.out, show pc = mid + m - (ct + 1) from by omega] at hk
          exact ⟨ct + 1, r0, by omega, by omega, hrh, by go_num, rfl, HI.out.drewN _, ⟨Or.inr (by simpa using hk), HM.out.2⟩⟩
        case measure => simp [intOf]; omega
    · obtain rfl : s = r0 := by omega
      obtain ⟨en, hen⟩ : ∃ en, en + s = mid + m := ⟨mid + m - s, by omega⟩
      have HENZ : Hid ((mid : Int) + m - s = (en : Int)) := by show _ = _; omega
      have HEN : Hid (mid + m - s = en) := by show _ = _; omega
      have HCUT : Hid (Cut (keyOf zs) a m b mid s d) := by
        refine ⟨by omega, by omega, by omega, by omega, ?_, ?_⟩
        · rcases HM.out.1 with h | h
          · have := HLO.out; omega
          · exact Or.inr (Or.inr h)
        · rcases HM.out.2 with h | h
          · have := HHI.out; omega
          · exact Or.inr (Or.inr h)
      have HP := Lib.hid (HCUT.out.parts HS1.out HS2.out)
      rw [HEN.out] at HP
      by_cases hA : s < m
      · by_cases hC : a < s
        · go_wp2_with fail
          rw [HENZ.out]
          refine (rotate_any HI.out s m en (by omega) (by omega) (by omega) hn _).mono ?_
          rintro e w1 ⟨d1, rfl, hs1, hd1, hm1⟩
          have HT1 := Lib.hid hs1
          have HD1 : Hid (d1 = rot s m en d) := hd1
          have HM1 := Lib.hid (hm1.mono (show a ≤ s by omega) (show en ≤ b by omega))
          clear hs1 hd1 hm1
          rw [← HD1.out] at HP
          go_wp2_with fail
          refine (IH.out _ d1 a s mid (by omega) HT1.out (by omega) (by omega) (by omega) HP.out.1 HP.out.2.1).mono ?_
          rintro e w2 ⟨d2, rfl, hs2, hm2, hsd2⟩
          have HT2 := Lib.hid hs2
          have HM2 := Lib.hid hm2
          have HD2 := Lib.hid hsd2
          clear hs2 hm2 hsd2
          go_wp2_with fail
          refine (IH.out _ d2 mid en b (by omega) HT2.out (by omega) (by omega) (by omega) (HP.out.2.2.1.mv HM2.out (Nat.le_refl _)) (HP.out.2.2.2.1.mv HM2.out (by omega))).mono ?_
          rintro e w3 ⟨d3, rfl, hs3, hm3, hsd3⟩
          have HT3 := Lib.hid hs3
          have HM3 := Lib.hid hm3
          have HD3 := Lib.hid hsd3
          clear hs3 hm3 hsd3
          go_wp2
          go_end0
          exact ⟨d3, rfl, HT3.out, sym_end HCUT.out HS1.out HS2.out (by omega) (by omega) (by rw [HEN.out]; exact HD1.out) HM1.out HM2.out HD2.out HM3.out HD3.out⟩
        · by_cases hD : en < b
          · go_wp2_with fail
            rw [HENZ.out]
            refine (rotate_any HI.out s m en (by omega) (by omega) (by omega) hn _).mono ?_
            rintro e w1 ⟨d1, rfl, hs1, hd1, hm1⟩
            have HT1 := Lib.hid hs1
            have HD1 : Hid (d1 = rot s m en d) := hd1
            have HM1 := Lib.hid (hm1.mono (show a ≤ s by omega) (show en ≤ b by omega))
            clear hs1 hd1 hm1
            rw [← HD1.out] at HP
            obtain ⟨d2, hd2⟩ : ∃ d2, d2 = d1 := ⟨_, rfl⟩
            have HM2 : Hid (Mv n a mid d1 d2) := by rw [hd2]; exact Mv.refl _ _ _ _
            have HD2 : Hid (Sd (keyOf zs) a mid d2) := by
              rw [hd2]
              rcases (show s = a ∨ s = mid by omega) with h | h
              · rw [h] at HP; exact HP.out.2.1
              · rw [h] at HP; exact HP.out.1
            have HT2 := HT1
            rw [← hd2] at HT2
            clear hd2
            go_wp2_with fail
            refine (IH.out _ d2 mid en b (by omega) HT2.out (by omega) (by omega) (by omega) (HP.out.2.2.1.mv HM2.out (Nat.le_refl _)) (HP.out.2.2.2.1.mv HM2.out (by omega))).mono ?_
            rintro e w3 ⟨d3, rfl, hs3, hm3, hsd3⟩
            have HT3 := Lib.hid hs3
            have HM3 := Lib.hid hm3
            have HD3 := Lib.hid hsd3
            clear hs3 hm3 hsd3
            go_wp2
            go_end0
            exact ⟨d3, rfl, HT3.out, sym_end HCUT.out HS1.out HS2.out (by omega) (by omega) (by rw [HEN.out]; exact HD1.out) HM1.out HM2.out HD2.out HM3.out HD3.out⟩
          · go_wp2_with fail
            rw [HENZ.out]
            refine (rotate_any HI.out s m en (by omega) (by omega) (by omega) hn _).mono ?_
            rintro e w1 ⟨d1, rfl, hs1, hd1, hm1⟩
            have HT1 := Lib.hid hs1
            have HD1 : Hid (d1 = rot s m en d) := hd1
            have HM1 := Lib.hid (hm1.mono (show a ≤ s by omega) (show en ≤ b by omega))
            clear hs1 hd1 hm1
            rw [← HD1.out] at HP
            obtain ⟨d2, hd2⟩ : ∃ d2, d2 = d1 := ⟨_, rfl⟩
            have HM2 : Hid (Mv n a mid d1 d2) := by rw [hd2]; exact Mv.refl _ _ _ _
            have HD2 : Hid (Sd (keyOf zs) a mid d2) := by
              rw [hd2]
              rcases (show s = a ∨ s = mid by omega) with h | h
              · rw [h] at HP; exact HP.out.2.1
              · rw [h] at HP; exact HP.out.1
            have HT2 := HT1
            rw [← hd2] at HT2
            clear hd2
            obtain ⟨d3, hd3⟩ : ∃ d3, d3 = d2 := ⟨_, rfl⟩
            have HM3 : Hid (Mv n mid b d2 d3) := by rw [hd3]; exact Mv.refl _ _ _ _
            have HD3 : Hid (Sd (keyOf zs) mid b d3) := by
              rw [hd3]
              rcases (show en = mid ∨ en = b by omega) with h | h
              · rw [h] at HP; exact HP.out.2.2.2.1.mv HM2.out (Nat.le_refl _)
              · rw [h] at HP; exact HP.out.2.2.1.mv HM2.out (Nat.le_refl _)
            have HT3 := HT2
            rw [← hd3] at HT3
            clear hd3
            go_wp2
            go_end0
            exact ⟨d3, rfl, HT3.out, sym_end HCUT.out HS1.out HS2.out (by omega) (by omega) (by rw [HEN.out]; exact HD1.out) HM1.out HM2.out HD2.out HM3.out HD3.out⟩
      · by_cases hB : s < mid
        · obtain ⟨d1, hd1⟩ : ∃ d1, d1 = d := ⟨_, rfl⟩
          have HD1 : Hid (d1 = rot s m en d) := by show _ = _; rw [rot_triv (by omega) (by omega) (by omega), hd1]
          have HM1 : Hid (Mv n a b d d1) := by rw [hd1]; exact Mv.refl _ _ _ _
          have HT1 := HI
          rw [← hd1] at HT1
          clear hd1
          rw [← HD1.out] at HP
          go_wp2_with fail
          refine (IH.out _ d1 a s mid (by omega) HT1.out (by omega) (by omega) (by omega) HP.out.1 HP.out.2.1).mono ?_
          rintro e w2 ⟨d2, rfl, hs2, hm2, hsd2⟩
          have HT2 := Lib.hid hs2
          have HM2 := Lib.hid hm2
          have HD2 := Lib.hid hsd2
          clear hs2 hm2 hsd2
          obtain ⟨d3, hd3⟩ : ∃ d3, d3 = d2 := ⟨_, rfl⟩
          have HM3 : Hid (Mv n mid b d2 d3) := by rw [hd3]; exact Mv.refl _ _ _ _
          have HD3 : Hid (Sd (keyOf zs) mid b d3) := by
            rw [hd3]
            rcases (show en = mid ∨ en = b by omega) with h | h
            · rw [h] at HP; exact HP.out.2.2.2.1.mv HM2.out (Nat.le_refl _)
            · rw [h] at HP; exact HP.out.2.2.1.mv HM2.out (Nat.le_refl _)
          have HT3 := HT2
          rw [← hd3] at HT3
          clear hd3
          go_wp2
          go_end0
          exact ⟨d3, rfl, HT3.out, sym_end HCUT.out HS1.out HS2.out (by omega) (by omega) (by rw [HEN.out]; exact HD1.out) HM1.out HM2.out HD2.out HM3.out HD3.out⟩
        · obtain ⟨d1, hd1⟩ : ∃ d1, d1 = d := ⟨_, rfl⟩
          have HD1 : Hid (d1 = rot s m en d) := by show _ = _; rw [rot_triv (by omega) (by omega) (by omega), hd1]
          have HM1 : Hid (Mv n a b d d1) := by rw [hd1]; exact Mv.refl _ _ _ _
          have HT1 := HI
          rw [← hd1] at HT1
          clear hd1
          rw [← HD1.out] at HP
          obtain ⟨d2, hd2⟩ : ∃ d2, d2 = d1 := ⟨_, rfl⟩
          have HM2 : Hid (Mv n a mid d1 d2) := by rw [hd2]; exact Mv.refl _ _ _ _
          have HD2 : Hid (Sd (keyOf zs) a mid d2) := by
            rw [hd2]
            rcases (show s = a ∨ s = mid by omega) with h | h
            · rw [h] at HP; exact HP.out.2.1
            · rw [h] at HP; exact HP.out.1
          have HT2 := HT1
          rw [← hd2] at HT2
          clear hd2
          obtain ⟨d3, hd3⟩ : ∃ d3, d3 = d2 := ⟨_, rfl⟩
          have HM3 : Hid (Mv n mid b d2 d3) := by rw [hd3]; exact Mv.refl _ _ _ _
          have HD3 : Hid (Sd (keyOf zs) mid b d3) := by
            rw [hd3]
            rcases (show en = mid ∨ en = b by omega) with h | h
            · rw [h] at HP; exact HP.out.2.2.2.1.mv HM2.out (Nat.le_refl _)
            · rw [h] at HP; exact HP.out.2.2.1.mv HM2.out (Nat.le_refl _)
          have HT3 := HT2
          rw [← hd3] at HT3
          clear hd3
          go_wp2
          go_end0
          exact ⟨d3, rfl, HT3.out, sym_end HCUT.out HS1.out HS2.out (by omega) (by omega) (by rw [HEN.out]; exact HD1.out) HM1.out HM2.out HD2.out HM3.out HD3.out⟩

end Go.Proofs.Ytndgijcjpkoooaa
