/- Merged by wip/tools/merge.py: SortZ SortZb SortZc SortS LenL. -/
import Derived.BigRegion
import Derived.Test.YtolcdlopgbgilaaGreatDoorMz01
import Derived.Test.YtolcdlopgbgilaaGreatDoorMz09
import Derived.Test.YtolcdlopgbgilaaGreatDoorMz10

/-! Text SortZ. -/
namespace Go.Proofs.YtolcdlopgbgilaaGreatDoor
open Go.RowKit Go.Dray

set_option maxRecDepth 100000 in
set_option maxHeartbeats 4000000 in
theorem symMerge_hi {w0 w : World} {B : Nat} {A : Option Addr} {n c bx : Nat} {CA : Option Addr} {cn cc : Nat} {zs : List Int} {d : Nat → Int} (h : SS w0 w B A n c bx CA cn cc zs d) (N : Nat) (hn : n ≤ 1000)
    (ih : ∀ (w : World) (d : Nat → Int) (a m b : Nat), b - a < N → SS w0 w B A n c bx CA cn cc zs d → a < m → m < b → b ≤ n → Sd (key2 zs) a m d → Sd (key2 zs) m b d → Lo a m b d →
      Calls Tryz.prog 122 #[.slice A n c, .int .i64 a, .int .i64 m, .int .i64 b, .func (.func 92) #[] #[.pointer (some ⟨bx, 0, none⟩)]] w (SPost w0 B A n c bx CA cn cc zs fun d' => Mv n a b d d' ∧ Sd (key2 zs) a b d'))
    (a m b mid : Nat) (hN : b - a ≤ N) (ham : a + 1 < m) (hmb : m + 1 < b) (hb : b ≤ n) (hs1 : Sd (key2 zs) a m d) (hs2 : Sd (key2 zs) m b d) (hlo : Lo a m b d) (hm1 : 2 * mid ≤ a + b) (hm2 : a + b ≤ 2 * mid + 1) (hc : mid < m) :
    Calls Tryz.prog 122 #[.slice A n c, .int .i64 a, .int .i64 m, .int .i64 b, .func (.func 92) #[] #[.pointer (some ⟨bx, 0, none⟩)]] w (SPost w0 B A n c bx CA cn cc zs fun d' => Mv n a b d d' ∧ Sd (key2 zs) a b d') := by
  have HS := Lib.hid h
  have HS1 := Lib.hid hs1
  have HS2 := Lib.hid hs2
  have IH := Lib.hid ih
  have HLo := Lib.hid hlo
  clear h hs1 hs2 ih hlo
  have hone0 : ((m : Int) - a == 1) = false := by simp; omega
  have hone : ((b : Int) - m == 1) = false := by simp; omega
  have HMZ : Hid (((a : Int) + b) / 2 = (mid : Int)) := by show _ = _; omega
  obtain ⟨lo, hlo⟩ : ∃ lo, lo + b = mid + m := ⟨mid + m - b, by omega⟩
  obtain ⟨hi, hhi⟩ : ∃ hi, hi = mid := ⟨_, rfl⟩
  have hlo1 : a ≤ lo := by omega
  have hhi1 : hi ≤ m := by omega
  have hhi2 : hi ≤ mid := by omega
  have hlh : lo ≤ hi := by omega
  have hlob : mid + m ≤ b + lo := by omega
  have HLO : Hid (mid + m - lo = b) := by show _ = _; omega
  have HHI : Hid (hi = mid) := hhi
  go_enter Tryz.func122, Tryz.ntmps122
  go_wp2
  rw [HMZ.out]
  go_loopw [20, 21] (fun v u wr => ∃ s r : Nat, lo ≤ s ∧ s ≤ r ∧ r ≤ hi ∧ v = .int .i64 s ∧ u = .int .i64 r ∧ Hid (SS w0 wr B A n c bx CA cn cc zs d) ∧ Hid ((s = lo ∨ key2 zs (d (s - 1)) ≤ key2 zs (d (mid + m - s))) ∧ (r = hi ∨ key2 zs (d (mid + m - 1 - r)) < key2 zs (d r)))) (fun v u _ => (intOf u).toNat - (intOf v).toNat)
  case atStart => exact ⟨lo, hi, by omega, by omega, by omega, by congr 1; omega, by rw [hhi], HS, ⟨Or.inl rfl, Or.inl rfl⟩⟩
  case round =>
    clear HS
    obtain ⟨s, r0, hls, hsr, hrh, rfl, rfl, HI, HM⟩ := hrel
    by_cases hlt : s < r0
    · obtain ⟨ct, hct⟩ : ∃ ct, ct = (s + r0) / 2 := ⟨_, rfl⟩
      have hct1 : s ≤ ct := by omega
      have hct2 : ct < r0 := by omega
      have HCZ : Hid (((s : Int) + r0) / 2 = (ct : Int)) := by show _ = _; omega
      obtain ⟨pc, hpc⟩ : ∃ pc, pc + ct + 1 = mid + m := ⟨mid + m - 1 - ct, by omega⟩
      have HPZ : Hid ((mid : Int) + m - 1 = (pc : Int) + ct) := by show _ = _; omega
      clear hct
      have c1 := HI.out.cell (i := pc) (by omega)
      have c2 := HI.out.cell (i := ct) (by omega)
      have i1 := HI.out.index (i := pc) (by omega) ((pc : Int)) (by omega)
      have i2 := HI.out.index (i := ct) (by omega) ((ct : Int)) (by omega)
      obtain ⟨x, hx⟩ : ∃ x, x = d (pc) := ⟨_, rfl⟩
      obtain ⟨y, hy⟩ : ∃ y, y = d (ct) := ⟨_, rfl⟩
      have HX := Lib.hid hx
      have HY := Lib.hid hy
      have g1 := HI.out.good (pc) (by omega)
      have g2 := HI.out.good (ct) (by omega)
      have hcmp := HI.out.cmp
      have hfew := HI.out.few
      have HYX : Hid (y < x) := by
        have h1 := HLo.out (ct) (pc) (by omega) (by omega) (by omega) (by omega)
        rw [← hx, ← hy] at h1
        exact h1
      rw [← hx] at c1 g1
      rw [← hy] at c2 g2
      obtain ⟨p, hp⟩ : ∃ p, p = ofs A + (pc) := ⟨_, rfl⟩
      obtain ⟨q, hq⟩ : ∃ q, q = ofs A + (ct) := ⟨_, rfl⟩
      rw [← hp] at c1 i1
      rw [← hq] at c2 i2
      have hcl := fun q => closure_any (hcmp.drewN q) x y g1 g2
      obtain ⟨r, hr⟩ : ∃ r, r = cmpI (keyOf zs x) (keyOf zs y) := ⟨_, rfl⟩
      rw [← hr] at hcl
      clear hx hy hp hq hcmp
      by_cases hneg : r < 0
      · have hkey : keyOf zs x < keyOf zs y := by rw [hr, cmpI_neg] at hneg; omega
        have HK : Hid (key2 zs x < key2 zs y) := key2_lt hkey (by omega) (by omega)
        have hdr : decide (r < 0) = true := by simp [hneg]
        clear hkey hr hneg
        go_wp2
        rw [HCZ.out, HPZ.out]
        go_quiet (first | (go_at_call 92; refine quietD (hcl _)))
        rw [← HPZ.out]
        clear hcl c1 c2 i1 i2
        go_wp2
        go_roundw
        case rel =>
          have hk := HK.out
          rw [HX.out, HY.out, show pc = mid + m - 1 - ct from by omega] at hk
          exact ⟨s, ct, hls, by omega, by omega, rfl, by go_num, HI.out.drewN _, ⟨HM.out.1, Or.inr hk⟩⟩
        case measure => simp [intOf]; omega
      · have hkey : keyOf zs y ≤ keyOf zs x := by rw [hr, cmpI_neg] at hneg; omega
        have HK : Hid (key2 zs y ≤ key2 zs x) := key2_le hkey HYX.out
        have hdr : decide (r < 0) = false := by simp; omega
        clear hkey hr hneg
        go_wp2
        rw [HCZ.out, HPZ.out]
        go_quiet (first | (go_at_call 92; refine quietD (hcl _)))
        rw [← HPZ.out]
        clear hcl c1 c2 i1 i2
        go_wp2
        go_roundw
        case rel =>
          have hk := HK.out
          rw [HX.out, HY.out, show pc = mid + m - (ct + 1) from by omega] at hk
          exact ⟨ct + 1, r0, by omega, by omega, hrh, by go_num, rfl, HI.out.drewN _, ⟨Or.inr (by simpa using hk), HM.out.2⟩⟩
        case measure => simp [intOf]; omega
    · obtain rfl : s = r0 := by omega
      obtain ⟨en, hen⟩ : ∃ en, en + s = mid + m := ⟨mid + m - s, by omega⟩
      have HENZ : Hid ((mid : Int) + m - s = (en : Int)) := by show _ = _; omega
      have HEN : Hid (mid + m - s = en) := by show _ = _; omega
      have HCUT : Hid (Cut (key2 zs) a m b mid s d) := by
        refine ⟨by omega, by omega, by omega, by omega, ?_, ?_⟩
        · rcases HM.out.1 with h | h
          · have := HLO.out; omega
          · exact Or.inr (Or.inr h)
        · rcases HM.out.2 with h | h
          · have := HHI.out; omega
          · exact Or.inr (Or.inr h)
      have HP := Lib.hid (HCUT.out.parts HS1.out HS2.out)
      have HQ := Lib.hid (HCUT.out.los HLo.out)
      rw [HEN.out] at HP HQ
      by_cases hB : s < mid
      · by_cases hC : a < s
        · by_cases hD : en < b
          · go_wp2_with fail
            rw [HENZ.out]
            refine (rotate_any HI.out s m en (by omega) (by omega) (by omega) hn _).mono ?_
            rintro e w1 ⟨d1, rfl, hs1, hd1, hm1⟩
            have HT1 := Lib.hid hs1
            have HD1 : Hid (d1 = rot s m en d) := hd1
            have HM1 := Lib.hid (hm1.mono (show a ≤ s by omega) (show en ≤ b by omega))
            clear hs1 hd1 hm1
            rw [← HD1.out] at HP HQ
            go_wp2_with fail
            refine (IH.out _ d1 a s mid (by omega) HT1.out (by omega) (by omega) (by omega) HP.out.1 HP.out.2.1 HQ.out.1).mono ?_
            rintro e w2 ⟨d2, rfl, hs2, hm2, hsd2⟩
            have HT2 := Lib.hid hs2
            have HM2 := Lib.hid hm2
            have HD2 := Lib.hid hsd2
            clear hs2 hm2 hsd2
            go_wp2_with fail
            refine (IH.out _ d2 mid en b (by omega) HT2.out (by omega) (by omega) (by omega) (HP.out.2.2.1.mv HM2.out (Nat.le_refl _)) (HP.out.2.2.2.1.mv HM2.out (by omega)) (HQ.out.2.mv HM2.out (Nat.le_refl _))).mono ?_
            rintro e w3 ⟨d3, rfl, hs3, hm3, hsd3⟩
            have HT3 := Lib.hid hs3
            have HM3 := Lib.hid hm3
            have HD3 := Lib.hid hsd3
            clear hs3 hm3 hsd3
            go_wp2
            go_end0
            exact ⟨d3, rfl, HT3.out, sym_end HCUT.out HS1.out HS2.out (by omega) (by omega) (by rw [HEN.out]; exact HD1.out) HM1.out HM2.out HD2.out HM3.out HD3.out⟩
          · go_wp2_with fail
            rw [HENZ.out]
            refine (rotate_any HI.out s m en (by omega) (by omega) (by omega) hn _).mono ?_
            rintro e w1 ⟨d1, rfl, hs1, hd1, hm1⟩
            have HT1 := Lib.hid hs1
            have HD1 : Hid (d1 = rot s m en d) := hd1
            have HM1 := Lib.hid (hm1.mono (show a ≤ s by omega) (show en ≤ b by omega))
            clear hs1 hd1 hm1
            rw [← HD1.out] at HP HQ
            go_wp2_with fail
            refine (IH.out _ d1 a s mid (by omega) HT1.out (by omega) (by omega) (by omega) HP.out.1 HP.out.2.1 HQ.out.1).mono ?_
            rintro e w2 ⟨d2, rfl, hs2, hm2, hsd2⟩
            have HT2 := Lib.hid hs2
            have HM2 := Lib.hid hm2
            have HD2 := Lib.hid hsd2
            clear hs2 hm2 hsd2
            obtain ⟨d3, hd3⟩ : ∃ d3, d3 = d2 := ⟨_, rfl⟩
            have HM3 : Hid (Mv n mid b d2 d3) := by rw [hd3]; exact Mv.refl _ _ _ _
            have HD3 : Hid (Sd (key2 zs) mid b d3) := by
              rw [hd3]
              rcases (show en = mid ∨ en = b by omega) with h | h
              · rw [h] at HP; exact HP.out.2.2.2.1.mv HM2.out (Nat.le_refl _)
              · rw [h] at HP; exact HP.out.2.2.1.mv HM2.out (Nat.le_refl _)
            have HT3 := HT2
            rw [← hd3] at HT3
            clear hd3
            go_wp2
            go_end0
            exact ⟨d3, rfl, HT3.out, sym_end HCUT.out HS1.out HS2.out (by omega) (by omega) (by rw [HEN.out]; exact HD1.out) HM1.out HM2.out HD2.out HM3.out HD3.out⟩
        · go_wp2_with fail
          rw [HENZ.out]
          refine (rotate_any HI.out s m en (by omega) (by omega) (by omega) hn _).mono ?_
          rintro e w1 ⟨d1, rfl, hs1, hd1, hm1⟩
          have HT1 := Lib.hid hs1
          have HD1 : Hid (d1 = rot s m en d) := hd1
          have HM1 := Lib.hid (hm1.mono (show a ≤ s by omega) (show en ≤ b by omega))
          clear hs1 hd1 hm1
          rw [← HD1.out] at HP HQ
          obtain ⟨d2, hd2⟩ : ∃ d2, d2 = d1 := ⟨_, rfl⟩
          have HM2 : Hid (Mv n a mid d1 d2) := by rw [hd2]; exact Mv.refl _ _ _ _
          have HD2 : Hid (Sd (key2 zs) a mid d2) := by
            rw [hd2]
            rcases (show s = a ∨ s = mid by omega) with h | h
            · rw [h] at HP; exact HP.out.2.1
            · rw [h] at HP; exact HP.out.1
          have HT2 := HT1
          rw [← hd2] at HT2
          clear hd2
          obtain ⟨d3, hd3⟩ : ∃ d3, d3 = d2 := ⟨_, rfl⟩
          have HM3 : Hid (Mv n mid b d2 d3) := by rw [hd3]; exact Mv.refl _ _ _ _
          have HD3 : Hid (Sd (key2 zs) mid b d3) := by
            rw [hd3]
            rcases (show en = mid ∨ en = b by omega) with h | h
            · rw [h] at HP; exact HP.out.2.2.2.1.mv HM2.out (Nat.le_refl _)
            · rw [h] at HP; exact HP.out.2.2.1.mv HM2.out (Nat.le_refl _)
          have HT3 := HT2
          rw [← hd3] at HT3
          clear hd3
          go_wp2
          go_end0
          exact ⟨d3, rfl, HT3.out, sym_end HCUT.out HS1.out HS2.out (by omega) (by omega) (by rw [HEN.out]; exact HD1.out) HM1.out HM2.out HD2.out HM3.out HD3.out⟩
      · obtain ⟨d1, hd1⟩ : ∃ d1, d1 = d := ⟨_, rfl⟩
        have HD1 : Hid (d1 = rot s m en d) := by show _ = _; rw [rot_triv (by omega) (by omega) (by omega), hd1]
        have HM1 : Hid (Mv n a b d d1) := by rw [hd1]; exact Mv.refl _ _ _ _
        have HT1 := HI
        rw [← hd1] at HT1
        clear hd1
        rw [← HD1.out] at HP HQ
        obtain ⟨d2, hd2⟩ : ∃ d2, d2 = d1 := ⟨_, rfl⟩
        have HM2 : Hid (Mv n a mid d1 d2) := by rw [hd2]; exact Mv.refl _ _ _ _
        have HD2 : Hid (Sd (key2 zs) a mid d2) := by
          rw [hd2]
          rcases (show s = a ∨ s = mid by omega) with h | h
          · rw [h] at HP; exact HP.out.2.1
          · rw [h] at HP; exact HP.out.1
        have HT2 := HT1
        rw [← hd2] at HT2
        clear hd2
        go_wp2_with fail
        rw [HENZ.out]
        refine (IH.out _ d2 mid en b (by omega) HT2.out (by omega) (by omega) (by omega) (HP.out.2.2.1.mv HM2.out (Nat.le_refl _)) (HP.out.2.2.2.1.mv HM2.out (by omega)) (HQ.out.2.mv HM2.out (Nat.le_refl _))).mono ?_
        rintro e w3 ⟨d3, rfl, hs3, hm3, hsd3⟩
        have HT3 := Lib.hid hs3
        have HM3 := Lib.hid hm3
        have HD3 := Lib.hid hsd3
        clear hs3 hm3 hsd3
        go_wp2
        go_end0
        exact ⟨d3, rfl, HT3.out, sym_end HCUT.out HS1.out HS2.out (by omega) (by omega) (by rw [HEN.out]; exact HD1.out) HM1.out HM2.out HD2.out HM3.out HD3.out⟩

end Go.Proofs.YtolcdlopgbgilaaGreatDoor

/-! Text SortZb. -/
namespace Go.Proofs.YtolcdlopgbgilaaGreatDoor
open Go.RowKit Go.Dray

set_option maxRecDepth 100000 in
set_option maxHeartbeats 4000000 in
theorem symMerge_lo {w0 w : World} {B : Nat} {A : Option Addr} {n c bx : Nat} {CA : Option Addr} {cn cc : Nat} {zs : List Int} {d : Nat → Int} (h : SS w0 w B A n c bx CA cn cc zs d) (N : Nat) (hn : n ≤ 1000)
    (ih : ∀ (w : World) (d : Nat → Int) (a m b : Nat), b - a < N → SS w0 w B A n c bx CA cn cc zs d → a < m → m < b → b ≤ n → Sd (key2 zs) a m d → Sd (key2 zs) m b d → Lo a m b d →
      Calls Tryz.prog 122 #[.slice A n c, .int .i64 a, .int .i64 m, .int .i64 b, .func (.func 92) #[] #[.pointer (some ⟨bx, 0, none⟩)]] w (SPost w0 B A n c bx CA cn cc zs fun d' => Mv n a b d d' ∧ Sd (key2 zs) a b d'))
    (a m b mid : Nat) (hN : b - a ≤ N) (ham : a + 1 < m) (hmb : m + 1 < b) (hb : b ≤ n) (hs1 : Sd (key2 zs) a m d) (hs2 : Sd (key2 zs) m b d) (hlo : Lo a m b d) (hm1 : 2 * mid ≤ a + b) (hm2 : a + b ≤ 2 * mid + 1) (hc : m ≤ mid) :
    Calls Tryz.prog 122 #[.slice A n c, .int .i64 a, .int .i64 m, .int .i64 b, .func (.func 92) #[] #[.pointer (some ⟨bx, 0, none⟩)]] w (SPost w0 B A n c bx CA cn cc zs fun d' => Mv n a b d d' ∧ Sd (key2 zs) a b d') := by
  have HS := Lib.hid h
  have HS1 := Lib.hid hs1
  have HS2 := Lib.hid hs2
  have IH := Lib.hid ih
  have HLo := Lib.hid hlo
  clear h hs1 hs2 ih hlo
  have hone0 : ((m : Int) - a == 1) = false := by simp; omega
  have hone : ((b : Int) - m == 1) = false := by simp; omega
  have HMZ : Hid (((a : Int) + b) / 2 = (mid : Int)) := by show _ = _; omega
  obtain ⟨lo, hlo⟩ : ∃ lo, lo = a := ⟨a, by omega⟩
  obtain ⟨hi, hhi⟩ : ∃ hi, hi = m := ⟨_, rfl⟩
  have hlo1 : a ≤ lo := by omega
  have hhi1 : hi ≤ m := by omega
  have hhi2 : hi ≤ mid := by omega
  have hlh : lo ≤ hi := by omega
  have hlob : mid + m ≤ b + lo := by omega
  have HLO : Hid (lo = a) := by show _ = _; omega
  have HHI : Hid (hi = m) := hhi
  go_enter Tryz.func122, Tryz.ntmps122
  go_wp2
  rw [HMZ.out]
  go_loopw [20, 21] (fun v u wr => ∃ s r : Nat, lo ≤ s ∧ s ≤ r ∧ r ≤ hi ∧ v = .int .i64 s ∧ u = .int .i64 r ∧ Hid (SS w0 wr B A n c bx CA cn cc zs d) ∧ Hid ((s = lo ∨ key2 zs (d (s - 1)) ≤ key2 zs (d (mid + m - s))) ∧ (r = hi ∨ key2 zs (d (mid + m - 1 - r)) < key2 zs (d r)))) (fun v u _ => (intOf u).toNat - (intOf v).toNat)
  case atStart => exact ⟨lo, hi, by omega, by omega, by omega, by rw [hlo], by rw [hhi], HS, ⟨Or.inl rfl, Or.inl rfl⟩⟩
  case round =>
    clear HS
    obtain ⟨s, r0, hls, hsr, hrh, rfl, rfl, HI, HM⟩ := hrel
    by_cases hlt : s < r0
    · obtain ⟨ct, hct⟩ : ∃ ct, ct = (s + r0) / 2 := ⟨_, rfl⟩
      have hct1 : s ≤ ct := by omega
      have hct2 : ct < r0 := by omega
      have HCZ : Hid (((s : Int) + r0) / 2 = (ct : Int)) := by show _ = _; omega
      obtain ⟨pc, hpc⟩ : ∃ pc, pc + ct + 1 = mid + m := ⟨mid + m - 1 - ct, by omega⟩
      have HPZ : Hid ((mid : Int) + m - 1 = (pc : Int) + ct) := by show _ = _; omega
      clear hct
      have c1 := HI.out.cell (i := pc) (by omega)
      have c2 := HI.out.cell (i := ct) (by omega)
      have i1 := HI.out.index (i := pc) (by omega) ((pc : Int)) (by omega)
      have i2 := HI.out.index (i := ct) (by omega) ((ct : Int)) (by omega)
      obtain ⟨x, hx⟩ : ∃ x, x = d (pc) := ⟨_, rfl⟩
      obtain ⟨y, hy⟩ : ∃ y, y = d (ct) := ⟨_, rfl⟩
      have HX := Lib.hid hx
      have HY := Lib.hid hy
      have g1 := HI.out.good (pc) (by omega)
      have g2 := HI.out.good (ct) (by omega)
      have hcmp := HI.out.cmp
      have hfew := HI.out.few
      have HYX : Hid (y < x) := by
        have h1 := HLo.out (ct) (pc) (by omega) (by omega) (by omega) (by omega)
        rw [← hx, ← hy] at h1
        exact h1
      rw [← hx] at c1 g1
      rw [← hy] at c2 g2
      obtain ⟨p, hp⟩ : ∃ p, p = ofs A + (pc) := ⟨_, rfl⟩
      obtain ⟨q, hq⟩ : ∃ q, q = ofs A + (ct) := ⟨_, rfl⟩
      rw [← hp] at c1 i1
      rw [← hq] at c2 i2
      have hcl := fun q => closure_any (hcmp.drewN q) x y g1 g2
      obtain ⟨r, hr⟩ : ∃ r, r = cmpI (keyOf zs x) (keyOf zs y) := ⟨_, rfl⟩
      rw [← hr] at hcl
      clear hx hy hp hq hcmp
      by_cases hneg : r < 0
      · have hkey : keyOf zs x < keyOf zs y := by rw [hr, cmpI_neg] at hneg; omega
        have HK : Hid (key2 zs x < key2 zs y) := key2_lt hkey (by omega) (by omega)
        have hdr : decide (r < 0) = true := by simp [hneg]
        clear hkey hr hneg
        go_wp2
        rw [HCZ.out, HPZ.out]
        go_quiet (first | (go_at_call 92; refine quietD (hcl _)))
        rw [← HPZ.out]
        clear hcl c1 c2 i1 i2
        go_wp2
        go_roundw
        case rel =>
          have hk := HK.out
          rw [HX.out, HY.out, show pc = mid + m - 1 - ct from by omega] at hk
          exact ⟨s, ct, hls, by omega, by omega, rfl, by go_num, HI.out.drewN _, ⟨HM.out.1, Or.inr hk⟩⟩
        case measure => simp [intOf]; omega
      · have hkey : keyOf zs y ≤ keyOf zs x := by rw [hr, cmpI_neg] at hneg; omega
        have HK : Hid (key2 zs y ≤ key2 zs x) := key2_le hkey HYX.out
        have hdr : decide (r < 0) = false := by simp; omega
        clear hkey hr hneg
        go_wp2
        rw [HCZ.out, HPZ.out]
        go_quiet (first | (go_at_call 92; refine quietD (hcl _)))
        rw [← HPZ.out]
        clear hcl c1 c2 i1 i2
        go_wp2
        go_roundw
        case rel =>
          have hk := HK.out
          rw [HX.out, HY.out, show pc = mid + m - (ct + 1) from by omega] at hk
          exact ⟨ct + 1, r0, by omega, by omega, hrh, by go_num, rfl, HI.out.drewN _, ⟨Or.inr (by simpa using hk), HM.out.2⟩⟩
        case measure => simp [intOf]; omega
    · obtain rfl : s = r0 := by omega
      obtain ⟨en, hen⟩ : ∃ en, en + s = mid + m := ⟨mid + m - s, by omega⟩
      have HENZ : Hid ((mid : Int) + m - s = (en : Int)) := by show _ = _; omega
      have HEN : Hid (mid + m - s = en) := by show _ = _; omega
      have HCUT : Hid (Cut (key2 zs) a m b mid s d) := by
        refine ⟨by omega, by omega, by omega, by omega, ?_, ?_⟩
        · rcases HM.out.1 with h | h
          · have := HLO.out; omega
          · exact Or.inr (Or.inr h)
        · rcases HM.out.2 with h | h
          · have := HHI.out; omega
          · exact Or.inr (Or.inr h)
      have HP := Lib.hid (HCUT.out.parts HS1.out HS2.out)
      have HQ := Lib.hid (HCUT.out.los HLo.out)
      rw [HEN.out] at HP HQ
      by_cases hA : s < m
      · by_cases hC : a < s
        · go_wp2_with fail
          rw [HENZ.out]
          refine (rotate_any HI.out s m en (by omega) (by omega) (by omega) hn _).mono ?_
          rintro e w1 ⟨d1, rfl, hs1, hd1, hm1⟩
          have HT1 := Lib.hid hs1
          have HD1 : Hid (d1 = rot s m en d) := hd1
          have HM1 := Lib.hid (hm1.mono (show a ≤ s by omega) (show en ≤ b by omega))
          clear hs1 hd1 hm1
          rw [← HD1.out] at HP HQ
          go_wp2_with fail
          refine (IH.out _ d1 a s mid (by omega) HT1.out (by omega) (by omega) (by omega) HP.out.1 HP.out.2.1 HQ.out.1).mono ?_
          rintro e w2 ⟨d2, rfl, hs2, hm2, hsd2⟩
          have HT2 := Lib.hid hs2
          have HM2 := Lib.hid hm2
          have HD2 := Lib.hid hsd2
          clear hs2 hm2 hsd2
          go_wp2_with fail
          refine (IH.out _ d2 mid en b (by omega) HT2.out (by omega) (by omega) (by omega) (HP.out.2.2.1.mv HM2.out (Nat.le_refl _)) (HP.out.2.2.2.1.mv HM2.out (by omega)) (HQ.out.2.mv HM2.out (Nat.le_refl _))).mono ?_
          rintro e w3 ⟨d3, rfl, hs3, hm3, hsd3⟩
          have HT3 := Lib.hid hs3
          have HM3 := Lib.hid hm3
          have HD3 := Lib.hid hsd3
          clear hs3 hm3 hsd3
          go_wp2
          go_end0
          exact ⟨d3, rfl, HT3.out, sym_end HCUT.out HS1.out HS2.out (by omega) (by omega) (by rw [HEN.out]; exact HD1.out) HM1.out HM2.out HD2.out HM3.out HD3.out⟩
        · by_cases hD : en < b
          · go_wp2_with fail
            rw [HENZ.out]
            refine (rotate_any HI.out s m en (by omega) (by omega) (by omega) hn _).mono ?_
            rintro e w1 ⟨d1, rfl, hs1, hd1, hm1⟩
            have HT1 := Lib.hid hs1
            have HD1 : Hid (d1 = rot s m en d) := hd1
            have HM1 := Lib.hid (hm1.mono (show a ≤ s by omega) (show en ≤ b by omega))
            clear hs1 hd1 hm1
            rw [← HD1.out] at HP HQ
            obtain ⟨d2, hd2⟩ : ∃ d2, d2 = d1 := ⟨_, rfl⟩
            have HM2 : Hid (Mv n a mid d1 d2) := by rw [hd2]; exact Mv.refl _ _ _ _
            have HD2 : Hid (Sd (key2 zs) a mid d2) := by
              rw [hd2]
              rcases (show s = a ∨ s = mid by omega) with h | h
              · rw [h] at HP; exact HP.out.2.1
              · rw [h] at HP; exact HP.out.1
            have HT2 := HT1
            rw [← hd2] at HT2
            clear hd2
            go_wp2_with fail
            refine (IH.out _ d2 mid en b (by omega) HT2.out (by omega) (by omega) (by omega) (HP.out.2.2.1.mv HM2.out (Nat.le_refl _)) (HP.out.2.2.2.1.mv HM2.out (by omega)) (HQ.out.2.mv HM2.out (Nat.le_refl _))).mono ?_
            rintro e w3 ⟨d3, rfl, hs3, hm3, hsd3⟩
            have HT3 := Lib.hid hs3
            have HM3 := Lib.hid hm3
            have HD3 := Lib.hid hsd3
            clear hs3 hm3 hsd3
            go_wp2
            go_end0
            exact ⟨d3, rfl, HT3.out, sym_end HCUT.out HS1.out HS2.out (by omega) (by omega) (by rw [HEN.out]; exact HD1.out) HM1.out HM2.out HD2.out HM3.out HD3.out⟩
          · go_wp2_with fail
            rw [HENZ.out]
            refine (rotate_any HI.out s m en (by omega) (by omega) (by omega) hn _).mono ?_
            rintro e w1 ⟨d1, rfl, hs1, hd1, hm1⟩
            have HT1 := Lib.hid hs1
            have HD1 : Hid (d1 = rot s m en d) := hd1
            have HM1 := Lib.hid (hm1.mono (show a ≤ s by omega) (show en ≤ b by omega))
            clear hs1 hd1 hm1
            rw [← HD1.out] at HP HQ
            obtain ⟨d2, hd2⟩ : ∃ d2, d2 = d1 := ⟨_, rfl⟩
            have HM2 : Hid (Mv n a mid d1 d2) := by rw [hd2]; exact Mv.refl _ _ _ _
            have HD2 : Hid (Sd (key2 zs) a mid d2) := by
              rw [hd2]
              rcases (show s = a ∨ s = mid by omega) with h | h
              · rw [h] at HP; exact HP.out.2.1
              · rw [h] at HP; exact HP.out.1
            have HT2 := HT1
            rw [← hd2] at HT2
            clear hd2
            obtain ⟨d3, hd3⟩ : ∃ d3, d3 = d2 := ⟨_, rfl⟩
            have HM3 : Hid (Mv n mid b d2 d3) := by rw [hd3]; exact Mv.refl _ _ _ _
            have HD3 : Hid (Sd (key2 zs) mid b d3) := by
              rw [hd3]
              rcases (show en = mid ∨ en = b by omega) with h | h
              · rw [h] at HP; exact HP.out.2.2.2.1.mv HM2.out (Nat.le_refl _)
              · rw [h] at HP; exact HP.out.2.2.1.mv HM2.out (Nat.le_refl _)
            have HT3 := HT2
            rw [← hd3] at HT3
            clear hd3
            go_wp2
            go_end0
            exact ⟨d3, rfl, HT3.out, sym_end HCUT.out HS1.out HS2.out (by omega) (by omega) (by rw [HEN.out]; exact HD1.out) HM1.out HM2.out HD2.out HM3.out HD3.out⟩
      · by_cases hB : s < mid
        · obtain ⟨d1, hd1⟩ : ∃ d1, d1 = d := ⟨_, rfl⟩
          have HD1 : Hid (d1 = rot s m en d) := by show _ = _; rw [rot_triv (by omega) (by omega) (by omega), hd1]
          have HM1 : Hid (Mv n a b d d1) := by rw [hd1]; exact Mv.refl _ _ _ _
          have HT1 := HI
          rw [← hd1] at HT1
          clear hd1
          rw [← HD1.out] at HP HQ
          go_wp2_with fail
          refine (IH.out _ d1 a s mid (by omega) HT1.out (by omega) (by omega) (by omega) HP.out.1 HP.out.2.1 HQ.out.1).mono ?_
          rintro e w2 ⟨d2, rfl, hs2, hm2, hsd2⟩
          have HT2 := Lib.hid hs2
          have HM2 := Lib.hid hm2
          have HD2 := Lib.hid hsd2
          clear hs2 hm2 hsd2
          obtain ⟨d3, hd3⟩ : ∃ d3, d3 = d2 := ⟨_, rfl⟩
          have HM3 : Hid (Mv n mid b d2 d3) := by rw [hd3]; exact Mv.refl _ _ _ _
          have HD3 : Hid (Sd (key2 zs) mid b d3) := by
            rw [hd3]
            rcases (show en = mid ∨ en = b by omega) with h | h
            · rw [h] at HP; exact HP.out.2.2.2.1.mv HM2.out (Nat.le_refl _)
            · rw [h] at HP; exact HP.out.2.2.1.mv HM2.out (Nat.le_refl _)
          have HT3 := HT2
          rw [← hd3] at HT3
          clear hd3
          go_wp2
          go_end0
          exact ⟨d3, rfl, HT3.out, sym_end HCUT.out HS1.out HS2.out (by omega) (by omega) (by rw [HEN.out]; exact HD1.out) HM1.out HM2.out HD2.out HM3.out HD3.out⟩
        · obtain ⟨d1, hd1⟩ : ∃ d1, d1 = d := ⟨_, rfl⟩
          have HD1 : Hid (d1 = rot s m en d) := by show _ = _; rw [rot_triv (by omega) (by omega) (by omega), hd1]
          have HM1 : Hid (Mv n a b d d1) := by rw [hd1]; exact Mv.refl _ _ _ _
          have HT1 := HI
          rw [← hd1] at HT1
          clear hd1
          rw [← HD1.out] at HP HQ
          obtain ⟨d2, hd2⟩ : ∃ d2, d2 = d1 := ⟨_, rfl⟩
          have HM2 : Hid (Mv n a mid d1 d2) := by rw [hd2]; exact Mv.refl _ _ _ _
          have HD2 : Hid (Sd (key2 zs) a mid d2) := by
            rw [hd2]
            rcases (show s = a ∨ s = mid by omega) with h | h
            · rw [h] at HP; exact HP.out.2.1
            · rw [h] at HP; exact HP.out.1
          have HT2 := HT1
          rw [← hd2] at HT2
          clear hd2
          obtain ⟨d3, hd3⟩ : ∃ d3, d3 = d2 := ⟨_, rfl⟩
          have HM3 : Hid (Mv n mid b d2 d3) := by rw [hd3]; exact Mv.refl _ _ _ _
          have HD3 : Hid (Sd (key2 zs) mid b d3) := by
            rw [hd3]
            rcases (show en = mid ∨ en = b by omega) with h | h
            · rw [h] at HP; exact HP.out.2.2.2.1.mv HM2.out (Nat.le_refl _)
            · rw [h] at HP; exact HP.out.2.2.1.mv HM2.out (Nat.le_refl _)
          have HT3 := HT2
          rw [← hd3] at HT3
          clear hd3
          go_wp2
          go_end0
          exact ⟨d3, rfl, HT3.out, sym_end HCUT.out HS1.out HS2.out (by omega) (by omega) (by rw [HEN.out]; exact HD1.out) HM1.out HM2.out HD2.out HM3.out HD3.out⟩

end Go.Proofs.YtolcdlopgbgilaaGreatDoor

/-! Text SortZc. -/
namespace Go.Proofs.YtolcdlopgbgilaaGreatDoor
open Go.RowKit Go.Dray

theorem symMerge_any {w0 : World} {B : Nat} {A : Option Addr} {n c bx : Nat} {CA : Option Addr} {cn cc : Nat} {zs : List Int} (hn : n ≤ 1000) (N : Nat) :
    ∀ (w : World) (d : Nat → Int) (a m b : Nat), b - a < N → SS w0 w B A n c bx CA cn cc zs d → a < m → m < b → b ≤ n → Sd (key2 zs) a m d → Sd (key2 zs) m b d → Lo a m b d →
      Calls Tryz.prog 122 #[.slice A n c, .int .i64 a, .int .i64 m, .int .i64 b, .func (.func 92) #[] #[.pointer (some ⟨bx, 0, none⟩)]] w (SPost w0 B A n c bx CA cn cc zs fun d' => Mv n a b d d' ∧ Sd (key2 zs) a b d') := by
  induction N with
  | zero => intro w d a m b h; omega
  | succ N ih =>
    intro w d a m b h hs ha hm hb h1 h2 h3
    by_cases e1 : m = a + 1
    · subst e1
      exact symMerge_one hs a b (by omega) hb hn h2 h3
    · by_cases e2 : b = m + 1
      · subst e2
        exact symMerge_last hs a m (by omega) hb hn h1 h3
      · rcases Nat.lt_or_ge ((a + b) / 2) m with hc | hc
        · exact symMerge_hi hs N hn ih a m b ((a + b) / 2) (by omega) (by omega) (by omega) hb h1 h2 h3 (by omega) (by omega) hc
        · exact symMerge_lo hs N hn ih a m b ((a + b) / 2) (by omega) (by omega) (by omega) hb h1 h2 h3 (by omega) (by omega) hc

end Go.Proofs.YtolcdlopgbgilaaGreatDoor

/-! Text SortS. -/
namespace Go.Proofs.YtolcdlopgbgilaaGreatDoor
open Go.RowKit Go.Dray

theorem Bs.grow {κ : Int → Int} {n a b : Nat} {d d' : Nat → Int} (h : Bs κ 20 a d) (ha : a % 20 = 0) (hb : b ≤ a + 20) (hm : Mv n a b d d') (hs : Sd κ a b d') : Bs κ 20 b d' := by
  intro i j h1 h2 h3
  by_cases hi : a ≤ i
  · exact hs i j hi h1 h2
  · have : j < a := by omega
    rw [hm.out i (by omega), hm.out j (by omega)]
    exact h i j h1 this h3
theorem Bs.all {κ : Int → Int} {n bs : Nat} {d : Nat → Int} (h : Bs κ bs n d) (hb : n ≤ bs) : Sd κ 0 n d := fun i j _ h2 h3 => h i j h2 h3 (by rw [Nat.div_eq_of_lt (by omega), Nat.div_eq_of_lt (by omega)])
theorem Bs.nil {κ : Int → Int} {bs : Nat} {d : Nat → Int} : Bs κ bs 0 d := fun i j _ h => by omega

set_option maxRecDepth 100000 in
set_option maxHeartbeats 2000000 in
theorem stable_any {w0 w : World} {B : Nat} {A : Option Addr} {n c bx : Nat} {CA : Option Addr} {cn cc : Nat} {zs : List Int} {d : Nat → Int} (h : SS w0 w B A n c bx CA cn cc zs d) (hn : n ≤ 320) (hasc : Asc n d) :
    Calls Tryz.prog 115 #[.slice A n c, .int .i64 n, .func (.func 92) #[] #[.pointer (some ⟨bx, 0, none⟩)]] w (SPost w0 B A n c bx CA cn cc zs fun d' => Mv n 0 n d d' ∧ Sd (key2 zs) 0 n d') := by
  have HS := Lib.hid h
  have HASC := Lib.hid hasc
  clear h hasc
  go_enter Tryz.func115, Tryz.ntmps115
  go_wp2
  go_loopw [7, 8] (fun v u wr => ∃ a : Nat, a ≤ n ∧ v = .int .i64 a ∧ u = .int .i64 ((a : Int) + 20) ∧ Hid (a % 20 = 0) ∧ ∃ dk, Hid (SS w0 wr B A n c bx CA cn cc zs dk) ∧ Hid (Mv n 0 n d dk ∧ Bs (key2 zs) 20 a dk) ∧ Hid (Tl a a n dk ∧ Bls 20 n dk)) (fun v _ _ => n - (intOf v).toNat)
  case atStart => exact ⟨0, by omega, rfl, rfl, rfl, d, HS, ⟨Mv.refl _ _ _ _, Bs.nil⟩, ⟨HASC.out.tl, HASC.out.bls 20⟩⟩
  case round =>
    clear HS
    obtain ⟨a, han, rfl, rfl, HA, dk, HI, HM, HT⟩ := hrel
    by_cases hlt : a + 20 ≤ n
    · go_wp2_with fail
      rw [show ((a : Int) + 20) = ((a + 20 : Nat) : Int) from by omega]
      refine (insertion_any HI.out a (a + 20) (by omega) hlt (by omega) (HT.out.1.sub hlt)).mono ?_
      rintro e w1 ⟨d1, rfl, hs1, hm1, hsd1⟩
      have HS1 := Lib.hid hs1
      have HM1 := Lib.hid hm1
      have HD1 := Lib.hid hsd1
      clear hs1 hm1 hsd1
      go_wp2
      go_roundw
      case rel => exact ⟨a + 20, hlt, rfl, by go_num, by show _ = _; have := HA.out; omega, d1, HS1, ⟨HM.out.1.trans (HM1.out.mono (by omega) hlt), HM.out.2.grow HA.out (by omega) HM1.out HD1.out⟩, ⟨HT.out.1.mv HM1.out (by omega), HT.out.2.mv HM1.out (same20 HA.out (by omega)) hlt⟩⟩
      case measure => simp [intOf]; omega
    · go_wp2_with fail
      refine (insertion_any HI.out a n han (Nat.le_refl _) (by omega) HT.out.1).mono ?_
      rintro e w1 ⟨d1, rfl, hs1, hm1, hsd1⟩
      have HS1 := Lib.hid hs1
      have HM1 : Hid (Mv n 0 n d d1) := HM.out.1.trans (hm1.mono (by omega) (by omega))
      have HB1 : Hid (Bs (key2 zs) 20 n d1) := HM.out.2.grow HA.out (by omega) hm1 hsd1
      have HBL : Hid (Bls 20 n d1) := HT.out.2.mv hm1 (same20 HA.out (by omega)) (Nat.le_refl _)
      clear hs1 hm1 hsd1 HM HI HA HT hlt han
      go_wp2
      go_loopw [6] (fun v wr => ∃ bs : Nat, 20 ≤ bs ∧ bs ≤ 320 ∧ v = .int .i64 bs ∧ Hid (isBs bs ∨ bs = 320) ∧ ∃ dk, Hid (SS w0 wr B A n c bx CA cn cc zs dk) ∧ Hid (Mv n 0 n d dk ∧ Bs (key2 zs) bs n dk) ∧ Hid (Bls bs n dk)) (fun v _ => 320 - (intOf v).toNat)
      case atStart => exact ⟨20, by omega, by omega, rfl, Or.inl (Or.inl rfl), d1, HS1, ⟨HM1.out, HB1.out⟩, HBL⟩
      case round =>
        clear HS1 HM1 HB1 HBL
        obtain ⟨bs, hb1, hb2, rfl, HB, dk, HI, HM, HL0⟩ := hrel
        by_cases hlt : bs < n
        · have HB' : Hid (isBs bs) := by
            rcases HB.out with h | h
            · exact h
            · omega
          have hb3 : bs ≤ 160 := by rcases HB'.out with h | h | h | h <;> omega
          clear HB
          go_wp2
          obtain ⟨wo, rfl⟩ : ∃ wo : World, wo = wr := ⟨_, rfl⟩
          go_loopw [7, 8] (fun v u wr => ∃ a : Nat, a ≤ n ∧ v = .int .i64 a ∧ u = .int .i64 ((a : Int) + 2 * bs) ∧ Hid (a % (2 * bs) = 0) ∧ ∃ dk, Hid (SS w0 wr B A n c bx CA cn cc zs dk) ∧ Hid (Mv n 0 n d dk ∧ Ms (key2 zs) bs a n dk) ∧ Hid (BlsT bs a n dk ∧ Bls (2 * bs) n dk)) (fun v _ _ => n - (intOf v).toNat)
          case atStart => exact ⟨0, by omega, rfl, by go_num, by show _ = _; simp, dk, HI, ⟨HM.out.1, Ms.start HM.out.2⟩, ⟨HL0.out.start, HL0.out.twice HB'.out⟩⟩
          case round =>
            clear HI HM HL0 dk
            obtain ⟨a, han, rfl, rfl, HA, dk, HI, HM, HT⟩ := hrel
            by_cases hle : a + 2 * bs ≤ n
            · go_wp2_with fail
              rw [show ((a : Int) + 2 * bs) = ((a + 2 * bs : Nat) : Int) from by omega, show ((a : Int) + bs) = ((a + bs : Nat) : Int) from by omega]
              have hh := Ms.halves HB'.out HM.out.2 HA.out (a + 2 * bs) hle (Nat.le_refl _)
              rw [show min (a + bs) (a + 2 * bs) = a + bs from by omega] at hh
              refine (symMerge_any (by omega) (a + 2 * bs - a + 1) _ dk a (a + bs) (a + 2 * bs) (by omega) HI.out (by omega) (by omega) hle hh.1 hh.2 (HT.out.1.lo HB'.out HA.out hle)).mono ?_
              rintro e w1 ⟨d1, rfl, hs1, hm1, hsd1⟩
              have HS1 := Lib.hid hs1
              have HM1 := Lib.hid hm1
              have HST := Lib.hid (Ms.step HB'.out HM.out.2 HA.out hle hm1 hsd1)
              clear hs1 hm1 hsd1 hh
              go_wp2
              go_roundw
              case rel => exact ⟨a + 2 * bs, hle, rfl, by go_num, HST.out.2, d1, HS1, ⟨HM.out.1.trans (HM1.out.mono (by omega) hle), HST.out.1⟩, ⟨HT.out.1.mv HM1.out (by omega), HT.out.2.mv HM1.out (same2 HB'.out HA.out (Nat.le_refl _)) hle⟩⟩
              case measure => simp [intOf]; omega
            · by_cases hmn : a + bs < n
              · go_wp2_with fail
                rw [show ((a : Int) + bs) = ((a + bs : Nat) : Int) from by omega]
                have hh := Ms.halves HB'.out HM.out.2 HA.out n (Nat.le_refl _) (by omega)
                rw [show min (a + bs) n = a + bs from by omega] at hh
                refine (symMerge_any (by omega) (n - a + 1) _ dk a (a + bs) n (by omega) HI.out (by omega) (by omega) (Nat.le_refl _) hh.1 hh.2 (HT.out.1.lo HB'.out HA.out (Nat.le_refl _))).mono ?_
                rintro e w1 ⟨d1, rfl, hs1, hm1, hsd1⟩
                have HS1 := Lib.hid hs1
                have HM1 := Lib.hid hm1
                have HL := Lib.hid (Ms.last HB'.out HM.out.2 HA.out han (by omega) hm1 hsd1)
                clear hs1 hm1 hsd1 hh
                go_wp2
                go_roundw
                case rel => exact ⟨2 * bs, by omega, by omega, by go_num, by rcases HB'.out with h | h | h | h <;> subst h <;> simp [Hid, isBs], d1, HS1, ⟨HM.out.1.trans (HM1.out.mono (by omega) (Nat.le_refl _)), HL.out⟩, HT.out.2.mv HM1.out (same2 HB'.out HA.out (by omega)) (Nat.le_refl _)⟩
                case measure => simp [intOf]; omega
              · have hh := Ms.halves HB'.out HM.out.2 HA.out n (Nat.le_refl _) (by omega)
                rw [show min (a + bs) n = n from by omega] at hh
                have HL := Lib.hid (Ms.last HB'.out HM.out.2 HA.out han (by omega) (Mv.refl _ _ _ _) hh.1)
                clear hh
                go_wp2
                go_roundw
                case rel => exact ⟨2 * bs, by omega, by omega, by go_num, by rcases HB'.out with h | h | h | h <;> subst h <;> simp [Hid, isBs], dk, HI, ⟨HM.out.1, HL.out⟩, HT.out.2⟩
                case measure => simp [intOf]; omega
        · go_wp2
          go_end0
          exact ⟨dk, rfl, HI.out, HM.out.1, HM.out.2.all (by omega)⟩

set_option maxHeartbeats 1000000 in
theorem sortStable_any {w0 w : World} {B : Nat} {A : Option Addr} {n c bx : Nat} {CA : Option Addr} {cn cc : Nat} {zs : List Int} {d : Nat → Int} (h : SS w0 w B A n c bx CA cn cc zs d) (hn : n ≤ 320) (hasc : Asc n d) :
    Calls Tryz.prog 91 #[.slice A n c, .func (.func 92) #[] #[.pointer (some ⟨bx, 0, none⟩)]] w (SPost w0 B A n c bx CA cn cc zs fun d' => Mv n 0 n d d' ∧ Sd (key2 zs) 0 n d') := by
  have HS := Lib.hid h
  clear h
  go_enter Tryz.func91, Tryz.ntmps91
  go_wp2_with fail
  refine (stable_any HS.out hn hasc).mono ?_
  rintro e w1 ⟨d1, rfl, hs1, hq⟩
  go_wp2
  go_end0
  exact ⟨d1, rfl, hs1, hq⟩

end Go.Proofs.YtolcdlopgbgilaaGreatDoor

/-! Text LenL. -/
namespace Go.Proofs.YtolcdlopgbgilaaGreatDoor
open Go.RowKit Go.Dray

theorem el_item : El Tryz.prog 142 144 (.agg #[.int .i64 0, .bool false]) 2 16 := ⟨Tryz.underlying142, by kernel_rfl, rfl, by omega⟩

/-- The cells of items. -/
def itemV : List (Int × Bool) → List Value
  | [] => []
  | x :: l => .int .i64 x.1 :: .bool x.2 :: itemV l
theorem itemV_len (l : List (Int × Bool)) : (itemV l).length = l.length * 2 := by
  induction l with
  | nil => rfl
  | cons x l ih => simp only [itemV, List.length_cons, ih]; omega
theorem itemV_app (l m : List (Int × Bool)) : itemV (l ++ m) = itemV l ++ itemV m := by
  induction l with
  | nil => rfl
  | cons x l ih => simp only [List.cons_append, itemV, ih]
theorem itemV_one (l : List (Int × Bool)) : ∀ u ∈ itemV l, u.oneCell' = true := by
  induction l with
  | nil => intro u h; cases h
  | cons x l ih =>
    intro u h
    simp only [itemV, List.mem_cons] at h
    rcases h with rfl | rfl | h
    · rfl
    · rfl
    · exact ih u h
theorem itemV_take (l : List (Int × Bool)) (k : Nat) : (itemV l).take (k * 2) = itemV (l.take k) := by
  induction l generalizing k with
  | nil => simp [itemV]
  | cons x l ih =>
    cases k with
    | zero => simp [itemV]
    | succ k => rw [show (k + 1) * 2 = k * 2 + 1 + 1 from by omega, itemV, List.take_succ_cons, List.take_succ_cons, ih, List.take_succ_cons, itemV]
theorem itemV_get {l : List (Int × Bool)} {i : Nat} {x : Int × Bool} (h : l[i]? = some x) : (itemV l)[i * 2]? = some (.int .i64 x.1) ∧ (itemV l)[i * 2 + 1]? = some (.bool x.2) := by
  induction l generalizing i with
  | nil => simp at h
  | cons y l ih =>
    cases i with
    | zero => simp at h; subst h; simp [itemV]
    | succ i =>
      simp at h
      have := ih h
      rw [show (i + 1) * 2 = i * 2 + 1 + 1 from by omega, show i * 2 + 1 + 1 + 1 = i * 2 + 1 + 1 + 1 from rfl, itemV, List.getElem?_cons_succ, List.getElem?_cons_succ, List.getElem?_cons_succ, List.getElem?_cons_succ]
      exact this

theorem Seg.two (w : World) (a b : Value) (t : TypeId) : Seg (w.alloc (.cells #[a, b] t)) 2 (some ⟨w.heap.size, 0, none⟩) 1 [a, b] :=
  ⟨rfl, fun _ => rfl, fun k u hu => by
    have hb := Blk.new w t #[a, b]
    show (w.alloc _).cell? ⟨w.heap.size, 0 + k, none⟩ = _
    rw [Nat.zero_add, hb.cell]
    simpa using hu⟩

/-- 'make([]T, 0, n)'. -/
theorem wpList_mk0 {P : Program} {w : World} {ops : Array Oper} {rest : List Oper} {o : Oper} {a : Act} {Q : Exit → Act → World → Prop}
    (hg : o.guard = none) {l c : Operand} {t : TypeId} (hop : o.op = Op.makeSlice t l c)
    (B : Nat) {e : TypeId} {z : Value} {sz bytes : Nat} (el : El P t e z sz bytes)
    (n : Nat) {kl kc : IntKind} {C : Int} (hl : a.eval l = .int kl 0) (hc : a.eval c = .int kc C) (hC : C = (n : Int)) (b2 : bytes * n ≤ 281474976710656) (b3 : n ≤ maxLen) (b4 : B ≤ w.heap.size)
    (hK : ∀ A' w', Own w' B e sz A' 0 n [] → Upd [] w w' → ob A' = some w.heap.size → wpList P ops Q rest (a.put o.dst (.slice A' 0 n)) w') :
    wpList P ops Q (o :: rest) a w := by
  obtain ⟨i, hi, hz, hs, hb⟩ := info_get el
  exact wpList_make_own (P := P) w hg l c t hop B e i z sz el.under hi hz hs kl kc C n hl hc hC (by rw [hb]; exact b2) b3 b4 fun w' h1 h2 => hK _ w' h1 ⟨h2.os, h2.tape, h2.output, h2.size, fun k hk _ => h2.block k hk (by simp)⟩ rfl

/-- A slice of items that reads. -/
structure Items (w : World) (A : Option Addr) (n c : Nat) (l : List (Int × Bool)) : Prop where
  seg : Seg w 2 A n (itemV l)
  le : n ≤ c

section
variable {w : World} {A : Option Addr} {n c : Nat} {l : List (Int × Bool)}
theorem Items.len (h : Items w A n c l) : l.length = n := by
  have := h.seg.len
  rw [itemV_len] at this
  omega
theorem Items.upd {L : List (Option Nat)} {w' : World} (h : Items w A n c l) (hu : Upd L w w') (hn : 0 < n → some (bl A) ∉ L) : Items w' A n c l := ⟨h.seg.upd hu (by omega) hn, h.le⟩
theorem Items.ix (h : Items w A n c l) (i : Nat) (v : Int) (hv : v = i) (hi : i < n) : ∀ W : World, (Instr.indexAt 142 (.slice A n c) (.int .i64 v)).run Tryz.prog W = .ok (.pointer (some ⟨bl A, ofs A + i * 2, none⟩)) W := by
  subst hv
  exact run_index el_item h.seg.at_ c .i64 i hi
theorem Items.cells (h : Items w A n c l) {i : Nat} {x : Int × Bool} (hx : l[i]? = some x) : w.cell? ⟨bl A, ofs A + i * 2, none⟩ = some (.int .i64 x.1) ∧ w.cell? ⟨bl A, ofs A + i * 2 + 1, none⟩ = some (.bool x.2) := by
  have := itemV_get hx
  exact ⟨h.seg.cell _ _ this.1, by have := h.seg.cell _ _ this.2; rwa [← Nat.add_assoc] at this⟩
theorem Items.drop {k : Nat} (h : Items w A n c l) (hk : k ≤ n) : Items w (cutA 2 A c k) (n - k) (c - k) (l.drop k) := by
  refine ⟨?_, by have := h.le; omega⟩
  have := h.seg.cut (lo := k) (hi := n) (c := c) hk (Nat.le_refl _) h.le
  have e : ((itemV l).drop (k * 2)).take ((n - k) * 2) = itemV (l.drop k) := by
    have hl := h.len
    rw [List.take_of_length_le (by rw [List.length_drop, itemV_len]; omega)]
    have e1 : itemV l = itemV (l.take k) ++ itemV (l.drop k) := by rw [← itemV_app, List.take_append_drop]
    rw [e1, List.drop_left' (by rw [itemV_len, List.length_take]; omega)]
  rw [e] at this
  exact this
theorem Items.pre {k : Nat} (h : Items w A n c l) (hk : k ≤ n) : Items w A k c (l.take k) := by
  refine ⟨?_, by have := h.le; omega⟩
  have := h.seg.pre hk
  rw [itemV_take] at this
  exact this
end

def lenV : Value → Nat | .slice _ n _ => n | _ => 0

/-- level hands back a new slice. -/
def LevelPost (S B : List (Int × Bool)) (w : World) (e : Ending) (w' : World) : Prop :=
  ∃ A m c, e = .returned (.slice A m c) ∧ m = (mrg S (prs B)).length ∧ Own w' w.heap.size 144 2 A m c (itemV (mrg S (prs B))) ∧ Upd [] w w'

/-- What is said of memory at a round of level. -/
structure LSt (S B : List (Int × Bool)) (w wr : World) (SA : Option Addr) (sn sc : Nat) (S' : List (Int × Bool)) (P' : List Int) (O : Option Addr) (on oc : Nat) (acc : List (Int × Bool)) : Prop where
  sym : Items w SA sn sc S'
  out : Own wr w.heap.size 144 2 O on oc (itemV acc)
  upd : Upd [] w wr
  bds : ∀ x ∈ S', 0 ≤ x.1 ∧ x.1 ≤ 140737488355328
  all : acc ++ mrg S' P' = mrg S (prs B)
  few : on + sn + P'.length ≤ 2000

theorem prs_cons (a b : Int × Bool) (r : List (Int × Bool)) : prs (a :: b :: r) = (a.1 + b.1) :: prs r := by rw [prs]
theorem prs_short {l : List (Int × Bool)} (h : l.length < 2) : prs l = [] := by
  match l, h with
  | [], _ => rfl
  | [a], _ => rfl

set_option maxRecDepth 100000 in
set_option maxHeartbeats 2000000 in
theorem level_any (SA BA : Option Addr) (sn sc bn bc : Nat) (S B : List (Int × Bool)) (w : World) (hS : Items w SA sn sc S) (hB : Items w BA bn bc B) (hs : sn ≤ 320) (hb : bn ≤ 700)
    (bS : ∀ x ∈ S, 0 ≤ x.1 ∧ x.1 ≤ 140737488355328) (bB : ∀ x ∈ B, 0 ≤ x.1 ∧ x.1 ≤ 140737488355328) :
    Calls Tryz.prog 94 #[.slice SA sn sc, .slice BA bn bc] w (LevelPost S B w) := by
  have HS := Lib.hid hS
  have HB := Lib.hid hB
  have HBS := Lib.hid bS
  have HBB := Lib.hid bB
  clear hS hB bS bB
  go_enter Tryz.func94, Tryz.ntmps94
  go_wp2_with (at_make; refine wpList_mk0 rfl rfl w.heap.size el_item (sn + bn / 2) rfl rfl (by omega) (by omega) (by simp only [maxLen]; omega) (Nat.le_refl _) ?_; intro O1 w1 hown1 hu1 hob1)
  have HL0 : Hid (LSt S B w w1 SA sn sc S (prs B) O1 0 (sn + bn / 2) []) :=
    ⟨HS.out, hown1, hu1, HBS.out, rfl, by rw [prs_len, HB.out.len]; omega⟩
  clear hown1 hu1 hob1
  go_loopw [0, 1, 5] (fun v u o wr => ∃ SA' sn' sc' S' BA' bn' bc' B' O on oc acc, v = .slice SA' sn' sc' ∧ u = .slice BA' bn' bc' ∧ o = .slice O on oc ∧ bn' ≤ 700 ∧ sn' ≤ 320 ∧ on ≤ 2000 ∧ Hid (LSt S B w wr SA' sn' sc' S' (prs B') O on oc acc) ∧ Hid (Items w BA' bn' bc' B' ∧ ∀ x ∈ B', 0 ≤ x.1 ∧ x.1 ≤ 140737488355328))
    (fun _ u _ _ => lenV u)
  case atStart => exact ⟨SA, sn, sc, S, BA, bn, bc, B, O1, 0, _, [], rfl, rfl, rfl, hb, hs, by omega, HL0, ⟨HB.out, HBB.out⟩⟩
  case round =>
    clear HL0 HS HB HBS HBB
    obtain ⟨SA', sn', sc', S', BA', bn', bc', B', O, on, oc, acc, rfl, rfl, rfl, hbn, hsn, hon, HL, HBK⟩ := hrel
    by_cases hlt : 2 ≤ bn'
    · have hd2 : decide ((2 : Int) ≤ bn') = true := by simp; omega
      obtain ⟨x, y, r, HB3⟩ : ∃ x y r, Hid (B' = x :: y :: r) := by
        have := HBK.out.1.len
        match B', this with
        | x :: y :: r, _ => exact ⟨x, y, r, rfl⟩
        | [], h => simp at h; omega
        | [x], h => simp at h; omega
      have hx := HBK.out.2 x (by rw [HB3.out]; simp)
      have hy := HBK.out.2 y (by rw [HB3.out]; simp)
      have hbr := HBK.out.1.upd HL.out.upd (by simp)
      have i0 := HBK.out.1.ix 0 0 rfl (by omega)
      have i1 := HBK.out.1.ix 1 1 rfl (by omega)
      have c0 := (hbr.cells (i := 0) (x := x) (by rw [HB3.out]; rfl)).1
      have c1 := (hbr.cells (i := 1) (x := y) (by rw [HB3.out]; rfl)).1
      rw [Nat.zero_mul, Nat.add_zero] at i0 c0
      rw [Nat.one_mul] at i1 c1
      have hcut := run_cut_l el_item BA' bn' bc' .i64 2 2 rfl hlt
      obtain ⟨p, hp⟩ : ∃ p, p = x.1 + y.1 := ⟨_, rfl⟩
      have hpb : 0 ≤ p ∧ p ≤ 281474976710656 := by omega
      obtain ⟨xc, hxc⟩ : ∃ xc, xc = x.1 := ⟨_, rfl⟩
      obtain ⟨yc, hyc⟩ : ∃ yc, yc = y.1 := ⟨_, rfl⟩
      rw [← hxc] at hx c0
      rw [← hyc] at hy c1
      have HPE : Hid (xc + yc = p) := by show _ = _; omega
      have HPS : Hid (prs B' = p :: prs r) := by show _ = _; rw [HB3.out, prs_cons, hp]
      clear hp hxc hyc
      have c0' : (wr.alloc (.cells #[.int .i64 0, .bool false] 144)).cell? ⟨bl BA', ofs BA', none⟩ = some (.int .i64 xc) := ((Upd.refl [] wr).alloc _).cell c0 (by simp)
      have c1' : (wr.alloc (.cells #[.int .i64 0, .bool false] 144)).cell? ⟨bl BA', ofs BA' + 2, none⟩ = some (.int .i64 yc) := ((Upd.refl [] wr).alloc _).cell c1 (by simp)
      go_wp2
      go_region
      rw [HPE.out]
      obtain ⟨g, hg⟩ : ∃ g, g = wr.heap.size := ⟨_, rfl⟩
      have hul : Upd [] wr (wr.alloc (.cells #[.int .i64 p, .bool false] 144)).drew := ((Upd.refl [] wr).alloc _).drew
      have hbk2 : Blk (wr.alloc (.cells #[.int .i64 p, .bool false] 144)).drew g 144 #[.int .i64 p, .bool false] := by rw [hg]; exact (Blk.new wr _ _).drew
      have hog : ob O ≠ some g := fun h => by have := (HL.out.out.base h).2; omega
      have HL2 : Hid (LSt S B w (wr.alloc (.cells #[.int .i64 p, .bool false] 144)).drew SA' sn' sc' S' (p :: prs r) O on oc acc) := by
        have := HL.out
        rw [HPS.out] at this
        exact ⟨this.sym, this.out.upd hul (by simp), this.upd.trans hul, this.bds, this.all, this.few⟩
      rw [← hg]
      have HGE : Hid (w.heap.size ≤ g) := by have := HL.out.upd.size; show _ ≤ _; omega
      have HBK2 : Hid (Items w (cutA 2 BA' bc' 2) (bn' - 2) (bc' - 2) r ∧ ∀ x ∈ r, 0 ≤ x.1 ∧ x.1 ≤ 140737488355328) := by
        have h1 := HBK.out.1.drop hlt
        have h2 := HBK.out.2
        rw [HB3.out] at h1 h2
        exact ⟨h1, fun x hx => h2 x (by simp [hx])⟩
      have HLG := Lib.hid hog
      have HBG := Lib.hid hbk2
      generalize (wr.alloc (.cells #[.int .i64 p, .bool false] 144)).drew = w2 at HL2 HBG ⊢
      clear hog hbk2 hul hbr c0 c1 c0' c1' i0 i1 hg
      go_wp2
      clear hcut
      obtain ⟨BA2, hBA2⟩ : ∃ BA2, BA2 = cutA 2 BA' bc' 2 := ⟨_, rfl⟩
      rw [← hBA2] at HBK2 ⊢
      clear hBA2 HBK HB3 HPS HL hx hy HPE
      go_loopw [0, 5] (fun v o wr => ∃ SA' sn' sc' S' O on oc acc, v = .slice SA' sn' sc' ∧ o = .slice O on oc ∧ sn' ≤ 320 ∧ on ≤ 2000 ∧ Hid (LSt S B w wr SA' sn' sc' S' (p :: prs r) O on oc acc) ∧ Hid (Blk wr g 144 #[.int .i64 p, .bool false] ∧ ob O ≠ some g)) (fun v _ _ => lenV v)
      case atStart => exact ⟨SA', sn', sc', S', O, on, oc, acc, rfl, rfl, hsn, hon, HL2, ⟨HBG.out, HLG.out⟩⟩
      case round =>
        clear HL2 HBG HLG hsn hon
        obtain ⟨SA3, sn3, sc3, S3, O3, on3, oc3, acc3, rfl, rfl, hsn, hon, HL, HG⟩ := hrel
        have g0 := HG.out.1.cell 0
        have g1 := HG.out.1.cell 1
        simp at g0 g1
        by_cases hp0 : 0 < sn3
        · have hd0 : decide ((0 : Int) < sn3) = true := by simp; omega
          obtain ⟨s, S2, HS2⟩ : ∃ s S2, Hid (S3 = s :: S2) := by
            have := HL.out.sym.len
            match S3, this with
            | s :: S2, _ => exact ⟨s, S2, rfl⟩
            | [], h => simp at h; omega
          have hsb := HL.out.bds s (by rw [HS2.out]; simp)
          have hsr := HL.out.sym.upd HL.out.upd (by simp)
          have i0 := HL.out.sym.ix 0 0 rfl hp0
          have cc := hsr.cells (i := 0) (x := s) (by rw [HS2.out]; rfl)
          rw [Nat.zero_mul, Nat.add_zero] at i0 cc
          obtain ⟨c0, c1⟩ := cc
          have hcut := run_cut_l el_item SA3 sn3 sc3 .i64 1 1 rfl hp0
          obtain ⟨sv, sb⟩ := s
          simp only at hsb c0 c1
          by_cases hle : sv ≤ p
          · have hd1 : decide (sv ≤ p) = true := by simp [hle]
            go_wp2
            go_quiet (fail)
            have C0 : (wr.drewN nq).cell? ⟨bl SA3, ofs SA3, none⟩ = some (.int .i64 sv) := c0
            have C1 : (wr.drewN nq).cell? ⟨bl SA3, ofs SA3 + 1, none⟩ = some (.bool sb) := c1
            have HL2 : Hid (LSt S B w (wr.drewN nq) SA3 sn3 sc3 S3 (p :: prs r) O3 on3 oc3 acc3) := ⟨HL.out.sym, HL.out.out.drewN _, HL.out.upd.drewN _, HL.out.bds, HL.out.all, HL.out.few⟩
            have HG2 : Hid (Blk (wr.drewN nq) g 144 #[.int .i64 p, .bool false]) := HG.out.1.drewN _
            generalize wr.drewN nq = w3 at C0 C1 HL2 HG2 ⊢
            clear c0 c1 g0 g1 hsr
            have hO := HL2.out.out
            have hfew := HL2.out.few
            have hsz := HL2.out.upd.size
            simp only [List.length_cons] at hfew
            go_wp2_with (at_builtin; refine wpList_app rfl rfl el_item rfl (hO.alloc _) rfl (Seg.two _ _ _ _) (by simp [Value.oneCell']) (by simp only [maxLen]; omega) (by omega) (by simp; omega) ?_; intro X3 c3 w4 hown4 hu4 hfr4)
            go_roundw
            case rel =>
              refine ⟨cutA 2 SA3 sc3 1, sn3 - 1, sc3 - 1, S2, X3, on3 + 1, c3, acc3 ++ [(sv, sb)], rfl, rfl, by omega, by omega, ⟨?_, ?_, ?_, ?_, ?_, ?_⟩, ⟨?_, ?_⟩⟩
              · have := HL2.out.sym.drop (k := 1) hp0
                rw [HS2.out] at this
                exact this
              · rw [itemV_app]; exact hown4
              · exact (HL2.out.upd.alloc _).then hu4 (fun b hb => by simp at hb; have := (hO.base hb.symm).1; right; omega)
              · have := HL2.out.bds
                rw [HS2.out] at this
                exact fun x hx => this x (by simp [hx])
              · have := HL2.out.all
                rw [HS2.out, mrg_le hle] at this
                rw [List.append_assoc, ← this]
                rfl
              · have := HL2.out.few; simp only [List.length_cons] at this ⊢; omega
              · exact (HG2.out.alloc _).upd hu4 (by simp; exact fun e => HG.out.2 e.symm)
              · intro h
                rcases hfr4 g h with h' | h'
                · exact HG.out.2 h'
                · have := HG2.out.lt
                  simp at h'
                  omega
            case measure => simp [lenV]; omega
          · have hd1 : decide (sv ≤ p) = false := by simp; omega
            clear c1 hcut
            go_wp2
            go_quiet (fail)
            have HL2 : Hid (LSt S B w (wr.drewN nq) SA3 sn3 sc3 S3 (p :: prs r) O3 on3 oc3 acc3) := ⟨HL.out.sym, HL.out.out.drewN _, HL.out.upd.drewN _, HL.out.bds, HL.out.all, HL.out.few⟩
            have HG2 : Hid (Blk (wr.drewN nq) g 144 #[.int .i64 p, .bool false]) := HG.out.1.drewN _
            generalize wr.drewN nq = w3 at HL2 HG2 ⊢
            have G0 := HG2.out.cell 0
            have G1 := HG2.out.cell 1
            simp at G0 G1
            clear g0 g1
            have hO := HL2.out.out
            have hfew := HL2.out.few
            have hsz := HL2.out.upd.size
            simp only [List.length_cons] at hfew
            go_wp2_with (at_builtin; refine wpList_app rfl rfl el_item rfl (hO.alloc _) rfl (Seg.two _ _ _ _) (by simp [Value.oneCell']) (by simp only [maxLen]; omega) (by omega) (by simp; omega) ?_; intro X3 c3 w4 hown4 hu4 hfr4)
            go_roundw
            case rel =>
              refine ⟨SA3, sn3, sc3, S3, BA2, bn' - 2, bc' - 2, r, X3, on3 + 1, c3, acc3 ++ [(p, false)], rfl, rfl, rfl, by omega, by omega, by omega, ⟨HL2.out.sym, ?_, ?_, HL2.out.bds, ?_, ?_⟩, HBK2⟩
              · rw [itemV_app]; exact hown4
              · exact (HL2.out.upd.alloc _).then hu4 (fun b hb => by simp at hb; have := (hO.base hb.symm).1; right; omega)
              · have := HL2.out.all
                rw [List.append_assoc, ← this]
                rw [HS2.out, mrg_gt (s := (sv, sb)) (by show ¬ sv ≤ p; omega)]; rfl
              · have := HL2.out.few; simp only [List.length_cons] at this; omega
            case measure => simp [lenV]; omega
        · have hd0 : decide ((0 : Int) < sn3) = false := by simp; omega
          have HS3 : Hid (S3 = []) := by
            have := HL.out.sym.len
            exact List.eq_nil_of_length_eq_zero (by omega)
          · skip
            go_wp2
            go_quiet (fail)
            have HL2 : Hid (LSt S B w (wr.drewN nq) SA3 sn3 sc3 S3 (p :: prs r) O3 on3 oc3 acc3) := ⟨HL.out.sym, HL.out.out.drewN _, HL.out.upd.drewN _, HL.out.bds, HL.out.all, HL.out.few⟩
            have HG2 : Hid (Blk (wr.drewN nq) g 144 #[.int .i64 p, .bool false]) := HG.out.1.drewN _
            generalize wr.drewN nq = w3 at HL2 HG2 ⊢
            have G0 := HG2.out.cell 0
            have G1 := HG2.out.cell 1
            simp at G0 G1
            clear g0 g1
            have hO := HL2.out.out
            have hfew := HL2.out.few
            have hsz := HL2.out.upd.size
            simp only [List.length_cons] at hfew
            go_wp2_with (at_builtin; refine wpList_app rfl rfl el_item rfl (hO.alloc _) rfl (Seg.two _ _ _ _) (by simp [Value.oneCell']) (by simp only [maxLen]; omega) (by omega) (by simp; omega) ?_; intro X3 c3 w4 hown4 hu4 hfr4)
            go_roundw
            case rel =>
              refine ⟨SA3, sn3, sc3, S3, BA2, bn' - 2, bc' - 2, r, X3, on3 + 1, c3, acc3 ++ [(p, false)], rfl, rfl, rfl, by omega, by omega, by omega, ⟨HL2.out.sym, ?_, ?_, HL2.out.bds, ?_, ?_⟩, HBK2⟩
              · rw [itemV_app]; exact hown4
              · exact (HL2.out.upd.alloc _).then hu4 (fun b hb => by simp at hb; have := (hO.base hb.symm).1; right; omega)
              · have := HL2.out.all
                rw [List.append_assoc, ← this]
                rw [HS3.out, mrg_nil']; rfl
              · have := HL2.out.few; simp only [List.length_cons] at this; omega
            case measure => simp [lenV]; omega
    · have HPN : Hid (prs B' = []) := prs_short (by rw [HBK.out.1.len]; omega)
      have hO := HL.out.out
      have hsr := HL.out.sym.upd HL.out.upd (by simp)
      have hfew := HL.out.few
      have hsz := HL.out.upd.size
      go_wp2_with (at_builtin; refine wpList_app rfl rfl el_item rfl hO rfl hsr.seg (itemV_one _) (by simp only [maxLen]; omega) (by omega) hsz ?_; intro X3 c3 w4 hown4 hu4 hfr4)
      go_ret
      have hall := HL.out.all
      rw [HPN.out, mrg_nil] at hall
      have h1 := HL.out.sym.len
      have h2 : acc.length = on := by have := hO.len; rw [itemV_len] at this; omega
      refine ⟨X3, on + sn', c3, rfl, ?_, ?_, ?_⟩
      · rw [← hall, List.length_append]; omega
      · rw [← hall, itemV_app]; exact hown4
      · exact HL.out.upd.then hu4 (fun b hb => by simp at hb; have := (hO.base hb.symm).1; right; omega)

end Go.Proofs.YtolcdlopgbgilaaGreatDoor
