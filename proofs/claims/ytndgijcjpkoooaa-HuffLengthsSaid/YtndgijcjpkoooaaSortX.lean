/- The walks of slices.rotateCmpFunc and slices.insertionSortCmpFunc at huff.Lengths' closure. -/
import Derived.Test.YtndgijcjpkoooaaSortW
namespace Go.Proofs.Ytndgijcjpkoooaa
open Go.RowKit Go.Dray

set_option maxHeartbeats 1000000 in
theorem rotate_any {w0 w : World} {B : Nat} {A : Option Addr} {n c bx : Nat} {CA : Option Addr} {cn cc : Nat} {zs : List Int} {d : Nat → Int} (h : SS w0 w B A n c bx CA cn cc zs d) (a m b : Nat) (ha : a < m) (hm : m < b) (hb : b ≤ n) (hn : n ≤ 1000) (fv : Value) :
    Calls Try.prog 46 #[.slice A n c, .int .i64 a, .int .i64 m, .int .i64 b, fv] w (SPost w0 B A n c bx CA cn cc zs fun d' => d' = rot a m b d ∧ Mv n a b d d') := by
  have HS := Lib.hid h
  clear h
  go_enter Try.func46, Try.ntmps46
  go_wp2
  go_loopw [10, 11] (fun v u wr => ∃ i j : Nat, 1 ≤ i ∧ 1 ≤ j ∧ a + i ≤ m ∧ m + j ≤ b ∧ v = .int .i64 i ∧ u = .int .i64 j ∧ ∃ dk, Hid (SS w0 wr B A n c bx CA cn cc zs dk) ∧ Hid (rot (m - i) m (m + j) dk = rot a m b d ∧ Mv n a b d dk)) (fun v u _ => (intOf v).toNat + (intOf u).toNat)
  case atStart => exact ⟨m - a, b - m, by omega, by omega, by omega, by omega, by go_num, by go_num, d, HS, ⟨by rw [show m - (m - a) = a from by omega, show m + (b - m) = b from by omega], Mv.refl _ _ _ _⟩⟩
  case round =>
    clear HS
    obtain ⟨i, j, hi, hj, hai, hjb, rfl, rfl, dk, HI, HM⟩ := hrel
    by_cases hne : i = j
    · subst hne
      have hd : ((i : Int) != i) = false := by simp
      go_wp2_with fail
      have e1 : (m : Int) - i = ((m - i : Nat) : Int) := by omega
      rw [e1]
      refine (swapRange_any HI.out (m - i) m i (by omega) (by omega) hn fv).mono ?_
      rintro e w1 ⟨d', rfl, hs', rfl⟩
      go_wp2
      go_end0
      refine ⟨_, rfl, hs', ?_, ?_⟩
      · rw [rot_eq (by omega), HM.out.1]
      · exact HM.out.2.trans (Mv.swr (by omega) (by omega) hb (by omega) dk)
    · have hd : ((i : Int) != j) = true := by simp; omega
      by_cases hgt : j < i
      · go_wp2_with fail
        have e1 : (m : Int) - i = ((m - i : Nat) : Int) := by omega
        rw [e1]
        refine (swapRange_any HI.out (m - i) m j (by omega) (by omega) hn fv).mono ?_
        rintro e w1 ⟨d', rfl, hs', HD⟩
        have HS' := Lib.hid hs'
        have HD' := Lib.hid HD
        clear hs' HD
        go_wp2
        go_roundw
        case rel =>
          refine ⟨i - j, j, by omega, hj, by omega, hjb, by go_num, rfl, d', HS', ?_, ?_⟩
          · rw [HD'.out, rot_gt hgt (by omega), HM.out.1]
          · rw [HD'.out]; exact HM.out.2.trans (Mv.swr (by omega) (by omega) hb (by omega) dk)
        case measure => simp [intOf]; omega
      · have hgt2 : i < j := by omega
        go_wp2_with fail
        have e1 : (m : Int) - i = ((m - i : Nat) : Int) := by omega
        have e2 : (m : Int) + j - i = ((m + j - i : Nat) : Int) := by omega
        rw [e1, e2]
        refine (swapRange_any HI.out (m - i) (m + j - i) i (by omega) (by omega) hn fv).mono ?_
        rintro e w1 ⟨d', rfl, hs', HD⟩
        have HS' := Lib.hid hs'
        have HD' := Lib.hid HD
        clear hs' HD
        go_wp2
        go_roundw
        case rel =>
          refine ⟨i, j - i, hi, by omega, hai, by omega, rfl, by go_num, d', HS', ?_, ?_⟩
          · rw [HD'.out, rot_lt hgt2 (by omega), HM.out.1]
          · rw [HD'.out]; exact HM.out.2.trans (Mv.swr (by omega) (by omega) hb (by omega) dk)
        case measure => simp [intOf]; omega

set_option maxHeartbeats 2000000 in
theorem insertion_any {w0 w : World} {B : Nat} {A : Option Addr} {n c bx : Nat} {CA : Option Addr} {cn cc : Nat} {zs : List Int} {d : Nat → Int} (h : SS w0 w B A n c bx CA cn cc zs d) (a b : Nat) (hab : a ≤ b) (hb : b ≤ n) (hn : n ≤ 1000) :
    Calls Try.prog 44 #[.slice A n c, .int .i64 a, .int .i64 b, .func (.func 39) #[] #[.pointer (some ⟨bx, 0, none⟩)]] w (SPost w0 B A n c bx CA cn cc zs fun d' => Mv n a b d d' ∧ Sd (keyOf zs) a b d') := by
  have HS := Lib.hid h
  clear h
  go_enter Try.func44, Try.ntmps44
  go_wp2
  go_loopw [8] (fun v wr => ∃ i : Nat, a + 1 ≤ i ∧ i ≤ b + 1 ∧ v = .int .i64 i ∧ ∃ dk, Hid (SS w0 wr B A n c bx CA cn cc zs dk) ∧ Hid (Mv n a b d dk ∧ Sd (keyOf zs) a i dk)) (fun v _ => b + 1 - (intOf v).toNat)
  case atStart => exact ⟨a + 1, by omega, by omega, by go_num, d, HS, ⟨Mv.refl _ _ _ _, Sd.nil (by omega)⟩⟩
  case round =>
    clear HS
    obtain ⟨i, hi, hib, rfl, dk, HI, HM⟩ := hrel
    by_cases hlt : i < b
    · go_wp2
      obtain ⟨wo, rfl⟩ : ∃ wo : World, wo = wr := ⟨_, rfl⟩
      go_loopw [9] (fun v wr => ∃ j : Nat, a ≤ j ∧ j ≤ i ∧ v = .int .i64 j ∧ ∃ dj, Hid (SS w0 wr B A n c bx CA cn cc zs dj) ∧ Hid (Mv n a b d dj ∧ InsInv (keyOf zs) a i j dj)) (fun v _ => (intOf v).toNat)
      case atStart => exact ⟨i, by omega, by omega, rfl, dk, HI, ⟨HM.out.1, InsInv.start HM.out.2⟩⟩
      case round =>
        clear HI HM dk
        obtain ⟨j, haj, hji, rfl, dj, HJ, HMJ⟩ := hrel
        by_cases hja : a < j
        · obtain ⟨jp, rfl⟩ : ∃ jp, j = jp + 1 := ⟨j - 1, by omega⟩
          have hg : decide ((a : Int) < (jp : Int) + 1) = true := by simp; omega
          have c1 := HJ.out.cell (i := jp + 1) (by omega)
          have c2 := HJ.out.cell (i := jp) (by omega)
          have f1 := HJ.out.fz (i := jp + 1) (by omega)
          have f2 := HJ.out.fz (i := jp) (by omega)
          have i1 := HJ.out.index (i := jp + 1) (by omega) ((jp : Int) + 1) (by omega)
          have i2 := HJ.out.index (i := jp) (by omega) (jp : Int) rfl
          have g1 := HJ.out.good (jp + 1) (by omega)
          have g2 := HJ.out.good jp (by omega)
          obtain ⟨u3, c3⟩ := HJ.out.cell2 (i := jp + 1) (j := jp) (by omega) (by omega) (dj jp)
          have hsw := Lib.hid (fun q => ((HJ.out.drewN q).swap (i := jp + 1) (j := jp) (by omega) (by omega)).drew)
          have hcmp := HJ.out.cmp
          obtain ⟨x, hx⟩ : ∃ x, x = dj (jp + 1) := ⟨_, rfl⟩
          obtain ⟨y, hy⟩ : ∃ y, y = dj jp := ⟨_, rfl⟩
          have HX := Lib.hid hx
          have HY := Lib.hid hy
          rw [← hx] at c1 hsw g1
          rw [← hy] at c2 c3 hsw g2
          obtain ⟨p, hp⟩ : ∃ p, p = ofs A + (jp + 1) := ⟨_, rfl⟩
          obtain ⟨q, hq⟩ : ∃ q, q = ofs A + jp := ⟨_, rfl⟩
          rw [← hp] at c1 f1 i1 c3 hsw
          rw [← hq] at c2 f2 i2 c3 hsw
          clear hx hy hp hq
          have hcl := fun q => closure_any (hcmp.drewN q) x y g1 g2
          obtain ⟨r, hr⟩ : ∃ r, r = cmpI (keyOf zs x) (keyOf zs y) := ⟨_, rfl⟩
          rw [← hr] at hcl
          by_cases hneg : r < 0
          · have hkey : keyOf zs x < keyOf zs y := by rw [hr, cmpI_neg] at hneg; exact hneg
            have HK := Lib.hid hkey
            have hdr : decide (r < 0) = true := by simp [hneg]
            have HSJ := HJ
            clear hkey hr hneg HJ hcmp
            go_wp2
            go_quiet (first | (go_at_call 39; refine quietD (hcl _)))
            clear hcl
            go_wp2
            have hsw2 := Lib.hid (hsw.out nq)
            have C1 : (wr.drewN nq).cell? ⟨bl A, p, none⟩ = some (.int .i64 x) := c1
            have C2 : (wr.drewN nq).cell? ⟨bl A, q, none⟩ = some (.int .i64 y) := c2
            have C3 : ((wr.drewN nq).setCell ⟨bl A, p, none⟩ (.int .i64 y)).cell? ⟨bl A, q, none⟩ = some u3 := c3
            have F1 : (wr.drewN nq).frozen? ⟨bl A, p, none⟩ = false := f1
            have F2 : (wr.drewN nq).frozen? ⟨bl A, q, none⟩ = false := f2
            clear c1 c2 c3 f1 f2 hsw
            generalize wr.drewN nq = w2 at C1 C2 C3 F1 F2 hsw2 ⊢
            go_region
            clear C1 C2 C3 F1 F2 i1 i2
            generalize ((w2.setCell ⟨bl A, p, none⟩ (.int .i64 y)).setCell ⟨bl A, q, none⟩ (.int .i64 x)).drew = w3 at hsw2 ⊢
            go_wp2
            go_roundw
            case rel =>
              have hk := HK.out
              rw [HX.out, HY.out] at hk
              exact ⟨jp, by omega, by omega, by go_num, sw dj (jp + 1) jp, hsw2, ⟨HMJ.out.1.trans (Mv.sw dj (by omega) (by omega) hb), by
                have := HMJ.out.2.step (by omega) (by simpa using hk)
                simpa using this⟩⟩
            case measure => simp [intOf]
          · have hkey : ¬ keyOf zs x < keyOf zs y := by rw [hr, cmpI_neg] at hneg; exact hneg
            have HK := Lib.hid hkey
            have hdr : decide (r < 0) = false := by simp; omega
            have HSJ := HJ
            clear hkey hr hneg HJ hcmp
            go_wp2
            go_quiet (first | (go_at_call 39; refine quietD (hcl _)))
            clear hcl
            go_wp2
            go_roundw
            case rel =>
              have hk := HK.out
              rw [HX.out, HY.out] at hk
              exact ⟨i + 1, by omega, by omega, by go_num, dj, HSJ.out.drewN _, ⟨HMJ.out.1, HMJ.out.2.done ⟨by omega, hji⟩ (Or.inr (by simpa using hk))⟩⟩
            case measure => simp [intOf]; omega
        · obtain rfl : j = a := by omega
          have hg : decide ((j : Int) < j) = false := by simp
          go_wp2
          go_quiet (fail)
          go_wp2
          go_roundw
          case rel => exact ⟨i + 1, by omega, by omega, by go_num, dj, HJ.out.drewN _, ⟨HMJ.out.1, HMJ.out.2.done ⟨by omega, hji⟩ (Or.inl rfl)⟩⟩
          case measure => simp [intOf]; omega
    · go_wp2
      go_end0
      exact ⟨dk, rfl, HI.out, HM.out.1, HM.out.2.sub (Nat.le_refl _) (by omega)⟩

end Go.Proofs.Ytndgijcjpkoooaa
