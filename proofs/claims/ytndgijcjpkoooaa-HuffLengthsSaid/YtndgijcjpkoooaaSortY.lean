/- The walk of slices.symMergeCmpFunc at huff.Lengths' closure (printed by gen/symm.py). -/
import Derived.Test.YtndgijcjpkoooaaSortX
namespace Go.Proofs.Ytndgijcjpkoooaa
open Go.RowKit Go.Dray

theorem half_eq (i j : Nat) : ((i : Int) + j) / 2 = (((i + j) / 2 : Nat) : Int) := by omega

set_option maxRecDepth 100000 in
set_option maxHeartbeats 4000000 in
theorem symMerge_one {w0 w : World} {B : Nat} {A : Option Addr} {n c bx : Nat} {CA : Option Addr} {cn cc : Nat} {zs : List Int} {d : Nat → Int} (h : SS w0 w B A n c bx CA cn cc zs d) (a b : Nat) (hab : a + 1 < b) (hb : b ≤ n) (hn : n ≤ 1000) (hs : Sd (keyOf zs) (a + 1) b d) :
    Calls Try.prog 45 #[.slice A n c, .int .i64 a, .int .i64 ((a : Int) + 1), .int .i64 b, .func (.func 39) #[] #[.pointer (some ⟨bx, 0, none⟩)]] w (SPost w0 B A n c bx CA cn cc zs fun d' => Mv n a b d d' ∧ Sd (keyOf zs) a b d') := by
  have HS := Lib.hid h
  have HSD := Lib.hid hs
  clear h hs
  have hone : ((a : Int) + 1 - a == 1) = true := by simp; omega
  go_enter Try.func45, Try.ntmps45
  go_wp2
  go_loopw [10, 11] (fun v u wr => ∃ i j : Nat, a + 1 ≤ i ∧ i ≤ j ∧ j ≤ b ∧ v = .int .i64 i ∧ u = .int .i64 j ∧ Hid (SS w0 wr B A n c bx CA cn cc zs d) ∧ Hid ((i = a + 1 ∨ keyOf zs (d (i - 1)) < keyOf zs (d a)) ∧ (j = b ∨ keyOf zs (d a) ≤ keyOf zs (d j)))) (fun v u _ => (intOf u).toNat - (intOf v).toNat)
  case atStart => exact ⟨a + 1, b, by omega, by omega, by omega, by go_num, rfl, HS, ⟨Or.inl rfl, Or.inl rfl⟩⟩
  case round =>
    clear HS
    obtain ⟨i, j, hi, hij, hjb, rfl, rfl, HI, HM⟩ := hrel
    by_cases hlt : i < j
    · obtain ⟨hh, hhe⟩ : ∃ hh, hh = (i + j) / 2 := ⟨_, rfl⟩
      have c1 := HI.out.cell (i := hh) (by omega)
      have c2 := HI.out.cell (i := a) (by omega)
      have i1 := HI.out.index (i := hh) (by omega) (((i : Int) + j) / 2) (by omega)
      have i2 := HI.out.index (i := a) (by omega) ((a : Int)) (by omega)
      obtain ⟨x, hx⟩ : ∃ x, x = d (hh) := ⟨_, rfl⟩
      obtain ⟨y, hy⟩ : ∃ y, y = d (a) := ⟨_, rfl⟩
      have HX := Lib.hid hx
      have HY := Lib.hid hy
      have g1 := HI.out.good (hh) (by omega)
      have g2 := HI.out.good (a) (by omega)
      have hcmp := HI.out.cmp
      rw [← hx] at c1 g1
      rw [← hy] at c2 g2
      obtain ⟨p, hp⟩ : ∃ p, p = ofs A + (hh) := ⟨_, rfl⟩
      obtain ⟨q, hq⟩ : ∃ q, q = ofs A + (a) := ⟨_, rfl⟩
      rw [← hp] at c1 i1
      rw [← hq] at c2 i2
      have hcl := fun q => closure_any (hcmp.drewN q) x y g1 g2
      obtain ⟨r, hr⟩ : ∃ r, r = cmpI (keyOf zs x) (keyOf zs y) := ⟨_, rfl⟩
      rw [← hr] at hcl
      clear hx hy hp hq hcmp
      by_cases hneg : r < 0
      · have hkey : keyOf zs x < keyOf zs y := by rw [hr, cmpI_neg] at hneg; omega
        have HK := Lib.hid hkey
        have hdr : decide (r < 0) = true := by simp [hneg]
        clear hkey hr hneg
        go_wp2
        go_quiet (first | (go_at_call 39; refine quietD (hcl _)))
        clear hcl c1 c2 i1 i2
        go_wp2
        go_roundw
        case rel =>
          have hk := HK.out
          rw [HX.out, HY.out] at hk
          exact ⟨hh + 1, j, by omega, by omega, hjb, by go_num, rfl, HI.out.drewN _, ⟨Or.inr (by simpa using hk), HM.out.2⟩⟩
        case measure => simp [intOf]; omega
      · have hkey : keyOf zs y ≤ keyOf zs x := by rw [hr, cmpI_neg] at hneg; omega
        have HK := Lib.hid hkey
        have hdr : decide (r < 0) = false := by simp; omega
        clear hkey hr hneg
        go_wp2
        go_quiet (first | (go_at_call 39; refine quietD (hcl _)))
        clear hcl c1 c2 i1 i2
        go_wp2
        go_roundw
        case rel =>
          have hk := HK.out
          rw [HX.out, HY.out] at hk
          exact ⟨i, hh, hi, by omega, by omega, rfl, by go_num, HI.out.drewN _, ⟨HM.out.1, Or.inr hk⟩⟩
        case measure => simp [intOf]; omega
    · obtain rfl : i = j := by omega
      go_wp2
      go_loopw [13] (fun v wr => ∃ k : Nat, a ≤ k ∧ k < i ∧ v = .int .i64 k ∧ Hid (SS w0 wr B A n c bx CA cn cc zs (rot a (a + 1) (k + 1) d)) ∧ Hid (Mv n a b d (rot a (a + 1) (k + 1) d))) (fun v _ => i - (intOf v).toNat)
      case atStart => exact ⟨a, by omega, by omega, rfl, by rw [rot_id1]; exact HI, by rw [rot_id1]; exact Mv.refl _ _ _ _⟩
      case round =>
        clear HI
        obtain ⟨k, hak, hki, rfl, HK, HV⟩ := hrel
        by_cases hk : k < i - 1
        · have hk' : (k : Int) < (i : Int) - 1 := by omega
          obtain ⟨dk, hdk⟩ : ∃ dk, dk = rot a (a + 1) (k + 1) d := ⟨_, rfl⟩
          rw [← hdk] at HK HV
          have HDK := Lib.hid hdk
          clear hdk
          have c1 := HK.out.cell (i := k) (by omega)
          have c2 := HK.out.cell (i := k + 1) (by omega)
          have i1 := HK.out.index (i := k) (by omega) ((k : Int)) (by omega)
          have i2 := HK.out.index (i := k + 1) (by omega) ((k : Int) + 1) (by omega)
          obtain ⟨x, hx⟩ : ∃ x, x = dk (k) := ⟨_, rfl⟩
          obtain ⟨y, hy⟩ : ∃ y, y = dk (k + 1) := ⟨_, rfl⟩
          have HX := Lib.hid hx
          have HY := Lib.hid hy
          have f1 := HK.out.fz (i := k) (by omega)
          have f2 := HK.out.fz (i := k + 1) (by omega)
          obtain ⟨u3, c3⟩ := HK.out.cell2 (i := k) (j := k + 1) (by omega) (by omega) (dk (k + 1))
          have hsw := Lib.hid (HK.out.swap (i := k) (j := k + 1) (by omega) (by omega)).drew
          rw [← hx] at c1 hsw
          rw [← hy] at c2 c3 hsw
          obtain ⟨p, hp⟩ : ∃ p, p = ofs A + (k) := ⟨_, rfl⟩
          obtain ⟨q, hq⟩ : ∃ q, q = ofs A + (k + 1) := ⟨_, rfl⟩
          rw [← hp] at c1 f1 i1 c3 hsw
          rw [← hq] at c2 f2 i2 c3 hsw
          clear hx hy hp hq HK
          go_wp2
          go_region
          clear c1 c2 c3 f1 f2 i1 i2
          generalize ((wr.setCell ⟨bl A, p, none⟩ (.int .i64 y)).setCell ⟨bl A, q, none⟩ (.int .i64 x)).drew = w3 at hsw ⊢
          go_wp2
          go_roundw
          case rel => exact ⟨k + 1, by omega, by omega, by go_num, by rw [show k + 1 + 1 = k + 2 from rfl, ← rot_up hak, ← HDK.out]; exact hsw, by rw [show k + 1 + 1 = k + 2 from rfl, ← rot_up hak, ← HDK.out]; exact HV.out.trans (Mv.sw dk (by omega) (by omega) hb)⟩
          case measure => simp [intOf]; omega
        · have hk' : (i : Int) - 1 ≤ (k : Int) := by omega
          have hki2 : k + 1 = i := by omega
          go_wp2
          first | go_end0 | go_ret
          refine ⟨_, rfl, HK.out, HV.out, ?_⟩
          rw [hki2]
          exact one_up HSD.out hi hjb HM.out.1 HM.out.2

set_option maxRecDepth 100000 in
set_option maxHeartbeats 4000000 in
theorem symMerge_last {w0 w : World} {B : Nat} {A : Option Addr} {n c bx : Nat} {CA : Option Addr} {cn cc : Nat} {zs : List Int} {d : Nat → Int} (h : SS w0 w B A n c bx CA cn cc zs d) (a m : Nat) (ham : a + 1 < m) (hb : m + 1 ≤ n) (hn : n ≤ 1000) (hs : Sd (keyOf zs) a m d) :
    Calls Try.prog 45 #[.slice A n c, .int .i64 a, .int .i64 m, .int .i64 ((m : Int) + 1), .func (.func 39) #[] #[.pointer (some ⟨bx, 0, none⟩)]] w (SPost w0 B A n c bx CA cn cc zs fun d' => Mv n a (m + 1) d d' ∧ Sd (keyOf zs) a (m + 1) d') := by
  have HS := Lib.hid h
  have HSD := Lib.hid hs
  clear h hs
  have hone0 : ((m : Int) - a == 1) = false := by simp; omega
  have hone : ((m : Int) + 1 - m == 1) = true := by simp; omega
  go_enter Try.func45, Try.ntmps45
  go_wp2
  go_loopw [14, 15] (fun v u wr => ∃ i j : Nat, a ≤ i ∧ i ≤ j ∧ j ≤ m ∧ v = .int .i64 i ∧ u = .int .i64 j ∧ Hid (SS w0 wr B A n c bx CA cn cc zs d) ∧ Hid ((i = a ∨ keyOf zs (d (i - 1)) ≤ keyOf zs (d m)) ∧ (j = m ∨ keyOf zs (d m) < keyOf zs (d j)))) (fun v u _ => (intOf u).toNat - (intOf v).toNat)
  case atStart => exact ⟨a, m, by omega, by omega, by omega, rfl, rfl, HS, ⟨Or.inl rfl, Or.inl rfl⟩⟩
  case round =>
    clear HS
    obtain ⟨i, j, hi, hij, hjb, rfl, rfl, HI, HM⟩ := hrel
    by_cases hlt : i < j
    · obtain ⟨hh, hhe⟩ : ∃ hh, hh = (i + j) / 2 := ⟨_, rfl⟩
      have c1 := HI.out.cell (i := m) (by omega)
      have c2 := HI.out.cell (i := hh) (by omega)
      have i1 := HI.out.index (i := m) (by omega) ((m : Int)) (by omega)
      have i2 := HI.out.index (i := hh) (by omega) (((i : Int) + j) / 2) (by omega)
      obtain ⟨x, hx⟩ : ∃ x, x = d (m) := ⟨_, rfl⟩
      obtain ⟨y, hy⟩ : ∃ y, y = d (hh) := ⟨_, rfl⟩
      have HX := Lib.hid hx
      have HY := Lib.hid hy
      have g1 := HI.out.good (m) (by omega)
      have g2 := HI.out.good (hh) (by omega)
      have hcmp := HI.out.cmp
      rw [← hx] at c1 g1
      rw [← hy] at c2 g2
      obtain ⟨p, hp⟩ : ∃ p, p = ofs A + (m) := ⟨_, rfl⟩
      obtain ⟨q, hq⟩ : ∃ q, q = ofs A + (hh) := ⟨_, rfl⟩
      rw [← hp] at c1 i1
      rw [← hq] at c2 i2
      have hcl := fun q => closure_any (hcmp.drewN q) x y g1 g2
      obtain ⟨r, hr⟩ : ∃ r, r = cmpI (keyOf zs x) (keyOf zs y) := ⟨_, rfl⟩
      rw [← hr] at hcl
      clear hx hy hp hq hcmp
      by_cases hneg : r < 0
      · have hkey : keyOf zs x < keyOf zs y := by rw [hr, cmpI_neg] at hneg; omega
        have HK := Lib.hid hkey
        have hdr : decide (r < 0) = true := by simp [hneg]
        clear hkey hr hneg
        go_wp2
        go_quiet (first | (go_at_call 39; refine quietD (hcl _)))
        clear hcl c1 c2 i1 i2
        go_wp2
        go_roundw
        case rel =>
          have hk := HK.out
          rw [HX.out, HY.out] at hk
          exact ⟨i, hh, hi, by omega, by omega, rfl, by go_num, HI.out.drewN _, ⟨HM.out.1, Or.inr hk⟩⟩
        case measure => simp [intOf]; omega
      · have hkey : keyOf zs y ≤ keyOf zs x := by rw [hr, cmpI_neg] at hneg; omega
        have HK := Lib.hid hkey
        have hdr : decide (r < 0) = false := by simp; omega
        clear hkey hr hneg
        go_wp2
        go_quiet (first | (go_at_call 39; refine quietD (hcl _)))
        clear hcl c1 c2 i1 i2
        go_wp2
        go_roundw
        case rel =>
          have hk := HK.out
          rw [HX.out, HY.out] at hk
          exact ⟨hh + 1, j, by omega, by omega, hjb, by go_num, rfl, HI.out.drewN _, ⟨Or.inr (by simpa using hk), HM.out.2⟩⟩
        case measure => simp [intOf]; omega
    · obtain rfl : i = j := by omega
      go_wp2
      go_loopw [17] (fun v wr => ∃ k : Nat, i ≤ k ∧ k ≤ m ∧ v = .int .i64 k ∧ Hid (SS w0 wr B A n c bx CA cn cc zs (rot k m (m + 1) d)) ∧ Hid (Mv n a (m + 1) d (rot k m (m + 1) d))) (fun v _ => (intOf v).toNat)
      case atStart => exact ⟨m, by omega, by omega, rfl, by rw [rot_id2]; exact HI, by rw [rot_id2]; exact Mv.refl _ _ _ _⟩
      case round =>
        clear HI
        obtain ⟨k, hak, hki, rfl, HK, HV⟩ := hrel
        by_cases hk : i < k
        · obtain ⟨dk, hdk⟩ : ∃ dk, dk = rot k m (m + 1) d := ⟨_, rfl⟩
          rw [← hdk] at HK HV
          have HDK := Lib.hid hdk
          clear hdk
          obtain ⟨kp, rfl⟩ : ∃ kp, k = kp + 1 := ⟨k - 1, by omega⟩
          have hk' : (i : Int) < (kp : Int) + 1 := by omega
          have c1 := HK.out.cell (i := kp + 1) (by omega)
          have c2 := HK.out.cell (i := kp) (by omega)
          have i1 := HK.out.index (i := kp + 1) (by omega) ((kp : Int) + 1) (by omega)
          have i2 := HK.out.index (i := kp) (by omega) ((kp : Int)) (by omega)
          obtain ⟨x, hx⟩ : ∃ x, x = dk (kp + 1) := ⟨_, rfl⟩
          obtain ⟨y, hy⟩ : ∃ y, y = dk (kp) := ⟨_, rfl⟩
          have HX := Lib.hid hx
          have HY := Lib.hid hy
          have f1 := HK.out.fz (i := kp + 1) (by omega)
          have f2 := HK.out.fz (i := kp) (by omega)
          obtain ⟨u3, c3⟩ := HK.out.cell2 (i := kp + 1) (j := kp) (by omega) (by omega) (dk (kp))
          have hsw := Lib.hid (HK.out.swap (i := kp + 1) (j := kp) (by omega) (by omega)).drew
          rw [← hx] at c1 hsw
          rw [← hy] at c2 c3 hsw
          obtain ⟨p, hp⟩ : ∃ p, p = ofs A + (kp + 1) := ⟨_, rfl⟩
          obtain ⟨q, hq⟩ : ∃ q, q = ofs A + (kp) := ⟨_, rfl⟩
          rw [← hp] at c1 f1 i1 c3 hsw
          rw [← hq] at c2 f2 i2 c3 hsw
          clear hx hy hp hq HK
          go_wp2
          go_region
          clear c1 c2 c3 f1 f2 i1 i2
          generalize ((wr.setCell ⟨bl A, p, none⟩ (.int .i64 y)).setCell ⟨bl A, q, none⟩ (.int .i64 x)).drew = w3 at hsw ⊢
          go_wp2
          go_roundw
          case rel => exact ⟨kp, by omega, by omega, by go_num, by have e := rot_down (m := m) (k := kp + 1) (by omega) hki d; rw [← HDK.out] at e; rw [show kp = kp + 1 - 1 from rfl, ← e]; exact hsw, by have e := rot_down (m := m) (k := kp + 1) (by omega) hki d; rw [← HDK.out] at e; rw [show kp = kp + 1 - 1 from rfl, ← e]; exact HV.out.trans (Mv.sw dk (by omega) (by omega) hb)⟩
          case measure => simp [intOf]
        · obtain rfl : i = k := by omega
          go_wp2
          first | go_end0 | go_ret
          refine ⟨_, rfl, HK.out, HV.out, ?_⟩
          exact one_down HSD.out hi hjb HM.out.1 HM.out.2

end Go.Proofs.Ytndgijcjpkoooaa
