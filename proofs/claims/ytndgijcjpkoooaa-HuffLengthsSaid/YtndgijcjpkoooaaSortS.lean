/- The walks of slices.stableCmpFunc and slices.SortStableFunc at huff.Lengths' closure. -/
import Derived.Test.YtndgijcjpkoooaaSortZc
namespace Go.Proofs.Ytndgijcjpkoooaa
open Go.RowKit Go.Dray

theorem Bs.grow {κ : Int → Int} {n a b : Nat} {d d' : Nat → Int} (h : Bs κ 20 a d) (ha : a % 20 = 0) (hb : b ≤ a + 20) (hm : Mv n a b d d') (hs : Sd κ a b d') : Bs κ 20 b d' := by
  intro i j h1 h2 h3
  by_cases hi : a ≤ i
  · exact hs i j hi h1 h2
  · have : j < a := by omega
    rw [hm.out i (by omega), hm.out j (by omega)]
    exact h i j h1 this h3
theorem Bs.all {κ : Int → Int} {n bs : Nat} {d : Nat → Int} (h : Bs κ bs n d) (hb : n ≤ bs) : Sd κ 0 n d := fun i j _ h2 h3 => h i j h2 h3 (by rw [Nat.div_eq_of_lt (by omega), Nat.div_eq_of_lt (by omega)])
theorem Bs.nil {κ : Int → Int} {bs : Nat} {d : Nat → Int} : Bs κ bs 0 d := fun i j _ h => by omega

set_option maxRecDepth 100000 in
set_option maxHeartbeats 2000000 in
theorem stable_any {w0 w : World} {B : Nat} {A : Option Addr} {n c bx : Nat} {CA : Option Addr} {cn cc : Nat} {zs : List Int} {d : Nat → Int} (h : SS w0 w B A n c bx CA cn cc zs d) (hn : n ≤ 320) :
    Calls Try.prog 42 #[.slice A n c, .int .i64 n, .func (.func 39) #[] #[.pointer (some ⟨bx, 0, none⟩)]] w (SPost w0 B A n c bx CA cn cc zs fun d' => Mv n 0 n d d' ∧ Sd (keyOf zs) 0 n d') := by
  have HS := Lib.hid h
  clear h
  go_enter Try.func42, Try.ntmps42
  go_wp2
  go_loopw [7, 8] (fun v u wr => ∃ a : Nat, a ≤ n ∧ v = .int .i64 a ∧ u = .int .i64 ((a : Int) + 20) ∧ Hid (a % 20 = 0) ∧ ∃ dk, Hid (SS w0 wr B A n c bx CA cn cc zs dk) ∧ Hid (Mv n 0 n d dk ∧ Bs (keyOf zs) 20 a dk)) (fun v _ _ => n - (intOf v).toNat)
  case atStart => exact ⟨0, by omega, rfl, rfl, rfl, d, HS, ⟨Mv.refl _ _ _ _, Bs.nil⟩⟩
  case round =>
    clear HS
    obtain ⟨a, han, rfl, rfl, HA, dk, HI, HM⟩ := hrel
    by_cases hlt : a + 20 ≤ n
    · go_wp2_with fail
      rw [show ((a : Int) + 20) = ((a + 20 : Nat) : Int) from by omega]
      refine (insertion_any HI.out a (a + 20) (by omega) hlt (by omega)).mono ?_
      rintro e w1 ⟨d1, rfl, hs1, hm1, hsd1⟩
      have HS1 := Lib.hid hs1
      have HM1 := Lib.hid hm1
      have HD1 := Lib.hid hsd1
      clear hs1 hm1 hsd1
      go_wp2
      go_roundw
      case rel => exact ⟨a + 20, hlt, rfl, by go_num, by show _ = _; have := HA.out; omega, d1, HS1, ⟨HM.out.1.trans (HM1.out.mono (by omega) hlt), HM.out.2.grow HA.out (by omega) HM1.out HD1.out⟩⟩
      case measure => simp [intOf]; omega
    · go_wp2_with fail
      refine (insertion_any HI.out a n han (Nat.le_refl _) (by omega)).mono ?_
      rintro e w1 ⟨d1, rfl, hs1, hm1, hsd1⟩
      have HS1 := Lib.hid hs1
      have HM1 : Hid (Mv n 0 n d d1) := HM.out.1.trans (hm1.mono (by omega) (by omega))
      have HB1 : Hid (Bs (keyOf zs) 20 n d1) := HM.out.2.grow HA.out (by omega) hm1 hsd1
      clear hs1 hm1 hsd1 HM HI HA hlt han
      go_wp2
      go_loopw [6] (fun v wr => ∃ bs : Nat, 20 ≤ bs ∧ bs ≤ 320 ∧ v = .int .i64 bs ∧ Hid (isBs bs ∨ bs = 320) ∧ ∃ dk, Hid (SS w0 wr B A n c bx CA cn cc zs dk) ∧ Hid (Mv n 0 n d dk ∧ Bs (keyOf zs) bs n dk)) (fun v _ => 320 - (intOf v).toNat)
      case atStart => exact ⟨20, by omega, by omega, rfl, Or.inl (Or.inl rfl), d1, HS1, ⟨HM1.out, HB1.out⟩⟩
      case round =>
        clear HS1 HM1 HB1
        obtain ⟨bs, hb1, hb2, rfl, HB, dk, HI, HM⟩ := hrel
        by_cases hlt : bs < n
        · have HB' : Hid (isBs bs) := by
            rcases HB.out with h | h
            · exact h
            · omega
          have hb3 : bs ≤ 160 := by rcases HB'.out with h | h | h | h <;> omega
          clear HB
          go_wp2
          obtain ⟨wo, rfl⟩ : ∃ wo : World, wo = wr := ⟨_, rfl⟩
          go_loopw [7, 8] (fun v u wr => ∃ a : Nat, a ≤ n ∧ v = .int .i64 a ∧ u = .int .i64 ((a : Int) + 2 * bs) ∧ Hid (a % (2 * bs) = 0) ∧ ∃ dk, Hid (SS w0 wr B A n c bx CA cn cc zs dk) ∧ Hid (Mv n 0 n d dk ∧ Ms (keyOf zs) bs a n dk)) (fun v _ _ => n - (intOf v).toNat)
          case atStart => exact ⟨0, by omega, rfl, by go_num, by show _ = _; simp, dk, HI, ⟨HM.out.1, Ms.start HM.out.2⟩⟩
          case round =>
            clear HI HM dk
            obtain ⟨a, han, rfl, rfl, HA, dk, HI, HM⟩ := hrel
            by_cases hle : a + 2 * bs ≤ n
            · go_wp2_with fail
              rw [show ((a : Int) + 2 * bs) = ((a + 2 * bs : Nat) : Int) from by omega, show ((a : Int) + bs) = ((a + bs : Nat) : Int) from by omega]
              have hh := Ms.halves HB'.out HM.out.2 HA.out (a + 2 * bs) hle (Nat.le_refl _)
              rw [show min (a + bs) (a + 2 * bs) = a + bs from by omega] at hh
              refine (symMerge_any (by omega) (a + 2 * bs - a + 1) _ dk a (a + bs) (a + 2 * bs) (by omega) HI.out (by omega) (by omega) hle hh.1 hh.2).mono ?_
              rintro e w1 ⟨d1, rfl, hs1, hm1, hsd1⟩
              have HS1 := Lib.hid hs1
              have HM1 := Lib.hid hm1
              have HST := Lib.hid (Ms.step HB'.out HM.out.2 HA.out hle hm1 hsd1)
              clear hs1 hm1 hsd1 hh
              go_wp2
              go_roundw
              case rel => exact ⟨a + 2 * bs, hle, rfl, by go_num, HST.out.2, d1, HS1, ⟨HM.out.1.trans (HM1.out.mono (by omega) hle), HST.out.1⟩⟩
              case measure => simp [intOf]; omega
            · by_cases hmn : a + bs < n
              · go_wp2_with fail
                rw [show ((a : Int) + bs) = ((a + bs : Nat) : Int) from by omega]
                have hh := Ms.halves HB'.out HM.out.2 HA.out n (Nat.le_refl _) (by omega)
                rw [show min (a + bs) n = a + bs from by omega] at hh
                refine (symMerge_any (by omega) (n - a + 1) _ dk a (a + bs) n (by omega) HI.out (by omega) (by omega) (Nat.le_refl _) hh.1 hh.2).mono ?_
                rintro e w1 ⟨d1, rfl, hs1, hm1, hsd1⟩
                have HS1 := Lib.hid hs1
                have HM1 := Lib.hid hm1
                have HL := Lib.hid (Ms.last HB'.out HM.out.2 HA.out han (by omega) hm1 hsd1)
                clear hs1 hm1 hsd1 hh
                go_wp2
                go_roundw
                case rel => exact ⟨2 * bs, by omega, by omega, by go_num, by rcases HB'.out with h | h | h | h <;> subst h <;> simp [Hid, isBs], d1, HS1, ⟨HM.out.1.trans (HM1.out.mono (by omega) (Nat.le_refl _)), HL.out⟩⟩
                case measure => simp [intOf]; omega
              · have hh := Ms.halves HB'.out HM.out.2 HA.out n (Nat.le_refl _) (by omega)
                rw [show min (a + bs) n = n from by omega] at hh
                have HL := Lib.hid (Ms.last HB'.out HM.out.2 HA.out han (by omega) (Mv.refl _ _ _ _) hh.1)
                clear hh
                go_wp2
                go_roundw
                case rel => exact ⟨2 * bs, by omega, by omega, by go_num, by rcases HB'.out with h | h | h | h <;> subst h <;> simp [Hid, isBs], dk, HI, ⟨HM.out.1, HL.out⟩⟩
                case measure => simp [intOf]; omega
        · go_wp2
          go_end0
          exact ⟨dk, rfl, HI.out, HM.out.1, HM.out.2.all (by omega)⟩

set_option maxHeartbeats 1000000 in
theorem sortStable_any {w0 w : World} {B : Nat} {A : Option Addr} {n c bx : Nat} {CA : Option Addr} {cn cc : Nat} {zs : List Int} {d : Nat → Int} (h : SS w0 w B A n c bx CA cn cc zs d) (hn : n ≤ 320) :
    Calls Try.prog 38 #[.slice A n c, .func (.func 39) #[] #[.pointer (some ⟨bx, 0, none⟩)]] w (SPost w0 B A n c bx CA cn cc zs fun d' => Mv n 0 n d d' ∧ Sd (keyOf zs) 0 n d') := by
  have HS := Lib.hid h
  clear h
  go_enter Try.func38, Try.ntmps38
  go_wp2_with fail
  refine (stable_any HS.out hn).mono ?_
  rintro e w1 ⟨d1, rfl, hs1, hq⟩
  go_wp2
  go_end0
  exact ⟨d1, rfl, hs1, hq⟩

end Go.Proofs.Ytndgijcjpkoooaa
