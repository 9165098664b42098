/- The walks of drayagelaw04: awake, InflateShort. -/
import Derived.Test.YtolcdlopgbgilaaDoorInfJ
import Derived.Test.YtolcdlopgbgilaaDoorDefP
import Derived.Test.YtolcdlopgbgilaaDoorLawKit
namespace Go.Proofs.YtolcdlopgbgilaaDoor
open Go.RowKit Go.Dray

theorem inBytes_bd {W : World} {A : Option Addr} {n c : Nat} {zs : List Int} (h : InInts .u8 W A n c zs) : ∀ z ∈ zs, 0 ≤ z ∧ z ≤ 255 := fun z hz => bounds_u8 (h.2.2.2 z hz)

theorem run_take_val {bs : List Bool} {most n p : Nat} {k : Int → Pr} {o : List Int} (v : Int) (h : p + n ≤ bs.length) (hv : num ((bs.drop p).take n) = v) : run bs most (.take n k) p o = run bs most (k v) (p + n) o := by rw [run, if_pos h, hv]

def aw1 : List Int := [1, 1, 0, 254, 255, 97]
def aw2 : List Int := [75, 4, 0, 9]
theorem aw1_run (F f : Nat) : run (bitsOf aw1) 10 (infPr F (f + 1)) 0 [] = .ok [97] 48 := by
  have hl : (bitsOf aw1).length = 48 := by rw [bitsOf_len]; rfl
  rw [infPr, run_take_val 1 (by rw [hl]; decide) (by decide +kernel)]
  unfold blockPr
  rw [run_take_val 0 (by rw [hl]; decide) (by decide +kernel), if_pos rfl]
  unfold storedPr
  rw [run, show alignUp (0 + 1 + 2) = 8 from rfl]
  rw [run_take_val 1 (by rw [hl]; decide) (by decide +kernel), run_take_val 65534 (by rw [hl]; decide) (by decide +kernel), if_neg (by decide), run]
  rw [show alignUp (8 + 16 + 16) = 40 from rfl, if_pos (by rw [hl]; decide), run, show bytesAt (bitsOf aw1) 40 (Int.toNat 1) = [97] from by decide +kernel, if_pos (by decide), if_neg (by decide), run]
  rfl
theorem aw2_run (F f : Nat) (hF : 2 ≤ F) : run (bitsOf aw2) 10 (infPr F (f + 1)) 0 [] = .ok [97] 18 := by
  have hl : (bitsOf aw2).length = 32 := by rw [bitsOf_len]; rfl
  rw [infPr, run_take_val 1 (by rw [hl]; decide) (by decide +kernel)]
  unfold blockPr
  rw [run_take_val 1 (by rw [hl]; decide) (by decide +kernel), if_neg (by decide), if_pos rfl]
  have hh : Has fixedL 97 := by unfold Has; decide +kernel
  have h256 : Has fixedL 256 := by unfold Has; decide +kernel
  have e := sym_back (bs := bitsOf aw2) (most := 10) (k := if (1 : Int) = 0 then infPr F f else .done) fixedL_chk fixedD_chk h256 [(97, 0)] [] (0 + 1 + 2) F (by rw [hl]; decide)
    (by intro x hx; rw [List.mem_singleton] at hx; subst hx; unfold PieceHas; rw [if_pos rfl]; exact hh) ⟨Or.inl ⟨rfl, by decide, by decide⟩, trivial⟩ ⟨(bitsOf aw2).drop 18, by decide +kernel⟩ (by show 1 < F; omega) (by decide)
  rw [e, if_neg (by decide), run, show (blockBits fixedL fixedD [(97, 0)]).length = 15 from by decide +kernel]
  rfl

theorem str_cut {w : World} {A : Option Addr} {n c : Nat} {zs : List Int} (h : Ints .u8 w A n zs) : (convert 22 9 (.slice A n c)).run Tryd.prog w = .ok (.string (strOfNums zs)) w :=
  h.str Tryd.underlying22 Tryd.underlying5 Tryd.underlying9 c

set_option maxRecDepth 100000 in
set_option maxHeartbeats 1000000 in
theorem awake_any (w : World) (ho : OrdI w) : Calls Tryd.prog 11 #[] w fun e w' => e = .returned (.bool true) ∧ Upd [] w w' := by
  have HO := Lib.hid ho
  clear ho
  obtain ⟨w1, hw1⟩ : ∃ w1 : World, w1 = w.alloc (.cells #[.int .u8 1, .int .u8 1, .int .u8 0, .int .u8 254, .int .u8 255, .int .u8 97] 5) := ⟨_, rfl⟩
  have hs1 : Ints .u8 w1 (some ⟨w.heap.size, 0, none⟩) 6 aw1 := by rw [hw1]; exact (Blk.new _ _ _).seg
  have hu1 : Upd [] w w1 := by rw [hw1]; exact (Upd.refl _ _).alloc _
  go_enter Tryd.func11, Tryd.ntmps11
  go_wp2_with fail
  rw [← hw1]
  refine (inflate_any _ 6 6 aw1 10 w1 hs1 (by decide) (HO.out.upd hu1) (by omega) 49 (by omega)).mono ?_
  rintro e w2 ⟨hu2, ⟨h, _⟩ | ⟨_, _, x, _, hr, _⟩ | ⟨_, _, out, p, A, on, oc, hr, rfl, hi, hon, -, -, hfr, -, -⟩⟩
  · exact absurd h (by decide)
  · rw [show Int.toNat 10 = 10 from rfl, aw1_run] at hr; cases hr
  rw [show Int.toNat 10 = 10 from rfl, aw1_run] at hr
  injection hr with h1 h2
  subst h1 h2
  have hU2 := hu1.trans hu2
  obtain ⟨w3, hw3⟩ : ∃ w3 : World, w3 = w2.alloc (.cells #[.int .u8 75, .int .u8 4, .int .u8 0, .int .u8 9] 5) := ⟨_, rfl⟩
  have hs3 : Ints .u8 w3 (some ⟨w2.heap.size, 0, none⟩) 4 aw2 := by rw [hw3]; exact (Blk.new _ _ _).seg
  have hu3 : Upd [] w2 w3 := by rw [hw3]; exact (Upd.refl _ _).alloc _
  clear hs1 hu1 hw1
  go_wp2_with fail
  rw [← hw3]
  refine (inflate_any _ 4 4 aw2 10 w3 hs3 (by decide) (HO.out.upd (hU2.trans hu3)) (by omega) 33 (by omega)).mono ?_
  rintro e w4 ⟨hu4, ⟨h, _⟩ | ⟨_, _, x, _, hr, _⟩ | ⟨_, _, out, p, A2, on2, oc2, hr, rfl, hi2, hon2, -, -, hfr2, -, -⟩⟩
  · exact absurd h (by decide)
  · rw [show Int.toNat 10 = 10 from rfl, aw2_run _ _ (by omega)] at hr; cases hr
  rw [show Int.toNat 10 = 10 from rfl, aw2_run _ _ (by omega)] at hr
  injection hr with h1 h2
  subst h1 h2
  have hi4 := hi.upd (hu3.trans hu4) (by simp)
  have c1 := str_cut (c := oc) hi4
  have c2 := str_cut (c := oc2) hi2
  have HU := Lib.hid ((hU2.trans hu3).trans hu4)
  have es : strOfNums [97] = { data := #[97] } := rfl
  rw [es] at c1 c2
  clear hi hi2 hi4 hu2 hu3 hu4 hU2 hs3 hw3 hfr hfr2 hon hon2
  go_wp2
  go_ret
  exact ⟨rfl, HU.out⟩

/-- Where Inflate ends is behind the first bit. -/
theorem infl_pos {bs : List Bool} {most F f p : Nat} {out : List Int} (h : run bs most (infPr F (f + 1)) 0 [] = .ok out p) : 1 ≤ p := by
  rw [infPr, run] at h
  split at h
  · exact (run_ge _ h).1
  · cases h

theorem bitsOf_cut (zs : List Int) (k : Nat) (h : k ≤ zs.length) : bitsOf (zs.take k) = (bitsOf zs).take (8 * k) := by
  apply List.ext_getElem?
  intro i
  by_cases hi : i < 8 * k
  · rw [List.getElem?_take_of_lt hi]
    unfold bitsOf
    rw [tab_get _ (by rw [List.length_take]; omega), tab_get _ (by omega)]
    have h1 : (zs.take k).getD (i / 8) 0 = zs.getD (i / 8) 0 := by
      simp only [List.getD, List.getElem?_take_of_lt (show i / 8 < k by omega)]
    rw [h1]
  · rw [List.getElem?_eq_none (by rw [bitsOf_len, List.length_take]; omega), List.getElem?_eq_none (by rw [List.length_take]; omega)]

set_option maxRecDepth 100000 in
set_option maxHeartbeats 1000000 in
theorem inflateShort_walk (A : Option Addr) (n c : Nat) (zs : List Int) (cut : Int) (w : World) (hin : InInts .u8 w A n c zs) (hw : (Lit.int .i64 cut).wf = true) (hT : OrdI w) :
    Calls Tryd.prog 5 #[.slice A n c, .int .i64 cut] w fun e w' => e = .returned (.bool true) ∧ Below w.heap.size w w' := by
  have HZ := Lib.hid (inBytes_bd hin)
  have HT := Lib.hid hT
  have HS := Lib.hid hin.1
  have hnc := hin.2.1
  have HL := hin.1.len
  clear hin hT
  by_cases hn : 300 < n
  · have d1 : decide ((300 : Int) < n) = true := by simp; omega
    go_enter Tryd.func5, Tryd.ntmps5
    go_wp2_with (go_at_call 11; refine (awake_any _ HT.out).mono ?_; rintro e w1 ⟨rfl, hu1⟩)
    go_ret
    exact ⟨rfl, hu1.below (Nat.le_refl _) (by simp)⟩
  · have d1 : decide ((300 : Int) < n) = false := by simp; omega
    go_enter Tryd.func5, Tryd.ntmps5
    go_wp2_with (first | (go_at_call 11; refine (awake_any _ HT.out).mono ?_; rintro e w1 ⟨rfl, hu1⟩) | fail)
    have HT1 := Lib.hid (HT.out.upd hu1)
    have HS1 := Lib.hid (HS.out.upd hu1 (by simp))
    have HU1 := Lib.hid hu1
    clear hu1
    refine (inflate_any A n c zs 5000 w1 HS1.out HZ.out HT1.out (by omega) (8 * n + 1) (by omega)).mono ?_
    rintro e w2 ⟨hu2, ⟨h, _⟩ | ⟨_, _, x, hx0, hr, rfl⟩ | ⟨_, _, out, p, A1, on, oc, hr, rfl, hi, hon, -, -, hfr, hp8, -⟩⟩
    · exact absurd h (by decide)
    · have dx : (x != 0) = true := by simp [hx0]
      go_wp2
      go_ret
      exact ⟨rfl, (HU1.out.trans hu2).below (Nat.le_refl _) (by simp)⟩
    · have HR := Lib.hid hr
      have HU2 := Lib.hid (HU1.out.trans hu2)
      have HS2 := Lib.hid (HS1.out.upd hu2 (by simp))
      have HT2 := Lib.hid (HT1.out.upd hu2)
      have HP := Lib.hid (infl_pos hr)
      clear hr hu2 hi hfr
      by_cases hc0 : cut < 0
      · have d2 : decide (cut < 0) = true := by simp [hc0]
        go_wp2
        go_ret
        exact ⟨rfl, HU2.out.below (Nat.le_refl _) (by simp)⟩
      · have d2 : decide (cut < 0) = false := by simp; omega
        obtain ⟨k, rfl⟩ := Int.eq_ofNat_of_zero_le (show 0 ≤ cut by omega)
        obtain ⟨used, hus⟩ : ∃ used, used = (p + 7) / 8 := ⟨_, rfl⟩
        rw [← hus]
        have HUS := Lib.hid hus
        clear hus hc0
        by_cases hcu : used ≤ k
        · have d3 : decide ((used : Int) ≤ k) = true := by simp; omega
          go_wp2
          go_ret
          exact ⟨rfl, HU2.out.below (Nat.le_refl _) (by simp)⟩
        · have d3 : decide ((used : Int) ≤ k) = false := by simp; omega
          have hkn : k ≤ n := by have := HUS.out; omega
          have cut1 := run_cut_h el_byte A n c .i64 (k : Int) k rfl (by omega)
          have HSK : Hid (Ints .u8 w2 A k (zs.take k)) := HS2.out.pre hkn
          have HRK : Hid (run (bitsOf (zs.take k)) 5000 (infPr (8 * n + 1) (8 * n + 1)) 0 [] = .err 2) := by
            show _ = _
            have := HUS.out
            rw [bitsOf_cut zs k (by rw [HL.out]; exact hkn)]
            exact run_cut _ HR.out (by omega) (by omega) (by rw [bitsOf_len, HL.out]; omega)
          clear HR
          go_wp2_with fail
          refine (inflate_any A k c (zs.take k) 5000 w2 HSK.out (fun z hz => HZ.out z (List.mem_of_mem_take hz)) HT2.out (by omega) (8 * n + 1) (by omega)).mono ?_
          rintro e w3 ⟨hu3, ⟨h, _⟩ | ⟨_, _, x, hx0, hr, rfl⟩ | ⟨_, _, out, p, A1, on, oc, hr, rfl, hi, hon, -, -, hfr, hp8, -⟩⟩
          · exact absurd h (by decide)
          · rw [show Int.toNat 5000 = 5000 from rfl, HRK.out] at hr
            injection hr with hr
            subst hr
            have HU3 := Lib.hid (HU2.out.trans hu3)
            clear hu3
            go_wp2
            go_ret
            exact ⟨rfl, HU3.out.below (Nat.le_refl _) (by simp)⟩
          · rw [show Int.toNat 5000 = 5000 from rfl, HRK.out] at hr
            cases hr

end Go.Proofs.YtolcdlopgbgilaaDoor
