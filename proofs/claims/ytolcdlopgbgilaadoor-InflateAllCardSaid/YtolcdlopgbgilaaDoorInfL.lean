/- The walk of drayagelaw04.InflateMost. -/
import Derived.Test.YtolcdlopgbgilaaDoorInfK
namespace Go.Proofs.YtolcdlopgbgilaaDoor
open Go.RowKit Go.Dray

theorem bitsOf_app (xs ys : List Int) : bitsOf (xs ++ ys) = bitsOf xs ++ bitsOf ys := by
  have h := bitsOf_cut (xs ++ ys) xs.length (by rw [List.length_append]; omega)
  rw [List.take_left'] at h
  · have e : bitsOf (xs ++ ys) = (bitsOf (xs ++ ys)).take (8 * xs.length) ++ (bitsOf (xs ++ ys)).drop (8 * xs.length) := (List.take_append_drop _ _).symm
    rw [e, ← h]
    congr 1
    apply List.ext_getElem?
    intro i
    rw [List.getElem?_drop]
    by_cases hi : i < 8 * ys.length
    · unfold bitsOf
      rw [tab_get _ (by rw [List.length_append]; omega), tab_get _ hi]
      have h1 : (xs ++ ys).getD ((8 * xs.length + i) / 8) 0 = ys.getD (i / 8) 0 := by
        simp only [List.getD]
        rw [List.getElem?_append_right (by omega), show (8 * xs.length + i) / 8 - xs.length = i / 8 from by omega]
      rw [h1, show (8 * xs.length + i) % 8 = i % 8 from by omega]
    · rw [List.getElem?_eq_none (by rw [bitsOf_len, List.length_append]; omega), List.getElem?_eq_none (by rw [bitsOf_len]; omega)]
  · rfl

set_option maxRecDepth 100000 in
set_option maxHeartbeats 2000000 in
theorem inflateMost_walk (A : Option Addr) (n c : Nat) (zs : List Int) (most less : Int) (D : Option Addr) (m d : Nat) (ys : List Int) (w : World) (hin : InInts .u8 w A n c zs) (hw1 : (Lit.int .i64 most).wf = true) (hw2 : (Lit.int .i64 less).wf = true) (hin2 : InInts .u8 w D m d ys) (hT : OrdI w) :
    Calls Tryd.prog 4 #[.slice A n c, .int .i64 most, .int .i64 less, .slice D m d] w fun e w' => e = .returned (.bool true) ∧ Below w.heap.size w w' := by
  have HZ := Lib.hid (inBytes_bd hin)
  have HY := Lib.hid (inBytes_bd hin2)
  have HT := Lib.hid hT
  have HS := Lib.hid hin.1
  have HD := Lib.hid hin2.1
  have hnc := hin.2.1
  have HL := hin.1.len
  have HLY := hin2.1.len
  have HLE := bounds_i64 hw2
  clear hin hin2 hT
  by_cases hsk : 300 < n ∨ 300 < m ∨ most < 0 ∨ 5000 < most
  · by_cases d1 : 300 < n
    · have d1' : decide ((300 : Int) < n) = true := by simp; omega
      go_enter Tryd.func4, Tryd.ntmps4
      go_wp2_with (go_at_call 11; refine (awake_any _ HT.out).mono ?_; rintro e w1 ⟨rfl, hu1⟩)
      go_ret
      exact ⟨rfl, hu1.below (Nat.le_refl _) (by simp)⟩
    · have d1' : decide ((300 : Int) < n) = false := by simp; omega
      by_cases d2 : 300 < m
      · have d2' : decide ((300 : Int) < m) = true := by simp; omega
        go_enter Tryd.func4, Tryd.ntmps4
        go_wp2_with (go_at_call 11; refine (awake_any _ HT.out).mono ?_; rintro e w1 ⟨rfl, hu1⟩)
        go_ret
        exact ⟨rfl, hu1.below (Nat.le_refl _) (by simp)⟩
      · have d2' : decide ((300 : Int) < m) = false := by simp; omega
        by_cases d3 : most < 0
        · have d3' : decide (most < 0) = true := by simp; omega
          go_enter Tryd.func4, Tryd.ntmps4
          go_wp2_with (go_at_call 11; refine (awake_any _ HT.out).mono ?_; rintro e w1 ⟨rfl, hu1⟩)
          go_ret
          exact ⟨rfl, hu1.below (Nat.le_refl _) (by simp)⟩
        · have d3' : decide (most < 0) = false := by simp; omega
          have d4' : decide (5000 < most) = true := by simp; omega
          go_enter Tryd.func4, Tryd.ntmps4
          go_wp2_with (go_at_call 11; refine (awake_any _ HT.out).mono ?_; rintro e w1 ⟨rfl, hu1⟩)
          go_ret
          exact ⟨rfl, hu1.below (Nat.le_refl _) (by simp)⟩
  · have d1 : decide ((300 : Int) < n) = false := by simp; omega
    have d2 : decide ((300 : Int) < m) = false := by simp; omega
    obtain ⟨M, rfl⟩ := Int.eq_ofNat_of_zero_le (show 0 ≤ most by omega)
    have d3 : decide ((M : Int) < 0) = false := by simp
    have d4 : decide ((5000 : Int) < M) = false := by simp; omega
    have hn : n ≤ 300 := by omega
    have hm : m ≤ 300 := by omega
    have hM : M ≤ 5000 := by omega
    clear hsk
    go_enter Tryd.func4, Tryd.ntmps4
    go_wp2_with (first | (go_at_call 11; refine (awake_any _ HT.out).mono ?_; rintro e w1 ⟨rfl, hu1⟩) | fail)
    have HT1 := Lib.hid (HT.out.upd hu1)
    have HS1 := Lib.hid (HS.out.upd hu1 (by simp))
    have HD1 := Lib.hid (HD.out.upd hu1 (by simp))
    have HU1 := Lib.hid hu1
    clear hu1 HS HD HT
    obtain ⟨F, hF⟩ : ∃ F, F = 8 * (n + m) + 1 := ⟨_, rfl⟩
    refine (inflate_any A n c zs M w1 HS1.out HZ.out HT1.out (by omega) F (by omega)).mono ?_
    rintro e w2 ⟨hu2, ⟨h, _⟩ | ⟨_, _, x, hx0, hr, rfl⟩ | ⟨_, _, out, p, A1, on, oc, hr, rfl, hi, hon, -, hob, hfr, hp8, hroom⟩⟩
    · exact absurd (show (0 : Int) ≤ M ∧ (M : Int) ≤ 16777216 by omega) h
    · have dx : (x != 0) = true := by simp [hx0]
      go_wp2
      go_ret
      exact ⟨rfl, (HU1.out.trans hu2).below (Nat.le_refl _) (by simp)⟩
    · rw [Int.toNat_natCast] at hr hroom
      have HR := Lib.hid hr
      have HU2 := Lib.hid (HU1.out.trans hu2)
      have HS2 := Lib.hid (HS1.out.upd hu2 (by simp))
      have HD2 := Lib.hid (HD1.out.upd hu2 (by simp))
      have HT2 := Lib.hid (HT1.out.upd hu2)
      have HI2 := Lib.hid hi
      have HOL := hi.len
      have hp1 : 1 ≤ p := by
        obtain ⟨f, rfl⟩ : ∃ f, F = f + 1 := ⟨F - 1, by omega⟩
        exact infl_pos hr
      clear hr hu2 hi hfr HS1 HD1 HT1
      obtain ⟨used, hus⟩ : ∃ used, used = (p + 7) / 8 := ⟨_, rfl⟩
      rw [← hus]
      have HUS := Lib.hid hus
      have hu1 : 1 ≤ used := by omega
      have hun : used ≤ n := by omega
      have e1 : decide ((M : Int) < on) = false := by simp; omega
      have e2 : decide ((used : Int) < 1) = false := by simp; omega
      have e3 : decide ((n : Int) < used) = false := by simp; omega
      have cut1 := run_cut_h el_byte A n c .i64 (used : Int) used rfl (by omega)
      clear hus
      have HC2 : Hid (Ints .u8 w2 A used (zs.take used)) := HS2.out.pre hun
      go_wp2_with (first
        | (at_builtin; refine wpList_app (s := .tmp 65) rfl rfl el_byte rfl (Own.empty w2 w2.heap.size _ (Nat.le_refl _)) rfl (Seg.upd HC2.out ((Upd.refl [] w2).alloc _) (by omega) (by simp)) (ints_one _ _) (by simp only [maxLen]; omega) (by omega) (by simp) ?_; intro X3 c3 w3 hown3 hu3 hfr3; rw [Nat.zero_add, List.nil_append] at *; have HO3 := Lib.hid hown3; have HV3 : Hid (Upd [] w2 w3) := ((Upd.refl [] w2).alloc _).then hu3 (by intro b hb; right; simp [ob] at hb; omega); clear hown3 hu3 hfr3)
        | (at_builtin; refine wpList_app (s := .tmp 69) rfl rfl el_byte rfl HO3.out rfl (HD2.out.upd HV3.out (by simp)) (ints_one _ _) (by simp only [maxLen]; omega) (by omega) HV3.out.size ?_; intro X4 c4 w4 hown4 hu4 hfr4; have HO4 := Lib.hid hown4; have HV4 : Hid (Upd [] w2 w4) := HV3.out.then hu4 (by intro b hb; right; simp at hb; exact (HO3.out.base hb.symm).1); clear hown4 hu4 hfr4)
        | fail)
      obtain ⟨own, how⟩ : ∃ own, own = zs.take used ++ ys := ⟨_, rfl⟩
      have HO4' : Hid (Own w4 w2.heap.size 5 1 X4 (used + m) c4 (own.map (Value.int .u8))) := by
        have h := HO4.out
        rw [← List.map_append, ← how] at h
        exact h
      have HOB : Hid (∀ z ∈ own, 0 ≤ z ∧ z ≤ 255) := fun z hz => by
        rw [how] at hz
        rcases List.mem_append.1 hz with h | h
        · exact HZ.out z (List.mem_of_mem_take h)
        · exact HY.out z h
      have HR4 : Hid (run (bitsOf own) M (infPr F F) 0 [] = .ok out p) := by
        have := HUS.out
        have hle := HL.out
        refine run_ext _ HR.out ?_ ?_
        · rw [how, bitsOf_app, bitsOf_cut zs used (by omega), List.take_append_of_le_length (by rw [List.length_take, bitsOf_len]; omega), List.take_take, show min p (8 * used) = p from by omega]
        · rw [how, bitsOf_len, List.length_append, List.length_take]; omega
      have HT4 := Lib.hid (HT2.out.upd HV4.out)
      have HS4 := Lib.hid (HS2.out.upd HV4.out (by simp))
      have HI4 := Lib.hid (HI2.out.upd HV4.out (by simp))
      clear how HO4 HO3 HV3 HC2
      refine (inflate_any X4 (used + m) c4 own M w4 (Ints.ofOwn HO4'.out) HOB.out HT4.out (by omega) F (by omega)).mono ?_
      rintro e w5 ⟨hu5, ⟨h, _⟩ | ⟨_, _, x, hx0, hr, rfl⟩ | ⟨_, _, out', p', A5, on5, oc5, hr, rfl, hi5, hon5, -, -, hfr5, -, -⟩⟩
      · exact absurd (show (0 : Int) ≤ M ∧ (M : Int) ≤ 16777216 by omega) h
      · rw [Int.toNat_natCast, HR4.out] at hr; cases hr
      rw [Int.toNat_natCast, HR4.out] at hr
      injection hr with h1 h2
      subst h1 h2
      rw [← HUS.out]
      have HV5 := Lib.hid (HV4.out.trans hu5)
      have HT5 := Lib.hid (HT4.out.upd hu5)
      have HS5 := Lib.hid (HS4.out.upd hu5 (by simp))
      have HI5 := Lib.hid (HI4.out.upd hu5 (by simp))
      have HJ5 := Lib.hid hi5
      have HF5 : Hid (0 < on5 → w4.heap.size ≤ bl A5) := fun h0 => hfr5 _ (by rw [hi5.at_ h0]; rfl)
      have HO5 := Lib.hid (HO4'.out.upd hu5 (by simp))
      have HXB : Hid (∀ g, ob X4 = some g → w2.heap.size ≤ g ∧ g < w4.heap.size) := fun g hg => HO4'.out.base hg
      have HON : Hid (on5 = on) := by have := hi5.len.out; have := HOL.out; show _ = _; omega
      clear hu5 hi5 hfr5 HO4' HV4 HT4 HS4 HI4
      go_wp2
      go_loopw [16] (fun v wr => ∃ k : Nat, k ≤ used + m ∧ v = .int .i64 k ∧ Hid (∃ xs, Own wr w2.heap.size 5 1 X4 (used + m) c4 xs) ∧ Hid (Upd [ob X4] w5 wr)) (fun v _ => used + m - (intOf v).toNat)
      case atStart => exact ⟨0, by omega, rfl, ⟨_, HO5.out⟩, Upd.refl _ _⟩
      case round =>
        obtain ⟨k, hk, rfl, HX, HU⟩ := hrel
        by_cases hlt : k < used + m
        · obtain ⟨xs, hx⟩ := HX.out
          have hix := run_index el_byte (hx.seg.at_) c4 .i64 k hlt
          rw [Nat.mul_one] at hix
          have hfz := hx.frozen (by omega) k
          obtain ⟨old, hold⟩ : ∃ old, xs[k]? = some old := ⟨_, List.getElem?_eq_getElem (by have := hx.len; omega)⟩
          have hcell := hx.seg.cell k old hold
          have hset := hx.set (k := k) (by omega) (.int .u8 0)
          have hob := hx.obl (by omega)
          have HX' : Hid (∃ xs, Own (wr.setCell ⟨bl X4, ofs X4 + k, none⟩ (.int .u8 0)) w2.heap.size 5 1 X4 (used + m) c4 xs) := ⟨_, hset⟩
          have HU' : Hid (Upd [ob X4] w5 (wr.setCell ⟨bl X4, ofs X4 + k, none⟩ (.int .u8 0))) := HU.out.setCell (p := ⟨bl X4, ofs X4 + k, none⟩) (Or.inl (by rw [hob]; simp)) _
          clear hx hold hset hob HX HU
          go_wp2
          go_roundw
          case rel => exact ⟨k + 1, by omega, by go_num, HX', HU'⟩
          case measure => simp [intOf]; omega
        · obtain rfl : k = used + m := by omega
          have HUF : Hid (Upd [] w wr) := (HU2.out.trans HV5.out).then HU.out (fun b hb => by
            simp at hb
            have h1 := (HXB.out b hb.symm).1
            have h2 := HU2.out.size
            right; omega)
          have hXne : ∀ b, b < w2.heap.size → some b ∉ [ob X4] := fun b hb hm => by
            simp at hm
            have := (HXB.out b hm.symm).1
            omega
          have HSr : Hid (Ints .u8 wr A n zs) := HS5.out.upd HU.out (fun hp => hXne _ (Seg.lt HS2.out hp (by omega)))
          have HIr : Hid (Ints .u8 wr A1 on out) := HI5.out.upd HU.out (fun hp => hXne _ (Seg.lt HI2.out hp (by omega)))
          have HJr : Hid (Ints .u8 wr A5 on5 out) := HJ5.out.upd HU.out (fun hp => by
            have h1 := HF5.out hp
            simp
            intro h
            have := (HXB.out _ h.symm).2
            omega)
          have HTr : Hid (OrdI wr) := fun i hi => HU.out.cell (HT5.out i hi) (hXne _ HT2.out.low)
          clear HX HU HS5 HI5 HJ5 HT5 HO5 HF5
          have c1 := str_cut (c := oc) HIr.out
          have c2 := str_cut (c := oc5) HJr.out
          have HOO : Hid (run (bitsOf zs) on (infPr F F) 0 [] = .ok out p) := by
            have h := run_most (most' := on) _ HR.out (Nat.zero_le _)
            rw [HOL.out, if_pos (Nat.le_refl _)] at h
            exact h
          have HON2 := HOL.out
          by_cases hlow : less < 0 ∨ (on : Int) ≤ less
          · by_cases hl0 : less < 0
            · have q1 : decide (0 ≤ less) = false := by simp; omega
              clear hlow
              go_wp2_with fail
              refine (inflate_any A n c zs on wr HSr.out HZ.out HTr.out (by omega) F (by omega)).mono ?_
              rintro e w6 ⟨hu6, ⟨h, _⟩ | ⟨_, _, x, hx0, hr, rfl⟩ | ⟨_, _, out', p', A6, on6, oc6, hr, rfl, hi6, hon6, -, -, hfr6, -, -⟩⟩
              · exact absurd (show (0 : Int) ≤ on ∧ (on : Int) ≤ 16777216 by omega) h
              · rw [Int.toNat_natCast, HOO.out] at hr; cases hr
              · rw [Int.toNat_natCast, HOO.out] at hr
                injection hr with h1 h2
                subst h1 h2
                rw [← HUS.out]
                have k1 := str_cut (c := oc6) hi6
                have k2 := str_cut (c := oc) (HIr.out.upd hu6 (by simp))
                have HU6 := Lib.hid (HUF.out.trans hu6)
                clear hu6 hi6 hfr6
                go_wp2
                go_ret
                exact ⟨rfl, HU6.out.below (Nat.le_refl _) (by simp)⟩
            · have q1 : decide (0 ≤ less) = true := by simp; omega
              have q2 : decide (less < (on : Int)) = false := by simp; omega
              clear hlow
              go_wp2_with fail
              refine (inflate_any A n c zs on wr HSr.out HZ.out HTr.out (by omega) F (by omega)).mono ?_
              rintro e w6 ⟨hu6, ⟨h, _⟩ | ⟨_, _, x, hx0, hr, rfl⟩ | ⟨_, _, out', p', A6, on6, oc6, hr, rfl, hi6, hon6, -, -, hfr6, -, -⟩⟩
              · exact absurd (show (0 : Int) ≤ on ∧ (on : Int) ≤ 16777216 by omega) h
              · rw [Int.toNat_natCast, HOO.out] at hr; cases hr
              · rw [Int.toNat_natCast, HOO.out] at hr
                injection hr with h1 h2
                subst h1 h2
                rw [← HUS.out]
                have k1 := str_cut (c := oc6) hi6
                have k2 := str_cut (c := oc) (HIr.out.upd hu6 (by simp))
                have HU6 := Lib.hid (HUF.out.trans hu6)
                clear hu6 hi6 hfr6
                go_wp2
                go_ret
                exact ⟨rfl, HU6.out.below (Nat.le_refl _) (by simp)⟩
          · obtain ⟨L, rfl⟩ := Int.eq_ofNat_of_zero_le (show 0 ≤ less by omega)
            have q1 : decide (0 ≤ (L : Int)) = true := by simp
            have q2 : decide (L < on) = true := by simp; omega
            have HLL : Hid (run (bitsOf zs) L (infPr F F) 0 [] = .err 4) := by
              have h := run_most (most' := L) _ HR.out (Nat.zero_le _)
              rw [HOL.out, if_neg (by omega)] at h
              exact h
            have hL5 : L ≤ 5000 := by omega
            clear hlow
            go_wp2_with fail
            refine (inflate_any A n c zs L wr HSr.out HZ.out HTr.out (by omega) F (by omega)).mono ?_
            rintro e w6 ⟨hu6, ⟨h, _⟩ | ⟨_, _, x, hx0, hr, rfl⟩ | ⟨_, _, out', p', A6, on6, oc6, hr, rfl, hi6, hon6, -, -, hfr6, -, -⟩⟩
            · exact absurd (show (0 : Int) ≤ L ∧ (L : Int) ≤ 16777216 by omega) h
            · rw [Int.toNat_natCast, HLL.out] at hr
              injection hr with hr
              subst hr
              have HU6 := Lib.hid (HUF.out.trans hu6)
              clear hu6
              go_wp2
              go_ret
              exact ⟨rfl, HU6.out.below (Nat.le_refl _) (by simp)⟩
            · rw [Int.toNat_natCast, HLL.out] at hr; cases hr

end Go.Proofs.YtolcdlopgbgilaaDoor
