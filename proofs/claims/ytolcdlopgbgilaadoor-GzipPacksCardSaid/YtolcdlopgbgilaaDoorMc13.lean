/- Merged by wip/tools/merge.py: InfL InfLaid StepCall Map3. -/
import Derived.LaidMore
import Derived.Stop.Joined
import Derived.Stop.BytesEq
import Derived.WideKeyRuns
import Derived.Test.YtolcdlopgbgilaaDoorMc01
import Derived.Test.YtolcdlopgbgilaaDoorMc05
import Derived.Test.YtolcdlopgbgilaaDoorMc12

/-! Text InfL. -/
namespace Go.Proofs.YtolcdlopgbgilaaDoor
open Go.RowKit Go.Dray

theorem bitsOf_app (xs ys : List Int) : bitsOf (xs ++ ys) = bitsOf xs ++ bitsOf ys := by
  have h := bitsOf_cut (xs ++ ys) xs.length (by rw [List.length_append]; omega)
  rw [List.take_left'] at h
  · have e : bitsOf (xs ++ ys) = (bitsOf (xs ++ ys)).take (8 * xs.length) ++ (bitsOf (xs ++ ys)).drop (8 * xs.length) := (List.take_append_drop _ _).symm
    rw [e, ← h]
    congr 1
    apply List.ext_getElem?
    intro i
    rw [List.getElem?_drop]
    by_cases hi : i < 8 * ys.length
    · unfold bitsOf
      rw [tab_get _ (by rw [List.length_append]; omega), tab_get _ hi]
      have h1 : (xs ++ ys).getD ((8 * xs.length + i) / 8) 0 = ys.getD (i / 8) 0 := by
        simp only [List.getD]
        rw [List.getElem?_append_right (by omega), show (8 * xs.length + i) / 8 - xs.length = i / 8 from by omega]
      rw [h1, show (8 * xs.length + i) % 8 = i % 8 from by omega]
    · rw [List.getElem?_eq_none (by rw [bitsOf_len, List.length_append]; omega), List.getElem?_eq_none (by rw [bitsOf_len]; omega)]
  · rfl

set_option maxRecDepth 100000 in
set_option maxHeartbeats 2000000 in
theorem inflateMost_walk (A : Option Addr) (n c : Nat) (zs : List Int) (most less : Int) (D : Option Addr) (m d : Nat) (ys : List Int) (w : World) (hin : InInts .u8 w A n c zs) (hw1 : (Lit.int .i64 most).wf = true) (hw2 : (Lit.int .i64 less).wf = true) (hin2 : InInts .u8 w D m d ys) (hT : OrdI w) :
    Calls Tryd.prog 4 #[.slice A n c, .int .i64 most, .int .i64 less, .slice D m d] w fun e w' => e = .returned (.bool true) ∧ Below w.heap.size w w' := by
  have HZ := Lib.hid (inBytes_bd hin)
  have HY := Lib.hid (inBytes_bd hin2)
  have HT := Lib.hid hT
  have HS := Lib.hid hin.1
  have HD := Lib.hid hin2.1
  have hnc := hin.2.1
  have HL := hin.1.len
  have HLY := hin2.1.len
  have HLE := bounds_i64 hw2
  clear hin hin2 hT
  by_cases hsk : 300 < n ∨ 300 < m ∨ most < 0 ∨ 5000 < most
  · by_cases d1 : 300 < n
    · have d1' : decide ((300 : Int) < n) = true := by simp; omega
      go_enter Tryd.func4, Tryd.ntmps4
      go_wp2_with (go_at_call 11; refine (awake_any _ HT.out).mono ?_; rintro e w1 ⟨rfl, hu1⟩)
      go_ret
      exact ⟨rfl, hu1.below (Nat.le_refl _) (by simp)⟩
    · have d1' : decide ((300 : Int) < n) = false := by simp; omega
      by_cases d2 : 300 < m
      · have d2' : decide ((300 : Int) < m) = true := by simp; omega
        go_enter Tryd.func4, Tryd.ntmps4
        go_wp2_with (go_at_call 11; refine (awake_any _ HT.out).mono ?_; rintro e w1 ⟨rfl, hu1⟩)
        go_ret
        exact ⟨rfl, hu1.below (Nat.le_refl _) (by simp)⟩
      · have d2' : decide ((300 : Int) < m) = false := by simp; omega
        by_cases d3 : most < 0
        · have d3' : decide (most < 0) = true := by simp; omega
          go_enter Tryd.func4, Tryd.ntmps4
          go_wp2_with (go_at_call 11; refine (awake_any _ HT.out).mono ?_; rintro e w1 ⟨rfl, hu1⟩)
          go_ret
          exact ⟨rfl, hu1.below (Nat.le_refl _) (by simp)⟩
        · have d3' : decide (most < 0) = false := by simp; omega
          have d4' : decide (5000 < most) = true := by simp; omega
          go_enter Tryd.func4, Tryd.ntmps4
          go_wp2_with (go_at_call 11; refine (awake_any _ HT.out).mono ?_; rintro e w1 ⟨rfl, hu1⟩)
          go_ret
          exact ⟨rfl, hu1.below (Nat.le_refl _) (by simp)⟩
  · have d1 : decide ((300 : Int) < n) = false := by simp; omega
    have d2 : decide ((300 : Int) < m) = false := by simp; omega
    obtain ⟨M, rfl⟩ := Int.eq_ofNat_of_zero_le (show 0 ≤ most by omega)
    have d3 : decide ((M : Int) < 0) = false := by simp
    have d4 : decide ((5000 : Int) < M) = false := by simp; omega
    have hn : n ≤ 300 := by omega
    have hm : m ≤ 300 := by omega
    have hM : M ≤ 5000 := by omega
    clear hsk
    go_enter Tryd.func4, Tryd.ntmps4
    go_wp2_with (first | (go_at_call 11; refine (awake_any _ HT.out).mono ?_; rintro e w1 ⟨rfl, hu1⟩) | fail)
    have HT1 := Lib.hid (HT.out.upd hu1)
    have HS1 := Lib.hid (HS.out.upd hu1 (by simp))
    have HD1 := Lib.hid (HD.out.upd hu1 (by simp))
    have HU1 := Lib.hid hu1
    clear hu1 HS HD HT
    obtain ⟨F, hF⟩ : ∃ F, F = 8 * (n + m) + 1 := ⟨_, rfl⟩
    refine (inflate_any A n c zs M w1 HS1.out HZ.out HT1.out (by omega) F (by omega)).mono ?_
    rintro e w2 ⟨hu2, ⟨h, _⟩ | ⟨_, _, x, hx0, hr, rfl⟩ | ⟨_, _, out, p, A1, on, oc, hr, rfl, hi, hon, -, hob, hfr, hp8, hroom⟩⟩
    · exact absurd (show (0 : Int) ≤ M ∧ (M : Int) ≤ 16777216 by omega) h
    · have dx : (x != 0) = true := by simp [hx0]
      go_wp2
      go_ret
      exact ⟨rfl, (HU1.out.trans hu2).below (Nat.le_refl _) (by simp)⟩
    · rw [Int.toNat_natCast] at hr hroom
      have HR := Lib.hid hr
      have HU2 := Lib.hid (HU1.out.trans hu2)
      have HS2 := Lib.hid (HS1.out.upd hu2 (by simp))
      have HD2 := Lib.hid (HD1.out.upd hu2 (by simp))
      have HT2 := Lib.hid (HT1.out.upd hu2)
      have HI2 := Lib.hid hi
      have HOL := hi.len
      have hp1 : 1 ≤ p := by
        obtain ⟨f, rfl⟩ : ∃ f, F = f + 1 := ⟨F - 1, by omega⟩
        exact infl_pos hr
      clear hr hu2 hi hfr HS1 HD1 HT1
      obtain ⟨used, hus⟩ : ∃ used, used = (p + 7) / 8 := ⟨_, rfl⟩
      rw [← hus]
      have HUS := Lib.hid hus
      have hu1 : 1 ≤ used := by omega
      have hun : used ≤ n := by omega
      have e1 : decide ((M : Int) < on) = false := by simp; omega
      have e2 : decide ((used : Int) < 1) = false := by simp; omega
      have e3 : decide ((n : Int) < used) = false := by simp; omega
      have cut1 := run_cut_h el_byte A n c .i64 (used : Int) used rfl (by omega)
      clear hus
      have HC2 : Hid (Ints .u8 w2 A used (zs.take used)) := HS2.out.pre hun
      go_wp2_with (first
        | (at_builtin; refine wpList_app (s := .tmp 65) rfl rfl el_byte rfl (Own.empty w2 w2.heap.size _ (Nat.le_refl _)) rfl (Seg.upd HC2.out ((Upd.refl [] w2).alloc _) (by omega) (by simp)) (ints_one _ _) (by simp only [maxLen]; omega) (by omega) (by simp) ?_; intro X3 c3 w3 hown3 hu3 hfr3; rw [Nat.zero_add, List.nil_append] at *; have HO3 := Lib.hid hown3; have HV3 : Hid (Upd [] w2 w3) := ((Upd.refl [] w2).alloc _).then hu3 (by intro b hb; right; simp [ob] at hb; omega); clear hown3 hu3 hfr3)
        | (at_builtin; refine wpList_app (s := .tmp 69) rfl rfl el_byte rfl HO3.out rfl (HD2.out.upd HV3.out (by simp)) (ints_one _ _) (by simp only [maxLen]; omega) (by omega) HV3.out.size ?_; intro X4 c4 w4 hown4 hu4 hfr4; have HO4 := Lib.hid hown4; have HV4 : Hid (Upd [] w2 w4) := HV3.out.then hu4 (by intro b hb; right; simp at hb; exact (HO3.out.base hb.symm).1); clear hown4 hu4 hfr4)
        | fail)
      obtain ⟨own, how⟩ : ∃ own, own = zs.take used ++ ys := ⟨_, rfl⟩
      have HO4' : Hid (Own w4 w2.heap.size 5 1 X4 (used + m) c4 (own.map (Value.int .u8))) := by
        have h := HO4.out
        rw [← List.map_append, ← how] at h
        exact h
      have HOB : Hid (∀ z ∈ own, 0 ≤ z ∧ z ≤ 255) := fun z hz => by
        rw [how] at hz
        rcases List.mem_append.1 hz with h | h
        · exact HZ.out z (List.mem_of_mem_take h)
        · exact HY.out z h
      have HR4 : Hid (run (bitsOf own) M (infPr F F) 0 [] = .ok out p) := by
        have := HUS.out
        have hle := HL.out
        refine run_ext _ HR.out ?_ ?_
        · rw [how, bitsOf_app, bitsOf_cut zs used (by omega), List.take_append_of_le_length (by rw [List.length_take, bitsOf_len]; omega), List.take_take, show min p (8 * used) = p from by omega]
        · rw [how, bitsOf_len, List.length_append, List.length_take]; omega
      have HT4 := Lib.hid (HT2.out.upd HV4.out)
      have HS4 := Lib.hid (HS2.out.upd HV4.out (by simp))
      have HI4 := Lib.hid (HI2.out.upd HV4.out (by simp))
      clear how HO4 HO3 HV3 HC2
      refine (inflate_any X4 (used + m) c4 own M w4 (Ints.ofOwn HO4'.out) HOB.out HT4.out (by omega) F (by omega)).mono ?_
      rintro e w5 ⟨hu5, ⟨h, _⟩ | ⟨_, _, x, hx0, hr, rfl⟩ | ⟨_, _, out', p', A5, on5, oc5, hr, rfl, hi5, hon5, -, -, hfr5, -, -⟩⟩
      · exact absurd (show (0 : Int) ≤ M ∧ (M : Int) ≤ 16777216 by omega) h
      · rw [Int.toNat_natCast, HR4.out] at hr; cases hr
      rw [Int.toNat_natCast, HR4.out] at hr
      injection hr with h1 h2
      subst h1 h2
      rw [← HUS.out]
      have HV5 := Lib.hid (HV4.out.trans hu5)
      have HT5 := Lib.hid (HT4.out.upd hu5)
      have HS5 := Lib.hid (HS4.out.upd hu5 (by simp))
      have HI5 := Lib.hid (HI4.out.upd hu5 (by simp))
      have HJ5 := Lib.hid hi5
      have HF5 : Hid (0 < on5 → w4.heap.size ≤ bl A5) := fun h0 => hfr5 _ (by rw [hi5.at_ h0]; rfl)
      have HO5 := Lib.hid (HO4'.out.upd hu5 (by simp))
      have HXB : Hid (∀ g, ob X4 = some g → w2.heap.size ≤ g ∧ g < w4.heap.size) := fun g hg => HO4'.out.base hg
      have HON : Hid (on5 = on) := by have := hi5.len.out; have := HOL.out; show _ = _; omega
      clear hu5 hi5 hfr5 HO4' HV4 HT4 HS4 HI4
      go_wp2
      go_loopw [16] (fun v wr => ∃ k : Nat, k ≤ used + m ∧ v = .int .i64 k ∧ Hid (∃ xs, Own wr w2.heap.size 5 1 X4 (used + m) c4 xs) ∧ Hid (Upd [ob X4] w5 wr)) (fun v _ => used + m - (intOf v).toNat)
      case atStart => exact ⟨0, by omega, rfl, ⟨_, HO5.out⟩, Upd.refl _ _⟩
      case round =>
        obtain ⟨k, hk, rfl, HX, HU⟩ := hrel
        by_cases hlt : k < used + m
        · obtain ⟨xs, hx⟩ := HX.out
          have hix := run_index el_byte (hx.seg.at_) c4 .i64 k hlt
          rw [Nat.mul_one] at hix
          have hfz := hx.frozen (by omega) k
          obtain ⟨old, hold⟩ : ∃ old, xs[k]? = some old := ⟨_, List.getElem?_eq_getElem (by have := hx.len; omega)⟩
          have hcell := hx.seg.cell k old hold
          have hset := hx.set (k := k) (by omega) (.int .u8 0)
          have hob := hx.obl (by omega)
          have HX' : Hid (∃ xs, Own (wr.setCell ⟨bl X4, ofs X4 + k, none⟩ (.int .u8 0)) w2.heap.size 5 1 X4 (used + m) c4 xs) := ⟨_, hset⟩
          have HU' : Hid (Upd [ob X4] w5 (wr.setCell ⟨bl X4, ofs X4 + k, none⟩ (.int .u8 0))) := HU.out.setCell (p := ⟨bl X4, ofs X4 + k, none⟩) (Or.inl (by rw [hob]; simp)) _
          clear hx hold hset hob HX HU
          go_wp2
          go_roundw
          case rel => exact ⟨k + 1, by omega, by go_num, HX', HU'⟩
          case measure => simp [intOf]; omega
        · obtain rfl : k = used + m := by omega
          have HUF : Hid (Upd [] w wr) := (HU2.out.trans HV5.out).then HU.out (fun b hb => by
            simp at hb
            have h1 := (HXB.out b hb.symm).1
            have h2 := HU2.out.size
            right; omega)
          have hXne : ∀ b, b < w2.heap.size → some b ∉ [ob X4] := fun b hb hm => by
            simp at hm
            have := (HXB.out b hm.symm).1
            omega
          have HSr : Hid (Ints .u8 wr A n zs) := HS5.out.upd HU.out (fun hp => hXne _ (Seg.lt HS2.out hp (by omega)))
          have HIr : Hid (Ints .u8 wr A1 on out) := HI5.out.upd HU.out (fun hp => hXne _ (Seg.lt HI2.out hp (by omega)))
          have HJr : Hid (Ints .u8 wr A5 on5 out) := HJ5.out.upd HU.out (fun hp => by
            have h1 := HF5.out hp
            simp
            intro h
            have := (HXB.out _ h.symm).2
            omega)
          have HTr : Hid (OrdI wr) := fun i hi => HU.out.cell (HT5.out i hi) (hXne _ HT2.out.low)
          clear HX HU HS5 HI5 HJ5 HT5 HO5 HF5
          have c1 := str_cut (c := oc) HIr.out
          have c2 := str_cut (c := oc5) HJr.out
          have HOO : Hid (run (bitsOf zs) on (infPr F F) 0 [] = .ok out p) := by
            have h := run_most (most' := on) _ HR.out (Nat.zero_le _)
            rw [HOL.out, if_pos (Nat.le_refl _)] at h
            exact h
          have HON2 := HOL.out
          by_cases hlow : less < 0 ∨ (on : Int) ≤ less
          · by_cases hl0 : less < 0
            · have q1 : decide (0 ≤ less) = false := by simp; omega
              clear hlow
              go_wp2_with fail
              refine (inflate_any A n c zs on wr HSr.out HZ.out HTr.out (by omega) F (by omega)).mono ?_
              rintro e w6 ⟨hu6, ⟨h, _⟩ | ⟨_, _, x, hx0, hr, rfl⟩ | ⟨_, _, out', p', A6, on6, oc6, hr, rfl, hi6, hon6, -, -, hfr6, -, -⟩⟩
              · exact absurd (show (0 : Int) ≤ on ∧ (on : Int) ≤ 16777216 by omega) h
              · rw [Int.toNat_natCast, HOO.out] at hr; cases hr
              · rw [Int.toNat_natCast, HOO.out] at hr
                injection hr with h1 h2
                subst h1 h2
                rw [← HUS.out]
                have k1 := str_cut (c := oc6) hi6
                have k2 := str_cut (c := oc) (HIr.out.upd hu6 (by simp))
                have HU6 := Lib.hid (HUF.out.trans hu6)
                clear hu6 hi6 hfr6
                go_wp2
                go_ret
                exact ⟨rfl, HU6.out.below (Nat.le_refl _) (by simp)⟩
            · have q1 : decide (0 ≤ less) = true := by simp; omega
              have q2 : decide (less < (on : Int)) = false := by simp; omega
              clear hlow
              go_wp2_with fail
              refine (inflate_any A n c zs on wr HSr.out HZ.out HTr.out (by omega) F (by omega)).mono ?_
              rintro e w6 ⟨hu6, ⟨h, _⟩ | ⟨_, _, x, hx0, hr, rfl⟩ | ⟨_, _, out', p', A6, on6, oc6, hr, rfl, hi6, hon6, -, -, hfr6, -, -⟩⟩
              · exact absurd (show (0 : Int) ≤ on ∧ (on : Int) ≤ 16777216 by omega) h
              · rw [Int.toNat_natCast, HOO.out] at hr; cases hr
              · rw [Int.toNat_natCast, HOO.out] at hr
                injection hr with h1 h2
                subst h1 h2
                rw [← HUS.out]
                have k1 := str_cut (c := oc6) hi6
                have k2 := str_cut (c := oc) (HIr.out.upd hu6 (by simp))
                have HU6 := Lib.hid (HUF.out.trans hu6)
                clear hu6 hi6 hfr6
                go_wp2
                go_ret
                exact ⟨rfl, HU6.out.below (Nat.le_refl _) (by simp)⟩
          · obtain ⟨L, rfl⟩ := Int.eq_ofNat_of_zero_le (show 0 ≤ less by omega)
            have q1 : decide (0 ≤ (L : Int)) = true := by simp
            have q2 : decide (L < on) = true := by simp; omega
            have HLL : Hid (run (bitsOf zs) L (infPr F F) 0 [] = .err 4) := by
              have h := run_most (most' := L) _ HR.out (Nat.zero_le _)
              rw [HOL.out, if_neg (by omega)] at h
              exact h
            have hL5 : L ≤ 5000 := by omega
            clear hlow
            go_wp2_with fail
            refine (inflate_any A n c zs L wr HSr.out HZ.out HTr.out (by omega) F (by omega)).mono ?_
            rintro e w6 ⟨hu6, ⟨h, _⟩ | ⟨_, _, x, hx0, hr, rfl⟩ | ⟨_, _, out', p', A6, on6, oc6, hr, rfl, hi6, hon6, -, -, hfr6, -, -⟩⟩
            · exact absurd (show (0 : Int) ≤ L ∧ (L : Int) ≤ 16777216 by omega) h
            · rw [Int.toNat_natCast, HLL.out] at hr
              injection hr with hr
              subst hr
              have HU6 := Lib.hid (HUF.out.trans hu6)
              clear hu6
              go_wp2
              go_ret
              exact ⟨rfl, HU6.out.below (Nat.le_refl _) (by simp)⟩
            · rw [Int.toNat_natCast, HLL.out] at hr; cases hr

end Go.Proofs.YtolcdlopgbgilaaDoor

/-! Text InfLaid. -/
namespace Go.Proofs.YtolcdlopgbgilaaDoor
open Go.ChangeShapes Go.WideShapes Go.ChangeAt Go.RowKit Go.Dray

/-- A row of integers that reads as a known datum. -/
theorem trod_row {H : Type} {enc : TypeId × Value → H} {W : World} {base : Nat} {sp : Nat → Bool} {held : Bool} {fuel : Nat} {t e : TypeId} {n : Nat} {k : IntKind} {cs : List Value} {x : DataW H × List MemPlace}
    (ht : Tryd.prog.underlying t = some (.array n e)) (he : Tryd.prog.underlying e = some (.int k)) (hc : Tryd.prog.cellsOf e = 1) (hct : Tryd.prog.cellsOf t = n) (h : DataW.trod enc Tryd.prog W base sp held fuel t cs = some x)
    (zs : List Int) (hx : x.1 = .agg (zs.map fun z => .lit (.int k z))) : cs = zs.map (Value.int k) := by
  obtain ⟨xs, m, rfl, rfl, hlen, hn, hel⟩ := DataW.trod_array ht h
  simp only [DataW.agg.injEq] at hx
  have hl : zs.length = n := by
    have := congrArg List.length hx
    simp at this
    omega
  apply List.ext_getElem?
  intro i
  rw [hct] at hlen
  rcases Nat.lt_or_ge i n with hi | hi
  · have h1 := hel i hi
    rw [hc, Nat.mul_one, List.getElem?_eq_getElem (by omega)] at h1
    obtain ⟨z, e1, e2, _⟩ := DataW.trod_int he h1
    have h2 : (xs.map (·.1))[i]? = some (.lit (.int k z)) := by rw [List.getElem?_map, List.getElem?_eq_getElem (by omega), e2]; rfl
    rw [hx, List.getElem?_map, List.getElem?_eq_getElem (by omega)] at h2
    simp at h2
    have h3 : ((cs.drop i).take 1)[0]? = some (Value.int k z) := by rw [e1]; rfl
    rw [List.getElem?_take_of_lt (by omega), List.getElem?_drop, Nat.add_zero] at h3
    rw [h3, List.getElem?_map, List.getElem?_eq_getElem (by omega), ← h2]
    rfl
  · rw [List.getElem?_eq_none (by omega), List.getElem?_eq_none (by rw [List.length_map]; omega)]

def ordI : List Int := orderL.map fun n : Nat => (n : Int)
theorem ordI_cell {cs : Array Value} (h : cs.toList = ordI.map (Value.int .i64)) (i : Nat) (hi : i < 19) : cs[i]? = some (.int .i64 (orderL.getD i 0 : Nat)) := by
  rw [← Array.getElem?_toList, h]
  unfold ordI
  rw [List.map_map, List.getElem?_map, List.getElem?_eq_getElem (show i < orderL.length from hi)]
  simp [List.getD, show i < orderL.length from hi]

def laidI : List (String × DataW Unit) := [("drayage/inflate.order", Rows.laid_drayage_inflate_order)]

theorem doorI (os : Os) (args : Array Value) : laidMetH Tryd.prog laidI ((World.doorLaid Tryd.prog 400 os).forCall (fun _ _ => 0) ⟨#[], args, []⟩).memory :=
  laidMetH_of_parts3 (fuel := 8) (laidMet_of_run' 8 (by kernel_rfl) (by kernel_rfl)) (by kernel_rfl) (by kernel_rfl)

theorem of_laidI {W : World} (h : laidMetH Tryd.prog laidI W) : OrdI W := by
  rw [MakeChecks.laidMetH_plain _ _ _ (by kernel_rfl)] at h
  obtain ⟨ps, ⟨g0, t0, cs0, f0, p0, q0, hg0, ht0, hv0, hd0, _⟩, _, _⟩ := h
  obtain rfl := Option.some.inj ((show Tryd.prog.globalNamed "drayage/inflate.order" = some 1 by kernel_rfl).symm.trans hg0)
  obtain rfl := Option.some.inj ((show (Tryd.prog.globals[1]?).map (·.type) = some 123 by kernel_rfl).symm.trans ht0)
  have r0 := trod_row (n := 19) (e := 3) (k := .i64) (by kernel_rfl) (by kernel_rfl) (by kernel_rfl) (by kernel_rfl) hd0 ordI rfl
  intro i hi
  rw [World.var?_cell hg0 hv0 i]
  exact ordI_cell r0 i hi

end Go.Proofs.YtolcdlopgbgilaaDoor

/-! Text StepCall. -/
namespace Go.Dray
open Go.RowKit

theorem step_call {P : Program} {w : World} {ops : Array Oper} {o : Oper} {a : Act} {K : Act → World → Prop} {Q : Exit → Act → World → Prop} {E : Prop} (hgd : o.guard = none) {f : FuncId} {fn : Func} {c : Code} (hf : P.funcs[f]? = some fn) (hname : (fn.name == "runtime.NumGoroutine") = false) (hb : fn.body = some c) {as1 : Array Operand} {tys : Array TypeId}
    (ho : o.op = .call { callee := .value (.func f), args := as1, argTypes := tys }) {args : Array Value} (ha : as1.map a.eval = args) {R : Ending → World → Prop} (hc : Calls P f args w R)
    (h : ∀ e w', R e w' → ∃ v, e = .returned v ∧ K (a.put o.dst v) w') : if Region.wanted o (yielded ops a.tmps) = true then Oper.wp P o a w K Q else E := by
  rw [if_pos (by simp [Region.wanted, hgd])]
  subst ha
  unfold Oper.wp
  have e1 : (execOp a.eval o).run P w = .ok (.enter f (as1.map a.eval)) w := by
    simp [execOp, ho, resolve, invoke, go_sem]
    have h1 : fn.name ≠ "runtime.NumGoroutine" := by simpa using hname
    simp [callFunc, hf, h1, hb]
  rw [e1]
  show Calls P f _ w _
  exact hc.mono fun e w' hp => by
    obtain ⟨v, rfl, hk⟩ := h e w' hp
    exact hk

end Go.Dray

/-! Text Map3. -/
namespace Go.Dray
open Go.RowKit

theorem range_eq_ints : ∀ (xs ys : List Int), xs.length = ys.length → ((List.range xs.length).all fun i => xs.getD i 0 == ys.getD i 0) = (xs == ys)
  | [], [], _ => rfl
  | x :: xs, y :: ys, h => by
    have ih := range_eq_ints xs ys (by simpa using h)
    rw [List.length_cons, List.range_succ_eq_map, List.all_cons, List.all_map]
    simp only [List.getD_cons_zero, Function.comp_def, List.getD_cons_succ, ih]
    simp [List.cons_beq_cons]
  | [], _ :: _, h => by simp at h
  | _ :: _, [], h => by simp at h

/-- Bytes as an array's value. -/
def arr (xs : List Int) : Value := .agg (xs.map (Value.int .u8)).toArray

section
variable {P : Program} (w : World)

theorem run_part_byte {e : TypeId} (he : P.underlying e = some (.int .u8)) (xs : List Int) (i : Nat) (hi : i < xs.length) : (part e (xs.map (Value.int .u8)).toArray i).run P w = .ok (.int .u8 (xs.getD i 0)) w := by
  simp [part, isAgg, run_underlying he, List.getD, List.getElem?_eq_getElem hi]

theorem run_equalIn_arr (d : Nat) (t e : TypeId) (n : Nat) (ht : P.underlying t = some (.array n e)) (he : P.underlying e = some (.int .u8)) (hsz : ∀ w, (sizeOf e).run P w = .ok 1 w)
    (xs ys : List Int) (hx : xs.length = n) (hy : ys.length = n) :
    (Op.equalIn (d + 2) t (arr xs) (arr ys)).run P w = .ok (xs == ys) w := by
  unfold arr
  rw [← range_eq_ints xs ys (hx.trans hy.symm), hx, List.range_eq_range', Op.equalIn]
  simp only [Sem.run_bind, run_underlying ht, Result.andThen_ok, hsz, Std.Legacy.Range.forIn_eq_forIn_range', Std.Legacy.Range.size, Nat.sub_zero, Nat.add_sub_cancel, Nat.div_one]
  have hl : ∀ i ∈ List.range' 0 n 1, i < n := fun i hi => by simpa using (List.mem_range'_1.1 hi).2
  generalize List.range' 0 n 1 = l at hl ⊢
  induction l with
  | nil => simp
  | cons i l ih =>
    have hi : i < n := hl i (by simp)
    have px := run_part_byte w he xs (i * 1) (by omega)
    have py := run_part_byte w he ys (i * 1) (by omega)
    rw [Nat.mul_one] at px py
    have pe : (Op.equalIn (d + 1) e (.int .u8 (xs.getD i 0)) (.int .u8 (ys.getD i 0))).run P w = .ok (xs.getD i 0 == ys.getD i 0) w := run_equalIn_int w d e .u8 .u8 _ _ he
    simp only [List.forIn_cons, Sem.run_bind, Nat.mul_one, px, py, pe, Result.andThen_ok, List.all_cons]
    cases hb : (xs.getD i 0 == ys.getD i 0)
    · simp
    · simp only [Bool.not_true, Bool.false_eq_true, if_false, Sem.run_pure, Result.andThen_ok, Bool.true_and]
      have := ih fun j hj => hl j (by simp [hj])
      simpa only [Nat.mul_one] using this

theorem run_checkKey_arr (em : Bool) (d : Nat) (t e : TypeId) (n : Nat) (ht : P.underlying t = some (.array n e)) (he : P.underlying e = some (.int .u8)) (hsz : ∀ w, (sizeOf e).run P w = .ok 1 w)
    (xs : List Int) (hx : xs.length = n) : (Instr.checkKey em (d + 2) t (arr xs)).run P w = .ok () w := by
  unfold arr
  rw [Instr.checkKey]
  simp only [Sem.run_bind, run_underlying ht, Result.andThen_ok, Std.Legacy.Range.forIn_eq_forIn_range', Std.Legacy.Range.size, Nat.sub_zero, Nat.add_sub_cancel, Nat.div_one]
  have hl : ∀ i ∈ List.range' 0 n 1, i < n := fun i hi => by simpa using (List.mem_range'_1.1 hi).2
  generalize List.range' 0 n 1 = l at hl ⊢
  induction l with
  | nil => simp
  | cons i l ih =>
    have hi : i < n := hl i (by simp)
    have px := run_part_byte w he xs i (by omega)
    have pc : (Instr.checkKey em (d + 1) e (.int .u8 (xs.getD i 0))).run P w = .ok () w := by simp [Instr.checkKey, run_underlying he]
    simp only [List.forIn_cons, Sem.run_bind, hsz, Nat.mul_one, px, pc, Result.andThen_ok, Sem.run_pure]
    exact ih fun j hj => hl j (by simp [hj])

/-- Keys of bytes with their places, in a map's order: what stands under a key, and where. -/
def lk : List (List Int × Int) → List Int → Option Int
  | [], _ => none
  | p :: ps, ys => if p.1 = ys then some p.2 else lk ps ys
def lkAt : List (List Int × Int) → List Int → Option Nat
  | [], _ => none
  | p :: ps, ys => if p.1 = ys then some 0 else (lkAt ps ys).map (· + 1)
theorem lk_set (xs : List Int) (v : Int) : ∀ (ps : List (List Int × Int)) (k : Nat), lkAt ps xs = some k → ∀ ys, lk (ps.set k (xs, v)) ys = if ys = xs then some v else lk ps ys
  | [], k, h, _ => by cases h
  | p :: ps, k, h, ys => by
    unfold lkAt at h
    by_cases hp : p.1 = xs
    · rw [if_pos hp] at h
      injection h with h
      subst h
      rw [List.set_cons_zero]
      unfold lk
      by_cases hy : ys = xs
      · rw [if_pos hy.symm, if_pos hy]
      · rw [if_neg (fun e => hy e.symm), if_neg hy, if_neg (fun e => hy (e.symm.trans hp))]
    · rw [if_neg hp] at h
      obtain ⟨k', hk', rfl⟩ := Option.map_eq_some_iff.1 h
      rw [List.set_cons_succ]
      unfold lk
      rw [lk_set xs v ps k' hk' ys]
      by_cases hy : ys = xs
      · rw [if_neg (fun e => hp (e.trans hy)), if_pos hy, if_pos hy]
      · rw [if_neg hy, if_neg hy]
theorem lk_push (xs : List Int) (v : Int) : ∀ (ps : List (List Int × Int)), lkAt ps xs = none → ∀ ys, lk (ps ++ [(xs, v)]) ys = if ys = xs then some v else lk ps ys
  | [], _, ys => by
    show lk [(xs, v)] ys = _
    unfold lk
    by_cases hy : ys = xs
    · rw [if_pos hy.symm, if_pos hy]
    · rw [if_neg (fun e => hy e.symm), if_neg hy]
      rfl
  | p :: ps, h, ys => by
    unfold lkAt at h
    by_cases hp : p.1 = xs
    · rw [if_pos hp] at h; cases h
    · rw [if_neg hp] at h
      rw [List.cons_append]
      unfold lk
      rw [lk_push xs v ps (by simpa using h) ys]
      by_cases hy : ys = xs
      · rw [if_neg (fun e => hp (e.trans hy)), if_pos hy, if_pos hy]
      · rw [if_neg hy, if_neg hy]
/-- An entry as a key and a place. -/
def kv (x : MapEntry) : Value × Value := (x.key, x.val)
def vv (p : List Int × Int) : Value × Value := (arr p.1, .int .i64 p.2)
theorem arr_inj {xs ys : List Int} (h : arr xs = arr ys) : xs = ys := by
  unfold arr at h
  injection h with h
  have h2 := congrArg Array.toList h
  simp only at h2
  exact (List.map_inj_right fun a b hab => by injection hab).1 h2

theorem run_findAsking_arr (t e : TypeId) (n : Nat) (ht : P.underlying t = some (.array n e)) (he : P.underlying e = some (.int .u8)) (hsz : ∀ w, (sizeOf e).run P w = .ok 1 w)
    (xs : List Int) (hx : xs.length = n) : ∀ (es : List MapEntry) (ps : List (List Int × Int)) (q : Nat), es.map kv = ps.map vv → (∀ p ∈ ps, p.1.length = n) →
      (lkAt ps xs = none ∧ lk ps xs = none ∧ ∀ w, (Instr.findAsking t (arr xs) es q).run P w = .ok none w) ∨ ∃ k u, lkAt ps xs = some k ∧ ps[k]? = some (xs, u) ∧ lk ps xs = some u ∧ ∀ w, (Instr.findAsking t (arr xs) es q).run P w = .ok (some (q + k, .int .i64 u)) w
  | [], [], q, _, _ => Or.inl ⟨rfl, rfl, fun w => by simp [Instr.findAsking]⟩
  | [], _ :: _, _, h, _ => by cases h
  | _ :: _, [], _, h, _ => by cases h
  | x :: es, p :: ps, q, h, hl => by
    rw [List.map_cons, List.map_cons] at h
    injection h with h1 h2
    have hk : x.key = arr p.1 := congrArg Prod.fst h1
    have hv : x.val = .int .i64 p.2 := congrArg Prod.snd h1
    have hy := hl p (by simp)
    have he' := fun w => run_equalIn_arr (P := P) w 9998 t e n ht he hsz xs p.1 hx hy
    unfold lkAt lk
    by_cases hb : p.1 = xs
    · rw [if_pos hb, if_pos hb]
      refine Or.inr ⟨0, p.2, rfl, by rw [← hb]; rfl, rfl, fun w => ?_⟩
      simp only [Instr.findAsking, Op.equal, Sem.run_bind, hk]
      rw [show Op.maxDepth = 9998 + 2 from rfl, he', hb]
      simp [hv]
    · rw [if_neg hb, if_neg hb]
      have hne : (xs == p.1) = false := by simpa using fun e => hb e.symm
      have hrun : ∀ w r, (Instr.findAsking t (arr xs) es (q + 1)).run P w = .ok r w → (Instr.findAsking t (arr xs) (x :: es) q).run P w = .ok r w := fun w r hr => by
        simp only [Instr.findAsking, Op.equal, Sem.run_bind, hk]
        rw [show Op.maxDepth = 9998 + 2 from rfl, he']
        simp [hne, hr]
      rcases run_findAsking_arr t e n ht he hsz xs hx es ps (q + 1) h2 (fun y hy => hl y (by simp [hy])) with ⟨a1, a2, a3⟩ | ⟨k, u, a1, a2, a3, a4⟩
      · exact Or.inl ⟨by rw [a1]; rfl, a2, fun w => hrun w _ (a3 w)⟩
      · refine Or.inr ⟨k + 1, u, by rw [a1]; rfl, by simpa using a2, a3, fun w => ?_⟩
        rw [show q + (k + 1) = q + 1 + k from by omega]
        exact hrun w _ (a4 w)

/-- A map from n bytes to places in block g, with these entries. -/
def Prs (w : World) (g n : Nat) (ps : List (List Int × Int)) : Prop := ∃ es clock, w.heap[g]? = some (.map es clock) ∧ es.toList.map kv = ps.map vv ∧ ∀ p ∈ ps, p.1.length = n
/-- A map from n bytes to places in block g; R is so of what stands under each key. -/
def Places (w : World) (g n : Nat) (R : (List Int → Option Int) → Prop) : Prop := ∃ ps, Prs w g n ps ∧ R (lk ps)

variable {w}
variable {R R' : (List Int → Option Int) → Prop}
theorem Prs.lt {g n : Nat} {ps : List (List Int × Int)} (h : Prs w g n ps) : g < w.heap.size := by
  obtain ⟨es, clock, hb, _⟩ := h
  rcases Nat.lt_or_ge g w.heap.size with h' | h'
  · exact h'
  · rw [Array.getElem?_eq_none h'] at hb; cases hb
theorem Places.lt {g n : Nat} (h : Places w g n R) : g < w.heap.size := by
  obtain ⟨ps, h, _⟩ := h
  exact h.lt
theorem Places.upd {w' : World} {L : List (Option Nat)} {g n : Nat} (h : Places w g n R) (hu : Upd L w w') (hg : some g ∉ L) : Places w' g n R := by
  have hl := h.lt
  obtain ⟨ps, ⟨es, clock, hb, he⟩, hr⟩ := h
  exact ⟨ps, ⟨es, clock, (hu.block g hl hg).trans hb, he⟩, hr⟩
theorem Places.drewN {g n : Nat} (h : Places w g n R) (q : Nat) : Places (w.drewN q) g n R := h
theorem Places.mono {g n : Nat} (h : Places w g n R) (hR : ∀ f, R f → R' f) : Places w g n R' := by
  obtain ⟨ps, hb, hr⟩ := h
  exact ⟨ps, hb, hR _ hr⟩
theorem Places.ne {g n g' : Nat} {t : TypeId} {cs : Array Value} (h : Places w g n R) (hb : Blk w g' t cs) : g ≠ g' := by
  rintro rfl
  obtain ⟨ps, ⟨es, clock, h1, _⟩, _⟩ := h
  unfold Blk at hb
  rw [h1] at hb
  cases hb
theorem Places.neOwn {g n : Nat} (h : Places w g n R) {B : Nat} {e : TypeId} {sz : Nat} {A : Option Addr} {m c : Nat} {xs : List Value} (ho : Own w B e sz A m c xs) : ob A ≠ some g := by
  rcases ho.cases.2.2.2 with ⟨rfl, _⟩ | ⟨g', cur, rfl, _, hb, _⟩
  · intro h; cases h
  · intro e; injection e with e; exact h.ne hb e.symm
theorem Places.new (w : World) (n : Nat) (hR : R fun _ => none) : Places (w.alloc (.map #[] 0)) w.heap.size n R := ⟨[], ⟨#[], 0, by show (w.heap.push _)[w.heap.size]? = _; simp, rfl, by simp⟩, hR⟩

/-- What a lookup finds, in every world that has this map. -/
theorem Places.look {g n : Nat} (h : Places w g n R) {T t e vt : TypeId} (hT : P.underlying T = some (.map t vt)) (ht : P.underlying t = some (.array n e)) (he : P.underlying e = some (.int .u8)) (hsz : ∀ w, (sizeOf e).run P w = .ok 1 w)
    (hz : ∀ w, (zeroValue vt).run P w = .ok (.int .i64 0) w) (xs : List Int) (hx : xs.length = n) :
    ∃ f, R f ∧ ∃ (v : Int) (ok : Bool), (∀ W : World, W.heap[g]? = w.heap[g]? → (Instr.lookup T (.map (some g)) (arr xs) true).run P W = .ok (.tuple #[.int .i64 v, .bool ok]) W) ∧ (f xs = if ok = true then some v else none) := by
  obtain ⟨ps, ⟨es, clock, hb, hkv, hes⟩, hR⟩ := h
  have hc : ∀ em W, (Instr.checkKey em 10000 t (arr xs)).run P W = .ok () W := fun em W => run_checkKey_arr W em 9998 t e n ht he hsz xs hx
  refine ⟨lk ps, hR, ?_⟩
  rcases run_findAsking_arr (P := P) t e n ht he hsz xs hx es.toList ps 0 hkv hes with ⟨_, h2, h3⟩ | ⟨k, u, _, _, h2, h3⟩
  · have hf : ∀ W, (Instr.findKey t (arr xs) es.toList).run P W = .ok none W := fun W => by rw [run_findKey_eq W (by rw [ht]), h3]
    refine ⟨0, false, fun W hW => ?_, by rw [h2]; rfl⟩
    have hb' := hW.trans hb
    unfold Instr.lookup
    simp only [Sem.run_bind, run_underlying hT, Result.andThen_ok, MapKept.run_getObj_map hb', Sem.run_pure, hc, hf, hz, if_true]
  · have hf : ∀ W, (Instr.findKey t (arr xs) es.toList).run P W = .ok (some (0 + k, .int .i64 u)) W := fun W => by rw [run_findKey_eq W (by rw [ht]), h3]
    refine ⟨u, true, fun W hW => ?_, by rw [h2]; rfl⟩
    have hb' := hW.trans hb
    unfold Instr.lookup
    simp only [Sem.run_bind, run_underlying hT, Result.andThen_ok, MapKept.run_getObj_map hb', Sem.run_pure, hc, hf, if_true]

theorem sameBits_byte (m : Nat) (a : Int) : Instr.sameBits m (.int .u8 a) (.int .u8 a) = true := by
  unfold Instr.sameBits
  simp
theorem sameBits_arr (m : Nat) (xs : List Int) : Instr.sameBits (m + 1) (arr xs) (arr xs) = true := by
  unfold arr
  rw [Instr.sameBits]
  simp only [beq_self_eq_true, Bool.true_and, List.all_eq_true]
  intro p hp
  obtain ⟨i, hi⟩ := List.getElem?_of_mem hp
  rw [List.getElem?_zip_eq_some] at hi
  obtain ⟨h1, h2⟩ := hi
  rw [h1] at h2
  injection h2 with h2
  have hm : p.1 ∈ (xs.map (Value.int .u8)).toArray.toList := List.mem_of_getElem? h1
  simp only [List.mem_map] at hm
  obtain ⟨a, _, ha⟩ := hm
  have : p = (Value.int .u8 a, Value.int .u8 a) := by rw [← ha] at h2; exact Prod.ext ha.symm h2.symm
  rw [this]
  exact sameBits_byte m a

/-- What a store leaves: the map alone has changed. -/
theorem Places.store {g n : Nat} (h : Places w g n R) {T t e vt : TypeId} (hT : P.underlying T = some (.map t vt)) (ht : P.underlying t = some (.array n e)) (he : P.underlying e = some (.int .u8)) (hsz : ∀ w, (sizeOf e).run P w = .ok 1 w)
    (xs : List Int) (hx : xs.length = n) (v : Int) (hv : ∀ f, R f → R' fun ys => if ys = xs then some v else f ys) :
    ∃ w', (Instr.mapUpdate T (.map (some g)) (arr xs) (.int .i64 v)).run P w = .ok () w' ∧ Places w' g n R' ∧ Upd [some g] w w' := by
  have hlt := h.lt
  obtain ⟨ps, ⟨es, clock, hb, hkv, hes⟩, hR⟩ := h
  have hc : ∀ em, (Instr.checkKey em 10000 t (arr xs)).run P w = .ok () w := fun em => run_checkKey_arr w em 9998 t e n ht he hsz xs hx
  have hset : ∀ o : Obj, Upd [some g] w { w with heap := w.heap.setIfInBounds g o } := fun o =>
    ⟨rfl, rfl, rfl, by simp, fun k hk hn => by
      have : g ≠ k := fun e => hn (by simp [e])
      simp [this]⟩
  rcases run_findAsking_arr (P := P) t e n ht he hsz xs hx es.toList ps 0 hkv hes with ⟨h1, h2, h3⟩ | ⟨k, u, h1, hpk, h2, h3⟩
  · have hf : (Instr.findKey t (arr xs) es.toList).run P w = .ok none w := by rw [run_findKey_eq w (by rw [ht]), h3]
    refine ⟨{ w with heap := w.heap.setIfInBounds g (.map (es.push { key := arr xs, val := .int .i64 v, born := clock }) (clock + 1)) }, ?_, ⟨ps ++ [(xs, v)], ⟨es.push { key := arr xs, val := .int .i64 v, born := clock }, clock + 1, by simp [hlt], ?_, fun p hp => ?_⟩, ?_⟩, hset _⟩
    · unfold Instr.mapUpdate
      simp only [Sem.run_bind, run_underlying hT, Result.andThen_ok, MapKept.run_getObj_map hb, hc, hf, MapKept.run_setObj_map _ hb]
    · rw [Array.toList_push, List.map_append, List.map_append, hkv]
      rfl
    · rw [List.mem_append, List.mem_singleton] at hp
      rcases hp with hp | rfl
      · exact hes p hp
      · exact hx
    · have e : lk (ps ++ [(xs, v)]) = fun ys => if ys = xs then some v else lk ps ys := funext fun ys => lk_push xs v ps h1 ys
      rw [e]
      exact hv _ hR
  · have hf : (Instr.findKey t (arr xs) es.toList).run P w = .ok (some (0 + k, .int .i64 u)) w := by rw [run_findKey_eq w (by rw [ht]), h3]
    rw [Nat.zero_add] at hf
    have hke : ∃ x, es[k]? = some x ∧ x.key = arr xs := by
      have e1 : (es.toList.map kv)[k]? = some (vv (xs, u)) := by rw [hkv, List.getElem?_map, hpk]; rfl
      rw [List.getElem?_map] at e1
      obtain ⟨x, hx1, hx2⟩ := Option.map_eq_some_iff.1 e1
      rw [Array.getElem?_toList] at hx1
      exact ⟨x, hx1, congrArg Prod.fst hx2⟩
    obtain ⟨x, hxe, hxk⟩ := hke
    have hstay : (Instr.keyThatStays (((es[k]?).map (·.key)).getD (arr xs)) (arr xs)).run P w = .ok (arr xs) w := by
      rw [hxe]
      simp only [Option.map_some, Option.getD_some, hxk]
      unfold Instr.keyThatStays
      rw [if_pos (sameBits_arr 9999 xs)]
      rfl
    refine ⟨{ w with heap := w.heap.setIfInBounds g (.map (es.modify k fun x => { x with key := arr xs, val := .int .i64 v }) clock) }, ?_, ⟨ps.set k (xs, v), ⟨es.modify k fun x => { x with key := arr xs, val := .int .i64 v }, clock, by simp [hlt], ?_, fun p hp => ?_⟩, ?_⟩, hset _⟩
    · unfold Instr.mapUpdate
      simp only [Sem.run_bind, run_underlying hT, Result.andThen_ok, MapKept.run_getObj_map hb, hc, hf, hstay, MapKept.run_setObj_map _ hb]
    · apply List.ext_getElem?
      intro q
      have e1 : (es.toList.map kv)[q]? = (ps.map vv)[q]? := by rw [hkv]
      rw [List.getElem?_map, List.getElem?_map, Array.getElem?_toList] at e1
      rw [List.getElem?_map, List.getElem?_map, Array.getElem?_toList, Array.getElem?_modify, List.getElem?_set]
      by_cases hq : k = q
      · subst hq
        have hlk := (List.getElem?_eq_some_iff.1 hpk).1
        rw [if_pos rfl, if_pos rfl, if_pos hlk, hxe]
        rfl
      · rw [if_neg hq, if_neg hq]
        exact e1
    · rcases List.mem_or_eq_of_mem_set hp with hp | rfl
      · exact hes p hp
      · exact hx
    · have e : lk (ps.set k (xs, v)) = fun ys => if ys = xs then some v else lk ps ys := funext fun ys => lk_set xs v ps k h1 ys
      rw [e]
      exact hv _ hR

end
end Go.Dray
