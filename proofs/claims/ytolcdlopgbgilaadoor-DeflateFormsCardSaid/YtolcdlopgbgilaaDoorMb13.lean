/- Merged by wip/tools/merge.py: InfL InfLaid RiA. -/
import Derived.LaidMore
import Derived.Stop.Joined
import Derived.Test.YtolcdlopgbgilaaDoorMb01
import Derived.Test.YtolcdlopgbgilaaDoorMb04
import Derived.Test.YtolcdlopgbgilaaDoorMb05
import Derived.Test.YtolcdlopgbgilaaDoorMb08
import Derived.Test.YtolcdlopgbgilaaDoorMb12

/-! Text InfL. -/
namespace Go.Proofs.YtolcdlopgbgilaaDoor
open Go.RowKit Go.Dray

theorem bitsOf_app (xs ys : List Int) : bitsOf (xs ++ ys) = bitsOf xs ++ bitsOf ys := by
  have h := bitsOf_cut (xs ++ ys) xs.length (by rw [List.length_append]; omega)
  rw [List.take_left'] at h
  · have e : bitsOf (xs ++ ys) = (bitsOf (xs ++ ys)).take (8 * xs.length) ++ (bitsOf (xs ++ ys)).drop (8 * xs.length) := (List.take_append_drop _ _).symm
    rw [e, ← h]
    congr 1
    apply List.ext_getElem?
    intro i
    rw [List.getElem?_drop]
    by_cases hi : i < 8 * ys.length
    · unfold bitsOf
      rw [tab_get _ (by rw [List.length_append]; omega), tab_get _ hi]
      have h1 : (xs ++ ys).getD ((8 * xs.length + i) / 8) 0 = ys.getD (i / 8) 0 := by
        simp only [List.getD]
        rw [List.getElem?_append_right (by omega), show (8 * xs.length + i) / 8 - xs.length = i / 8 from by omega]
      rw [h1, show (8 * xs.length + i) % 8 = i % 8 from by omega]
    · rw [List.getElem?_eq_none (by rw [bitsOf_len, List.length_append]; omega), List.getElem?_eq_none (by rw [bitsOf_len]; omega)]
  · rfl

set_option maxRecDepth 100000 in
set_option maxHeartbeats 2000000 in
theorem inflateMost_walk (A : Option Addr) (n c : Nat) (zs : List Int) (most less : Int) (D : Option Addr) (m d : Nat) (ys : List Int) (w : World) (hin : InInts .u8 w A n c zs) (hw1 : (Lit.int .i64 most).wf = true) (hw2 : (Lit.int .i64 less).wf = true) (hin2 : InInts .u8 w D m d ys) (hT : OrdI w) :
    Calls Tryd.prog 4 #[.slice A n c, .int .i64 most, .int .i64 less, .slice D m d] w fun e w' => e = .returned (.bool true) ∧ Below w.heap.size w w' := by
  have HZ := Lib.hid (inBytes_bd hin)
  have HY := Lib.hid (inBytes_bd hin2)
  have HT := Lib.hid hT
  have HS := Lib.hid hin.1
  have HD := Lib.hid hin2.1
  have hnc := hin.2.1
  have HL := hin.1.len
  have HLY := hin2.1.len
  have HLE := bounds_i64 hw2
  clear hin hin2 hT
  by_cases hsk : 300 < n ∨ 300 < m ∨ most < 0 ∨ 5000 < most
  · by_cases d1 : 300 < n
    · have d1' : decide ((300 : Int) < n) = true := by simp; omega
      go_enter Tryd.func4, Tryd.ntmps4
      go_wp2_with (go_at_call 11; refine (awake_any _ HT.out).mono ?_; rintro e w1 ⟨rfl, hu1⟩)
      go_ret
      exact ⟨rfl, hu1.below (Nat.le_refl _) (by simp)⟩
    · have d1' : decide ((300 : Int) < n) = false := by simp; omega
      by_cases d2 : 300 < m
      · have d2' : decide ((300 : Int) < m) = true := by simp; omega
        go_enter Tryd.func4, Tryd.ntmps4
        go_wp2_with (go_at_call 11; refine (awake_any _ HT.out).mono ?_; rintro e w1 ⟨rfl, hu1⟩)
        go_ret
        exact ⟨rfl, hu1.below (Nat.le_refl _) (by simp)⟩
      · have d2' : decide ((300 : Int) < m) = false := by simp; omega
        by_cases d3 : most < 0
        · have d3' : decide (most < 0) = true := by simp; omega
          go_enter Tryd.func4, Tryd.ntmps4
          go_wp2_with (go_at_call 11; refine (awake_any _ HT.out).mono ?_; rintro e w1 ⟨rfl, hu1⟩)
          go_ret
          exact ⟨rfl, hu1.below (Nat.le_refl _) (by simp)⟩
        · have d3' : decide (most < 0) = false := by simp; omega
          have d4' : decide (5000 < most) = true := by simp; omega
          go_enter Tryd.func4, Tryd.ntmps4
          go_wp2_with (go_at_call 11; refine (awake_any _ HT.out).mono ?_; rintro e w1 ⟨rfl, hu1⟩)
          go_ret
          exact ⟨rfl, hu1.below (Nat.le_refl _) (by simp)⟩
  · have d1 : decide ((300 : Int) < n) = false := by simp; omega
    have d2 : decide ((300 : Int) < m) = false := by simp; omega
    obtain ⟨M, rfl⟩ := Int.eq_ofNat_of_zero_le (show 0 ≤ most by omega)
    have d3 : decide ((M : Int) < 0) = false := by simp
    have d4 : decide ((5000 : Int) < M) = false := by simp; omega
    have hn : n ≤ 300 := by omega
    have hm : m ≤ 300 := by omega
    have hM : M ≤ 5000 := by omega
    clear hsk
    go_enter Tryd.func4, Tryd.ntmps4
    go_wp2_with (first | (go_at_call 11; refine (awake_any _ HT.out).mono ?_; rintro e w1 ⟨rfl, hu1⟩) | fail)
    have HT1 := Lib.hid (HT.out.upd hu1)
    have HS1 := Lib.hid (HS.out.upd hu1 (by simp))
    have HD1 := Lib.hid (HD.out.upd hu1 (by simp))
    have HU1 := Lib.hid hu1
    clear hu1 HS HD HT
    obtain ⟨F, hF⟩ : ∃ F, F = 8 * (n + m) + 1 := ⟨_, rfl⟩
    refine (inflate_any A n c zs M w1 HS1.out HZ.out HT1.out (by omega) F (by omega)).mono ?_
    rintro e w2 ⟨hu2, ⟨h, _⟩ | ⟨_, _, x, hx0, hr, rfl⟩ | ⟨_, _, out, p, A1, on, oc, hr, rfl, hi, hon, -, hob, hfr, hp8, hroom⟩⟩
    · exact absurd (show (0 : Int) ≤ M ∧ (M : Int) ≤ 16777216 by omega) h
    · have dx : (x != 0) = true := by simp [hx0]
      go_wp2
      go_ret
      exact ⟨rfl, (HU1.out.trans hu2).below (Nat.le_refl _) (by simp)⟩
    · rw [Int.toNat_natCast] at hr hroom
      have HR := Lib.hid hr
      have HU2 := Lib.hid (HU1.out.trans hu2)
      have HS2 := Lib.hid (HS1.out.upd hu2 (by simp))
      have HD2 := Lib.hid (HD1.out.upd hu2 (by simp))
      have HT2 := Lib.hid (HT1.out.upd hu2)
      have HI2 := Lib.hid hi
      have HOL := hi.len
      have hp1 : 1 ≤ p := by
        obtain ⟨f, rfl⟩ : ∃ f, F = f + 1 := ⟨F - 1, by omega⟩
        exact infl_pos hr
      clear hr hu2 hi hfr HS1 HD1 HT1
      obtain ⟨used, hus⟩ : ∃ used, used = (p + 7) / 8 := ⟨_, rfl⟩
      rw [← hus]
      have HUS := Lib.hid hus
      have hu1 : 1 ≤ used := by omega
      have hun : used ≤ n := by omega
      have e1 : decide ((M : Int) < on) = false := by simp; omega
      have e2 : decide ((used : Int) < 1) = false := by simp; omega
      have e3 : decide ((n : Int) < used) = false := by simp; omega
      have cut1 := run_cut_h el_byte A n c .i64 (used : Int) used rfl (by omega)
      clear hus
      have HC2 : Hid (Ints .u8 w2 A used (zs.take used)) := HS2.out.pre hun
      go_wp2_with (first
        | (at_builtin; refine wpList_app (s := .tmp 65) rfl rfl el_byte rfl (Own.empty w2 w2.heap.size _ (Nat.le_refl _)) rfl (Seg.upd HC2.out ((Upd.refl [] w2).alloc _) (by omega) (by simp)) (ints_one _ _) (by simp only [maxLen]; omega) (by omega) (by simp) ?_; intro X3 c3 w3 hown3 hu3 hfr3; rw [Nat.zero_add, List.nil_append] at *; have HO3 := Lib.hid hown3; have HV3 : Hid (Upd [] w2 w3) := ((Upd.refl [] w2).alloc _).then hu3 (by intro b hb; right; simp [ob] at hb; omega); clear hown3 hu3 hfr3)
        | (at_builtin; refine wpList_app (s := .tmp 69) rfl rfl el_byte rfl HO3.out rfl (HD2.out.upd HV3.out (by simp)) (ints_one _ _) (by simp only [maxLen]; omega) (by omega) HV3.out.size ?_; intro X4 c4 w4 hown4 hu4 hfr4; have HO4 := Lib.hid hown4; have HV4 : Hid (Upd [] w2 w4) := HV3.out.then hu4 (by intro b hb; right; simp at hb; exact (HO3.out.base hb.symm).1); clear hown4 hu4 hfr4)
        | fail)
      obtain ⟨own, how⟩ : ∃ own, own = zs.take used ++ ys := ⟨_, rfl⟩
      have HO4' : Hid (Own w4 w2.heap.size 5 1 X4 (used + m) c4 (own.map (Value.int .u8))) := by
        have h := HO4.out
        rw [← List.map_append, ← how] at h
        exact h
      have HOB : Hid (∀ z ∈ own, 0 ≤ z ∧ z ≤ 255) := fun z hz => by
        rw [how] at hz
        rcases List.mem_append.1 hz with h | h
        · exact HZ.out z (List.mem_of_mem_take h)
        · exact HY.out z h
      have HR4 : Hid (run (bitsOf own) M (infPr F F) 0 [] = .ok out p) := by
        have := HUS.out
        have hle := HL.out
        refine run_ext _ HR.out ?_ ?_
        · rw [how, bitsOf_app, bitsOf_cut zs used (by omega), List.take_append_of_le_length (by rw [List.length_take, bitsOf_len]; omega), List.take_take, show min p (8 * used) = p from by omega]
        · rw [how, bitsOf_len, List.length_append, List.length_take]; omega
      have HT4 := Lib.hid (HT2.out.upd HV4.out)
      have HS4 := Lib.hid (HS2.out.upd HV4.out (by simp))
      have HI4 := Lib.hid (HI2.out.upd HV4.out (by simp))
      clear how HO4 HO3 HV3 HC2
      refine (inflate_any X4 (used + m) c4 own M w4 (Ints.ofOwn HO4'.out) HOB.out HT4.out (by omega) F (by omega)).mono ?_
      rintro e w5 ⟨hu5, ⟨h, _⟩ | ⟨_, _, x, hx0, hr, rfl⟩ | ⟨_, _, out', p', A5, on5, oc5, hr, rfl, hi5, hon5, -, -, hfr5, -, -⟩⟩
      · exact absurd (show (0 : Int) ≤ M ∧ (M : Int) ≤ 16777216 by omega) h
      · rw [Int.toNat_natCast, HR4.out] at hr; cases hr
      rw [Int.toNat_natCast, HR4.out] at hr
      injection hr with h1 h2
      subst h1 h2
      rw [← HUS.out]
      have HV5 := Lib.hid (HV4.out.trans hu5)
      have HT5 := Lib.hid (HT4.out.upd hu5)
      have HS5 := Lib.hid (HS4.out.upd hu5 (by simp))
      have HI5 := Lib.hid (HI4.out.upd hu5 (by simp))
      have HJ5 := Lib.hid hi5
      have HF5 : Hid (0 < on5 → w4.heap.size ≤ bl A5) := fun h0 => hfr5 _ (by rw [hi5.at_ h0]; rfl)
      have HO5 := Lib.hid (HO4'.out.upd hu5 (by simp))
      have HXB : Hid (∀ g, ob X4 = some g → w2.heap.size ≤ g ∧ g < w4.heap.size) := fun g hg => HO4'.out.base hg
      have HON : Hid (on5 = on) := by have := hi5.len.out; have := HOL.out; show _ = _; omega
      clear hu5 hi5 hfr5 HO4' HV4 HT4 HS4 HI4
      go_wp2
      go_loopw [16] (fun v wr => ∃ k : Nat, k ≤ used + m ∧ v = .int .i64 k ∧ Hid (∃ xs, Own wr w2.heap.size 5 1 X4 (used + m) c4 xs) ∧ Hid (Upd [ob X4] w5 wr)) (fun v _ => used + m - (intOf v).toNat)
      case atStart => exact ⟨0, by omega, rfl, ⟨_, HO5.out⟩, Upd.refl _ _⟩
      case round =>
        obtain ⟨k, hk, rfl, HX, HU⟩ := hrel
        by_cases hlt : k < used + m
        · obtain ⟨xs, hx⟩ := HX.out
          have hix := run_index el_byte (hx.seg.at_) c4 .i64 k hlt
          rw [Nat.mul_one] at hix
          have hfz := hx.frozen (by omega) k
          obtain ⟨old, hold⟩ : ∃ old, xs[k]? = some old := ⟨_, List.getElem?_eq_getElem (by have := hx.len; omega)⟩
          have hcell := hx.seg.cell k old hold
          have hset := hx.set (k := k) (by omega) (.int .u8 0)
          have hob := hx.obl (by omega)
          have HX' : Hid (∃ xs, Own (wr.setCell ⟨bl X4, ofs X4 + k, none⟩ (.int .u8 0)) w2.heap.size 5 1 X4 (used + m) c4 xs) := ⟨_, hset⟩
          have HU' : Hid (Upd [ob X4] w5 (wr.setCell ⟨bl X4, ofs X4 + k, none⟩ (.int .u8 0))) := HU.out.setCell (p := ⟨bl X4, ofs X4 + k, none⟩) (Or.inl (by rw [hob]; simp)) _
          clear hx hold hset hob HX HU
          go_wp2
          go_roundw
          case rel => exact ⟨k + 1, by omega, by go_num, HX', HU'⟩
          case measure => simp [intOf]; omega
        · obtain rfl : k = used + m := by omega
          have HUF : Hid (Upd [] w wr) := (HU2.out.trans HV5.out).then HU.out (fun b hb => by
            simp at hb
            have h1 := (HXB.out b hb.symm).1
            have h2 := HU2.out.size
            right; omega)
          have hXne : ∀ b, b < w2.heap.size → some b ∉ [ob X4] := fun b hb hm => by
            simp at hm
            have := (HXB.out b hm.symm).1
            omega
          have HSr : Hid (Ints .u8 wr A n zs) := HS5.out.upd HU.out (fun hp => hXne _ (Seg.lt HS2.out hp (by omega)))
          have HIr : Hid (Ints .u8 wr A1 on out) := HI5.out.upd HU.out (fun hp => hXne _ (Seg.lt HI2.out hp (by omega)))
          have HJr : Hid (Ints .u8 wr A5 on5 out) := HJ5.out.upd HU.out (fun hp => by
            have h1 := HF5.out hp
            simp
            intro h
            have := (HXB.out _ h.symm).2
            omega)
          have HTr : Hid (OrdI wr) := fun i hi => HU.out.cell (HT5.out i hi) (hXne _ HT2.out.low)
          clear HX HU HS5 HI5 HJ5 HT5 HO5 HF5
          have c1 := str_cut (c := oc) HIr.out
          have c2 := str_cut (c := oc5) HJr.out
          have HOO : Hid (run (bitsOf zs) on (infPr F F) 0 [] = .ok out p) := by
            have h := run_most (most' := on) _ HR.out (Nat.zero_le _)
            rw [HOL.out, if_pos (Nat.le_refl _)] at h
            exact h
          have HON2 := HOL.out
          by_cases hlow : less < 0 ∨ (on : Int) ≤ less
          · by_cases hl0 : less < 0
            · have q1 : decide (0 ≤ less) = false := by simp; omega
              clear hlow
              go_wp2_with fail
              refine (inflate_any A n c zs on wr HSr.out HZ.out HTr.out (by omega) F (by omega)).mono ?_
              rintro e w6 ⟨hu6, ⟨h, _⟩ | ⟨_, _, x, hx0, hr, rfl⟩ | ⟨_, _, out', p', A6, on6, oc6, hr, rfl, hi6, hon6, -, -, hfr6, -, -⟩⟩
              · exact absurd (show (0 : Int) ≤ on ∧ (on : Int) ≤ 16777216 by omega) h
              · rw [Int.toNat_natCast, HOO.out] at hr; cases hr
              · rw [Int.toNat_natCast, HOO.out] at hr
                injection hr with h1 h2
                subst h1 h2
                rw [← HUS.out]
                have k1 := str_cut (c := oc6) hi6
                have k2 := str_cut (c := oc) (HIr.out.upd hu6 (by simp))
                have HU6 := Lib.hid (HUF.out.trans hu6)
                clear hu6 hi6 hfr6
                go_wp2
                go_ret
                exact ⟨rfl, HU6.out.below (Nat.le_refl _) (by simp)⟩
            · have q1 : decide (0 ≤ less) = true := by simp; omega
              have q2 : decide (less < (on : Int)) = false := by simp; omega
              clear hlow
              go_wp2_with fail
              refine (inflate_any A n c zs on wr HSr.out HZ.out HTr.out (by omega) F (by omega)).mono ?_
              rintro e w6 ⟨hu6, ⟨h, _⟩ | ⟨_, _, x, hx0, hr, rfl⟩ | ⟨_, _, out', p', A6, on6, oc6, hr, rfl, hi6, hon6, -, -, hfr6, -, -⟩⟩
              · exact absurd (show (0 : Int) ≤ on ∧ (on : Int) ≤ 16777216 by omega) h
              · rw [Int.toNat_natCast, HOO.out] at hr; cases hr
              · rw [Int.toNat_natCast, HOO.out] at hr
                injection hr with h1 h2
                subst h1 h2
                rw [← HUS.out]
                have k1 := str_cut (c := oc6) hi6
                have k2 := str_cut (c := oc) (HIr.out.upd hu6 (by simp))
                have HU6 := Lib.hid (HUF.out.trans hu6)
                clear hu6 hi6 hfr6
                go_wp2
                go_ret
                exact ⟨rfl, HU6.out.below (Nat.le_refl _) (by simp)⟩
          · obtain ⟨L, rfl⟩ := Int.eq_ofNat_of_zero_le (show 0 ≤ less by omega)
            have q1 : decide (0 ≤ (L : Int)) = true := by simp
            have q2 : decide (L < on) = true := by simp; omega
            have HLL : Hid (run (bitsOf zs) L (infPr F F) 0 [] = .err 4) := by
              have h := run_most (most' := L) _ HR.out (Nat.zero_le _)
              rw [HOL.out, if_neg (by omega)] at h
              exact h
            have hL5 : L ≤ 5000 := by omega
            clear hlow
            go_wp2_with fail
            refine (inflate_any A n c zs L wr HSr.out HZ.out HTr.out (by omega) F (by omega)).mono ?_
            rintro e w6 ⟨hu6, ⟨h, _⟩ | ⟨_, _, x, hx0, hr, rfl⟩ | ⟨_, _, out', p', A6, on6, oc6, hr, rfl, hi6, hon6, -, -, hfr6, -, -⟩⟩
            · exact absurd (show (0 : Int) ≤ L ∧ (L : Int) ≤ 16777216 by omega) h
            · rw [Int.toNat_natCast, HLL.out] at hr
              injection hr with hr
              subst hr
              have HU6 := Lib.hid (HUF.out.trans hu6)
              clear hu6
              go_wp2
              go_ret
              exact ⟨rfl, HU6.out.below (Nat.le_refl _) (by simp)⟩
            · rw [Int.toNat_natCast, HLL.out] at hr; cases hr

end Go.Proofs.YtolcdlopgbgilaaDoor

/-! Text InfLaid. -/
namespace Go.Proofs.YtolcdlopgbgilaaDoor
open Go.ChangeShapes Go.WideShapes Go.ChangeAt Go.RowKit Go.Dray

/-- A row of integers that reads as a known datum. -/
theorem trod_row {H : Type} {enc : TypeId × Value → H} {W : World} {base : Nat} {sp : Nat → Bool} {held : Bool} {fuel : Nat} {t e : TypeId} {n : Nat} {k : IntKind} {cs : List Value} {x : DataW H × List MemPlace}
    (ht : Tryd.prog.underlying t = some (.array n e)) (he : Tryd.prog.underlying e = some (.int k)) (hc : Tryd.prog.cellsOf e = 1) (hct : Tryd.prog.cellsOf t = n) (h : DataW.trod enc Tryd.prog W base sp held fuel t cs = some x)
    (zs : List Int) (hx : x.1 = .agg (zs.map fun z => .lit (.int k z))) : cs = zs.map (Value.int k) := by
  obtain ⟨xs, m, rfl, rfl, hlen, hn, hel⟩ := DataW.trod_array ht h
  simp only [DataW.agg.injEq] at hx
  have hl : zs.length = n := by
    have := congrArg List.length hx
    simp at this
    omega
  apply List.ext_getElem?
  intro i
  rw [hct] at hlen
  rcases Nat.lt_or_ge i n with hi | hi
  · have h1 := hel i hi
    rw [hc, Nat.mul_one, List.getElem?_eq_getElem (by omega)] at h1
    obtain ⟨z, e1, e2, _⟩ := DataW.trod_int he h1
    have h2 : (xs.map (·.1))[i]? = some (.lit (.int k z)) := by rw [List.getElem?_map, List.getElem?_eq_getElem (by omega), e2]; rfl
    rw [hx, List.getElem?_map, List.getElem?_eq_getElem (by omega)] at h2
    simp at h2
    have h3 : ((cs.drop i).take 1)[0]? = some (Value.int k z) := by rw [e1]; rfl
    rw [List.getElem?_take_of_lt (by omega), List.getElem?_drop, Nat.add_zero] at h3
    rw [h3, List.getElem?_map, List.getElem?_eq_getElem (by omega), ← h2]
    rfl
  · rw [List.getElem?_eq_none (by omega), List.getElem?_eq_none (by rw [List.length_map]; omega)]

def ordI : List Int := orderL.map fun n : Nat => (n : Int)
theorem ordI_cell {cs : Array Value} (h : cs.toList = ordI.map (Value.int .i64)) (i : Nat) (hi : i < 19) : cs[i]? = some (.int .i64 (orderL.getD i 0 : Nat)) := by
  rw [← Array.getElem?_toList, h]
  unfold ordI
  rw [List.map_map, List.getElem?_map, List.getElem?_eq_getElem (show i < orderL.length from hi)]
  simp [List.getD, show i < orderL.length from hi]

def laidI : List (String × DataW Unit) := [("drayage/inflate.order", Rows.laid_drayage_inflate_order)]

theorem doorI (os : Os) (args : Array Value) : laidMetH Tryd.prog laidI ((World.doorLaid Tryd.prog 400 os).forCall (fun _ _ => 0) ⟨#[], args, []⟩).memory :=
  laidMetH_of_parts3 (fuel := 8) (laidMet_of_run' 8 (by kernel_rfl) (by kernel_rfl)) (by kernel_rfl) (by kernel_rfl)

theorem of_laidI {W : World} (h : laidMetH Tryd.prog laidI W) : OrdI W := by
  rw [MakeChecks.laidMetH_plain _ _ _ (by kernel_rfl)] at h
  obtain ⟨ps, ⟨g0, t0, cs0, f0, p0, q0, hg0, ht0, hv0, hd0, _⟩, _, _⟩ := h
  obtain rfl := Option.some.inj ((show Tryd.prog.globalNamed "drayage/inflate.order" = some 1 by kernel_rfl).symm.trans hg0)
  obtain rfl := Option.some.inj ((show (Tryd.prog.globals[1]?).map (·.type) = some 123 by kernel_rfl).symm.trans ht0)
  have r0 := trod_row (n := 19) (e := 3) (k := .i64) (by kernel_rfl) (by kernel_rfl) (by kernel_rfl) (by kernel_rfl) hd0 ordI rfl
  intro i hi
  rw [World.var?_cell hg0 hv0 i]
  exact ordI_cell r0 i hi

end Go.Proofs.YtolcdlopgbgilaaDoor

/-! Text RiA. -/
namespace Go.Proofs.YtolcdlopgbgilaaDoor
open Go.RowKit Go.Dray

/-- The reference's state at block s: p bits are gone of bs; what came: o; the error e. -/
structure RSt (w : World) (B s : Nat) (X : Option Addr) (xc : Nat) (bs : List Bool) (p : Nat) (OA : Option Addr) (on oc : Nat) (o : List Int) (most : Nat) (e : Int) : Prop where
  blk : Blk w s 64 #[.slice X bs.length xc, .int .i64 p, .slice OA on oc, .int .i64 most, .int .i64 e]
  bits : Own w B 3 1 X bs.length xc ((bs.map b2i).map (Value.int .i64))
  own : Own w B 5 1 OA on oc (o.map (Value.int .u8))
  sb : B ≤ s
  pos : p ≤ bs.length
  room : on ≤ most + 1
  room0 : e = 0 → on ≤ most
  blen : bs.length ≤ 8000000000000
  mb : most ≤ 16777216
  obd : ∀ z ∈ o, 0 ≤ z ∧ z ≤ 255
  bw : B ≤ w.heap.size

section
variable {w w' : World} {B s : Nat} {X : Option Addr} {xc : Nat} {bs : List Bool} {p : Nat} {OA : Option Addr} {on oc : Nat} {o : List Int} {most : Nat} {e : Int}
theorem RSt.olen (h : RSt w B s X xc bs p OA on oc o most e) : o.length = on := by have := h.own.len; rw [List.length_map] at this; omega
theorem RSt.grow (h : RSt w B s X xc bs p OA on oc o most e) (hu : Upd [] w w') : RSt w' B s X xc bs p OA on oc o most e :=
  ⟨h.blk.upd hu (by simp), h.bits.upd hu (by simp), h.own.upd hu (by simp), h.sb, h.pos, h.room, h.room0, h.blen, h.mb, h.obd, Nat.le_trans h.bw hu.size⟩
theorem RSt.drewN (h : RSt w B s X xc bs p OA on oc o most e) (q : Nat) : RSt (w.drewN q) B s X xc bs p OA on oc o most e := ⟨h.blk, h.bits, h.own, h.sb, h.pos, h.room, h.room0, h.blen, h.mb, h.obd, h.bw⟩
/-- A place is told. -/
theorem RSt.move (h : RSt w B s X xc bs p OA on oc o most e) {q : Nat} (hq : q ≤ bs.length) : RSt (w.setCell ⟨s, 1, none⟩ (.int .i64 q)) B s X xc bs q OA on oc o most e :=
  ⟨h.blk.set 1 _, h.bits.far (p := ⟨s, 1, none⟩) (h.bits.neBlk h.blk (by decide)) _, h.own.far (p := ⟨s, 1, none⟩) (h.own.neBlk h.blk (by decide)) _, h.sb, hq, h.room, h.room0, h.blen, h.mb, h.obd, by have := h.bw; simp; omega⟩
/-- An error is kept. -/
theorem RSt.err (h : RSt w B s X xc bs p OA on oc o most e) {e' : Int} (he : e' ≠ 0) : RSt (w.setCell ⟨s, 4, none⟩ (.int .i64 e')) B s X xc bs p OA on oc o most e' :=
  ⟨h.blk.set 4 _, h.bits.far (p := ⟨s, 4, none⟩) (h.bits.neBlk h.blk (by decide)) _, h.own.far (p := ⟨s, 4, none⟩) (h.own.neBlk h.blk (by decide)) _, h.sb, h.pos, h.room, fun h => absurd h he, h.blen, h.mb, h.obd, by have := h.bw; simp; omega⟩
theorem RSt.put (_ : RSt w B s X xc bs p OA on oc o most e) (k : Nat) (u : Value) : Upd [some s] w (w.setCell ⟨s, k, none⟩ u) := (Upd.refl _ w).setCell (p := ⟨s, k, none⟩) (Or.inl (by simp)) _
end

/-- What reading a number leaves. -/
def NumPost (w : World) (B s : Nat) (X : Option Addr) (xc : Nat) (bs : List Bool) (p : Nat) (OA : Option Addr) (on oc : Nat) (o : List Int) (most : Nat) (err : Int) (n : Nat) (e : Ending) (w' : World) : Prop :=
  ∃ v p' err', e = .returned (.int .i64 v) ∧ RSt w' B s X xc bs p' OA on oc o most err' ∧ Upd [some s] w w' ∧ p ≤ p' ∧ 0 ≤ v ∧ v < 2 ^ n ∧
    ((err ≠ 0 ∧ err' = err ∧ p' = p ∧ v = 0) ∨ (err = 0 ∧ p + n ≤ bs.length ∧ err' = 0 ∧ p' = p + n ∧ v = num ((bs.drop p).take n)) ∨ (err = 0 ∧ bs.length < p + n ∧ err' = 2 ∧ p' = p ∧ v = 0))

set_option maxRecDepth 100000 in
set_option maxHeartbeats 1000000 in
theorem number_any {w : World} {B s : Nat} {X : Option Addr} {xc : Nat} {bs : List Bool} {p : Nat} {OA : Option Addr} {on oc : Nat} {o : List Int} {most : Nat} {err : Int} (h : RSt w B s X xc bs p OA on oc o most err) (n : Nat) (hn : n ≤ 24) :
    Calls Tryd.prog 28 #[.pointer (some ⟨s, 0, none⟩), .int .i64 n] w (NumPost w B s X xc bs p OA on oc o most err n) := by
  have HS := Lib.hid h
  have c0 := h.blk.cell 0
  have c1 := h.blk.cell 1
  have c4 := h.blk.cell 4
  have f1 := h.blk.frozen 1
  have f4 := h.blk.frozen 4
  simp at c0 c1 c4
  have hp := h.pos
  have hb := h.blen
  have HPW : Hid ((0 : Int) < 2 ^ n) := Int.pow_pos (by decide)
  obtain ⟨N, hN⟩ : ∃ N, N = bs.length := ⟨_, rfl⟩
  have HN := Lib.hid hN
  rw [← hN] at c0 hp hb
  clear h hN
  by_cases he : err = 0
  · subst he
    by_cases hl : p + n ≤ N
    · have d1 : decide ((N : Int) - p < n) = false := by simp; omega
      have HBI : Hid (Ints .i64 w X N (bs.map b2i)) := by rw [HN.out]; exact Ints.ofOwn HS.out.bits
      have hxc : N ≤ xc := by rw [HN.out]; exact HS.out.bits.le
      go_enter Tryd.func28, Tryd.ntmps28
      go_wp2
      go_quiet (fail)
      have HS1 := Lib.hid (HS.out.drewN nq)
      have c0' : (w.drewN nq).cell? ⟨s, 0, none⟩ = some (.slice X N xc) := c0
      have c1' : (w.drewN nq).cell? ⟨s, 1, none⟩ = some (.int .i64 p) := c1
      have f1' : (w.drewN nq).frozen? ⟨s, 1, none⟩ = false := f1
      have HB1 := Lib.hid (HBI.out.drewN nq)
      have HU1 : Hid (Upd [some s] w (w.drewN nq)) := (Upd.refl _ w).drewN nq
      generalize w.drewN nq = w1 at HS1 c0' c1' f1' HB1 HU1 ⊢
      clear c0 c1 c4 f1 f4 HS HBI
      go_wp2
      have HS2 : Hid (RSt (w1.setCell ⟨s, 1, none⟩ (.int .i64 ((p : Int) + n))) B s X xc bs (p + n) OA on oc o most 0) := HS1.out.move (q := p + n) (by rw [← HN.out]; exact hl)
      have HU2 : Hid (Upd [some s] w (w1.setCell ⟨s, 1, none⟩ (.int .i64 ((p : Int) + n)))) := HU1.out.trans (HS1.out.put 1 _)
      have HB2 : Hid (Ints .i64 (w1.setCell ⟨s, 1, none⟩ (.int .i64 ((p : Int) + n))) X N (bs.map b2i)) := by rw [HN.out]; exact Ints.ofOwn HS2.out.bits
      have k0 := HS2.out.blk.cell 0
      have k1 := HS2.out.blk.cell 1
      simp at k0 k1
      rw [← HN.out] at k0
      generalize w1.setCell ⟨s, 1, none⟩ (.int .i64 ((p : Int) + n)) = w2 at HS2 HU2 HB2 k0 k1 ⊢
      clear HS1 HB1 HU1 c0' c1' f1'
      have cut := run_cut_lh el_int X N xc .i64 .i64 (p : Int) ((p : Int) + n) p (p + n) (by omega) (by omega) (by omega) (by omega)
      rw [Nat.add_sub_cancel_left] at cut
      have HC : Hid (Ints .i64 w2 (cutA 1 X xc p) n (((bs.drop p).take n).map b2i)) := by
        have h := HB2.out.cut (lo := p) (hi := p + n) (c := xc) (by omega) hl hxc
        rw [← List.map_drop, ← List.map_take, Nat.add_sub_cancel_left] at h
        exact h
      have hwp : IntKind.i64.wrap (p : Int) = p := by rw [IntKind.wrap_i64]; omega
      go_quiet ((go_at_call 59; exact quietL (rnumber_any _ _ _ _ _ (HC.out.drewN _) (by omega))))
      go_wp2
      go_ret
      have hnb := num_bd (bs.drop p) n n (Nat.le_refl _)
      exact ⟨_, p + n, 0, rfl, HS2.out.drewN _, HU2.out.drewN _, by omega, hnb.1, hnb.2, Or.inr (Or.inl ⟨rfl, by rw [← HN.out]; exact hl, rfl, rfl, rfl⟩)⟩
    · have d1 : decide ((N : Int) - p < n) = true := by simp; omega
      go_enter Tryd.func28, Tryd.ntmps28
      go_wp2
      go_quiet (fail)
      have HS1 := Lib.hid (HS.out.drewN nq)
      have c4' : (w.drewN nq).cell? ⟨s, 4, none⟩ = some (.int .i64 0) := c4
      have f4' : (w.drewN nq).frozen? ⟨s, 4, none⟩ = false := f4
      have HU1 : Hid (Upd [some s] w (w.drewN nq)) := (Upd.refl _ w).drewN nq
      generalize w.drewN nq = w1 at HS1 c4' f4' HU1 ⊢
      clear c0 c1 c4 f1 f4 HS
      go_wp2
      go_ret
      exact ⟨0, p, 2, rfl, HS1.out.err (by decide), HU1.out.trans (HS1.out.put 4 _), by omega, by omega, HPW.out, Or.inr (Or.inr ⟨rfl, by rw [← HN.out]; omega, rfl, rfl, rfl⟩)⟩
  · have d0 : (err != 0) = true := by simp [he]
    go_enter Tryd.func28, Tryd.ntmps28
    go_wp2
    go_ret
    exact ⟨0, p, err, rfl, HS.out, Upd.refl _ _, Nat.le_refl _, by omega, HPW.out, Or.inl ⟨he, rfl, rfl, rfl⟩⟩

def badE (e : Int) (is : Bool) (x : Int) : Int := if is = true ∧ e = 0 then x else e
def BadPost (w : World) (B s : Nat) (X : Option Addr) (xc : Nat) (bs : List Bool) (p : Nat) (OA : Option Addr) (on oc : Nat) (o : List Int) (most : Nat) (err : Int) (e : Ending) (w' : World) : Prop :=
  e = .returned (.tuple #[]) ∧ RSt w' B s X xc bs p OA on oc o most err ∧ Upd [some s] w w'
set_option maxRecDepth 100000 in
set_option maxHeartbeats 1000000 in
theorem bad_any {w : World} {B s : Nat} {X : Option Addr} {xc : Nat} {bs : List Bool} {p : Nat} {OA : Option Addr} {on oc : Nat} {o : List Int} {most : Nat} {err : Int} (h : RSt w B s X xc bs p OA on oc o most err) (is : Bool) (x : Int) (hx : x ≠ 0) :
    Calls Tryd.prog 60 #[.pointer (some ⟨s, 0, none⟩), .bool is, .int .i64 x] w (BadPost w B s X xc bs p OA on oc o most (badE err is x)) := by
  have HS := Lib.hid h
  have c4 := h.blk.cell 4
  have f4 := h.blk.frozen 4
  simp at c4
  clear h
  by_cases hi : is = true
  · subst hi
    by_cases he : err = 0
    · subst he
      have HE : Hid (badE 0 true x = x) := by show _ = _; unfold badE; rw [if_pos ⟨rfl, rfl⟩]
      go_enter Tryd.func60, Tryd.ntmps60
      go_wp2
      go_end0
      exact ⟨rfl, by rw [HE.out]; exact HS.out.err hx, HS.out.put 4 _⟩
    · have HE : Hid (badE err true x = err) := by show _ = _; unfold badE; rw [if_neg (fun h => he h.2)]
      have d0 : (err == 0) = false := by simp [he]
      go_enter Tryd.func60, Tryd.ntmps60
      go_wp2
      go_end0
      exact ⟨rfl, by rw [HE.out]; exact HS.out, Upd.refl _ _⟩
  · obtain rfl : is = false := Bool.eq_false_iff.mpr hi
    have HE : Hid (badE err false x = err) := by show _ = _; unfold badE; rw [if_neg (fun h => absurd h.1 (by decide))]
    go_enter Tryd.func60, Tryd.ntmps60
    go_wp2
    go_end0
    exact ⟨rfl, by rw [HE.out]; exact HS.out, Upd.refl _ _⟩

set_option maxRecDepth 100000 in
set_option maxHeartbeats 1000000 in
theorem times_any (x : Int) (n : Nat) (hn : n ≤ 1000000) (w : World) : Calls Tryd.prog 33 #[.int .i64 x, .int .i64 n] w (NewInts n (List.replicate n x) w) := by
  go_enter Tryd.func33, Tryd.ntmps33
  go_wp2
  go_loopw [5, 6] (fun v i wr => ∃ k : Nat, k ≤ n ∧ i = .int .i64 k ∧ ∃ A c, v = .slice A k c ∧ Hid (Own wr w.heap.size 3 1 A k c ((List.replicate k x).map (Value.int .i64))) ∧ Hid (Upd [] w wr)) (fun _ i _ => n - (intOf i).toNat)
  case atStart => exact ⟨0, by omega, rfl, none, 0, rfl, Own.nil _ _ _ _, Upd.refl _ _⟩
  case round =>
    obtain ⟨k, hk, rfl, A, c, rfl, HO, HU⟩ := hrel
    by_cases hlt : k < n
    · have hsz := HU.out.size
      go_wp2_with (at_builtin; refine wpList_app rfl rfl el_int rfl (HO.out.alloc _) rfl (Seg.one wr _ _) (by simp [Value.oneCell']) (by simp only [maxLen]; omega) (by omega) (by simp; omega) ?_; intro A' c' w' hown hu hfr; have HO' : Hid (Own w' w.heap.size 3 1 A' (k + 1) c' ((List.replicate (k + 1) x).map (Value.int .i64))) := (by rw [List.replicate_succ', List.map_append]; exact hown); have HU' : Hid (Upd [] w w') := (HU.out.alloc _).then hu (by intro b hb; simp at hb; right; exact (HO.out.base hb.symm).1); clear hown hu hfr)
      go_roundw
      case rel => exact ⟨k + 1, by omega, by go_num, A', c', rfl, HO', HU'⟩
      case measure => simp [intOf]; omega
    · obtain rfl : k = n := by omega
      go_wp2
      go_ret
      exact ⟨A, c, rfl, HO.out, HU.out⟩

theorem pow2_14 (k : Nat) (h : k ≤ 14) : (1 : Int) ≤ 2 ^ k ∧ (2 : Int) ^ k ≤ 16384 := by
  have h1 : ∀ k, k ≤ 14 → (1 : Int) ≤ 2 ^ k ∧ (2 : Int) ^ k ≤ 16384 := by decide
  exact h1 k h
set_option maxRecDepth 100000 in
set_option maxHeartbeats 1000000 in
theorem power_any (n : Nat) (hn : n ≤ 13) (w : World) : Calls Tryd.prog 93 #[.int .i64 n] w fun e w' => e = .returned (.int .i64 (2 ^ n)) ∧ w = w' := by
  go_enter Tryd.func93, Tryd.ntmps93
  go_wp2
  go_loop [3, 4] (fun v i => ∃ k : Nat, k ≤ n ∧ i = .int .i64 k ∧ ∃ P : Int, v = .int .i64 P ∧ Hid (P = 2 ^ k)) (fun _ i => n - (intOf i).toNat)
  case atStart => exact ⟨0, by omega, rfl, 1, rfl, rfl⟩
  case round =>
    obtain ⟨k, hk, rfl, P, rfl, HP⟩ := hrel
    have hb := pow2_14 k (by omega)
    rw [← HP.out] at hb
    by_cases hlt : k < n
    · go_wp2
      go_round
      case rel => exact ⟨k + 1, by omega, by go_num, 2 * P, by go_num, by show _ = _; rw [HP.out, Int.pow_succ, Int.mul_comm]⟩
      case measure => simp [intOf]; omega
    · obtain rfl : k = n := by omega
      go_wp2
      go_ret
      exact ⟨by rw [HP.out]; rfl, rfl⟩

end Go.Proofs.YtolcdlopgbgilaaDoor
