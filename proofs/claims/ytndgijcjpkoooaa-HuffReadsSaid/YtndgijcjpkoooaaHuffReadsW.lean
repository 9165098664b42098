/- The walk of drayagelaw03.HuffReads. -/
import Derived.Test.YtndgijcjpkoooaaHuffAwake
import Derived.Test.YtndgijcjpkoooaaHuffR
import Derived.Test.YtndgijcjpkoooaaLawKit
namespace Go.Proofs.Ytndgijcjpkoooaa
open Go.RowKit Go.Dray

theorem el_act : El Try.prog 30 35 (.agg #[.int .i64 0, .int .i64 0, .int .i64 0, .slice none 0 0]) 4 48 := ⟨Try.underlying30, by kernel_rfl, rfl, by omega⟩

/-- Calls that came in: of each its kind and its number. -/
def InActs (W : World) (L : Option Addr) (n c : Nat) (_ : Unit) : Prop :=
  n ≤ c ∧ (0 < n → L = some ⟨bl L, ofs L, none⟩) ∧ ∀ i, i < n → ∃ k m : Int, W.cell? ⟨bl L, ofs L + i * 4, none⟩ = some (.int .i64 k) ∧ W.cell? ⟨bl L, ofs L + i * 4 + 2, none⟩ = some (.int .i64 m) ∧ (-9223372036854775808 ≤ m ∧ m ≤ 9223372036854775807)

theorem open_acts {H : Type} {enc : TypeId × Value → H} {W : World} {base : Nat} {sp : Nat → Bool} {held : Bool} {A : Option Addr} {n c : Nat} {d : DataW H} {p : List MemPlace}
    (h : DataW.Trod enc Try.prog W base sp held 30 (.slice A n c) d p) : ∃ u, InActs W A n c u := by
  obtain ⟨h1, _, h3, h4⟩ := open_deep Try.underlying30 (C := 4) (by kernel_rfl) (by omega) h
  refine ⟨(), h1, h3, fun i hi => ?_⟩
  obtain ⟨cs, fuel, x, hl, hc, ht⟩ := h4 i hi
  obtain ⟨xs, m, _, _, _, hxl, hf⟩ := DataW.trod_struct Try.underlying35 ht
  match cs, hl with
  | [a, b, e, f], _ =>
    have f0 := hf 0 _ rfl
    have f2 := hf 2 _ rfl
    have e0 : (List.take (Try.prog.cellsOf 3) (List.drop 0 [a, b, e, f])) = [a] := by rw [show Try.prog.cellsOf 3 = 1 from by kernel_rfl]; rfl
    have e2 : (List.take (Try.prog.cellsOf 3) (List.drop 2 [a, b, e, f])) = [e] := by rw [show Try.prog.cellsOf 3 = 1 from by kernel_rfl]; rfl
    have hx4 : xs.length = 4 := hxl
    rw [List.getElem?_eq_getElem (by omega)] at f0 f2
    obtain ⟨k0, hk0, _, _⟩ := DataW.trod_int Try.underlying3 (f0 : DataW.trod enc Try.prog W base sp held m 3 _ = _)
    obtain ⟨k2, hk2, _, wf2⟩ := DataW.trod_int Try.underlying3 (f2 : DataW.trod enc Try.prog W base sp held m 3 _ = _)
    have g0 : [a] = [.int .i64 k0] := e0.symm.trans hk0
    have g2 : [e] = [.int .i64 k2] := e2.symm.trans hk2
    injection g0 with g0
    injection g2 with g2
    subst g0 g2
    refine ⟨k0, k2, ?_, ?_, ?_⟩
    · have := hc 0 (by omega); simpa using this
    · have := hc 2 (by omega); simpa [Nat.add_assoc] using this
    · exact bounds_i64 wf2


set_option maxRecDepth 100000 in
set_option maxHeartbeats 1000000 in
theorem huffReads_walk (A : Option Addr) (n c : Nat) (zs : List Int) (L : Option Addr) (nl cl : Nat) (u : Unit) (w : World) (hin : InInts .u8 w A n c zs) (hacts : InActs w L nl cl u) :
    Calls Try.prog 4 #[.slice A n c, .slice L nl cl] w fun e w' => e = .returned (.bool true) ∧ Below w.heap.size w w' := by
  obtain ⟨hs, hnc, -, hwf⟩ := hin
  obtain ⟨-, hLat, hLc⟩ := hacts
  have HLC := Lib.hid hLc
  have HLA := Lib.hid hLat
  have HZ : Hid (∀ z ∈ zs, 0 ≤ z ∧ z ≤ 255) := fun z hz => bounds_u8 (hwf z hz)
  have HL := hs.len
  clear hwf hLc hLat
  by_cases hbig : 200 < n
  · have d1 : decide (200 < n) = true := by simpa using hbig
    go_enter Try.func4, Try.ntmps4
    go_wp2_with (go_at_call 8; refine (awake_any _).mono ?_; rintro e w1 ⟨rfl, hu1⟩)
    go_ret
    exact ⟨rfl, hu1.below (Nat.le_refl _) (by simp)⟩
  · have hn : n ≤ 200 := by omega
    have d1 : decide ((200 : Int) < n) = false := by simp; omega
    by_cases hbig2 : 60 < nl
    · have d2 : decide ((60 : Int) < nl) = true := by simp; omega
      go_enter Try.func4, Try.ntmps4
      go_wp2_with (go_at_call 8; refine (awake_any _).mono ?_; rintro e w1 ⟨rfl, hu1⟩)
      go_ret
      exact ⟨rfl, hu1.below (Nat.le_refl _) (by simp)⟩
    · have hnl : nl ≤ 60 := by omega
      have d2 : decide ((60 : Int) < nl) = false := by simp; omega
      clear hbig hbig2
      go_enter Try.func4, Try.ntmps4
      go_wp2_with (go_at_call 8; refine (awake_any _).mono ?_; rintro e w1 ⟨rfl, hu1⟩)
      have hs1 : Ints .u8 w1 A n zs := hs.upd hu1 (by simp)
      refine (newReader_any A n c zs w1 hs1 (by omega)).mono ?_
      rintro e w2 ⟨g, RA, rc, rfl, hg, hr2, hv⟩
      have hu2 := hu1.then hv (by simp)
      have hs2 : Ints .u8 w2 A n zs := hs1.upd hv (by simp)
      have hgw : w.heap.size ≤ g := by have := hu1.size; omega
      have hw1 : w.heap.size ≤ w1.heap.size := hu1.size
      clear hv hs1 hu1 hg
      go_wp2_with fail
      refine (rbits_any A n c zs w2 hs2 HZ.out (by omega)).mono ?_
      rintro e w3 ⟨X, xc, rfl, hx3, hv⟩
      have hu3 := hu2.then hv (by simp)
      have hr3 : Rd w3 w.heap.size g RA n rc zs 0 := ⟨hr2.1.upd hv (by simp), (hr2.2.upd hv (by simp)).monoB hw1⟩
      have hx3' := hx3.monoB hu2.size
      clear hv hs2 hu2 hr2 hx3 hw1
      go_wp2_with fail
      go_loopw [7, 8] (fun q i wr => ∃ k : Nat, k ≤ nl ∧ i = .int .i64 k ∧ ∃ p : Nat, p ≤ 8 * n ∧ q = .int .i64 p ∧ Rd wr w.heap.size g RA n rc zs p ∧ Own wr w.heap.size 3 1 X (8 * n) xc (((bitsOf zs).map b2i).map (Value.int .i64)) ∧ Upd [] w wr) (fun _ i _ => nl - (intOf i).toNat)
      case atStart => exact ⟨0, by omega, rfl, 0, by omega, rfl, hr3, hx3', hu3⟩
      case round =>
        obtain ⟨k, hk, rfl, p, hp, rfl, hr, hx, hu⟩ := hrel
        clear hr3 hx3' hu3
        by_cases hlt : k < nl
        · obtain ⟨kd, m, lc0, lc2, hmb⟩ := HLC.out k hlt
          replace lc0 := hu.cell lc0 (by simp)
          replace lc2 := hu.cell lc2 (by simp)
          have lix := run_index el_act HLA.out cl .i64 k hlt
          have hne : ob X ≠ some g := hx.neBlk hr.1 (by decide)
          have HU : Hid (∀ w', Upd [some g] wr w' → Own w' w.heap.size 3 1 X (8 * n) xc (((bitsOf zs).map b2i).map (Value.int .i64)) ∧ Upd [] w w') := fun w' hv =>
            ⟨hx.upd hv (fun b hb => by simp; intro h; rw [h] at hb; exact hne hb), hu.then hv (fun b hb => by simp at hb; right; omega)⟩
          have HX := Lib.hid hx
          have hs0 := hs
          have HR := Lib.hid hr
          have hU := Lib.hid hu
          clear hx hr hu
          by_cases c1 : kd = 1
          · have k1 : (kd == 1) = true := by simp [c1]
            clear c1
            by_cases m0 : m < 0
            · have g0 : decide (0 ≤ m) = false := by simp; omega
              go_wp2_with fail
              refine (take_no m HR.out hp (by omega) (Or.inl m0)).mono ?_
              rintro e w4 ⟨rfl, hr4, hv⟩
              obtain ⟨hx4, hu4⟩ := HU.out w4 hv
              clear hv
              go_wp2_with (go_at_call 20; refine (at_any hr4).mono ?_; rintro e w9 ⟨rfl, rfl⟩)
              go_roundw
              case rel => exact ⟨k + 1, by omega, by go_num, p, by omega, rfl, hr4, hx4, hu4⟩
              case measure => simp [intOf]; omega
            · have g0 : decide (0 ≤ m) = true := by simp; omega
              by_cases m1 : 24 < m
              · have g1 : decide (m ≤ 24) = false := by simp; omega
                go_wp2_with fail
                refine (take_no m HR.out hp (by omega) (Or.inr (Or.inl m1))).mono ?_
                rintro e w4 ⟨rfl, hr4, hv⟩
                obtain ⟨hx4, hu4⟩ := HU.out w4 hv
                clear hv
                go_wp2_with (go_at_call 20; refine (at_any hr4).mono ?_; rintro e w9 ⟨rfl, rfl⟩)
                go_roundw
                case rel => exact ⟨k + 1, by omega, by go_num, p, by omega, rfl, hr4, hx4, hu4⟩
                case measure => simp [intOf]; omega
              · have g1 : decide (m ≤ 24) = true := by simp; omega
                by_cases m2 : (8 : Int) * n - p < m
                · have g2 : decide (m ≤ (8 : Int) * n - p) = false := by simp; omega
                  go_wp2_with fail
                  refine (take_no m HR.out hp (by omega) (Or.inr (Or.inr m2))).mono ?_
                  rintro e w4 ⟨rfl, hr4, hv⟩
                  obtain ⟨hx4, hu4⟩ := HU.out w4 hv
                  clear hv
                  go_wp2_with (go_at_call 20; refine (at_any hr4).mono ?_; rintro e w9 ⟨rfl, rfl⟩)
                  go_roundw
                  case rel => exact ⟨k + 1, by omega, by go_num, p, by omega, rfl, hr4, hx4, hu4⟩
                  case measure => simp [intOf]; omega
                · obtain ⟨q, rfl⟩ := Int.eq_ofNat_of_zero_le (show 0 ≤ m by omega)
                  have g2 : decide ((q : Int) ≤ (8 : Int) * n - p) = true := by simp; omega
                  go_wp2_with fail
                  refine (take_ok q HR.out (by omega) (by omega) (by omega) HZ.out).mono ?_
                  rintro e w4 ⟨rfl, hr4, hv⟩
                  obtain ⟨hx4, hu4⟩ := HU.out w4 hv
                  clear hv
                  have hcut := run_cut_lh el_int X (8 * n) xc .i64 .i64 (p : Int) ((p : Int) + q) p (p + q) rfl (by omega) (by omega) (by have := hx4.le; omega)
                  have hct := (Ints.ofOwn hx4).cut (lo := p) (hi := p + q) (c := xc) (by omega) (by omega) hx4.le
                  rw [Nat.add_sub_cancel_left] at hcut hct
                  rw [← List.map_drop, ← List.map_take] at hct
                  go_wp2_with fail
                  refine (rnumber_any _ _ _ _ _ hct (by omega)).mono ?_
                  rintro e w5 ⟨rfl, rfl⟩
                  go_wp2_with (go_at_call 20; refine (at_any hr4).mono ?_; rintro e w9 ⟨rfl, rfl⟩)
                  go_roundw
                  case rel => exact ⟨k + 1, by omega, by go_num, p + q, by omega, by go_num, hr4, hx4, hu4⟩
                  case measure => simp [intOf]; omega
          · have k1 : (kd == 1) = false := by simp [c1]
            clear c1
            obtain ⟨fq, hfq⟩ : ∃ fq : Nat, fq = alignUp p / 8 := ⟨_, rfl⟩
            have HAL : Hid (alignUp p = 8 * fq) := by show alignUp p = 8 * fq; rw [hfq]; unfold alignUp; omega
            have hfn : fq ≤ n := by rw [hfq]; unfold alignUp; omega
            have hal2 : ((p : Int) + 7) / 8 = fq := by rw [hfq]; unfold alignUp; omega
            have HF := Lib.hid hfq
            clear hfq
            by_cases c2 : kd = 2
            · have k2 : (kd == 2) = true := by simp [c2]
              clear c2
              go_wp2_with fail
              refine (align_any HR.out (by omega)).mono ?_
              rintro e w4 ⟨rfl, hr4, hv⟩
              rw [HAL.out] at hr4
              obtain ⟨hx4, hu4⟩ := HU.out w4 hv
              clear hv
              go_wp2_with (go_at_call 20; refine (at_any hr4).mono ?_; rintro e w9 ⟨rfl, rfl⟩)
              go_roundw
              case rel => exact ⟨k + 1, by omega, by go_num, 8 * fq, by omega, by go_num, hr4, hx4, hu4⟩
              case measure => simp [intOf]; omega
            · have k2 : (kd == 2) = false := by simp [c2]
              clear c2
              by_cases c3 : kd = 3
              · have k3 : (kd == 3) = true := by simp [c3]
                clear c3
                by_cases m0 : m < 0
                · have g0 : decide (0 ≤ m) = false := by simp; omega
                  go_wp2_with fail
                  refine (rbytes_no m HR.out hp (by omega) (Or.inl m0)).mono ?_
                  rintro e w4 ⟨rfl, hr4, hv⟩
                  obtain ⟨hx4, hu4⟩ := HU.out w4 hv
                  rw [HAL.out] at hr4
                  clear hv
                  go_wp2
                  go_quiet (fail)
                  obtain ⟨w6, hw6⟩ : ∃ w6 : World, w6 = w4.drewN nq := ⟨_, rfl⟩
                  rw [← hw6]
                  have hr6 : Rd w6 w.heap.size g RA n rc zs (8 * fq) := by rw [hw6]; exact hr4
                  have hx6 : Own w6 w.heap.size 3 1 X (8 * n) xc (((bitsOf zs).map b2i).map (Value.int .i64)) := by rw [hw6]; exact hx4
                  have hu6 : Upd [] w w6 := by rw [hw6]; exact hu4.drewN _
                  clear hw6 hr4 hx4 hu4
                  go_wp2_with (go_at_call 20; refine (at_any hr6).mono ?_; rintro e w9 ⟨rfl, rfl⟩)
                  go_roundw
                  case rel => exact ⟨k + 1, by omega, by go_num, 8 * fq, by omega, by go_num, hr6, hx6, hu6⟩
                  case measure => simp [intOf]; omega
                · have g0 : decide (0 ≤ m) = true := by simp; omega
                  by_cases m2 : (n : Int) - fq < m
                  · have g2 : decide (m ≤ (n : Int) - fq) = false := by simp; omega
                    go_wp2_with fail
                    refine (rbytes_no m HR.out hp (by omega) (Or.inr (by rw [← HF.out]; exact m2))).mono ?_
                    rintro e w4 ⟨rfl, hr4, hv⟩
                    obtain ⟨hx4, hu4⟩ := HU.out w4 hv
                    rw [HAL.out] at hr4
                    clear hv
                    go_wp2
                    go_quiet (fail)
                    obtain ⟨w6, hw6⟩ : ∃ w6 : World, w6 = w4.drewN nq := ⟨_, rfl⟩
                    rw [← hw6]
                    have hr6 : Rd w6 w.heap.size g RA n rc zs (8 * fq) := by rw [hw6]; exact hr4
                    have hx6 : Own w6 w.heap.size 3 1 X (8 * n) xc (((bitsOf zs).map b2i).map (Value.int .i64)) := by rw [hw6]; exact hx4
                    have hu6 : Upd [] w w6 := by rw [hw6]; exact hu4.drewN _
                    clear hw6 hr4 hx4 hu4
                    go_wp2_with (go_at_call 20; refine (at_any hr6).mono ?_; rintro e w9 ⟨rfl, rfl⟩)
                    go_roundw
                    case rel => exact ⟨k + 1, by omega, by go_num, 8 * fq, by omega, by go_num, hr6, hx6, hu6⟩
                    case measure => simp [intOf]; omega
                  · obtain ⟨q, rfl⟩ := Int.eq_ofNat_of_zero_le (show 0 ≤ m by omega)
                    have g2 : decide ((q : Int) ≤ (n : Int) - fq) = true := by simp; omega
                    go_wp2_with fail
                    refine (rbytes_ok q HR.out hp (by omega) fq HAL.out (by omega)).mono ?_
                    rintro e w4 ⟨D, dc, rfl, hd4, hr4, hv⟩
                    obtain ⟨hx4, hu4⟩ := HU.out w4 hv
                    have hs4 : Ints .u8 w4 A n zs := hs0.upd hu4 (by simp)
                    have hcut := run_cut_lh el_byte A n c .i64 .i64 (fq : Int) ((fq : Int) + q) fq (fq + q) rfl (by omega) (by omega) (by omega)
                    have hct := hs4.cut (lo := fq) (hi := fq + q) (c := c) (by omega) (by omega) hnc
                    rw [Nat.add_sub_cancel_left] at hcut hct
                    have hcv1 := fun nq => ((Ints.ofOwn hd4).drewN nq).str Try.underlying29 Try.underlying5 Try.underlying9 dc
                    have hcv2 := fun nq => (hct.drewN nq).str Try.underlying29 Try.underlying5 Try.underlying9 (c - fq)
                    clear hv
                    go_wp2
                    have x1 : IntKind.i64.wrap (((fq : Int) * 8).tdiv 8) = (fq : Int) := by rw [Int.mul_tdiv_cancel _ (by decide)]; exact IntWalk.i64_in _ (by omega)
                    have x2 : IntKind.i64.wrap ((fq : Int) + q) = (fq : Int) + q := IntWalk.i64_in _ (by omega)
                    go_quiet (fail)
                    clear x1 x2 hcv1 hcv2 hcut
                    obtain ⟨w6, hw6⟩ : ∃ w6 : World, w6 = w4.drewN nq := ⟨_, rfl⟩
                    rw [← hw6]
                    have hr6 : Rd w6 w.heap.size g RA n rc zs (8 * (fq + q)) := by rw [hw6]; exact hr4
                    have hx6 : Own w6 w.heap.size 3 1 X (8 * n) xc (((bitsOf zs).map b2i).map (Value.int .i64)) := by rw [hw6]; exact hx4
                    have hu6 : Upd [] w w6 := by rw [hw6]; exact hu4.drewN _
                    clear hw6 hr4 hx4 hu4 hd4 hct hs4
                    go_wp2_with (go_at_call 20; refine (at_any hr6).mono ?_; rintro e w9 ⟨rfl, rfl⟩)
                    go_roundw
                    case rel => exact ⟨k + 1, by omega, by go_num, 8 * (fq + q), by omega, by go_num, hr6, hx6, hu6⟩
                    case measure => simp [intOf]; omega
              · have k3 : (kd == 3) = false := by simp [c3]
                clear c3
                go_wp2_with (go_at_call 20; refine (at_any HR.out).mono ?_; rintro e w9 ⟨rfl, rfl⟩)
                go_roundw
                case rel => exact ⟨k + 1, by omega, by go_num, p, by omega, rfl, HR.out, HX.out, hU.out⟩
                case measure => simp [intOf]; omega
        · obtain rfl : k = nl := by omega
          go_wp2
          go_ret
          exact ⟨rfl, hu.below (Nat.le_refl _) (by simp)⟩

end Go.Proofs.Ytndgijcjpkoooaa
