/- The walk of inflate.Inflate. -/
import Derived.Test.YtolcdlopgbgilaaDoorInfI
namespace Go.Proofs.YtolcdlopgbgilaaDoor
open Go.RowKit Go.Dray

/-- The variable order, as the program's text lays it. -/
def OrdI (w : World) : Prop := ∀ i, i < 19 → w.cell? ⟨1, i, none⟩ = some (.int .i64 (orderL.getD i 0 : Nat))
theorem OrdI.low {w : World} (h : OrdI w) : 1 < w.heap.size := cell_lt (h 0 (by omega))
theorem OrdI.upd {w w' : World} (h : OrdI w) (hu : Upd [] w w') : OrdI w' := fun i hi => hu.cell (h i hi) (by simp)

/-- What Inflate hands back. -/
def InflPost (w : World) (ys : List Int) (n : Nat) (most : Int) (F : Nat) (e : Ending) (w' : World) : Prop :=
  Upd [] w w' ∧ ((¬ (0 ≤ most ∧ most ≤ 16777216) ∧ e = .returned (.tuple #[.slice none 0 0, .int .i64 0, .int .i64 1])) ∨
    (0 ≤ most ∧ most ≤ 16777216 ∧ ∃ x, x ≠ 0 ∧ run (bitsOf ys) most.toNat (infPr F F) 0 [] = .err x ∧ e = .returned (.tuple #[.slice none 0 0, .int .i64 0, .int .i64 x])) ∨
    (0 ≤ most ∧ most ≤ 16777216 ∧ ∃ out p A on oc, run (bitsOf ys) most.toNat (infPr F F) 0 [] = .ok out p ∧ e = .returned (.tuple #[.slice A on oc, .int .i64 ((p + 7) / 8 : Nat), .int .i64 0]) ∧
      Ints .u8 w' A on out ∧ on ≤ oc ∧ oc ≤ maxLen ∧ (∀ z ∈ out, 0 ≤ z ∧ z ≤ 255) ∧ (∀ x, ob A = some x → w.heap.size ≤ x) ∧ p ≤ 8 * n ∧ on ≤ most.toNat))

set_option maxRecDepth 100000 in
set_option maxHeartbeats 4000000 in
theorem inflate_any (A : Option Addr) (n c : Nat) (ys : List Int) (most : Int) (w : World) (hs : Ints .u8 w A n ys) (hb : ∀ z ∈ ys, 0 ≤ z ∧ z ≤ 255) (ho : OrdI w) (hn : n ≤ 1000000000000) (F : Nat) (hF : 8 * n < F) :
    Calls Tryd.prog 12 #[.slice A n c, .int .i64 most] w (InflPost w ys n most F) := by
  have HS := Lib.hid hs
  have HB := Lib.hid hb
  have HO := Lib.hid ho
  clear hs hb ho
  by_cases hneg : most < 0
  · go_enter Tryd.func12, Tryd.ntmps12
    go_wp2
    go_ret3
    exact ⟨Upd.refl _ _, Or.inl ⟨by omega, rfl⟩⟩
  · by_cases hbig : 16777216 < most
    · go_enter Tryd.func12, Tryd.ntmps12
      go_wp2
      go_ret3
      exact ⟨Upd.refl _ _, Or.inl ⟨by omega, rfl⟩⟩
    · obtain ⟨M, rfl⟩ := Int.eq_ofNat_of_zero_le (show 0 ≤ most by omega)
      have hM : M ≤ 16777216 := by omega
      have d1 : decide ((M : Int) < 0) = false := by simp
      have d2 : decide ((16777216 : Int) < M) = false := by simp; omega
      clear hneg hbig
      go_enter Tryd.func12, Tryd.ntmps12
      go_wp2_with fail
      refine (newReader_any A n c ys w HS.out (by omega)).mono ?_
      rintro e w1 ⟨g, RA, rc, rfl, hg, hr1, hv1⟩
      have HG := Lib.hid hg
      obtain ⟨u, hu⟩ : ∃ u, u = w1.heap.size := ⟨_, rfl⟩
      obtain ⟨w2, hw2⟩ : ∃ w2 : World, w2 = w1.alloc (.cells #[.pointer (some ⟨g, 0, none⟩), .slice none 0 0, .int .i64 M] 55) := ⟨_, rfl⟩
      have hb2 : Blk w2 u 55 #[.pointer (some ⟨g, 0, none⟩), .slice none 0 0, .int .i64 M] := by rw [hw2, hu]; exact Blk.new _ _ _
      have hv2 : Upd [] w1 w2 := by rw [hw2]; exact (Upd.refl _ _).alloc _
      have HUB : Hid (w.heap.size ≤ u) := by rw [hu]; exact hv1.size
      have HU2 : Hid (USt w2 w.heap.size u g RA n rc ys M 0 none 0 0 []) := ⟨hb2, hr1.upd hv2 (by simp) (by simp), Own.nil _ _ _ _, fun x hx => (by cases hx), Nat.zero_le _, Nat.zero_le _, HB.out, hn, hM, by simp, (hv1.trans hv2).size⟩
      have HV2 : Hid (Upd [] w w2) := hv1.trans hv2
      have HO2 : Hid (OSt w2 w.heap.size u g) := ⟨HO.out.upd HV2.out, HO.out.low, HUB.out, hg⟩
      clear hb2 hv2 hr1 hv1 hg
      go_wp2
      rw [← hw2, ← hu]
      clear hw2 hu
      go_loopw [8] (fun v wr => ∃ (last : Int) (q : Nat) (OA : Option Addr) (on oc : Nat) (o : List Int), v = .int .i64 last ∧ (last = 0 ∨ last = 1) ∧ q ≤ 8 * n ∧ Hid (USt wr w.heap.size u g RA n rc ys M q OA on oc o) ∧ Hid (Upd [] w wr ∧ OSt wr w.heap.size u g) ∧ Hid (if last = 0 then ∃ f, 8 * n - q < f ∧ run (bitsOf ys) M (infPr F F) 0 [] = run (bitsOf ys) M (infPr F f) q o else run (bitsOf ys) M (infPr F F) 0 [] = .ok o q))
        (fun v wr => if intOf v = 0 then 8 * n + 1 - (intOf ((wr.cell? ⟨g, 1, none⟩).getD undef)).toNat else 0)
      case atStart => exact ⟨0, 0, none, 0, 0, [], rfl, Or.inl rfl, by omega, HU2, ⟨HV2.out, HO2.out⟩, by show ite _ _ _; rw [if_pos rfl]; exact ⟨F, by omega, rfl⟩⟩
      case round =>
        clear HU2 HV2 HO2
        obtain ⟨last, q, OA, on, oc, o, rfl, hl, hq, HU, HX, HR⟩ := hrel
        have hmeas := HU.out.rd.1.cell 1
        simp at hmeas
        have hc0 := HU.out.blk.cell 0
        have hc1 := HU.out.blk.cell 1
        simp at hc0 hc1
        rcases hl with rfl | rfl
        · have hR := HR.out
          rw [if_pos rfl] at hR
          obtain ⟨f, hf, hrun⟩ := hR
          obtain ⟨f', rfl⟩ : ∃ f', f = f' + 1 := ⟨f - 1, by omega⟩
          have HRUN := Lib.hid hrun
          clear hrun HR
          go_wp2_with fail
          refine (take_any HU.out 1 (by omega)).mono ?_
          rintro e w3 (⟨hl3, rfl, hr3, hv3⟩ | ⟨hl3, rfl, hr3, hv3⟩)
          · have hnb := num_bd ((bitsOf ys).drop q) 1 1 (Nat.le_refl _)
            obtain ⟨v, hv⟩ : ∃ v, v = num (((bitsOf ys).drop q).take 1) := ⟨_, rfl⟩
            rw [← hv] at hnb ⊢
            have hv01 : v = 0 ∨ v = 1 := by have := hnb.1; have := hnb.2; omega
            have HS3 : Hid (run (bitsOf ys) M (infPr F F) 0 [] = run (bitsOf ys) M (blockPr F (if v = 0 then infPr F f' else .done)) (q + 1) o) := by
              show _ = _
              rw [HRUN.out, infPr, run_take_ok (by rw [HU.out.bits]; exact hl3), ← hv]
            have HU3 := Lib.hid (HU.out.read hr3 hv3 hl3)
            have HV3 : Hid (Upd [] w w3) := HX.out.1.then hv3 (by intro b hb; simp at hb; rw [hb]; exact Or.inr HG.out)
            have HO3 := Lib.hid (HX.out.2.upd hv3 (by intro b hb; simp at hb; rw [hb]; exact HG.out))
            clear hr3 hv3 hv hnb HRUN HX hc0 hc1
            go_wp2_with fail
            refine (block_any HU3.out HO3.out F (by omega)).mono ?_
            rintro e w4 ⟨err, p4, OA4, on4, oc4, o4, rfl, hu4, hv4, hf4, hres⟩
            have hL : ∀ b, some b ∈ [some u, some g, ob OA] → w.heap.size ≤ b := by
              intro b hb
              simp at hb
              rcases hb with rfl | rfl | hb
              · exact HUB.out
              · exact HG.out
              · exact (HU3.out.own.base hb.symm).1
            have HV4 : Hid (Upd [] w w4) := HV3.out.then hv4 (fun b hb => Or.inr (hL b hb))
            have HO4 := Lib.hid (HO3.out.upd hv4 hL)
            have HU4 := Lib.hid hu4
            clear hv4 hL hu4
            rcases hres with ⟨he, hrun⟩ | ⟨rfl, hp4, hrun⟩
            · have hde : (err != 0) = true := by simp [he]
              go_wp2
              go_ret3
              exact ⟨HV4.out, Or.inr (Or.inl ⟨by omega, by omega, err, he, by rw [Int.toNat_natCast, HS3.out, hrun], rfl⟩)⟩
            · have HS4 : Hid (run (bitsOf ys) M (infPr F F) 0 [] = run (bitsOf ys) M (if v = 0 then infPr F f' else .done) p4 o4) := by show _ = _; rw [HS3.out, hrun]
              have hm4 := HU4.out.rd.1.cell 1
              simp at hm4
              have hp48 := HU4.out.pos
              clear hrun HS3
              go_wp2
              go_roundw
              case rel =>
                refine ⟨v, p4, OA4, on4, oc4, o4, rfl, hv01, hp48, HU4, ⟨HV4.out, HO4.out⟩, ?_⟩
                show ite _ _ _
                by_cases hv0 : v = 0
                · rw [if_pos hv0]
                  refine ⟨f', by omega, ?_⟩
                  rw [HS4.out, if_pos hv0]
                · rw [if_neg hv0, HS4.out, if_neg hv0, run]
              case measure => simp [intOf, hmeas, hm4]; split <;> omega
          · go_wp2
            go_ret3
            exact ⟨HX.out.1.then hv3 (by intro b hb; simp at hb; rw [hb]; exact Or.inr HG.out), Or.inr (Or.inl ⟨by omega, by omega, 2, by decide, by rw [Int.toNat_natCast, HRUN.out, infPr, run_take_no (by rw [HU.out.bits]; exact hl3)], rfl⟩)⟩
        · have hR := HR.out
          rw [if_neg (by decide)] at hR
          have HRUN := Lib.hid hR
          clear hR HR
          have cut := run_cut_hm el_byte OA on oc .i64 .i64 (on : Int) (on : Int) on on rfl rfl (Nat.le_refl _) HU.out.own.le
          have hrb := HU.out.rb
          have HRD := Lib.hid HU.out.rd
          go_wp2
          go_quiet ((go_at_call 26; exact quietL (at_any (HRD.out.drewN _))))
          go_wp2
          go_ret3
          refine ⟨HX.out.1.drewN _, Or.inr (Or.inr ⟨by omega, by omega, o, q, OA, on, on, by rw [Int.toNat_natCast]; exact HRUN.out, ?_, (Ints.ofOwn HU.out.own).drewN _, Nat.le_refl _, by have := HU.out.room; simp only [maxLen]; omega, HU.out.obd, fun x hx => (HU.out.own.base hx).1, hq, by rw [Int.toNat_natCast]; exact HU.out.room⟩)⟩
          rw [show (((q + 7) / 8 : Nat) : Int) = ((q : Int) + 7) / 8 from by omega]
          rfl

end Go.Proofs.YtolcdlopgbgilaaDoor
