/- Merged by wip/tools/merge.py: RiG RiH. -/
import Derived.IntWalk
import Derived.Test.YtolcdlopgbgilaaGreatDoorMz08
import Derived.Test.YtolcdlopgbgilaaGreatDoorMz15
import Derived.Test.YtolcdlopgbgilaaGreatDoorMz16

/-! Text RiG. -/
namespace Go.Proofs.YtolcdlopgbgilaaGreatDoor
open Go.RowKit Go.Dray

def FixR (w : World) (e : Ending) (w' : World) : Prop := ∃ A c C d, e = .returned (.agg #[.slice A 288 c, .slice C 288 d]) ∧ Cd w' fixedL A c C d ∧ Upd [] w w'

set_option maxRecDepth 100000 in
set_option maxHeartbeats 2000000 in
theorem rfixed_any (w : World) : Calls Tryz.prog 47 #[] w (FixR w) := by
  obtain ⟨w0, hw0⟩ : ∃ w0 : World, w0 = w.alloc (.cells #[.slice none 0 0, .slice none 0 0] 93) := ⟨_, rfl⟩
  obtain ⟨g, hg⟩ : ∃ g, g = w.heap.size := ⟨_, rfl⟩
  have hb0 : Blk w0 g 93 #[.slice none 0 0, .slice none 0 0] := by rw [hw0, hg]; exact Blk.new _ _ _
  have hu0 : Upd [] w w0 := by rw [hw0]; exact (Upd.refl _ _).alloc _
  have hgw : w.heap.size ≤ g := by omega
  have HGW := Lib.hid hgw
  go_enter Tryz.func47, Tryz.ntmps47
  go_wp2_with fail
  rw [← hw0, ← hg]
  clear hw0 hg
  refine (times_any 8 144 (by omega) w0).mono ?_
  rintro e w1 ⟨R1, c1, rfl, h1, v1⟩
  have hu1 : Upd [] w w1 := hu0.trans v1
  have hb1 := hb0.upd v1 (by simp)
  have hB1 := h1.monoB (B' := w.heap.size) hu0.size
  clear hb0 hu0 v1 h1
  go_wp2_with fail
  refine (times_any 9 112 (by omega) w1).mono ?_
  rintro e w2 ⟨R2, c2, rfl, h2, v2⟩
  have hu2 : Upd [] w w2 := hu1.trans v2
  have hb2 := hb1.upd v2 (by simp)
  have hi2 : Ints .i64 w2 R2 112 (List.replicate 112 9) := Ints.ofOwn h2
  have hB2 := hB1.upd v2 (by simp)
  clear hb1 hu1 v2 h2 hB1
  go_wp2_with (at_builtin; refine wpList_app rfl rfl el_int rfl hB2 rfl hi2 (ints_one _ _) (by simp only [maxLen]; omega) (by omega) hu2.size ?_; intro X3 x3 w3 o3 u3 f3)
  have hu3 : Upd [] w w3 := hu2.then u3 (by intro b hb; simp at hb; right; exact (hB2.base hb.symm).1)
  have hb3 := hb2.upd u3 (by simp; exact fun e => hB2.neBlk hb2 (by decide) e.symm)
  rw [← List.map_append] at o3
  clear hu2 hb2 hi2 hB2 u3 f3
  refine (times_any 7 24 (by omega) w3).mono ?_
  rintro e w4 ⟨R4, c4, rfl, h4, v4⟩
  have hu4 : Upd [] w w4 := hu3.trans v4
  have hb4 := hb3.upd v4 (by simp)
  have hi4 : Ints .i64 w4 R4 24 (List.replicate 24 7) := Ints.ofOwn h4
  have hB4 := o3.upd v4 (by simp)
  clear hb3 hu3 v4 h4 o3
  go_wp2_with (at_builtin; refine wpList_app rfl rfl el_int rfl hB4 rfl hi4 (ints_one _ _) (by simp only [maxLen]; omega) (by omega) hu4.size ?_; intro X5 x5 w5 o5 u5 f5)
  have hu5 : Upd [] w w5 := hu4.then u5 (by intro b hb; simp at hb; right; exact (hB4.base hb.symm).1)
  have hb5 := hb4.upd u5 (by simp; exact fun e => hB4.neBlk hb4 (by decide) e.symm)
  rw [← List.map_append] at o5
  clear hu4 hb4 hi4 hB4 u5 f5
  refine (times_any 8 8 (by omega) w5).mono ?_
  rintro e w6 ⟨R6, c6, rfl, h6, v6⟩
  have hu6 : Upd [] w w6 := hu5.trans v6
  have hb6 := hb5.upd v6 (by simp)
  have hi6 : Ints .i64 w6 R6 8 (List.replicate 8 8) := Ints.ofOwn h6
  have hB6 := o5.upd v6 (by simp)
  clear hb5 hu5 v6 h6 o5
  go_wp2_with (at_builtin; refine wpList_app rfl rfl el_int rfl hB6 rfl hi6 (ints_one _ _) (by simp only [maxLen]; omega) (by omega) hu6.size ?_; intro X7 x7 w7 o7 u7 f7)
  have hu7 : Upd [] w w7 := hu6.then u7 (by intro b hb; simp at hb; right; exact (hB6.base hb.symm).1)
  have hb7 := hb6.upd u7 (by simp; exact fun e => hB6.neBlk hb6 (by decide) e.symm)
  rw [← List.map_append] at o7
  have eL : List.replicate 144 (8 : Int) ++ List.replicate 112 9 ++ List.replicate 24 7 ++ List.replicate 8 8 = fixedL := rfl
  rw [eL] at o7
  clear hu6 hb6 hi6 hB6 u7 f7 eL
  refine (made_any X7 288 x7 fixedL w7 (Ints.ofOwn o7) fixedL_chk (fun hp => Own.tblk o7 hp)).mono ?_
  rintro e w8 ⟨C, d, rfl, hcd, hCf, v8⟩
  have HU8 : Hid (Upd [] w w8) := hu7.trans v8
  have HB8 := Lib.hid (hb7.upd v8 (by simp))
  have HCD := Lib.hid hcd
  clear hu7 hb7 o7 hcd hCf v8
  have hf0 := HB8.out.frozen 0
  have hf1 := HB8.out.frozen 1
  have hc0 := HB8.out.cell 0
  have hc1 := HB8.out.cell 1
  simp at hc0 hc1
  go_wp2
  obtain ⟨w9, hw9⟩ : ∃ w9 : World, w9 = (w8.setCell ⟨g, 0, none⟩ (.slice X7 288 x7)).setCell ⟨g, 1, none⟩ (.slice C 288 d) := ⟨_, rfl⟩
  rw [← hw9]
  have hb9 : Blk w9 g 93 #[.slice X7 288 x7, .slice C 288 d] := by rw [hw9]; exact (HB8.out.set 0 _).set 1 _
  have hu9 : Upd [] w w9 := by rw [hw9]; exact (HU8.out.put HGW.out _).put HGW.out _
  have hug : Upd [some g] w8 w9 := by rw [hw9]; exact ((Upd.refl _ w8).putIn (by simp) _).putIn (by simp) _
  have q0 := hb9.cell 0
  have q1 := hb9.cell 1
  simp at q0 q1
  refine bodyPost_ret (v := .agg #[.slice X7 288 x7, .slice C 288 d]) (by simp [results, Tryz.results47, go_sem, q0, q1]) rfl ?_
  refine ⟨X7, x7, C, d, rfl, HCD.out.upd hug (fun hp => ?_) (fun hp => ?_), hu9⟩
  · obtain ⟨cs, hb⟩ := HCD.out.tl hp; simp; exact hb.ne HB8.out (by decide)
  · obtain ⟨cs, hb⟩ := HCD.out.tr hp; simp; exact hb.ne HB8.out (by decide)

end Go.Proofs.YtolcdlopgbgilaaGreatDoor

/-! Text RiH. -/
namespace Go.Proofs.YtolcdlopgbgilaaGreatDoor
open Go.RowKit Go.Dray

/-- What the reference's Inflate hands back. -/
def RInflPost (w : World) (ys : List Int) (most : Int) (F : Nat) (e : Ending) (w' : World) : Prop :=
  ∃ (OA : Option Addr) (on oc : Nat) (used err : Int), e = .returned (.agg #[.slice OA on oc, .int .i64 used, .int .i64 err]) ∧ Upd [] w w' ∧
    ((¬ (0 ≤ most ∧ most ≤ 16777216) ∧ err = 1 ∧ used = 0 ∧ on = 0) ∨
     (0 ≤ most ∧ most ≤ 16777216 ∧ err ≠ 0 ∧ used = 0 ∧ on = 0 ∧ OA = none ∧ run (bitsOf ys) most.toNat (infPr F F) 0 [] = .err err) ∨
     (0 ≤ most ∧ most ≤ 16777216 ∧ err = 0 ∧ ∃ out p, run (bitsOf ys) most.toNat (infPr F F) 0 [] = .ok out p ∧ used = ((p + 7) / 8 : Nat) ∧ Ints .u8 w' OA on out ∧ on ≤ oc ∧ (∀ z ∈ out, 0 ≤ z ∧ z ≤ 255) ∧ on ≤ most.toNat ∧ (∀ x, ob OA = some x → w.heap.size ≤ x)))

theorem used_eq (q : Nat) (h : (q : Int) ≤ 8000000000000) : wrap64 ((wrap64 ((q : Int) + 7)).tdiv 8) = ((q : Int) + 7) / 8 := by
  rw [IntWalk.wrap64_in ((q : Int) + 7) (by omega), Int.tdiv_eq_ediv_of_nonneg (by omega)]
  exact IntWalk.wrap64_in _ (by omega)

set_option maxRecDepth 100000 in
set_option maxHeartbeats 8000000 in
theorem rinflate_any (A : Option Addr) (n c : Nat) (ys : List Int) (most : Int) (w : World) (hs : Ints .u8 w A n ys) (hb : ∀ z ∈ ys, 0 ≤ z ∧ z ≤ 255) (hn : n ≤ 1000000000000) (F : Nat) (hF : 8 * n < F) :
    Calls Tryz.prog 21 #[.slice A n c, .int .i64 most] w (RInflPost w ys most F) := by
  have HS := Lib.hid hs
  have HB := Lib.hid hb
  clear hs hb
  obtain ⟨w0, hw0⟩ : ∃ w0 : World, w0 = w.alloc (.cells #[.slice none 0 0, .int .i64 0, .int .i64 0] 57) := ⟨_, rfl⟩
  obtain ⟨g4, hg4⟩ : ∃ g4, g4 = w.heap.size := ⟨_, rfl⟩
  have hb0 : Blk w0 g4 57 #[.slice none 0 0, .int .i64 0, .int .i64 0] := by rw [hw0, hg4]; exact Blk.new _ _ _
  have hu0 : Upd [] w w0 := by rw [hw0]; exact (Upd.refl _ _).alloc _
  have HG4 : Hid (w.heap.size ≤ g4) := by show _ ≤ _; omega
  by_cases hbad : most < 0 ∨ 16777216 < most
  · have HG := Lib.hid hb0
    have HU := Lib.hid hu0
    by_cases hneg : most < 0
    · have d1 : decide (most < 0) = true := by simp; omega
      go_enter Tryz.func21, Tryz.ntmps21
      go_upto_region 1 with (fail)
      rw [← hw0, ← hg4]
      clear hw0 hg4 hb0 hu0
      have y0 := HG.out.cell 0
      have y1 := HG.out.cell 1
      have y2 := HG.out.cell 2
      have yf0 := HG.out.frozen 0
      have yf1 := HG.out.frozen 1
      have yf2 := HG.out.frozen 2
      simp at y0 y1 y2
      go_wp2
      clear y0 y1 y2 yf0 yf1 yf2
      obtain ⟨w9, hw9⟩ : ∃ w9 : World, w9 = ((w0.setCell ⟨g4, 0, none⟩ (.slice none 0 0)).setCell ⟨g4, 1, none⟩ (.int .i64 (0))).setCell ⟨g4, 2, none⟩ (.int .i64 (1)) := ⟨_, rfl⟩
      rw [← hw9]
      have hb9 : Blk w9 g4 57 #[.slice none 0 0, .int .i64 (0), .int .i64 (1)] := by rw [hw9]; exact ((HG.out.set 0 _).set 1 _).set 2 _
      have hu9 : Upd [] w w9 := by rw [hw9]; exact ((HU.out.put HG4.out _).put HG4.out _).put HG4.out _
      have hug : Upd [some g4] w0 w9 := by rw [hw9]; exact (((Upd.refl _ _).putIn (by simp) _).putIn (by simp) _).putIn (by simp) _
      have y0 := hb9.cell 0
      have y1 := hb9.cell 1
      have y2 := hb9.cell 2
      simp at y0 y1 y2
      refine bodyPost_ret (v := .agg #[.slice none 0 0, .int .i64 (0), .int .i64 (1)]) (by simp [results, Tryz.results21, go_sem, y0, y1, y2]) rfl ?_
      exact ⟨none, 0, 0, 0, 1, rfl, hu9, Or.inl ⟨by omega, rfl, rfl, rfl⟩⟩
    · have d1 : decide (most < 0) = false := by simp; omega
      have d2 : decide (16777216 < most) = true := by simp; omega
      go_enter Tryz.func21, Tryz.ntmps21
      go_upto_region 1 with (fail)
      rw [← hw0, ← hg4]
      clear hw0 hg4 hb0 hu0
      have y0 := HG.out.cell 0
      have y1 := HG.out.cell 1
      have y2 := HG.out.cell 2
      have yf0 := HG.out.frozen 0
      have yf1 := HG.out.frozen 1
      have yf2 := HG.out.frozen 2
      simp at y0 y1 y2
      go_wp2
      clear y0 y1 y2 yf0 yf1 yf2
      obtain ⟨w9, hw9⟩ : ∃ w9 : World, w9 = ((w0.setCell ⟨g4, 0, none⟩ (.slice none 0 0)).setCell ⟨g4, 1, none⟩ (.int .i64 (0))).setCell ⟨g4, 2, none⟩ (.int .i64 (1)) := ⟨_, rfl⟩
      rw [← hw9]
      have hb9 : Blk w9 g4 57 #[.slice none 0 0, .int .i64 (0), .int .i64 (1)] := by rw [hw9]; exact ((HG.out.set 0 _).set 1 _).set 2 _
      have hu9 : Upd [] w w9 := by rw [hw9]; exact ((HU.out.put HG4.out _).put HG4.out _).put HG4.out _
      have hug : Upd [some g4] w0 w9 := by rw [hw9]; exact (((Upd.refl _ _).putIn (by simp) _).putIn (by simp) _).putIn (by simp) _
      have y0 := hb9.cell 0
      have y1 := hb9.cell 1
      have y2 := hb9.cell 2
      simp at y0 y1 y2
      refine bodyPost_ret (v := .agg #[.slice none 0 0, .int .i64 (0), .int .i64 (1)]) (by simp [results, Tryz.results21, go_sem, y0, y1, y2]) rfl ?_
      exact ⟨none, 0, 0, 0, 1, rfl, hu9, Or.inl ⟨by omega, rfl, rfl, rfl⟩⟩
  · obtain ⟨M, rfl⟩ := Int.eq_ofNat_of_zero_le (show 0 ≤ most by omega)
    have hM : M ≤ 16777216 := by omega
    have d1 : decide ((M : Int) < 0) = false := by simp
    have d2 : decide ((16777216 : Int) < M) = false := by simp; omega
    clear hbad
    have HYL : Hid ((bitsOf ys).length = 8 * n) := by show _ = _; rw [bitsOf_len]; have := HS.out.len.out; omega
    go_enter Tryz.func21, Tryz.ntmps21
    go_upto_region 1 with (fail)
    rw [← hw0, ← hg4]
    clear hw0 hg4
    go_wp2_with fail
    refine (rbits_any A n c ys w0 (HS.out.upd hu0 (by simp)) HB.out hn).mono ?_
    rintro e w1 ⟨X, xc, rfl, hx1, hv1⟩
    obtain ⟨bs, hbs⟩ : ∃ bs, bs = bitsOf ys := ⟨_, rfl⟩
    obtain ⟨s, hs⟩ : ∃ s, s = w1.heap.size := ⟨_, rfl⟩
    obtain ⟨w2, hw2⟩ : ∃ w2 : World, w2 = w1.alloc (.cells #[.slice X (8 * n) xc, .int .i64 0, .slice none 0 0, .int .i64 M, .int .i64 0] 89) := ⟨_, rfl⟩
    have hb2 : Blk w2 s 89 #[.slice X (8 * n) xc, .int .i64 0, .slice none 0 0, .int .i64 M, .int .i64 0] := by rw [hw2, hs]; exact Blk.new _ _ _
    have hu2 : Upd [] w1 w2 := by rw [hw2]; exact (Upd.refl _ _).alloc _
    have HSB : Hid (w.heap.size ≤ s) := by rw [hs]; exact (hu0.trans hv1).size
    have hBL : bs.length = 8 * n := by rw [hbs]; exact HYL.out
    have HBS := Lib.hid hbs
    have HBL := Lib.hid hBL
    have HB8 : Hid (bs.length % 8 = 0) := by show _ = _; omega
    rw [← hbs, ← hBL] at hx1
    rw [← hBL] at hb2
    have HS2 : Hid (RSt w2 w.heap.size s X xc bs 0 none 0 0 [] M 0) := ⟨hb2, (hx1.upd hu2 (by simp)).monoB hu0.size, Own.nil _ _ _ _, HSB.out, Nat.zero_le _, Nat.zero_le _, fun _ => Nat.zero_le _, by omega, hM, by simp, ((hu0.trans hv1).trans hu2).size⟩
    have HG2 : Hid (Blk w2 g4 57 #[.slice none 0 0, .int .i64 0, .int .i64 0]) := (hb0.upd hv1 (by simp)).upd hu2 (by simp)
    have HU2 : Hid (Upd [] w w2) := (hu0.trans hv1).trans hu2
    clear hb2 hu2 hx1 hv1 hb0 hu0 hbs
    go_wp2
    rw [← hw2, ← hs]
    clear hw2 hs hBL
    go_loopw [6] (fun _ wr => ∃ (q : Nat) (OX : Option Addr) (xn oc : Nat) (ox : List Int) (err : Int), Hid (RSt wr w.heap.size s X xc bs q OX xn oc ox M err) ∧ Hid (Upd [] w wr ∧ Blk wr g4 57 #[.slice none 0 0, .int .i64 0, .int .i64 0]) ∧ Hid (if err = 0 then ∃ f, bs.length - q < f ∧ run bs M (infPr F F) 0 [] = run bs M (infPr F f) q ox else run bs M (infPr F F) 0 [] = .err err))
      (fun _ wr => if intOf ((wr.cell? ⟨s, 4, none⟩).getD undef) = 0 then bs.length + 1 - (intOf ((wr.cell? ⟨s, 1, none⟩).getD undef)).toNat else 0)
    case atStart => exact ⟨0, none, 0, 0, [], 0, HS2, ⟨HU2.out, HG2.out⟩, by show ite _ _ _; rw [if_pos rfl]; exact ⟨F, by rw [HBL.out]; omega, rfl⟩⟩
    case round =>
      clear HS2 HU2 HG2
      obtain ⟨q, OX, xn, oc, ox, err, HSr, HX, HR⟩ := hrel
      have hm1 := HSr.out.blk.cell 1
      have hm4 := HSr.out.blk.cell 4
      simp at hm1 hm4
      have hqN := HSr.out.pos
      by_cases he : err = 0
      · subst he
        have hR := HR.out
        rw [if_pos rfl] at hR
        obtain ⟨f, hf, hrun⟩ := hR
        obtain ⟨f', rfl⟩ : ∃ f', f = f' + 1 := ⟨f - 1, by omega⟩
        have HRUN := Lib.hid hrun
        clear hrun HR
        go_wp2_with fail
        refine (number_any HSr.out 1 (by omega)).mono ?_
        rintro e w3 ⟨v1, q1, err1, rfl, hs3, hv3, hq1, hv10, hv1n, hc1⟩
        have HS3 := Lib.hid hs3
        have HU3 : Hid (Upd [] w w3) := HX.out.1.then hv3 (by intro b hb; simp at hb; rw [hb]; exact Or.inr HSB.out)
        have HG3 := Lib.hid (HX.out.2.upd hv3 (by simp; exact HX.out.2.ne HSr.out.blk (by decide)))
        have hv11 : v1 = 0 ∨ v1 = 1 := by omega
        have HC1 := Lib.hid hc1
        clear hs3 hv3 hc1 hv1n hv10
        go_wp2_with fail
        refine (number_any HS3.out 2 (by omega)).mono ?_
        rintro e w4 ⟨v2, q2, err2, rfl, hs4, hv4, hq2, hv20, hv2n, hc2⟩
        have HSx := Lib.hid hs4
        have HU2 : Hid (Upd [] w w4) := HU3.out.then hv4 (by intro b hb; simp at hb; rw [hb]; exact Or.inr HSB.out)
        have HG2 := Lib.hid (HG3.out.upd hv4 (by simp; exact HG3.out.ne HS3.out.blk (by decide)))
        have hv23 : v2 = 0 ∨ v2 = 1 ∨ v2 = 2 ∨ v2 = 3 := by omega
        have HK2 : Hid ((err2 = 0 ∧ q < q2 ∧ run bs M (infPr F F) 0 [] = run bs M (if v2 = 0 then storedPr (if v1 = 0 then infPr F f' else .done) else if v2 = 1 then symPr fixedL fixedD F (if v1 = 0 then infPr F f' else .done) else if v2 = 2 then toldPr F (if v1 = 0 then infPr F f' else .done) else .fail 3) q2 ox) ∨ (err2 ≠ 0 ∧ run bs M (infPr F F) 0 [] = .err err2)) := by
          rcases HC1.out with ⟨h, _⟩ | ⟨_, h1, h2, h3, h4⟩ | ⟨_, h1, h2, h3, h4⟩
          · exact absurd rfl h
          · rcases hc2 with ⟨g, _⟩ | ⟨_, g1, g2, g3, g4⟩ | ⟨_, g1, g2, g3, g4⟩
            · exact absurd h2 g
            · refine Or.inl ⟨g2, by omega, ?_⟩
              rw [HRUN.out, infPr, run_take_ok h1, ← h4, ← h3]
              unfold blockPr
              rw [run_take_ok g1, ← g4, ← g3]
              rfl
            · refine Or.inr ⟨by omega, ?_⟩
              rw [HRUN.out, infPr, run_take_ok h1, ← h4, ← h3]
              unfold blockPr
              rw [run_take_no g1, g2]
          · rcases hc2 with ⟨_, g, _⟩ | ⟨g, _⟩ | ⟨g, _⟩
            · exact Or.inr ⟨by omega, by rw [HRUN.out, infPr, run_take_no h1, g, h2]⟩
            · omega
            · omega
        clear hs4 hv4 hc2 hv2n hv20 HC1 HRUN HS3 HU3 HG3
        have k4 := HSx.out.blk.cell 4
        simp at k4
        by_cases he2 : err2 = 0
        · subst he2
          obtain ⟨-, hqq, hrun⟩ : _ ∧ _ ∧ _ := by rcases HK2.out with h | ⟨h, _⟩; exact h; exact absurd rfl h
          have HK3 := Lib.hid hrun
          clear hrun HK2
          have hLL : ∀ (w9 : World), RSt w9 w.heap.size s X xc bs q2 OX xn oc ox M 0 → ∀ b, some b ∈ [some s, ob OX] → some b ∈ ([] : List (Option Nat)) ∨ w.heap.size ≤ b := fun w9 h b hb => by
            simp at hb
            right
            rcases hb with rfl | hb
            · exact HSB.out
            · exact (h.own.base hb.symm).1
          have hGG : ∀ (w9 : World), RSt w9 w.heap.size s X xc bs q2 OX xn oc ox M 0 → Blk w9 g4 57 #[.slice none 0 0, .int .i64 0, .int .i64 0] → some g4 ∉ [some s, ob OX] := fun w9 h hg => by
            simp
            exact ⟨hg.ne h.blk (by decide), fun e => h.own.neBlk hg (by decide) e.symm⟩
          rcases hv23 with rfl | rfl | rfl | rfl
          · have HK : Hid (run bs M (infPr F F) 0 [] = run bs M (storedPr (if v1 = 0 then infPr F f' else .done)) q2 ox) := by show _ = _; rw [HK3.out, if_pos rfl]
            clear HK3
            go_wp2_with fail
            refine (rstored_any HSx.out HB8.out).mono ?_
            rintro e wz ⟨q9, O9, on9, oc9, o9, err9, rfl, hS, hvz, hfz, hrz⟩
            have hU : Upd [] w wz := HU2.out.then hvz (hLL _ HSx.out)
            have hG : Blk wz g4 57 #[.slice none 0 0, .int .i64 0, .int .i64 0] := HG2.out.upd hvz (hGG _ HSx.out HG2.out)
            have hT : (err9 ≠ 0 ∧ run bs M (infPr F F) 0 [] = .err err9) ∨ (err9 = 0 ∧ q < q9 ∧ run bs M (infPr F F) 0 [] = run bs M (if v1 = 0 then infPr F f' else .done) q9 o9) := by
              rcases hrz with ⟨h1, h2⟩ | ⟨h1, h2, h3⟩
              · exact Or.inl ⟨h1, by rw [HK.out]; exact h2 _⟩
              · exact Or.inr ⟨h1, by omega, by rw [HK.out]; exact h3 _⟩
            clear hvz hfz hrz HK
            have HU := Lib.hid hU
            have HG := Lib.hid hG
            have HSt := Lib.hid hS
            have HT := Lib.hid hT
            clear hU hG hS hT
            have k1 := HSt.out.blk.cell 1
            have k2 := HSt.out.blk.cell 2
            have k4 := HSt.out.blk.cell 4
            simp at k1 k2 k4
            have hq9 := HSt.out.pos
            by_cases hv1 : v1 = 1
            · subst hv1
              by_cases he9 : err9 = 0
              · subst he9
                have HR9 : Hid (run bs M (infPr F F) 0 [] = .ok o9 q9) := by
                  rcases HT.out with ⟨h, _⟩ | ⟨_, _, h⟩
                  · exact absurd rfl h
                  · show _ = _; rw [h, if_neg (by decide), run]
                have HO9 := Lib.hid HSt.out.own
                go_wp2
                go_still_tail 11, (by kernel_rfl)
                change wpList _ _ _ _ _ wz.drew
                have HU' : Hid (Upd [] w wz.drew) := HU.out.drew
                have HG' : Hid (Blk wz.drew g4 57 #[.slice none 0 0, .int .i64 0, .int .i64 0]) := HG.out
                have HO' : Hid (Own wz.drew w.heap.size 5 1 O9 on9 oc9 (o9.map (Value.int .u8))) := HO9.out
                have HRM : Hid (on9 ≤ M) := HSt.out.room0 rfl
                have HOB : Hid (∀ z ∈ o9, 0 ≤ z ∧ z ≤ 255) := HSt.out.obd
                clear HU HG HO9 HSt k1 k2 k4
                generalize wz.drew = wy at HU' HG' HO' ⊢
                have HU := HU'
                have HG := HG'
                have HQ9 : Hid ((q9 : Int) ≤ 8000000000000) := by have := HBL.out; show _ ≤ _; omega
                have y0 := HG.out.cell 0
                have y1 := HG.out.cell 1
                have y2 := HG.out.cell 2
                have yf0 := HG.out.frozen 0
                have yf1 := HG.out.frozen 1
                have yf2 := HG.out.frozen 2
                simp at y0 y1 y2
                go_wp2
                rw [used_eq q9 HQ9.out]
                clear y0 y1 y2 yf0 yf1 yf2
                obtain ⟨w9, hw9⟩ : ∃ w9 : World, w9 = ((wy.setCell ⟨g4, 0, none⟩ (.slice O9 on9 oc9)).setCell ⟨g4, 1, none⟩ (.int .i64 (((q9 : Int) + 7) / 8))).setCell ⟨g4, 2, none⟩ (.int .i64 (0)) := ⟨_, rfl⟩
                rw [← hw9]
                have hb9 : Blk w9 g4 57 #[.slice O9 on9 oc9, .int .i64 (((q9 : Int) + 7) / 8), .int .i64 (0)] := by rw [hw9]; exact ((HG.out.set 0 _).set 1 _).set 2 _
                have hu9 : Upd [] w w9 := by rw [hw9]; exact ((HU.out.put HG4.out _).put HG4.out _).put HG4.out _
                have hug : Upd [some g4] wy w9 := by rw [hw9]; exact (((Upd.refl _ _).putIn (by simp) _).putIn (by simp) _).putIn (by simp) _
                have y0 := hb9.cell 0
                have y1 := hb9.cell 1
                have y2 := hb9.cell 2
                simp at y0 y1 y2
                refine bodyPost_ret (v := .agg #[.slice O9 on9 oc9, .int .i64 (((q9 : Int) + 7) / 8), .int .i64 (0)]) (by simp [results, Tryz.results21, go_sem, y0, y1, y2]) rfl ?_
                refine ⟨O9, on9, oc9, _, 0, rfl, hu9, Or.inr (Or.inr ⟨by omega, by omega, rfl, o9, q9, by rw [Int.toNat_natCast, ← HBS.out]; exact HR9.out, by omega, (Ints.ofOwn HO'.out).upd hug (fun hp => ?_), HO'.out.le, HOB.out, by rw [Int.toNat_natCast]; exact HRM.out, fun x hx => (HO'.out.base hx).1⟩)⟩
                obtain ⟨cs, hb⟩ := Own.tblk HO'.out hp
                simp
                exact hb.ne HG'.out (by decide)
              · have d9 : (err9 == 0) = false := by simp [he9]
                go_wp2
                go_roundw
                case rel =>
                  refine ⟨q9, O9, on9, oc9, o9, err9, HSt, ⟨HU.out, HG.out⟩, ?_⟩
                  show ite _ _ _
                  rw [if_neg he9]
                  rcases HT.out with ⟨_, h⟩ | ⟨h, _⟩
                  · exact h
                  · exact absurd h he9
                case measure => simp [intOf, hm1, hm4, k4, he9]; omega
            · have d1 : (v1 == 1) = false := by simp [hv1]
              have HV0 : Hid (v1 = 0) := by show _ = _; omega
              go_wp2
              go_roundw
              case rel =>
                refine ⟨q9, O9, on9, oc9, o9, err9, HSt, ⟨HU.out, HG.out⟩, ?_⟩
                show ite _ _ _
                rcases HT.out with ⟨h1, h2⟩ | ⟨h1, h2, h3⟩
                · rw [if_neg h1]; exact h2
                · rw [if_pos h1]; exact ⟨f', by omega, by rw [h3, if_pos HV0.out]⟩
              case measure =>
                rcases HT.out with ⟨h1, h2⟩ | ⟨h1, h2, h3⟩
                · simp [intOf, hm1, hm4, k4, h1]; omega
                · simp [intOf, hm1, hm4, k1, k4, h1]; omega
          · have HK : Hid (run bs M (infPr F F) 0 [] = run bs M (symPr fixedL fixedD F (if v1 = 0 then infPr F f' else .done)) q2 ox) := by show _ = _; rw [HK3.out, if_neg (by decide), if_pos rfl]
            clear HK3
            go_wp2_with fail
            refine (rfixed_any w4).mono ?_
            rintro e wa ⟨LA, lc, LC, ld, rfl, hcl, hva⟩
            go_wp2_with fail
            refine (times_any 5 32 (by omega) wa).mono ?_
            rintro e wb ⟨TA, tc, rfl, hT, hvb⟩
            go_wp2_with fail
            refine (made_any TA 32 tc fixedD wb (Ints.ofOwn hT) fixedD_chk (fun hp => Own.tblk hT hp)).mono ?_
            rintro e wc ⟨DC, dd, rfl, hcd, hDf, hvc⟩
            have hvv : Upd [] w4 wc := (hva.trans hvb).trans hvc
            have HCL := Lib.hid (hcl.grow (hvb.trans hvc))
            have HCDD := Lib.hid hcd
            have HSx' := Lib.hid (HSx.out.grow hvv)
            have HU2' : Hid (Upd [] w wc) := HU2.out.trans hvv
            have HG2' := Lib.hid (HG2.out.upd hvv (by simp))
            clear HSx HU2 HG2 hva hvb hvc hcl hcd hT hDf hvv
            have HSx := HSx'
            have HU2 := HU2'
            have HG2 := HG2'
            clear HSx' HU2' HG2'
            have HCOD : Hid (Calls Tryz.prog 46 #[.pointer (some ⟨s, 0, none⟩), .agg #[.slice LA 288 lc, .slice LC 288 ld], .agg #[.slice TA 32 tc, .slice DC 32 dd]] wc (RGoPost wc w.heap.size s X xc bs q2 OX ox M (symPr fixedL fixedD F))) := coded_any (lz := fixedL) (dz := fixedD) HSx.out HCL.out HCDD.out F (by have := HBL.out; omega)
            go_wp2_with fail
            refine (HCOD.out).mono ?_
            rintro e wz ⟨q9, O9, on9, oc9, o9, err9, rfl, hS, hvz, hfz, hrz⟩
            have hU : Upd [] w wz := HU2.out.then hvz (hLL _ HSx.out)
            have hG : Blk wz g4 57 #[.slice none 0 0, .int .i64 0, .int .i64 0] := HG2.out.upd hvz (hGG _ HSx.out HG2.out)
            have hT : (err9 ≠ 0 ∧ run bs M (infPr F F) 0 [] = .err err9) ∨ (err9 = 0 ∧ q < q9 ∧ run bs M (infPr F F) 0 [] = run bs M (if v1 = 0 then infPr F f' else .done) q9 o9) := by
              rcases hrz with ⟨h1, h2⟩ | ⟨h1, h2, h3⟩
              · exact Or.inl ⟨h1, by rw [HK.out]; exact h2 _⟩
              · exact Or.inr ⟨h1, by omega, by rw [HK.out]; exact h3 _⟩
            clear hvz hfz hrz HK
            have HU := Lib.hid hU
            have HG := Lib.hid hG
            have HSt := Lib.hid hS
            have HT := Lib.hid hT
            clear hU hG hS hT
            have k1 := HSt.out.blk.cell 1
            have k2 := HSt.out.blk.cell 2
            have k4 := HSt.out.blk.cell 4
            simp at k1 k2 k4
            have hq9 := HSt.out.pos
            by_cases hv1 : v1 = 1
            · subst hv1
              by_cases he9 : err9 = 0
              · subst he9
                have HR9 : Hid (run bs M (infPr F F) 0 [] = .ok o9 q9) := by
                  rcases HT.out with ⟨h, _⟩ | ⟨_, _, h⟩
                  · exact absurd rfl h
                  · show _ = _; rw [h, if_neg (by decide), run]
                have HO9 := Lib.hid HSt.out.own
                go_wp2
                go_still_tail 11, (by kernel_rfl)
                change wpList _ _ _ _ _ wz.drew
                have HU' : Hid (Upd [] w wz.drew) := HU.out.drew
                have HG' : Hid (Blk wz.drew g4 57 #[.slice none 0 0, .int .i64 0, .int .i64 0]) := HG.out
                have HO' : Hid (Own wz.drew w.heap.size 5 1 O9 on9 oc9 (o9.map (Value.int .u8))) := HO9.out
                have HRM : Hid (on9 ≤ M) := HSt.out.room0 rfl
                have HOB : Hid (∀ z ∈ o9, 0 ≤ z ∧ z ≤ 255) := HSt.out.obd
                clear HU HG HO9 HSt k1 k2 k4
                generalize wz.drew = wy at HU' HG' HO' ⊢
                have HU := HU'
                have HG := HG'
                have HQ9 : Hid ((q9 : Int) ≤ 8000000000000) := by have := HBL.out; show _ ≤ _; omega
                have y0 := HG.out.cell 0
                have y1 := HG.out.cell 1
                have y2 := HG.out.cell 2
                have yf0 := HG.out.frozen 0
                have yf1 := HG.out.frozen 1
                have yf2 := HG.out.frozen 2
                simp at y0 y1 y2
                go_wp2
                rw [used_eq q9 HQ9.out]
                clear y0 y1 y2 yf0 yf1 yf2
                obtain ⟨w9, hw9⟩ : ∃ w9 : World, w9 = ((wy.setCell ⟨g4, 0, none⟩ (.slice O9 on9 oc9)).setCell ⟨g4, 1, none⟩ (.int .i64 (((q9 : Int) + 7) / 8))).setCell ⟨g4, 2, none⟩ (.int .i64 (0)) := ⟨_, rfl⟩
                rw [← hw9]
                have hb9 : Blk w9 g4 57 #[.slice O9 on9 oc9, .int .i64 (((q9 : Int) + 7) / 8), .int .i64 (0)] := by rw [hw9]; exact ((HG.out.set 0 _).set 1 _).set 2 _
                have hu9 : Upd [] w w9 := by rw [hw9]; exact ((HU.out.put HG4.out _).put HG4.out _).put HG4.out _
                have hug : Upd [some g4] wy w9 := by rw [hw9]; exact (((Upd.refl _ _).putIn (by simp) _).putIn (by simp) _).putIn (by simp) _
                have y0 := hb9.cell 0
                have y1 := hb9.cell 1
                have y2 := hb9.cell 2
                simp at y0 y1 y2
                refine bodyPost_ret (v := .agg #[.slice O9 on9 oc9, .int .i64 (((q9 : Int) + 7) / 8), .int .i64 (0)]) (by simp [results, Tryz.results21, go_sem, y0, y1, y2]) rfl ?_
                refine ⟨O9, on9, oc9, _, 0, rfl, hu9, Or.inr (Or.inr ⟨by omega, by omega, rfl, o9, q9, by rw [Int.toNat_natCast, ← HBS.out]; exact HR9.out, by omega, (Ints.ofOwn HO'.out).upd hug (fun hp => ?_), HO'.out.le, HOB.out, by rw [Int.toNat_natCast]; exact HRM.out, fun x hx => (HO'.out.base hx).1⟩)⟩
                obtain ⟨cs, hb⟩ := Own.tblk HO'.out hp
                simp
                exact hb.ne HG'.out (by decide)
              · have d9 : (err9 == 0) = false := by simp [he9]
                go_wp2
                go_roundw
                case rel =>
                  refine ⟨q9, O9, on9, oc9, o9, err9, HSt, ⟨HU.out, HG.out⟩, ?_⟩
                  show ite _ _ _
                  rw [if_neg he9]
                  rcases HT.out with ⟨_, h⟩ | ⟨h, _⟩
                  · exact h
                  · exact absurd h he9
                case measure => simp [intOf, hm1, hm4, k4, he9]; omega
            · have d1 : (v1 == 1) = false := by simp [hv1]
              have HV0 : Hid (v1 = 0) := by show _ = _; omega
              go_wp2
              go_roundw
              case rel =>
                refine ⟨q9, O9, on9, oc9, o9, err9, HSt, ⟨HU.out, HG.out⟩, ?_⟩
                show ite _ _ _
                rcases HT.out with ⟨h1, h2⟩ | ⟨h1, h2, h3⟩
                · rw [if_neg h1]; exact h2
                · rw [if_pos h1]; exact ⟨f', by omega, by rw [h3, if_pos HV0.out]⟩
              case measure =>
                rcases HT.out with ⟨h1, h2⟩ | ⟨h1, h2, h3⟩
                · simp [intOf, hm1, hm4, k4, h1]; omega
                · simp [intOf, hm1, hm4, k1, k4, h1]; omega
          · have HK : Hid (run bs M (infPr F F) 0 [] = run bs M (toldPr F (if v1 = 0 then infPr F f' else .done)) q2 ox) := by show _ = _; rw [HK3.out, if_neg (by decide), if_neg (by decide), if_pos rfl]
            clear HK3
            go_wp2_with fail
            refine (rtold_any HSx.out F (by have := HBL.out; omega)).mono ?_
            rintro e wz ⟨q9, O9, on9, oc9, o9, err9, rfl, hS, hvz, hfz, hrz⟩
            have hU : Upd [] w wz := HU2.out.then hvz (hLL _ HSx.out)
            have hG : Blk wz g4 57 #[.slice none 0 0, .int .i64 0, .int .i64 0] := HG2.out.upd hvz (hGG _ HSx.out HG2.out)
            have hT : (err9 ≠ 0 ∧ run bs M (infPr F F) 0 [] = .err err9) ∨ (err9 = 0 ∧ q < q9 ∧ run bs M (infPr F F) 0 [] = run bs M (if v1 = 0 then infPr F f' else .done) q9 o9) := by
              rcases hrz with ⟨h1, h2⟩ | ⟨h1, h2, h3⟩
              · exact Or.inl ⟨h1, by rw [HK.out]; exact h2 _⟩
              · exact Or.inr ⟨h1, by omega, by rw [HK.out]; exact h3 _⟩
            clear hvz hfz hrz HK
            have HU := Lib.hid hU
            have HG := Lib.hid hG
            have HSt := Lib.hid hS
            have HT := Lib.hid hT
            clear hU hG hS hT
            have k1 := HSt.out.blk.cell 1
            have k2 := HSt.out.blk.cell 2
            have k4 := HSt.out.blk.cell 4
            simp at k1 k2 k4
            have hq9 := HSt.out.pos
            by_cases hv1 : v1 = 1
            · subst hv1
              by_cases he9 : err9 = 0
              · subst he9
                have HR9 : Hid (run bs M (infPr F F) 0 [] = .ok o9 q9) := by
                  rcases HT.out with ⟨h, _⟩ | ⟨_, _, h⟩
                  · exact absurd rfl h
                  · show _ = _; rw [h, if_neg (by decide), run]
                have HO9 := Lib.hid HSt.out.own
                go_wp2
                go_still_tail 11, (by kernel_rfl)
                change wpList _ _ _ _ _ wz.drew
                have HU' : Hid (Upd [] w wz.drew) := HU.out.drew
                have HG' : Hid (Blk wz.drew g4 57 #[.slice none 0 0, .int .i64 0, .int .i64 0]) := HG.out
                have HO' : Hid (Own wz.drew w.heap.size 5 1 O9 on9 oc9 (o9.map (Value.int .u8))) := HO9.out
                have HRM : Hid (on9 ≤ M) := HSt.out.room0 rfl
                have HOB : Hid (∀ z ∈ o9, 0 ≤ z ∧ z ≤ 255) := HSt.out.obd
                clear HU HG HO9 HSt k1 k2 k4
                generalize wz.drew = wy at HU' HG' HO' ⊢
                have HU := HU'
                have HG := HG'
                have HQ9 : Hid ((q9 : Int) ≤ 8000000000000) := by have := HBL.out; show _ ≤ _; omega
                have y0 := HG.out.cell 0
                have y1 := HG.out.cell 1
                have y2 := HG.out.cell 2
                have yf0 := HG.out.frozen 0
                have yf1 := HG.out.frozen 1
                have yf2 := HG.out.frozen 2
                simp at y0 y1 y2
                go_wp2
                rw [used_eq q9 HQ9.out]
                clear y0 y1 y2 yf0 yf1 yf2
                obtain ⟨w9, hw9⟩ : ∃ w9 : World, w9 = ((wy.setCell ⟨g4, 0, none⟩ (.slice O9 on9 oc9)).setCell ⟨g4, 1, none⟩ (.int .i64 (((q9 : Int) + 7) / 8))).setCell ⟨g4, 2, none⟩ (.int .i64 (0)) := ⟨_, rfl⟩
                rw [← hw9]
                have hb9 : Blk w9 g4 57 #[.slice O9 on9 oc9, .int .i64 (((q9 : Int) + 7) / 8), .int .i64 (0)] := by rw [hw9]; exact ((HG.out.set 0 _).set 1 _).set 2 _
                have hu9 : Upd [] w w9 := by rw [hw9]; exact ((HU.out.put HG4.out _).put HG4.out _).put HG4.out _
                have hug : Upd [some g4] wy w9 := by rw [hw9]; exact (((Upd.refl _ _).putIn (by simp) _).putIn (by simp) _).putIn (by simp) _
                have y0 := hb9.cell 0
                have y1 := hb9.cell 1
                have y2 := hb9.cell 2
                simp at y0 y1 y2
                refine bodyPost_ret (v := .agg #[.slice O9 on9 oc9, .int .i64 (((q9 : Int) + 7) / 8), .int .i64 (0)]) (by simp [results, Tryz.results21, go_sem, y0, y1, y2]) rfl ?_
                refine ⟨O9, on9, oc9, _, 0, rfl, hu9, Or.inr (Or.inr ⟨by omega, by omega, rfl, o9, q9, by rw [Int.toNat_natCast, ← HBS.out]; exact HR9.out, by omega, (Ints.ofOwn HO'.out).upd hug (fun hp => ?_), HO'.out.le, HOB.out, by rw [Int.toNat_natCast]; exact HRM.out, fun x hx => (HO'.out.base hx).1⟩)⟩
                obtain ⟨cs, hb⟩ := Own.tblk HO'.out hp
                simp
                exact hb.ne HG'.out (by decide)
              · have d9 : (err9 == 0) = false := by simp [he9]
                go_wp2
                go_roundw
                case rel =>
                  refine ⟨q9, O9, on9, oc9, o9, err9, HSt, ⟨HU.out, HG.out⟩, ?_⟩
                  show ite _ _ _
                  rw [if_neg he9]
                  rcases HT.out with ⟨_, h⟩ | ⟨h, _⟩
                  · exact h
                  · exact absurd h he9
                case measure => simp [intOf, hm1, hm4, k4, he9]; omega
            · have d1 : (v1 == 1) = false := by simp [hv1]
              have HV0 : Hid (v1 = 0) := by show _ = _; omega
              go_wp2
              go_roundw
              case rel =>
                refine ⟨q9, O9, on9, oc9, o9, err9, HSt, ⟨HU.out, HG.out⟩, ?_⟩
                show ite _ _ _
                rcases HT.out with ⟨h1, h2⟩ | ⟨h1, h2, h3⟩
                · rw [if_neg h1]; exact h2
                · rw [if_pos h1]; exact ⟨f', by omega, by rw [h3, if_pos HV0.out]⟩
              case measure =>
                rcases HT.out with ⟨h1, h2⟩ | ⟨h1, h2, h3⟩
                · simp [intOf, hm1, hm4, k4, h1]; omega
                · simp [intOf, hm1, hm4, k1, k4, h1]; omega
          · have HK : Hid (run bs M (infPr F F) 0 [] = .err 3) := by show _ = _; rw [HK3.out, if_neg (by decide), if_neg (by decide), if_neg (by decide), run]
            clear HK3
            have f4 := HSx.out.blk.frozen 4
            go_upto_region 16 with (fail)
            have hS := HSx.out.err (e' := 3) (by decide)
            have hU : Upd [] w (w4.setCell ⟨s, 4, none⟩ (.int .i64 3)) := HU2.out.then (HSx.out.put 4 _) (by intro b hb; simp at hb; rw [hb]; exact Or.inr HSB.out)
            have hG : Blk (w4.setCell ⟨s, 4, none⟩ (.int .i64 3)) g4 57 #[.slice none 0 0, .int .i64 0, .int .i64 0] := HG2.out.upd (HSx.out.put 4 _) (by simp; exact HG2.out.ne HSx.out.blk (by decide))
            obtain ⟨err9, he93⟩ : ∃ err9 : Int, err9 = 3 := ⟨3, rfl⟩
            rw [← he93] at hS hU hG ⊢
            have hT : (err9 ≠ 0 ∧ run bs M (infPr F F) 0 [] = .err err9) ∨ (err9 = 0 ∧ q < q2 ∧ run bs M (infPr F F) 0 [] = run bs M (if v1 = 0 then infPr F f' else .done) q2 ox) := Or.inl ⟨by omega, by rw [HK.out, he93]⟩
            clear HK he93 f4 k4
            generalize w4.setCell ⟨s, 4, none⟩ (.int .i64 err9) = wz at hS hU hG ⊢
            have HU := Lib.hid hU
            have HG := Lib.hid hG
            have HSt := Lib.hid hS
            have HT := Lib.hid hT
            clear hU hG hS hT
            have k1 := HSt.out.blk.cell 1
            have k2 := HSt.out.blk.cell 2
            have k4 := HSt.out.blk.cell 4
            simp at k1 k2 k4
            have hq2 := HSt.out.pos
            by_cases hv1 : v1 = 1
            · subst hv1
              by_cases he9 : err9 = 0
              · subst he9
                have HR9 : Hid (run bs M (infPr F F) 0 [] = .ok ox q2) := by
                  rcases HT.out with ⟨h, _⟩ | ⟨_, _, h⟩
                  · exact absurd rfl h
                  · show _ = _; rw [h, if_neg (by decide), run]
                have HO9 := Lib.hid HSt.out.own
                go_wp2
                go_still_tail 11, (by kernel_rfl)
                change wpList _ _ _ _ _ wz.drew
                have HU' : Hid (Upd [] w wz.drew) := HU.out.drew
                have HG' : Hid (Blk wz.drew g4 57 #[.slice none 0 0, .int .i64 0, .int .i64 0]) := HG.out
                have HO' : Hid (Own wz.drew w.heap.size 5 1 OX xn oc (ox.map (Value.int .u8))) := HO9.out
                have HRM : Hid (xn ≤ M) := HSt.out.room0 rfl
                have HOB : Hid (∀ z ∈ ox, 0 ≤ z ∧ z ≤ 255) := HSt.out.obd
                clear HU HG HO9 HSt k1 k2 k4
                generalize wz.drew = wy at HU' HG' HO' ⊢
                have HU := HU'
                have HG := HG'
                have HQ9 : Hid ((q2 : Int) ≤ 8000000000000) := by have := HBL.out; show _ ≤ _; omega
                have y0 := HG.out.cell 0
                have y1 := HG.out.cell 1
                have y2 := HG.out.cell 2
                have yf0 := HG.out.frozen 0
                have yf1 := HG.out.frozen 1
                have yf2 := HG.out.frozen 2
                simp at y0 y1 y2
                go_wp2
                rw [used_eq q2 HQ9.out]
                clear y0 y1 y2 yf0 yf1 yf2
                obtain ⟨w9, hw9⟩ : ∃ w9 : World, w9 = ((wy.setCell ⟨g4, 0, none⟩ (.slice OX xn oc)).setCell ⟨g4, 1, none⟩ (.int .i64 (((q2 : Int) + 7) / 8))).setCell ⟨g4, 2, none⟩ (.int .i64 (0)) := ⟨_, rfl⟩
                rw [← hw9]
                have hb9 : Blk w9 g4 57 #[.slice OX xn oc, .int .i64 (((q2 : Int) + 7) / 8), .int .i64 (0)] := by rw [hw9]; exact ((HG.out.set 0 _).set 1 _).set 2 _
                have hu9 : Upd [] w w9 := by rw [hw9]; exact ((HU.out.put HG4.out _).put HG4.out _).put HG4.out _
                have hug : Upd [some g4] wy w9 := by rw [hw9]; exact (((Upd.refl _ _).putIn (by simp) _).putIn (by simp) _).putIn (by simp) _
                have y0 := hb9.cell 0
                have y1 := hb9.cell 1
                have y2 := hb9.cell 2
                simp at y0 y1 y2
                refine bodyPost_ret (v := .agg #[.slice OX xn oc, .int .i64 (((q2 : Int) + 7) / 8), .int .i64 (0)]) (by simp [results, Tryz.results21, go_sem, y0, y1, y2]) rfl ?_
                refine ⟨OX, xn, oc, _, 0, rfl, hu9, Or.inr (Or.inr ⟨by omega, by omega, rfl, ox, q2, by rw [Int.toNat_natCast, ← HBS.out]; exact HR9.out, by omega, (Ints.ofOwn HO'.out).upd hug (fun hp => ?_), HO'.out.le, HOB.out, by rw [Int.toNat_natCast]; exact HRM.out, fun x hx => (HO'.out.base hx).1⟩)⟩
                obtain ⟨cs, hb⟩ := Own.tblk HO'.out hp
                simp
                exact hb.ne HG'.out (by decide)
              · have d9 : (err9 == 0) = false := by simp [he9]
                go_wp2
                go_roundw
                case rel =>
                  refine ⟨q2, OX, xn, oc, ox, err9, HSt, ⟨HU.out, HG.out⟩, ?_⟩
                  show ite _ _ _
                  rw [if_neg he9]
                  rcases HT.out with ⟨_, h⟩ | ⟨h, _⟩
                  · exact h
                  · exact absurd h he9
                case measure => simp [intOf, hm1, hm4, k4, he9]; omega
            · have d1 : (v1 == 1) = false := by simp [hv1]
              have HV0 : Hid (v1 = 0) := by show _ = _; omega
              go_wp2
              go_roundw
              case rel =>
                refine ⟨q2, OX, xn, oc, ox, err9, HSt, ⟨HU.out, HG.out⟩, ?_⟩
                show ite _ _ _
                rcases HT.out with ⟨h1, h2⟩ | ⟨h1, h2, h3⟩
                · rw [if_neg h1]; exact h2
                · rw [if_pos h1]; exact ⟨f', by omega, by rw [h3, if_pos HV0.out]⟩
              case measure =>
                rcases HT.out with ⟨h1, h2⟩ | ⟨h1, h2, h3⟩
                · simp [intOf, hm1, hm4, k4, h1]; omega
                · simp [intOf, hm1, hm4, k1, k4, h1]; omega
        · have d2' : (err2 != 0) = true := by simp [he2]
          have HNE := Lib.hid he2
          have HE : Hid (run bs M (infPr F F) 0 [] = .err err2) := by rcases HK2.out with ⟨h, _⟩ | ⟨_, h⟩; exact absurd h he2; exact h
          have HU := HU2
          have HG := HG2
          have y0 := HG.out.cell 0
          have y1 := HG.out.cell 1
          have y2 := HG.out.cell 2
          have yf0 := HG.out.frozen 0
          have yf1 := HG.out.frozen 1
          have yf2 := HG.out.frozen 2
          simp at y0 y1 y2
          go_wp2
          clear y0 y1 y2 yf0 yf1 yf2
          obtain ⟨w9, hw9⟩ : ∃ w9 : World, w9 = ((w4.setCell ⟨g4, 0, none⟩ (.slice none 0 0)).setCell ⟨g4, 1, none⟩ (.int .i64 (0))).setCell ⟨g4, 2, none⟩ (.int .i64 (err2)) := ⟨_, rfl⟩
          rw [← hw9]
          have hb9 : Blk w9 g4 57 #[.slice none 0 0, .int .i64 (0), .int .i64 (err2)] := by rw [hw9]; exact ((HG.out.set 0 _).set 1 _).set 2 _
          have hu9 : Upd [] w w9 := by rw [hw9]; exact ((HU.out.put HG4.out _).put HG4.out _).put HG4.out _
          have hug : Upd [some g4] w4 w9 := by rw [hw9]; exact (((Upd.refl _ _).putIn (by simp) _).putIn (by simp) _).putIn (by simp) _
          have y0 := hb9.cell 0
          have y1 := hb9.cell 1
          have y2 := hb9.cell 2
          simp at y0 y1 y2
          refine bodyPost_ret (v := .agg #[.slice none 0 0, .int .i64 (0), .int .i64 (err2)]) (by simp [results, Tryz.results21, go_sem, y0, y1, y2]) rfl ?_
          exact ⟨none, 0, 0, 0, err2, rfl, hu9, Or.inr (Or.inl ⟨by omega, by omega, HNE.out, rfl, rfl, rfl, by rw [Int.toNat_natCast]; rw [← HBS.out]; exact HE.out⟩)⟩
      · have d0 : (err == 0) = false := by simp [he]
        have HNE := Lib.hid he
        have HE : Hid (run bs M (infPr F F) 0 [] = .err err) := by have := HR.out; rw [if_neg he] at this; exact this
        have HU := Lib.hid HX.out.1
        have HG := Lib.hid HX.out.2
        have y0 := HG.out.cell 0
        have y1 := HG.out.cell 1
        have y2 := HG.out.cell 2
        have yf0 := HG.out.frozen 0
        have yf1 := HG.out.frozen 1
        have yf2 := HG.out.frozen 2
        simp at y0 y1 y2
        go_wp2
        clear y0 y1 y2 yf0 yf1 yf2
        obtain ⟨w9, hw9⟩ : ∃ w9 : World, w9 = ((wr.setCell ⟨g4, 0, none⟩ (.slice none 0 0)).setCell ⟨g4, 1, none⟩ (.int .i64 (0))).setCell ⟨g4, 2, none⟩ (.int .i64 (err)) := ⟨_, rfl⟩
        rw [← hw9]
        have hb9 : Blk w9 g4 57 #[.slice none 0 0, .int .i64 (0), .int .i64 (err)] := by rw [hw9]; exact ((HG.out.set 0 _).set 1 _).set 2 _
        have hu9 : Upd [] w w9 := by rw [hw9]; exact ((HU.out.put HG4.out _).put HG4.out _).put HG4.out _
        have hug : Upd [some g4] wr w9 := by rw [hw9]; exact (((Upd.refl _ _).putIn (by simp) _).putIn (by simp) _).putIn (by simp) _
        have y0 := hb9.cell 0
        have y1 := hb9.cell 1
        have y2 := hb9.cell 2
        simp at y0 y1 y2
        refine bodyPost_ret (v := .agg #[.slice none 0 0, .int .i64 (0), .int .i64 (err)]) (by simp [results, Tryz.results21, go_sem, y0, y1, y2]) rfl ?_
        exact ⟨none, 0, 0, 0, err, rfl, hu9, Or.inr (Or.inl ⟨by omega, by omega, HNE.out, rfl, rfl, rfl, by rw [Int.toNat_natCast]; rw [← HBS.out]; exact HE.out⟩)⟩
end Go.Proofs.YtolcdlopgbgilaaGreatDoor
