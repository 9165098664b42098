/- The reference's Inflate: fixed. -/
import Derived.Test.YtolcdlopgbgilaaDoorRiE
import Derived.Test.YtolcdlopgbgilaaDoorInfH
import Derived.Test.YtolcdlopgbgilaaDoorInfI
namespace Go.Proofs.YtolcdlopgbgilaaDoor
open Go.RowKit Go.Dray

def FixR (w : World) (e : Ending) (w' : World) : Prop := ∃ A c C d, e = .returned (.agg #[.slice A 288 c, .slice C 288 d]) ∧ Cd w' fixedL A c C d ∧ Upd [] w w'

set_option maxRecDepth 100000 in
set_option maxHeartbeats 2000000 in
theorem rfixed_any (w : World) : Calls Tryd.prog 31 #[] w (FixR w) := by
  obtain ⟨w0, hw0⟩ : ∃ w0 : World, w0 = w.alloc (.cells #[.slice none 0 0, .slice none 0 0] 68) := ⟨_, rfl⟩
  obtain ⟨g, hg⟩ : ∃ g, g = w.heap.size := ⟨_, rfl⟩
  have hb0 : Blk w0 g 68 #[.slice none 0 0, .slice none 0 0] := by rw [hw0, hg]; exact Blk.new _ _ _
  have hu0 : Upd [] w w0 := by rw [hw0]; exact (Upd.refl _ _).alloc _
  have hgw : w.heap.size ≤ g := by omega
  have HGW := Lib.hid hgw
  go_enter Tryd.func31, Tryd.ntmps31
  go_wp2_with fail
  rw [← hw0, ← hg]
  clear hw0 hg
  refine (times_any 8 144 (by omega) w0).mono ?_
  rintro e w1 ⟨R1, c1, rfl, h1, v1⟩
  have hu1 : Upd [] w w1 := hu0.trans v1
  have hb1 := hb0.upd v1 (by simp)
  have hB1 := h1.monoB (B' := w.heap.size) hu0.size
  clear hb0 hu0 v1 h1
  go_wp2_with fail
  refine (times_any 9 112 (by omega) w1).mono ?_
  rintro e w2 ⟨R2, c2, rfl, h2, v2⟩
  have hu2 : Upd [] w w2 := hu1.trans v2
  have hb2 := hb1.upd v2 (by simp)
  have hi2 : Ints .i64 w2 R2 112 (List.replicate 112 9) := Ints.ofOwn h2
  have hB2 := hB1.upd v2 (by simp)
  clear hb1 hu1 v2 h2 hB1
  go_wp2_with (at_builtin; refine wpList_app rfl rfl el_int rfl hB2 rfl hi2 (ints_one _ _) (by simp only [maxLen]; omega) (by omega) hu2.size ?_; intro X3 x3 w3 o3 u3 f3)
  have hu3 : Upd [] w w3 := hu2.then u3 (by intro b hb; simp at hb; right; exact (hB2.base hb.symm).1)
  have hb3 := hb2.upd u3 (by simp; exact fun e => hB2.neBlk hb2 (by decide) e.symm)
  rw [← List.map_append] at o3
  clear hu2 hb2 hi2 hB2 u3 f3
  refine (times_any 7 24 (by omega) w3).mono ?_
  rintro e w4 ⟨R4, c4, rfl, h4, v4⟩
  have hu4 : Upd [] w w4 := hu3.trans v4
  have hb4 := hb3.upd v4 (by simp)
  have hi4 : Ints .i64 w4 R4 24 (List.replicate 24 7) := Ints.ofOwn h4
  have hB4 := o3.upd v4 (by simp)
  clear hb3 hu3 v4 h4 o3
  go_wp2_with (at_builtin; refine wpList_app rfl rfl el_int rfl hB4 rfl hi4 (ints_one _ _) (by simp only [maxLen]; omega) (by omega) hu4.size ?_; intro X5 x5 w5 o5 u5 f5)
  have hu5 : Upd [] w w5 := hu4.then u5 (by intro b hb; simp at hb; right; exact (hB4.base hb.symm).1)
  have hb5 := hb4.upd u5 (by simp; exact fun e => hB4.neBlk hb4 (by decide) e.symm)
  rw [← List.map_append] at o5
  clear hu4 hb4 hi4 hB4 u5 f5
  refine (times_any 8 8 (by omega) w5).mono ?_
  rintro e w6 ⟨R6, c6, rfl, h6, v6⟩
  have hu6 : Upd [] w w6 := hu5.trans v6
  have hb6 := hb5.upd v6 (by simp)
  have hi6 : Ints .i64 w6 R6 8 (List.replicate 8 8) := Ints.ofOwn h6
  have hB6 := o5.upd v6 (by simp)
  clear hb5 hu5 v6 h6 o5
  go_wp2_with (at_builtin; refine wpList_app rfl rfl el_int rfl hB6 rfl hi6 (ints_one _ _) (by simp only [maxLen]; omega) (by omega) hu6.size ?_; intro X7 x7 w7 o7 u7 f7)
  have hu7 : Upd [] w w7 := hu6.then u7 (by intro b hb; simp at hb; right; exact (hB6.base hb.symm).1)
  have hb7 := hb6.upd u7 (by simp; exact fun e => hB6.neBlk hb6 (by decide) e.symm)
  rw [← List.map_append] at o7
  have eL : List.replicate 144 (8 : Int) ++ List.replicate 112 9 ++ List.replicate 24 7 ++ List.replicate 8 8 = fixedL := rfl
  rw [eL] at o7
  clear hu6 hb6 hi6 hB6 u7 f7 eL
  refine (made_any X7 288 x7 fixedL w7 (Ints.ofOwn o7) fixedL_chk (fun hp => Own.tblk o7 hp)).mono ?_
  rintro e w8 ⟨C, d, rfl, hcd, hCf, v8⟩
  have HU8 : Hid (Upd [] w w8) := hu7.trans v8
  have HB8 := Lib.hid (hb7.upd v8 (by simp))
  have HCD := Lib.hid hcd
  clear hu7 hb7 o7 hcd hCf v8
  have hf0 := HB8.out.frozen 0
  have hf1 := HB8.out.frozen 1
  have hc0 := HB8.out.cell 0
  have hc1 := HB8.out.cell 1
  simp at hc0 hc1
  go_wp2
  obtain ⟨w9, hw9⟩ : ∃ w9 : World, w9 = (w8.setCell ⟨g, 0, none⟩ (.slice X7 288 x7)).setCell ⟨g, 1, none⟩ (.slice C 288 d) := ⟨_, rfl⟩
  rw [← hw9]
  have hb9 : Blk w9 g 68 #[.slice X7 288 x7, .slice C 288 d] := by rw [hw9]; exact (HB8.out.set 0 _).set 1 _
  have hu9 : Upd [] w w9 := by rw [hw9]; exact (HU8.out.put HGW.out _).put HGW.out _
  have hug : Upd [some g] w8 w9 := by rw [hw9]; exact ((Upd.refl _ w8).putIn (by simp) _).putIn (by simp) _
  have q0 := hb9.cell 0
  have q1 := hb9.cell 1
  simp at q0 q1
  refine bodyPost_ret (v := .agg #[.slice X7 288 x7, .slice C 288 d]) (by simp [results, Tryd.results31, go_sem, q0, q1]) rfl ?_
  refine ⟨X7, x7, C, d, rfl, HCD.out.upd hug (fun hp => ?_) (fun hp => ?_), hu9⟩
  · obtain ⟨cs, hb⟩ := HCD.out.tl hp; simp; exact hb.ne HB8.out (by decide)
  · obtain ⟨cs, hb⟩ := HCD.out.tr hp; simp; exact hb.ne HB8.out (by decide)

end Go.Proofs.YtolcdlopgbgilaaDoor
