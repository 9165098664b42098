/- Merged by wip/tools/merge.py: GzD GzQ GzG. -/
import Derived.Deep.RegionWith
import Derived.SliceStrings
import Derived.Test.YtolcdlopgbgilaaDoorMc01
import Derived.Test.YtolcdlopgbgilaaDoorMc21
import Derived.Test.YtolcdlopgbgilaaDoorMc22
import Derived.Test.YtolcdlopgbgilaaDoorMc25

/-! Text GzD. -/
namespace Go.Proofs.YtolcdlopgbgilaaDoor
open Go.RowKit Go.Dray

set_option maxRecDepth 100000 in
set_option maxHeartbeats 8000000 in
theorem wrapped_any (s : ByteArray) (mt : Int) (A : Option Addr) (n c : Nat) (zs : List Int) (P : Option Addr) (pn pc : Nat) (out : List Int) (w : World) (hs : Ints .u8 w A n zs) (hz : ∀ z ∈ zs, 0 ≤ z ∧ z ≤ 255) (hn : n ≤ 3000) (hp : Ints .u8 w P pn out) (hpn : pn ≤ 3000000)
    (hm0 : 0 ≤ mt) (hm1 : mt ≤ 4294967295) (hsz : s.size ≤ 200) :
    Calls Tryd.prog 20 #[.agg #[.string s, .int .i64 mt, .slice A n c], .slice P pn pc] w (NewBytes (gzBytes s mt out zs).length (gzBytes s mt out zs) w) := by
  have HS := Lib.hid hs
  have HZ := Lib.hid hz
  have HP := Lib.hid hp
  have HL := hs.len
  clear hs hz hp
  have HB1 : Hid (Blk (w.alloc (.cells #[.string s, .int .i64 mt, .slice A n c] 37)) w.heap.size 37 #[.string s, .int .i64 mt, .slice A n c]) := Blk.new w _ _
  have HU1 : Hid (Upd [] w (w.alloc (.cells #[.string s, .int .i64 mt, .slice A n c] 37))) := (Upd.refl _ _).alloc _
  obtain ⟨g, hg⟩ : ∃ g, g = w.heap.size := ⟨_, rfl⟩
  by_cases h0 : s.size = 0
  · have hemp : s.toList.isEmpty = true := by
      rw [ByteArray.toList_eq]
      have : s.data.toList = [] := List.length_eq_zero_iff.1 h0
      rw [this]
      rfl
    have H0 := Lib.hid h0
    clear h0
    go_enter Tryd.func20, Tryd.ntmps20
    go_upto_region 1 with (fail)
    rw [← hg] at HB1 ⊢
    generalize hw1 : w.alloc _ = w1 at HB1 HU1 ⊢
    clear hw1 hg
    have k0 := HB1.out.cell 0
    have k1 := HB1.out.cell 1
    have k2 := HB1.out.cell 2
    simp at k0 k1 k2
    have hv2 : Upd [] w1 (w1.alloc (.cells #[.int .u8 31, .int .u8 139, .int .u8 8, .int .u8 0] 5)) := (Upd.refl _ _).alloc _
    have hb2 : Blk (w1.alloc (.cells #[.int .u8 31, .int .u8 139, .int .u8 8, .int .u8 0] 5)) w1.heap.size 5 #[.int .u8 31, .int .u8 139, .int .u8 8, .int .u8 0] := Blk.new _ _ _
    have HU2 := Lib.hid (HU1.out.trans hv2)
    have HB2 := Lib.hid (HB1.out.upd hv2 (by simp))
    obtain ⟨gb, hgb⟩ : ∃ gb, gb = w1.heap.size := ⟨_, rfl⟩
    have hgb2 : w.heap.size ≤ gb := by rw [hgb]; exact HU1.out.size
    rw [← hgb] at hb2
    go_upto_region 2 with (fail)
    rw [← hgb]
    generalize w1.alloc _ = w2 at hv2 hb2 HU2 HB2 ⊢
    obtain ⟨N2, hN2e⟩ : ∃ N, N = 4 := ⟨_, rfl⟩
    have HO2 : Hid (Own w2 w.heap.size 5 1 (some ⟨gb, 0, none⟩) 4 4 (([31, 139, 8, 0] : List Int).map (Value.int .u8))) := Own.mk rfl (Nat.le_refl _) (by simp [maxLen]) rfl hgb2 hb2 rfl rfl
    clear hN2e hv2 hb2 hgb k0 k1 k2
    have k0 := HB2.out.cell 0
    have k1 := HB2.out.cell 1
    have k2 := HB2.out.cell 2
    simp at k0 k1 k2
    go_wp2_with fail
    refine (rle_any w2 mt (by omega) (by omega)).mono ?_
    rintro e w4 ⟨Q4, q4, rfl, hq, hqu⟩
    have HO4 := Lib.hid (HO2.out.upd hqu (by simp))
    have HU4 := Lib.hid (HU2.out.trans hqu)
    have HB4 := Lib.hid (HB2.out.upd hqu (by simp))
    have HQ4 := Lib.hid (Ints.ofOwn hq)
    clear hq hqu k0 k1 k2
    have k0 := HB4.out.cell 0
    have k1 := HB4.out.cell 1
    have k2 := HB4.out.cell 2
    simp at k0 k1 k2
    go_upto_region 5 with (at_builtin; refine wpList_app rfl rfl el_byte rfl HO4.out rfl HQ4.out (ints_one _ _) (by simp only [maxLen]; omega) (by omega) HU4.out.size ?_; intro X5 c5 w5 hown hu hfr; generalize hNN : 4 + 4 = N5 at hown ⊢)
    have hvu : Upd [ob (some ⟨gb, 0, none⟩)] w4 w5 := hu
    have hN5 : N5 ≤ 8 := by omega
    have HO5 : Hid (Own w5 w.heap.size 5 1 X5 N5 c5 (([31, 139, 8, 0] ++ leB mt 4).map (Value.int .u8))) := by show Own _ _ _ _ _ _ _ _; simp only [List.map_append]; exact hown
    have HU5 : Hid (Upd [] w w5) := HU4.out.then hvu (fun b hb => by right; simp at hb; exact (HO4.out.base hb.symm).1)
    have HB5 := Lib.hid (HB4.out.upd hvu (by simp; exact fun h => HO4.out.neBlk HB4.out (by decide) h.symm))
    clear hown hu hvu hfr k0 k1 k2 hNN
    have k0 := HB5.out.cell 0
    have k1 := HB5.out.cell 1
    have k2 := HB5.out.cell 2
    simp at k0 k1 k2
    go_upto_region 6 with (at_builtin; refine wpList_app rfl rfl el_byte rfl (HO5.out.alloc _) rfl (ints2 w5 0 3 _) (by intro u hu; simp at hu; rcases hu with rfl | rfl <;> rfl) (by simp only [maxLen]; omega) (by omega) (by simp; have := HU5.out.size; omega) ?_; intro X6 c6 w6 hown hu hfr; generalize hNN : N5 + 2 = N6 at hown ⊢)
    have hvu : Upd [ob X5] w5 w6 := ((Upd.refl _ _).alloc _).trans hu
    have hN6 : N6 ≤ 10 := by omega
    have HO6 : Hid (Own w6 w.heap.size 5 1 X6 N6 c6 (([31, 139, 8, 0] ++ leB mt 4 ++ [0, 3]).map (Value.int .u8))) := by show Own _ _ _ _ _ _ _ _; simp only [List.map_append]; simp only [List.map_append] at hown; exact hown
    have HU6 : Hid (Upd [] w w6) := HU5.out.then hvu (fun b hb => by right; simp at hb; exact (HO5.out.base hb.symm).1)
    have HB6 := Lib.hid (HB5.out.upd hvu (by simp; exact fun h => HO5.out.neBlk HB5.out (by decide) h.symm))
    clear hown hu hvu hfr k0 k1 k2
    clear hNN
    have k0 := HB6.out.cell 0
    have k1 := HB6.out.cell 1
    have k2 := HB6.out.cell 2
    simp at k0 k1 k2
    go_upto_region 9 with (fail)
    go_upto_region 10 with (at_builtin; refine wpList_app rfl rfl el_byte rfl HO6.out rfl (HP.out.upd HU6.out (by simp)) (ints_one _ _) (by simp only [maxLen]; omega) (by omega) HU6.out.size ?_; intro X9 c9 w9 hown hu hfr; generalize hNN : N6 + pn = N9 at hown ⊢)
    have hvu : Upd [ob X6] w6 w9 := hu
    have hN9 : N9 ≤ 3000211 := by omega
    have HO9 : Hid (Own w9 w.heap.size 5 1 X9 N9 c9 (([31, 139, 8, 0] ++ leB mt 4 ++ [0, 3] ++ out).map (Value.int .u8))) := by show Own _ _ _ _ _ _ _ _; simp only [List.map_append]; simp only [List.map_append] at hown; exact hown
    have HU9 : Hid (Upd [] w w9) := HU6.out.then hvu (fun b hb => by right; simp at hb; exact (HO6.out.base hb.symm).1)
    have HB9 := Lib.hid (HB6.out.upd hvu (by simp; exact fun h => HO6.out.neBlk HB6.out (by decide) h.symm))
    clear hown hu hvu hfr k0 k1 k2
    clear hNN
    have k0 := HB9.out.cell 0
    have k1 := HB9.out.cell 1
    have k2 := HB9.out.cell 2
    simp at k0 k1 k2
    go_wp2_with fail
    refine (rcrc_any A n c zs w9 (HS.out.upd HU9.out (by simp)) HZ.out (by omega)).mono ?_
    rintro e w' ⟨rfl, rfl⟩
    obtain ⟨q, hq⟩ : ∃ q, q = crcOf zs := ⟨_, rfl⟩
    have hqb := crcOf_bd zs
    rw [← hq] at hqb
    have hq0 := hqb.1
    have hq1 := hqb.2
    rw [show not32 (crcL 4294967295 zs) = q from hq.symm]
    have HCQ := Lib.hid hq
    clear hq hqb
    go_wp2_with fail
    refine (rle_any w9 q (by omega) (by omega)).mono ?_
    rintro e w10 ⟨Q10, q10, rfl, hq, hqu⟩
    have HO10 := Lib.hid (HO9.out.upd hqu (by simp))
    have HU10 := Lib.hid (HU9.out.trans hqu)
    have HB10 := Lib.hid (HB9.out.upd hqu (by simp))
    have HQ10 := Lib.hid (Ints.ofOwn hq)
    clear hq hqu k0 k1 k2
    have k0 := HB10.out.cell 0
    have k1 := HB10.out.cell 1
    have k2 := HB10.out.cell 2
    simp at k0 k1 k2
    go_upto_region 11 with (at_builtin; refine wpList_app rfl rfl el_byte rfl HO10.out rfl HQ10.out (ints_one _ _) (by simp only [maxLen]; omega) (by omega) HU10.out.size ?_; intro X11 c11 w11 hown hu hfr; generalize hNN : N9 + 4 = N11 at hown ⊢)
    have hvu : Upd [ob X9] w10 w11 := hu
    have hN11 : N11 ≤ 3000215 := by omega
    have HO11 : Hid (Own w11 w.heap.size 5 1 X11 N11 c11 (([31, 139, 8, 0] ++ leB mt 4 ++ [0, 3] ++ out ++ leB q 4).map (Value.int .u8))) := by show Own _ _ _ _ _ _ _ _; simp only [List.map_append]; simp only [List.map_append] at hown; exact hown
    have HU11 : Hid (Upd [] w w11) := HU10.out.then hvu (fun b hb => by right; simp at hb; exact (HO10.out.base hb.symm).1)
    have HB11 := Lib.hid (HB10.out.upd hvu (by simp; exact fun h => HO10.out.neBlk HB10.out (by decide) h.symm))
    clear hown hu hvu hfr k0 k1 k2 hNN
    have k0 := HB11.out.cell 0
    have k1 := HB11.out.cell 1
    have k2 := HB11.out.cell 2
    simp at k0 k1 k2
    go_wp2_with fail
    refine (rle_any w11 (n : Int) (by omega) (by omega)).mono ?_
    rintro e w12 ⟨Q12, q12, rfl, hq, hqu⟩
    have HO12 := Lib.hid (HO11.out.upd hqu (by simp))
    have HU12 := Lib.hid (HU11.out.trans hqu)
    have HB12 := Lib.hid (HB11.out.upd hqu (by simp))
    have HQ12 := Lib.hid (Ints.ofOwn hq)
    clear hq hqu k0 k1 k2
    have k0 := HB12.out.cell 0
    have k1 := HB12.out.cell 1
    have k2 := HB12.out.cell 2
    simp at k0 k1 k2
    go_wp2_with (at_builtin; refine wpList_app rfl rfl el_byte rfl HO12.out rfl HQ12.out (ints_one _ _) (by simp only [maxLen]; omega) (by omega) HU12.out.size ?_; intro X13 c13 w13 hown hu hfr; generalize hNN : N11 + 4 = N13 at hown ⊢)
    have HU13 : Hid (Upd [] w w13) := HU12.out.then hu (fun b hb => by right; simp at hb; exact (HO12.out.base hb.symm).1)
    have HO13 : Hid (Own w13 w.heap.size 5 1 X13 N13 c13 (([31, 139, 8, 0] ++ leB mt 4 ++ [0, 3] ++ out ++ leB q 4 ++ leB (n : Int) 4).map (Value.int .u8))) := by show Own _ _ _ _ _ _ _ _; simp only [List.map_append]; simp only [List.map_append] at hown; exact hown
    clear hown hu hfr hNN k0 k1 k2
    go_ret
    have hL : [31, 139, 8, 0] ++ leB mt 4 ++ [0, 3] ++ out ++ leB q 4 ++ leB (n : Int) 4 = gzBytes s mt out zs := by
      rw [HCQ.out, ← HL.out]
      unfold gzBytes sums8
      have h1 : gzFlag s = 0 := if_pos H0.out
      have h2 : sb (gzTail s) = [] := by
        unfold gzTail
        rw [if_pos H0.out]
        rfl
      rw [h1, h2]
      simp
    have hlen : N13 = (gzBytes s mt out zs).length := by
      have h := HO13.out.len
      rw [hL, List.length_map] at h
      omega
    have HF := HO13.out
    rw [hL, hlen] at HF
    exact ⟨X13, c13, by rw [← hlen]; rfl, HF, HU13.out⟩
  · have hemp : s.toList.isEmpty = false := by
      rw [ByteArray.toList_eq]
      cases hl : s.data.toList with
      | nil => exact absurd (show s.data.toList.length = 0 by rw [hl]; rfl) h0
      | cons _ _ => rfl
    have H0 := Lib.hid h0
    clear h0
    go_enter Tryd.func20, Tryd.ntmps20
    go_upto_region 1 with (fail)
    rw [← hg] at HB1 ⊢
    generalize hw1 : w.alloc _ = w1 at HB1 HU1 ⊢
    clear hw1 hg
    have k0 := HB1.out.cell 0
    have k1 := HB1.out.cell 1
    have k2 := HB1.out.cell 2
    simp at k0 k1 k2
    have hv2 : Upd [] w1 (w1.alloc (.cells #[.int .u8 31, .int .u8 139, .int .u8 8, .int .u8 0] 5)) := (Upd.refl _ _).alloc _
    have hb2 : Blk (w1.alloc (.cells #[.int .u8 31, .int .u8 139, .int .u8 8, .int .u8 0] 5)) w1.heap.size 5 #[.int .u8 31, .int .u8 139, .int .u8 8, .int .u8 0] := Blk.new _ _ _
    have HU2 := Lib.hid (HU1.out.trans hv2)
    have HB2 := Lib.hid (HB1.out.upd hv2 (by simp))
    obtain ⟨gb, hgb⟩ : ∃ gb, gb = w1.heap.size := ⟨_, rfl⟩
    have hgb2 : w.heap.size ≤ gb := by rw [hgb]; exact HU1.out.size
    rw [← hgb] at hb2
    go_upto_region 2 with (fail)
    rw [← hgb]
    generalize w1.alloc _ = w2 at hv2 hb2 HU2 HB2 ⊢
    have hne2 : g ≠ gb := fun e => by rw [hgb] at e; have := HB1.out.lt; omega
    clear hv2 hgb k0 k1 k2
    have k0 := HB2.out.cell 0
    have k1 := HB2.out.cell 1
    have k2 := HB2.out.cell 2
    simp at k0 k1 k2
    have f3 := hb2.frozen 3
    have hix3 : ∀ W : World, (Instr.indexAt 22 (.slice (some ⟨gb, 0, none⟩) 4 4) (.int .i64 3)).run Tryd.prog W = .ok (.pointer (some ⟨gb, 3, none⟩)) W := fun W => by
      have h := (Ints.index (zs := [31, 139, 8, 0]) (kd := .u8) hb2.seg el_byte 4 .i64 3 (by decide)) W
      simpa [bl, ofs] using h
    have c3 := hb2.cell 3
    simp at c3
    go_upto_region 4 with (fail)
    have HO3 : Hid (Own (w2.setCell ⟨gb, 3, none⟩ (.int .u8 8)) w.heap.size 5 1 (some ⟨gb, 0, none⟩) 4 4 (([31, 139, 8, 8] : List Int).map (Value.int .u8))) := Own.mk rfl (Nat.le_refl _) (by simp [maxLen]) rfl hgb2 (hb2.set 3 (.int .u8 8)) rfl rfl
    have HU3 := Lib.hid (HU2.out.put (o := 3) hgb2 (.int .u8 8))
    have HB3 := Lib.hid (HB2.out.far (p := ⟨gb, 3, none⟩) hne2 (.int .u8 8))
    clear hb2 k0 k1 k2 f3 c3 hix3
    generalize World.setCell _ _ _ = w3 at HO3 HU3 HB3 ⊢
    have k0 := HB3.out.cell 0
    have k1 := HB3.out.cell 1
    have k2 := HB3.out.cell 2
    simp at k0 k1 k2
    go_wp2_with fail
    refine (rle_any w3 mt (by omega) (by omega)).mono ?_
    rintro e w4 ⟨Q4, q4, rfl, hq, hqu⟩
    have HO4 := Lib.hid (HO3.out.upd hqu (by simp))
    have HU4 := Lib.hid (HU3.out.trans hqu)
    have HB4 := Lib.hid (HB3.out.upd hqu (by simp))
    have HQ4 := Lib.hid (Ints.ofOwn hq)
    clear hq hqu k0 k1 k2
    have k0 := HB4.out.cell 0
    have k1 := HB4.out.cell 1
    have k2 := HB4.out.cell 2
    simp at k0 k1 k2
    go_upto_region 5 with (at_builtin; refine wpList_app rfl rfl el_byte rfl HO4.out rfl HQ4.out (ints_one _ _) (by simp only [maxLen]; omega) (by omega) HU4.out.size ?_; intro X5 c5 w5 hown hu hfr; generalize hNN : 4 + 4 = N5 at hown ⊢)
    have hvu : Upd [ob (some ⟨gb, 0, none⟩)] w4 w5 := hu
    have hN5 : N5 ≤ 8 := by omega
    have HO5 : Hid (Own w5 w.heap.size 5 1 X5 N5 c5 (([31, 139, 8, 8] ++ leB mt 4).map (Value.int .u8))) := by show Own _ _ _ _ _ _ _ _; simp only [List.map_append]; exact hown
    have HU5 : Hid (Upd [] w w5) := HU4.out.then hvu (fun b hb => by right; simp at hb; exact (HO4.out.base hb.symm).1)
    have HB5 := Lib.hid (HB4.out.upd hvu (by simp; exact fun h => HO4.out.neBlk HB4.out (by decide) h.symm))
    clear hown hu hvu hfr k0 k1 k2 hNN
    have k0 := HB5.out.cell 0
    have k1 := HB5.out.cell 1
    have k2 := HB5.out.cell 2
    simp at k0 k1 k2
    go_upto_region 6 with (at_builtin; refine wpList_app rfl rfl el_byte rfl (HO5.out.alloc _) rfl (ints2 w5 0 3 _) (by intro u hu; simp at hu; rcases hu with rfl | rfl <;> rfl) (by simp only [maxLen]; omega) (by omega) (by simp; have := HU5.out.size; omega) ?_; intro X6 c6 w6 hown hu hfr; generalize hNN : N5 + 2 = N6 at hown ⊢)
    have hvu : Upd [ob X5] w5 w6 := ((Upd.refl _ _).alloc _).trans hu
    have hN6 : N6 ≤ 10 := by omega
    have HO6 : Hid (Own w6 w.heap.size 5 1 X6 N6 c6 (([31, 139, 8, 8] ++ leB mt 4 ++ [0, 3]).map (Value.int .u8))) := by show Own _ _ _ _ _ _ _ _; simp only [List.map_append]; simp only [List.map_append] at hown; exact hown
    have HU6 : Hid (Upd [] w w6) := HU5.out.then hvu (fun b hb => by right; simp at hb; exact (HO5.out.base hb.symm).1)
    have HB6 := Lib.hid (HB5.out.upd hvu (by simp; exact fun h => HO5.out.neBlk HB5.out (by decide) h.symm))
    clear hown hu hvu hfr k0 k1 k2
    clear hNN
    have k0 := HB6.out.cell 0
    have k1 := HB6.out.cell 1
    have k2 := HB6.out.cell 2
    simp at k0 k1 k2
    go_upto_region 8 with (at_builtin; refine wpList_appS rfl rfl el_byte Tryd.underlying9 rfl HO6.out rfl (by simp only [maxLen]; omega) (by omega) HU6.out.size ?_; intro X7 c7 w7 hown hu hfr; generalize hNN : N6 + s.size = N7 at hown ⊢)
    have hvu : Upd [ob X6] w6 w7 := hu
    have hN7 : N7 ≤ 210 := by omega
    have HO7 : Hid (Own w7 w.heap.size 5 1 X7 N7 c7 (([31, 139, 8, 8] ++ leB mt 4 ++ [0, 3] ++ sb s).map (Value.int .u8))) := by show Own _ _ _ _ _ _ _ _; simp only [List.map_append]; simp only [List.map_append] at hown; exact hown
    have HU7 : Hid (Upd [] w w7) := HU6.out.then hvu (fun b hb => by right; simp at hb; exact (HO6.out.base hb.symm).1)
    have HB7 := Lib.hid (HB6.out.upd hvu (by simp; exact fun h => HO6.out.neBlk HB6.out (by decide) h.symm))
    clear hown hu hvu hfr k0 k1 k2
    clear hNN
    have k0 := HB7.out.cell 0
    have k1 := HB7.out.cell 1
    have k2 := HB7.out.cell 2
    simp at k0 k1 k2
    go_upto_region 9 with (at_builtin; refine wpList_app rfl rfl el_byte rfl (HO7.out.alloc _) rfl (Seg.one w7 _ _) (by intro u hu; simp at hu; subst hu; rfl) (by simp only [maxLen]; omega) (by omega) (by simp; have := HU7.out.size; omega) ?_; intro X8 c8 w8 hown hu hfr; generalize hNN : N7 + 1 = N8 at hown ⊢)
    have hvu : Upd [ob X7] w7 w8 := ((Upd.refl _ _).alloc _).trans hu
    have hN8 : N8 ≤ 211 := by omega
    have HO8 : Hid (Own w8 w.heap.size 5 1 X8 N8 c8 (([31, 139, 8, 8] ++ leB mt 4 ++ [0, 3] ++ sb s ++ [0]).map (Value.int .u8))) := by show Own _ _ _ _ _ _ _ _; simp only [List.map_append]; simp only [List.map_append] at hown; exact hown
    have HU8 : Hid (Upd [] w w8) := HU7.out.then hvu (fun b hb => by right; simp at hb; exact (HO7.out.base hb.symm).1)
    have HB8 := Lib.hid (HB7.out.upd hvu (by simp; exact fun h => HO7.out.neBlk HB7.out (by decide) h.symm))
    clear hown hu hvu hfr k0 k1 k2
    clear hNN
    have k0 := HB8.out.cell 0
    have k1 := HB8.out.cell 1
    have k2 := HB8.out.cell 2
    simp at k0 k1 k2
    go_upto_region 10 with (at_builtin; refine wpList_app rfl rfl el_byte rfl HO8.out rfl (HP.out.upd HU8.out (by simp)) (ints_one _ _) (by simp only [maxLen]; omega) (by omega) HU8.out.size ?_; intro X9 c9 w9 hown hu hfr; generalize hNN : N8 + pn = N9 at hown ⊢)
    have hvu : Upd [ob X8] w8 w9 := hu
    have hN9 : N9 ≤ 3000211 := by omega
    have HO9 : Hid (Own w9 w.heap.size 5 1 X9 N9 c9 (([31, 139, 8, 8] ++ leB mt 4 ++ [0, 3] ++ sb s ++ [0] ++ out).map (Value.int .u8))) := by show Own _ _ _ _ _ _ _ _; simp only [List.map_append]; simp only [List.map_append] at hown; exact hown
    have HU9 : Hid (Upd [] w w9) := HU8.out.then hvu (fun b hb => by right; simp at hb; exact (HO8.out.base hb.symm).1)
    have HB9 := Lib.hid (HB8.out.upd hvu (by simp; exact fun h => HO8.out.neBlk HB8.out (by decide) h.symm))
    clear hown hu hvu hfr k0 k1 k2
    clear hNN
    have k0 := HB9.out.cell 0
    have k1 := HB9.out.cell 1
    have k2 := HB9.out.cell 2
    simp at k0 k1 k2
    go_wp2_with fail
    refine (rcrc_any A n c zs w9 (HS.out.upd HU9.out (by simp)) HZ.out (by omega)).mono ?_
    rintro e w' ⟨rfl, rfl⟩
    obtain ⟨q, hq⟩ : ∃ q, q = crcOf zs := ⟨_, rfl⟩
    have hqb := crcOf_bd zs
    rw [← hq] at hqb
    have hq0 := hqb.1
    have hq1 := hqb.2
    rw [show not32 (crcL 4294967295 zs) = q from hq.symm]
    have HCQ := Lib.hid hq
    clear hq hqb
    go_wp2_with fail
    refine (rle_any w9 q (by omega) (by omega)).mono ?_
    rintro e w10 ⟨Q10, q10, rfl, hq, hqu⟩
    have HO10 := Lib.hid (HO9.out.upd hqu (by simp))
    have HU10 := Lib.hid (HU9.out.trans hqu)
    have HB10 := Lib.hid (HB9.out.upd hqu (by simp))
    have HQ10 := Lib.hid (Ints.ofOwn hq)
    clear hq hqu k0 k1 k2
    have k0 := HB10.out.cell 0
    have k1 := HB10.out.cell 1
    have k2 := HB10.out.cell 2
    simp at k0 k1 k2
    go_upto_region 11 with (at_builtin; refine wpList_app rfl rfl el_byte rfl HO10.out rfl HQ10.out (ints_one _ _) (by simp only [maxLen]; omega) (by omega) HU10.out.size ?_; intro X11 c11 w11 hown hu hfr; generalize hNN : N9 + 4 = N11 at hown ⊢)
    have hvu : Upd [ob X9] w10 w11 := hu
    have hN11 : N11 ≤ 3000215 := by omega
    have HO11 : Hid (Own w11 w.heap.size 5 1 X11 N11 c11 (([31, 139, 8, 8] ++ leB mt 4 ++ [0, 3] ++ sb s ++ [0] ++ out ++ leB q 4).map (Value.int .u8))) := by show Own _ _ _ _ _ _ _ _; simp only [List.map_append]; simp only [List.map_append] at hown; exact hown
    have HU11 : Hid (Upd [] w w11) := HU10.out.then hvu (fun b hb => by right; simp at hb; exact (HO10.out.base hb.symm).1)
    have HB11 := Lib.hid (HB10.out.upd hvu (by simp; exact fun h => HO10.out.neBlk HB10.out (by decide) h.symm))
    clear hown hu hvu hfr k0 k1 k2 hNN
    have k0 := HB11.out.cell 0
    have k1 := HB11.out.cell 1
    have k2 := HB11.out.cell 2
    simp at k0 k1 k2
    go_wp2_with fail
    refine (rle_any w11 (n : Int) (by omega) (by omega)).mono ?_
    rintro e w12 ⟨Q12, q12, rfl, hq, hqu⟩
    have HO12 := Lib.hid (HO11.out.upd hqu (by simp))
    have HU12 := Lib.hid (HU11.out.trans hqu)
    have HB12 := Lib.hid (HB11.out.upd hqu (by simp))
    have HQ12 := Lib.hid (Ints.ofOwn hq)
    clear hq hqu k0 k1 k2
    have k0 := HB12.out.cell 0
    have k1 := HB12.out.cell 1
    have k2 := HB12.out.cell 2
    simp at k0 k1 k2
    go_wp2_with (at_builtin; refine wpList_app rfl rfl el_byte rfl HO12.out rfl HQ12.out (ints_one _ _) (by simp only [maxLen]; omega) (by omega) HU12.out.size ?_; intro X13 c13 w13 hown hu hfr; generalize hNN : N11 + 4 = N13 at hown ⊢)
    have HU13 : Hid (Upd [] w w13) := HU12.out.then hu (fun b hb => by right; simp at hb; exact (HO12.out.base hb.symm).1)
    have HO13 : Hid (Own w13 w.heap.size 5 1 X13 N13 c13 (([31, 139, 8, 8] ++ leB mt 4 ++ [0, 3] ++ sb s ++ [0] ++ out ++ leB q 4 ++ leB (n : Int) 4).map (Value.int .u8))) := by show Own _ _ _ _ _ _ _ _; simp only [List.map_append]; simp only [List.map_append] at hown; exact hown
    clear hown hu hfr hNN k0 k1 k2
    go_ret
    have hL : [31, 139, 8, 8] ++ leB mt 4 ++ [0, 3] ++ sb s ++ [0] ++ out ++ leB q 4 ++ leB (n : Int) 4 = gzBytes s mt out zs := by
      rw [HCQ.out, ← HL.out]
      unfold gzBytes sums8
      have h1 : gzFlag s = 8 := if_neg H0.out
      rw [h1, sb_tail s H0.out]
      simp
    have hlen : N13 = (gzBytes s mt out zs).length := by
      have h := HO13.out.len
      rw [hL, List.length_map] at h
      omega
    have HF := HO13.out
    rw [hL, hlen] at HF
    exact ⟨X13, c13, by rw [← hlen]; rfl, HF, HU13.out⟩

end Go.Proofs.YtolcdlopgbgilaaDoor

/-! Text GzQ. -/
namespace Go.Proofs.YtolcdlopgbgilaaDoor
open Go.RowKit Go.Dray

/-- Deflate hands back something. -/
def DeflSome (w : World) (e : Ending) (w' : World) : Prop := ∃ X xn xc er, e = .returned (.tuple #[.slice X xn xc, .int .i64 er]) ∧ Upd [] w w'
theorem deflOk_any (A : Option Addr) (n c : Nat) (zs : List Int) (how : Int) (w : World) (hs : Ints .u8 w A n zs) (hz : ∀ z ∈ zs, 0 ≤ z ∧ z ≤ 255) (hnc : n ≤ c) (hn : n ≤ 3000) (hh : how = 0 ∨ how = 1 ∨ how = 2) (hO : OrdD w) :
    Calls Tryd.prog 15 #[.slice A n c, .int .i64 how] w (DeflPost w zs how) := by
  rcases hh with rfl | rfl | rfl
  · exact deflate_stored A n c zs w hs hz hnc (by omega)
  · exact deflate_fixed A n c zs w hs hz hnc hn
  · exact deflate_dynamic A n c zs w hs hz hnc hn hO
theorem deflSome_any (A : Option Addr) (n c : Nat) (zs : List Int) (how : Int) (w : World) (hs : Ints .u8 w A n zs) (hz : ∀ z ∈ zs, 0 ≤ z ∧ z ≤ 255) (hnc : n ≤ c) (hn : n ≤ 3000) (hO : OrdD w) :
    Calls Tryd.prog 15 #[.slice A n c, .int .i64 how] w (DeflSome w) := by
  by_cases hh : how < 0 ∨ 2 < how
  · refine (deflate_bad A n c how w hh).mono ?_
    rintro e w' ⟨rfl, rfl⟩
    exact ⟨_, _, _, _, rfl, Upd.refl _ _⟩
  · refine (deflOk_any A n c zs how w hs hz hnc hn (by omega) hO).mono ?_
    rintro e w' ⟨X, xc, out, rfl, _, _, _, hu⟩
    exact ⟨_, _, _, _, rfl, hu⟩

set_option maxRecDepth 100000 in
set_option maxHeartbeats 8000000 in
theorem gzipPacks_walk (s : ByteArray) (mt : Int) (A : Option Addr) (n c : Nat) (zs : List Int) (how : Int) (w : World) (hin : InInts .u8 w A n c zs) (_ : (Lit.int .i64 how).wf = true) (hT : Ords w) :
    Calls Tryd.prog 8 #[.agg #[.string s, .int .i64 mt, .slice A n c], .int .i64 how] w fun e w' => e = .returned (.bool true) ∧ Below w.heap.size w w' := by
  have HZ := Lib.hid (inBytes_bd hin)
  have HT := Lib.hid hT
  have HS := Lib.hid hin.1
  have hnc := hin.2.1
  have HL := hin.1.len
  clear hin hT
  have HB1 : Hid (Blk (w.alloc (.cells #[.string s, .int .i64 mt, .slice A n c] 37)) w.heap.size 37 #[.string s, .int .i64 mt, .slice A n c]) := Blk.new w _ _
  have HU1 : Hid (Upd [] w (w.alloc (.cells #[.string s, .int .i64 mt, .slice A n c] 37))) := (Upd.refl _ _).alloc _
  obtain ⟨g, hg⟩ : ∃ g, g = w.heap.size := ⟨_, rfl⟩
  by_cases h1 : 3000 < n
  · have d1 : decide ((3000 : Int) < n) = true := by simp; omega
    go_enter Tryd.func8, Tryd.ntmps8
    go_upto_region 1 with (fail)
    rw [← hg] at HB1 ⊢
    generalize hw1 : w.alloc _ = w1 at HB1 HU1 ⊢
    clear hw1 hg
    go_wp2_with fail
    refine (awake6_any w1 (HT.out.upd HU1.out)).mono ?_
    rintro e w2 ⟨rfl, hu2⟩
    have HU2 := Lib.hid (HU1.out.trans hu2)
    have HB2 := Lib.hid (HB1.out.upd hu2 (by simp))
    have HT2 := Lib.hid (HT.out.upd HU2.out)
    have HS2 := Lib.hid (HS.out.upd HU2.out (by simp))
    clear hu2 HU1 HB1 HT HS
    have k0 := HB2.out.cell 0
    have k1 := HB2.out.cell 1
    have k2 := HB2.out.cell 2
    simp at k0 k1 k2
    go_wp2
    go_ret
    exact ⟨rfl, HU2.out.below (Nat.le_refl _) (by simp)⟩
  · have d1 : decide ((3000 : Int) < n) = false := by simp; omega
    have hn : n ≤ 3000 := by omega
    by_cases h2 : 1000 < s.size
    · have d2 : decide ((1000 : Int) < s.size) = true := by simp; omega
      go_enter Tryd.func8, Tryd.ntmps8
      go_upto_region 1 with (fail)
      rw [← hg] at HB1 ⊢
      generalize hw1 : w.alloc _ = w1 at HB1 HU1 ⊢
      clear hw1 hg
      go_wp2_with fail
      refine (awake6_any w1 (HT.out.upd HU1.out)).mono ?_
      rintro e w2 ⟨rfl, hu2⟩
      have HU2 := Lib.hid (HU1.out.trans hu2)
      have HB2 := Lib.hid (HB1.out.upd hu2 (by simp))
      have HT2 := Lib.hid (HT.out.upd HU2.out)
      have HS2 := Lib.hid (HS.out.upd HU2.out (by simp))
      clear hu2 HU1 HB1 HT HS
      have k0 := HB2.out.cell 0
      have k1 := HB2.out.cell 1
      have k2 := HB2.out.cell 2
      simp at k0 k1 k2
      go_wp2
      go_ret
      exact ⟨rfl, HU2.out.below (Nat.le_refl _) (by simp)⟩
    · have d2 : decide ((1000 : Int) < s.size) = false := by simp; omega
      by_cases hb : BadM s mt
      · have HBM := Lib.hid hb
        obtain ⟨er, her⟩ : ∃ er, er = errM mt := ⟨_, rfl⟩
        have hne : er ≠ 0 := by rw [her]; unfold errM; split <;> omega
        have dne : (er != 0) = true := by simpa using hne
        have HER := Lib.hid her
        clear hb her hne
        go_enter Tryd.func8, Tryd.ntmps8
        go_upto_region 1 with (fail)
        rw [← hg] at HB1 ⊢
        generalize hw1 : w.alloc _ = w1 at HB1 HU1 ⊢
        clear hw1 hg
        go_wp2_with fail
        refine (awake6_any w1 (HT.out.upd HU1.out)).mono ?_
        rintro e w2 ⟨rfl, hu2⟩
        have HU2 := Lib.hid (HU1.out.trans hu2)
        have HB2 := Lib.hid (HB1.out.upd hu2 (by simp))
        have HT2 := Lib.hid (HT.out.upd HU2.out)
        have HS2 := Lib.hid (HS.out.upd HU2.out (by simp))
        clear hu2 HU1 HB1 HT HS
        have k0 := HB2.out.cell 0
        have k1 := HB2.out.cell 1
        have k2 := HB2.out.cell 2
        simp at k0 k1 k2
        go_wp2_with fail
        refine (pack_bad s mt A n c how w2 HBM.out).mono ?_
        rintro e w3 ⟨rfl, hu⟩
        have HU3 := Lib.hid (HU2.out.trans hu)
        have HB3 := Lib.hid (HB2.out.upd hu (by simp))
        have HS3 := Lib.hid (HS2.out.upd hu (by simp))
        rw [← HER.out]
        have HT3 := Lib.hid (HT2.out.upd hu)
        clear hu k0 k1 k2
        have k0 := HB3.out.cell 0
        have k1 := HB3.out.cell 1
        have k2 := HB3.out.cell 2
        simp at k0 k1 k2
        go_wp2_with fail
        refine (deflSome_any A n c zs how w3 HS3.out HZ.out hnc hn (HT3.out.2)).mono ?_
        rintro e w4 ⟨X, xn, xc, e4, rfl, hu⟩
        have HU4 := Lib.hid (HU3.out.trans hu)
        have HB4 := Lib.hid (HB3.out.upd hu (by simp))
        have HS4 := Lib.hid (HS3.out.upd hu (by simp))
        clear hu k0 k1 k2
        have k0 := HB4.out.cell 0
        have k1 := HB4.out.cell 1
        have k2 := HB4.out.cell 2
        simp at k0 k1 k2
        go_wp2_with fail
        refine (bad_yes s mt A n c w4 (by omega) HBM.out).mono ?_
        rintro e w5 ⟨rfl, hu⟩
        have HU5 := Lib.hid (HU4.out.trans hu)
        have HB5 := Lib.hid (HB4.out.upd hu (by simp))
        have HS5 := Lib.hid (HS4.out.upd hu (by simp))
        rw [← HER.out]
        clear hu k0 k1 k2
        have k0 := HB5.out.cell 0
        have k1 := HB5.out.cell 1
        have k2 := HB5.out.cell 2
        simp at k0 k1 k2
        go_wp2
        go_ret
        exact ⟨rfl, HU5.out.below (Nat.le_refl _) (by simp)⟩
      · by_cases hh : how < 0 ∨ 2 < how
        · have HNB := Lib.hid hb
          clear hb
          go_enter Tryd.func8, Tryd.ntmps8
          go_upto_region 1 with (fail)
          rw [← hg] at HB1 ⊢
          generalize hw1 : w.alloc _ = w1 at HB1 HU1 ⊢
          clear hw1 hg
          go_wp2_with fail
          refine (awake6_any w1 (HT.out.upd HU1.out)).mono ?_
          rintro e w2 ⟨rfl, hu2⟩
          have HU2 := Lib.hid (HU1.out.trans hu2)
          have HB2 := Lib.hid (HB1.out.upd hu2 (by simp))
          have HT2 := Lib.hid (HT.out.upd HU2.out)
          have HS2 := Lib.hid (HS.out.upd HU2.out (by simp))
          clear hu2 HU1 HB1 HT HS
          have k0 := HB2.out.cell 0
          have k1 := HB2.out.cell 1
          have k2 := HB2.out.cell 2
          simp at k0 k1 k2
          go_wp2_with fail
          refine (pack_how s mt A n c how w2 HNB.out hh).mono ?_
          rintro e w3 ⟨rfl, hu⟩
          have HU3 := Lib.hid (HU2.out.trans hu)
          have HB3 := Lib.hid (HB2.out.upd hu (by simp))
          have HS3 := Lib.hid (HS2.out.upd hu (by simp))
          clear hu k0 k1 k2
          have k0 := HB3.out.cell 0
          have k1 := HB3.out.cell 1
          have k2 := HB3.out.cell 2
          simp at k0 k1 k2
          go_wp2_with fail
          refine (deflate_bad A n c how w3 hh).mono ?_
          rintro e w' ⟨rfl, rfl⟩
          clear hh
          go_wp2_with fail
          refine (bad_no s mt A n c w3 HNB.out).mono ?_
          rintro e w4 ⟨rfl, hu⟩
          have HU4 := Lib.hid (HU3.out.trans hu)
          clear hu k0 k1 k2
          go_wp2
          go_ret
          exact ⟨rfl, HU4.out.below (Nat.le_refl _) (by simp)⟩
        · have h012 : how = 0 ∨ how = 1 ∨ how = 2 := by omega
          have HNB := Lib.hid hb
          have hb' := hb
          unfold BadM at hb'
          have hm0 : 0 ≤ mt := by omega
          have hm1 : mt ≤ 4294967295 := by omega
          have hsz : s.size ≤ 200 := by omega
          have HNL : Hid (¬ 0 ≤ Lib.indexByte s.data.toList 0) := fun e => hb' (Or.inr (Or.inl e))
          have H012 := Lib.hid h012
          clear hb hb' h012 hh
          go_enter Tryd.func8, Tryd.ntmps8
          go_upto_region 1 with (fail)
          rw [← hg] at HB1 ⊢
          generalize hw1 : w.alloc _ = w1 at HB1 HU1 ⊢
          clear hw1 hg
          go_wp2_with fail
          refine (awake6_any w1 (HT.out.upd HU1.out)).mono ?_
          rintro e w2 ⟨rfl, hu2⟩
          have HU2 := Lib.hid (HU1.out.trans hu2)
          have HB2 := Lib.hid (HB1.out.upd hu2 (by simp))
          have HT2 := Lib.hid (HT.out.upd HU2.out)
          have HS2 := Lib.hid (HS.out.upd HU2.out (by simp))
          clear hu2 HU1 HB1 HT HS
          have k0 := HB2.out.cell 0
          have k1 := HB2.out.cell 1
          have k2 := HB2.out.cell 2
          simp at k0 k1 k2
          go_wp2_with fail
          refine (pack_ok s mt A n c zs how w2 HS2.out HZ.out hnc hn H012.out HT2.out.2 hm0 hm1 (by have := HNL.out; omega) hsz).mono ?_
          rintro e w3 ⟨X, N, xc, out, rfl, hN, hown, hd, hol, hu⟩
          have HU3 := Lib.hid (HU2.out.trans hu)
          have HB3 := Lib.hid (HB2.out.upd hu (by simp))
          have HS3 := Lib.hid (HS2.out.upd hu (by simp))
          have HT3 := Lib.hid (HT2.out.upd hu)
          have HX3 := Lib.hid (Ints.ofOwn hown)
          have HD := Lib.hid hd
          have HNN := Lib.hid hN
          clear hown hd hN
          clear hu k0 k1 k2
          have k0 := HB3.out.cell 0
          have k1 := HB3.out.cell 1
          have k2 := HB3.out.cell 2
          simp at k0 k1 k2
          go_wp2_with fail
          refine (deflOk_any A n c zs how w3 HS3.out HZ.out hnc hn H012.out HT3.out.2).mono ?_
          rintro e w4 ⟨X2, xc2, out2, rfl, hown2, hd2, hol2, hu⟩
          have HU4 := Lib.hid (HU3.out.trans hu)
          have HB4 := Lib.hid (HB3.out.upd hu (by simp))
          have HS4 := Lib.hid (HS3.out.upd hu (by simp))
          obtain rfl := DefOut.uniq HD.out hd2
          have HX4 := Lib.hid (HX3.out.upd hu (by simp))
          have HP4 := Lib.hid (Ints.ofOwn hown2)
          clear hown2 hd2
          clear hu k0 k1 k2
          have k0 := HB4.out.cell 0
          have k1 := HB4.out.cell 1
          have k2 := HB4.out.cell 2
          simp at k0 k1 k2
          go_wp2_with fail
          refine (bad_no s mt A n c w4 HNB.out).mono ?_
          rintro e w5 ⟨rfl, hu⟩
          have HU5 := Lib.hid (HU4.out.trans hu)
          have HB5 := Lib.hid (HB4.out.upd hu (by simp))
          have HS5 := Lib.hid (HS4.out.upd hu (by simp))
          have HX5 := Lib.hid (HX4.out.upd hu (by simp))
          have HP5 := Lib.hid (HP4.out.upd hu (by simp))
          clear hu k0 k1 k2
          have k0 := HB5.out.cell 0
          have k1 := HB5.out.cell 1
          have k2 := HB5.out.cell 2
          simp at k0 k1 k2
          obtain ⟨pn, hpn⟩ : ∃ pn, pn = out.length := ⟨_, rfl⟩
          rw [← hpn] at HP5 hol2 hol ⊢
          obtain ⟨G, hG⟩ : ∃ G, G = gzBytes s mt out zs := ⟨_, rfl⟩
          rw [← hG] at HX5
          have HGG := Lib.hid hG
          have HWR : Hid (∀ W, Upd [] w5 W → Calls Tryd.prog 20 #[.agg #[.string s, .int .i64 mt, .slice A n c], .slice X2 pn xc2] W (NewBytes N G W)) := fun W hW => by
            have h := wrapped_any s mt A n c zs X2 pn xc2 out W (HS5.out.upd hW (by simp)) HZ.out hn (HP5.out.upd hW (by simp)) hol2 hm0 hm1 hsz
            rw [← HNN.out, ← HGG.out] at h
            exact h
          clear hpn hG
          have hcur : Upd [] w5 w5.drew := (Upd.refl _ _).drew
          have st1 : ∀ W, Upd [] w5 W → (convert 22 9 (.slice X N xc)).run Tryd.prog W = .ok (.string (strOfNums G)) W := fun W hW => str_cut (HX5.out.upd hW (by simp))
          have st10 := st1 _ hcur
          have HST := Lib.hid st1
          have HBB : Hid (∀ W, Upd [] w5 W → W.cell? ⟨g, 0, none⟩ = some (.string s) ∧ W.cell? ⟨g, 1, none⟩ = some (.int .i64 mt) ∧ W.cell? ⟨g, 2, none⟩ = some (.slice A n c)) := fun W hW => by
            have h := HB5.out.upd hW (by simp)
            exact ⟨by rw [h.cell]; rfl, by rw [h.cell]; rfl, by rw [h.cell]; rfl⟩
          clear st1
          go_upto_region 12 with (fail)
          go_region_with (go_at_call 20; refine (HWR.out _ (by assumption)).mono ?_; rintro e wa ⟨Q, qc, rfl, ho, hv⟩; have hca := Upd.trans (by assumption) hv; have st2 := str_cut (c := qc) (Ints.ofOwn ho); have st1 := HST.out _ hca; obtain ⟨k0, k1, k2⟩ := HBB.out _ hca)
          all_goals
            go_wp2
            go_ret
            exact ⟨rfl, (HU5.out.trans (by assumption)).below (Nat.le_refl _) (by simp)⟩

end Go.Proofs.YtolcdlopgbgilaaDoor

/-! Text GzG. -/
namespace Go.Proofs.YtolcdlopgbgilaaDoor
open Go.ChangeShapes Go.WideShapes Go.ChangeAt Go.RowKit Go.Dray

theorem under_mem : ∃ f0 f1 f2 : Field, Tryd.prog.underlying 37 = some (.struct #[f0, f1, f2]) ∧ f0.type = 9 ∧ f0.offset = 0 ∧ f1.type = 3 ∧ f1.offset = 1 ∧ f2.type = 22 ∧ f2.offset = 2 :=
  ⟨_, _, _, Tryd.underlying37, rfl, rfl, rfl, rfl, rfl, rfl⟩

section
variable {H : Type} {enc : TypeId × Value → H} {W : World} {base : Nat} {sp : Nat → Bool} {held : Bool}
theorem mem_cell_ints {T E : TypeId} {k : IntKind} {fuel : Nat} {v : Value} {x : DataW H × List MemPlace} (hT : Tryd.prog.underlying T = some (.slice E)) (hE : Tryd.prog.underlying E = some (.int k)) (hc : Tryd.prog.cellsOf E = 1)
    (h : DataW.trod enc Tryd.prog W base sp held fuel T [v] = some x) : ∃ A n c zs, v = .slice A n c ∧ InInts k W A n c zs := by
  have hv : ∃ A' m d', v = .slice A' m d' := by
    rcases open_ints hT hE hc h with ⟨hcs, _⟩ | ⟨a, l, c', zs, hcs, _⟩
    · injection hcs with hcs; exact ⟨_, _, _, hcs⟩
    · injection hcs with hcs; exact ⟨_, _, _, hcs⟩
  obtain ⟨A', m, d', rfl⟩ := hv
  obtain ⟨zs, hz⟩ := open_in (A := A') (n := m) (c := d') (d := x.1) (p := x.2) hT hE hc ⟨fuel, h⟩
  exact ⟨A', m, d', zs, rfl, hz⟩
set_option maxRecDepth 100000 in
theorem open_mem {fuel : Nat} {cs : List Value} {x : DataW H × List MemPlace} (hl : cs.length = 3) (h : DataW.trod enc Tryd.prog W base sp held fuel 37 cs = some x) :
    ∃ p m, cs = memC p m ∧ InInts .u8 W p.A p.n p.c m.data := by
  obtain ⟨f0, f1, f2, hu, t0, o0, t1, o1, t2, o2⟩ := under_mem
  obtain ⟨xs, n, _, _, _, hlen, hf⟩ := DataW.trod_struct hu h
  match cs, hl, xs, hlen with
  | [v0, v1, v2], _, [y0, y1, y2], _ =>
    have g0 := hf 0 f0 rfl
    have g1 := hf 1 f1 rfl
    have g2 := hf 2 f2 rfl
    rw [t0, o0, show Tryd.prog.cellsOf 9 = 1 by kernel_rfl] at g0
    rw [t1, o1, show Tryd.prog.cellsOf 3 = 1 by kernel_rfl] at g1
    rw [t2, o2, show Tryd.prog.cellsOf 22 = 1 by kernel_rfl] at g2
    simp only [List.drop_zero, List.drop_succ_cons, List.take_succ_cons, List.take_zero, List.getElem?_cons_zero, List.getElem?_cons_succ] at g0 g1 g2
    obtain ⟨s, hs, _, _⟩ := DataW.trod_string Tryd.underlying9 g0
    obtain ⟨b, hb, _, _⟩ := DataW.trod_int Tryd.underlying3 g1
    obtain ⟨A2, n2, c2, z2, rfl, h2⟩ := mem_cell_ints Tryd.underlying22 Tryd.underlying5 (by kernel_rfl) g2
    simp at hs hb
    subst hs hb
    exact ⟨⟨A2, n2, c2⟩, ⟨b, s, z2⟩, rfl, h2⟩
set_option maxRecDepth 100000 in
/-- A member that came in by value. -/
theorem open_memb {b0 : Nat} {v : Value} {d : DataW H} {p : List MemPlace} (hv : Value.okWide Tryd.prog W .any b0 37 v) (h : DataW.Trod enc Tryd.prog W base sp held 37 v d p) :
    ∃ s mt A n c zs, v = .agg #[.string s, .int .i64 mt, .slice A n c] ∧ InInts .u8 W A n c zs := by
  obtain ⟨cs, rfl, hsz⟩ := okWide_struct Tryd.underlying37 hv
  obtain ⟨fuel, hf⟩ := h
  have hc : Tryd.prog.cellsOf 37 = 3 := by kernel_rfl
  obtain ⟨q, m, he, hi⟩ := open_mem (by rw [hc] at hsz; simpa [Value.cells] using hsz) hf
  refine ⟨m.name, m.time, q.A, q.n, q.c, m.data, ?_, hi⟩
  have : cs = (memC q m).toArray := by
    have h1 : cs.toList = memC q m := by simpa [Value.cells] using he
    rw [← h1]
  rw [this]
  rfl
/-- Members that came in. -/
structure InMems (W : World) (A : Option Addr) (n c : Nat) (ms : List Mem) : Prop where
  le : n ≤ c
  mx : c ≤ maxLen
  rd : MemsR W A n ms
set_option maxRecDepth 100000 in
theorem open_mems {A : Option Addr} {n c : Nat} {d : DataW H} {p : List MemPlace} (h : DataW.Trod enc Tryd.prog W base sp held 42 (.slice A n c) d p) : ∃ ms, InMems W A n c ms := by
  obtain ⟨h1, h2, h3, h4⟩ := open_deep Tryd.underlying42 (C := 3) (by kernel_rfl) (by omega) h
  have key : ∀ i, i < n → ∃ (p : MemP) (m : Mem), MemM W p m ∧ ∀ j v, (memC p m)[j]? = some v → W.cell? ⟨bl A, ofs A + i * 3 + j, none⟩ = some v := by
    intro i hi
    obtain ⟨cs, fuel, x, hl, hc, ht⟩ := h4 i hi
    obtain ⟨p, m, rfl, hr⟩ := open_mem hl ht
    refine ⟨p, m, ⟨hr.1, inBytes_bd hr, hr.2.1⟩, fun j v hv => ?_⟩
    obtain ⟨hj, _⟩ := List.getElem?_eq_some_iff.1 hv
    rw [Nat.add_assoc, hc j hj, hv]
  have all : ∀ k, k ≤ n → ∃ ms : List Mem, ms.length = k ∧ ∀ k t, ms[k]? = some t → ∃ p : MemP, MemM W p t ∧ ∀ j v, (memC p t)[j]? = some v → W.cell? ⟨bl A, ofs A + k * 3 + j, none⟩ = some v := by
    intro m
    induction m with
    | zero => intro _; exact ⟨[], rfl, fun k t hk => by simp at hk⟩
    | succ m ih =>
      intro hm
      obtain ⟨ts, hl, ht⟩ := ih (by omega)
      obtain ⟨p, t, hr, hc⟩ := key m (by omega)
      refine ⟨ts ++ [t], by simp [hl], fun k u hk => ?_⟩
      by_cases hkm : k < m
      · rw [List.getElem?_append_left (by omega)] at hk
        exact ht k u hk
      · rw [List.getElem?_append_right (by omega)] at hk
        have hk0 : k - ts.length = 0 := by
          have := (List.getElem?_eq_some_iff.1 hk).1
          simp at this
          omega
        rw [hk0] at hk
        simp at hk
        subst hk
        obtain rfl : k = m := by omega
        exact ⟨p, hr, hc⟩
  obtain ⟨ts, hl, ht⟩ := all n (Nat.le_refl _)
  exact ⟨ts, h1, h2, hl, h3, ht⟩
end

end Go.Proofs.YtolcdlopgbgilaaDoor
