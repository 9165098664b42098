/- The walk of Hash.block. -/
import Derived.Test.YthojhmkahjpflaaDoorDigD
import Derived.Laws.Rows
namespace Go.Proofs.YthojhmkahjpflaaDoor
open Go.RowKit Go.Dray

set_option maxRecDepth 100000 in
set_option maxHeartbeats 1000000 in
theorem block1_any (w : World) (g : Nat) (s0 s1 s2 s3 s4 s5 s6 s7 : Int) (tl : List Int) (size : Int) (h : HashAt w g 1 [s0, s1, s2, s3, s4, s5, s6, s7] tl size) (hb : ∀ z ∈ tl, 0 ≤ z ∧ z ≤ 255) (hT : Tabs w) (hg : 3 ≤ g) :
    Calls Tryd.prog 23 #[.pointer (some ⟨g, 0, none⟩)] w (HashPost w g 1 [add32 s0 (md5Run (wordsK 1 tl) 64 ⟨s0, s1, s2, s3⟩).a, add32 s1 (md5Run (wordsK 1 tl) 64 ⟨s0, s1, s2, s3⟩).b, add32 s2 (md5Run (wordsK 1 tl) 64 ⟨s0, s1, s2, s3⟩).c, add32 s3 (md5Run (wordsK 1 tl) 64 ⟨s0, s1, s2, s3⟩).d, add32 s4 s4, add32 s5 s5, add32 s6 s6, add32 s7 s7] tl size) := by
  have HT := Lib.hid hT
  have HH := Lib.hid h
  have HB := Lib.hid hb
  have hadd := add32_wrap
  have hadd' := add32_mod
  have hk := h.kind_
  have hz := (zero_of_info (P := Tryd.prog) (t := 56) (v := .agg (arrC [] 16)) (n := 16) (by kernel_rfl)).1
  clear h hT hb
  go_enter Tryd.func23, Tryd.ntmps23
  go_wp2
  clear hz hk
  obtain ⟨B, HBB⟩ : ∃ B, Hid (B = w.heap.size) := ⟨_, rfl⟩
  have HN : Hid (Blk (w.alloc (.cells (arrC [] 16) 56)) w.heap.size 56 (arrC [] 16)) := Blk.new _ _ _
  have HH1 : Hid (HashAt (w.alloc (.cells (arrC [] 16) 56)) g 1 [s0, s1, s2, s3, s4, s5, s6, s7] tl size) := HH.out.upd ((Upd.refl [] w).alloc _) (by simp)
  have HU1 : Hid (Upd [some g] w (w.alloc (.cells (arrC [] 16) 56))) := (Upd.refl _ w).alloc _
  have HGB : Hid (g < B) := by rw [HBB.out]; exact HH.out.blk.lt
  rw [← HBB.out] at HN ⊢
  generalize hw1 : w.alloc _ = w1 at *
  clear hw1
  go_loopw [15] (fun i wr => ∃ k : Nat, k ≤ 16 ∧ i = .int .i64 k ∧ Blk wr B 56 (arrC ((wordsK 1 tl).take k) 16) ∧ HashAt wr g 1 [s0, s1, s2, s3, s4, s5, s6, s7] tl size ∧ Upd [some g] w wr) (fun i _ => 16 - (intOf i).toNat)
  case atStart => exact ⟨0, by omega, rfl, HN.out, HH1.out, HU1.out⟩
  case round =>
    clear HN HH1 HU1
    obtain ⟨k, hk, rfl, hbr, hhr, hur⟩ := hrel
    have HCr := Lib.hid hbr
    have HHr := Lib.hid hhr
    have HUr := Lib.hid hur
    clear hbr hhr hur
    by_cases hlt : k < 16
    · go_wp2_with fail
      refine (getLe_ok (some ⟨g, 9, none⟩) 64 64 tl (4 * (k : Int)) 4 wr HHr.out.tailInts HB.out (by omega) (by omega) (by omega) (by omega) (by omega) (by omega)).mono ?_
      rintro e w' ⟨rfl, rfl⟩
      obtain ⟨x, HX⟩ : ∃ x, Hid (x = wordK 1 tl k) := ⟨_, rfl⟩
      have HE : Hid (leNum ((tl.drop (4 * (k : Int)).toNat).take (4 : Int).toNat) = x) := by
        show _ = _
        rw [HX.out, show (4 * (k : Int)).toNat = 4 * k from by omega]
        rfl
      rw [HE.out]
      have hxb := wordK_bd 1 HB.out k
      rw [← HX.out] at hxb
      have hx0 := hxb.1
      have hx1 := hxb.2
      have ik := words_index (t := 56) (n := 16) (by kernel_rfl) B k (k : Int) rfl (by omega)
      have hl : ((wordsK 1 tl).take k).length = k := by rw [List.length_take, wordsK_len]; omega
      obtain ⟨y, hy⟩ : ∃ y, (arrC ((wordsK 1 tl).take k) 16)[k]? = some y := ⟨_, Array.getElem?_eq_getElem (by rw [arrC_size (by omega)]; omega)⟩
      have ck : wr.cell? ⟨B, k, none⟩ = some y := by rw [HCr.out.cell]; exact hy
      have fk := HCr.out.frozen k
      have HS := Lib.hid (arrC_set (xs := (wordsK 1 tl).take k) (n := 16) (by omega) x)
      rw [hl, HX.out, ← wordsK_take _ _ hlt, ← HX.out] at HS
      clear hl hy hxb
      go_wp2
      go_roundw
      case rel =>
        refine ⟨k + 1, by omega, by go_num, ?_, ?_, ?_⟩
        · rw [← HS.out]
          exact HCr.out.set _ _
        · exact HHr.out.upd ((Upd.refl [some B] wr).putIn (by simp) _) (by have := HGB.out; simp; omega)
        · exact HUr.out.put (by have := HBB.out; omega) _
      case measure => simp [intOf]; omega
    · obtain rfl : k = 16 := by omega
      have c0 : wr.cell? ⟨g, 1, none⟩ = some (.int .u32 s0) := HHr.out.state (i := 0) rfl
      have c1 : wr.cell? ⟨g, 2, none⟩ = some (.int .u32 s1) := HHr.out.state (i := 1) rfl
      have c2 : wr.cell? ⟨g, 3, none⟩ = some (.int .u32 s2) := HHr.out.state (i := 2) rfl
      have c3 : wr.cell? ⟨g, 4, none⟩ = some (.int .u32 s3) := HHr.out.state (i := 3) rfl
      have c4 : wr.cell? ⟨g, 5, none⟩ = some (.int .u32 s4) := HHr.out.state (i := 4) rfl
      have c5 : wr.cell? ⟨g, 6, none⟩ = some (.int .u32 s5) := HHr.out.state (i := 5) rfl
      have c6 : wr.cell? ⟨g, 7, none⟩ = some (.int .u32 s6) := HHr.out.state (i := 6) rfl
      have c7 : wr.cell? ⟨g, 8, none⟩ = some (.int .u32 s7) := HHr.out.state (i := 7) rfl
      have hk := HHr.out.kind_
      have HR : Hid (Blk (wr.alloc (.cells #[.int .u32 s0, .int .u32 s1, .int .u32 s2, .int .u32 s3, .int .u32 s4, .int .u32 s5, .int .u32 s6, .int .u32 s7] 47)) B 56 ((wordsK 1 tl).map (Value.int .u32)).toArray) := by
        have := HCr.out.alloc (.cells #[.int .u32 s0, .int .u32 s1, .int .u32 s2, .int .u32 s3, .int .u32 s4, .int .u32 s5, .int .u32 s6, .int .u32 s7] 47)
        unfold arrC at this
        rw [List.take_of_length_le (by rw [wordsK_len]; omega), wordsK_len] at this
        show Blk _ _ _ _
        simpa using this
      have HU3 : Hid (Upd [some g] w (wr.alloc (.cells #[.int .u32 s0, .int .u32 s1, .int .u32 s2, .int .u32 s3, .int .u32 s4, .int .u32 s5, .int .u32 s6, .int .u32 s7] 47))) := HUr.out.alloc _
      have HH3 : Hid (HashAt (wr.alloc (.cells #[.int .u32 s0, .int .u32 s1, .int .u32 s2, .int .u32 s3, .int .u32 s4, .int .u32 s5, .int .u32 s6, .int .u32 s7] 47)) g 1 [s0, s1, s2, s3, s4, s5, s6, s7] tl size) := HHr.out.upd ((Upd.refl [] wr).alloc _) (by simp)
      have HC3 : Hid (Blk (wr.alloc (.cells #[.int .u32 s0, .int .u32 s1, .int .u32 s2, .int .u32 s3, .int .u32 s4, .int .u32 s5, .int .u32 s6, .int .u32 s7] 47)) wr.heap.size 47 #[.int .u32 s0, .int .u32 s1, .int .u32 s2, .int .u32 s3, .int .u32 s4, .int .u32 s5, .int .u32 s6, .int .u32 s7]) := Blk.new _ _ _
      obtain ⟨C, HC⟩ : ∃ C, Hid (C = wr.heap.size) := ⟨_, rfl⟩
      have hk3 := HH3.out.kind_
      have hgl := HHr.out.blk.lt
      have HGC : Hid (g < C) := by rw [HC.out]; exact HHr.out.blk.lt
      go_wp2_with (refine wpList_load_row rfl 56 _ rfl B rfl _ _ _ (.array 16 24) HR.out (by kernel_rfl) rfl (by rw [List.size_toArray, List.length_map, wordsK_len]; kernel_rfl) ?_)
      rw [← HC.out] at HC3 ⊢
      clear c0 c1 c2 c3 c4 c5 c6 c7 hk hk3 hgl HR HCr HHr HUr
      generalize hw3 : wr.alloc _ = W3 at *
      have HT3 : Hid (Tabs W3) := HT.out.upd HU3.out (by intro b hb; simp at hb; omega)
      clear hw3
      refine (md5_any W3 g 1 s0 s1 s2 s3 s4 s5 s6 s7 tl size (wordsK 1 tl) HH3.out HT3.out (wordsK_len _ _)).mono ?_
      rintro e w4 ⟨rfl, hh4, hu4⟩
      have HH4 := Lib.hid (show HashAt w4 g 1 [(md5Run (wordsK 1 tl) 64 ⟨s0, s1, s2, s3⟩).a, (md5Run (wordsK 1 tl) 64 ⟨s0, s1, s2, s3⟩).b, (md5Run (wordsK 1 tl) 64 ⟨s0, s1, s2, s3⟩).c, (md5Run (wordsK 1 tl) 64 ⟨s0, s1, s2, s3⟩).d, s4, s5, s6, s7] tl size from hh4)
      have HU4 := Lib.hid (HU3.out.trans hu4)
      have HC4 := Lib.hid (HC3.out.upd hu4 (by have := HGC.out; simp; omega))
      clear hh4 hu4 HH3 HU3 HC3 HT3
      obtain ⟨nw, HNW⟩ : ∃ nw, Hid (nw = [(md5Run (wordsK 1 tl) 64 ⟨s0, s1, s2, s3⟩).a, (md5Run (wordsK 1 tl) 64 ⟨s0, s1, s2, s3⟩).b, (md5Run (wordsK 1 tl) 64 ⟨s0, s1, s2, s3⟩).c, (md5Run (wordsK 1 tl) 64 ⟨s0, s1, s2, s3⟩).d, s4, s5, s6, s7]) := ⟨_, rfl⟩
      have HL : Hid (nw.length = 8) := by rw [HNW.out]; rfl
      rw [← HNW.out] at HH4
      have e0 : w4.cell? ⟨C, 0, none⟩ = some (.int .u32 s0) := by rw [HC4.out.cell]; rfl
      have e1 : w4.cell? ⟨C, 1, none⟩ = some (.int .u32 s1) := by rw [HC4.out.cell]; rfl
      have e2 : w4.cell? ⟨C, 2, none⟩ = some (.int .u32 s2) := by rw [HC4.out.cell]; rfl
      have e3 : w4.cell? ⟨C, 3, none⟩ = some (.int .u32 s3) := by rw [HC4.out.cell]; rfl
      have e4 : w4.cell? ⟨C, 4, none⟩ = some (.int .u32 s4) := by rw [HC4.out.cell]; rfl
      have e5 : w4.cell? ⟨C, 5, none⟩ = some (.int .u32 s5) := by rw [HC4.out.cell]; rfl
      have e6 : w4.cell? ⟨C, 6, none⟩ = some (.int .u32 s6) := by rw [HC4.out.cell]; rfl
      have e7 : w4.cell? ⟨C, 7, none⟩ = some (.int .u32 s7) := by rw [HC4.out.cell]; rfl
      go_wp2
      clear e0 e1 e2 e3 e4 e5 e6 e7
      go_loopw [56] (fun i wr => ∃ k : Nat, k ≤ 8 ∧ i = .int .i64 k ∧ HashAt wr g 1 (addSt nw [s0, s1, s2, s3, s4, s5, s6, s7] k) tl size ∧ Upd [some g] w wr) (fun i _ => 8 - (intOf i).toNat)
      case atStart => exact ⟨0, by omega, rfl, by rw [addSt_zero _ _ HL.out]; exact HH4.out, HU4.out⟩
      case round =>
        obtain ⟨k, hk, rfl, hhr, hur⟩ := hrel
        have HHr := Lib.hid hhr
        have HUr := Lib.hid hur
        clear hhr hur HH4 HU4 HC4
        by_cases hlt : k < 8
        · have hix := agg8_index s0 s1 s2 s3 s4 s5 s6 s7 k hlt
          have ck := HHr.out.state (addSt_get nw [s0, s1, s2, s3, s4, s5, s6, s7] hlt)
          have fk := HHr.out.blk.frozen (1 + k)
          have ik := arr_index (t := 47) (P := Tryd.prog) (n := 8) (e := 24) (by kernel_rfl) (by kernel_rfl) g 1 k hlt .i64
          have HS := Lib.hid (HHr.out.setState hlt (add32 (at0 nw k) (at0 [s0, s1, s2, s3, s4, s5, s6, s7] k)))
          rw [addSt_set] at HS
          go_wp2
          go_still_tail 11, (by kernel_rfl)
          change wpList _ _ _ _ _ wr.drew
          go_wp2
          go_roundw
          case rel => exact ⟨k + 1, by omega, by go_num, HS.out.drewN 1, (HUr.out.putIn (by simp) _).drew⟩
          case measure => simp [intOf]; omega
        · obtain rfl : k = 8 := by omega
          go_wp2
          go_end0
          rw [HNW.out, addSt_8] at HHr
          exact ⟨rfl, HHr.out, HUr.out⟩

set_option maxRecDepth 100000 in
set_option maxHeartbeats 1000000 in
theorem block2_any (w : World) (g : Nat) (s0 s1 s2 s3 s4 s5 s6 s7 : Int) (tl : List Int) (size : Int) (h : HashAt w g 2 [s0, s1, s2, s3, s4, s5, s6, s7] tl size) (hb : ∀ z ∈ tl, 0 ≤ z ∧ z ≤ 255) (hT : Tabs w) (hg : 3 ≤ g) :
    Calls Tryd.prog 23 #[.pointer (some ⟨g, 0, none⟩)] w (HashPost w g 2 [add32 s0 (sha1Run (ext1 (wordsK 2 tl) 64) 80 ⟨s0, s1, s2, s3, s4⟩).a, add32 s1 (sha1Run (ext1 (wordsK 2 tl) 64) 80 ⟨s0, s1, s2, s3, s4⟩).b, add32 s2 (sha1Run (ext1 (wordsK 2 tl) 64) 80 ⟨s0, s1, s2, s3, s4⟩).c, add32 s3 (sha1Run (ext1 (wordsK 2 tl) 64) 80 ⟨s0, s1, s2, s3, s4⟩).d, add32 s4 (sha1Run (ext1 (wordsK 2 tl) 64) 80 ⟨s0, s1, s2, s3, s4⟩).e, add32 s5 s5, add32 s6 s6, add32 s7 s7] tl size) := by
  have HT := Lib.hid hT
  have HH := Lib.hid h
  have HB := Lib.hid hb
  have hadd := add32_wrap
  have hadd' := add32_mod
  have hk := h.kind_
  have hz := (zero_of_info (P := Tryd.prog) (t := 56) (v := .agg (arrC [] 16)) (n := 16) (by kernel_rfl)).1
  clear h hT hb
  go_enter Tryd.func23, Tryd.ntmps23
  go_wp2
  clear hz hk
  obtain ⟨B, HBB⟩ : ∃ B, Hid (B = w.heap.size) := ⟨_, rfl⟩
  have HN : Hid (Blk (w.alloc (.cells (arrC [] 16) 56)) w.heap.size 56 (arrC [] 16)) := Blk.new _ _ _
  have HH1 : Hid (HashAt (w.alloc (.cells (arrC [] 16) 56)) g 2 [s0, s1, s2, s3, s4, s5, s6, s7] tl size) := HH.out.upd ((Upd.refl [] w).alloc _) (by simp)
  have HU1 : Hid (Upd [some g] w (w.alloc (.cells (arrC [] 16) 56))) := (Upd.refl _ w).alloc _
  have HGB : Hid (g < B) := by rw [HBB.out]; exact HH.out.blk.lt
  rw [← HBB.out] at HN ⊢
  generalize hw1 : w.alloc _ = w1 at *
  clear hw1
  go_loopw [15] (fun i wr => ∃ k : Nat, k ≤ 16 ∧ i = .int .i64 k ∧ Blk wr B 56 (arrC ((wordsK 2 tl).take k) 16) ∧ HashAt wr g 2 [s0, s1, s2, s3, s4, s5, s6, s7] tl size ∧ Upd [some g] w wr) (fun i _ => 16 - (intOf i).toNat)
  case atStart => exact ⟨0, by omega, rfl, HN.out, HH1.out, HU1.out⟩
  case round =>
    clear HN HH1 HU1
    obtain ⟨k, hk, rfl, hbr, hhr, hur⟩ := hrel
    have HCr := Lib.hid hbr
    have HHr := Lib.hid hhr
    have HUr := Lib.hid hur
    clear hbr hhr hur
    by_cases hlt : k < 16
    · go_wp2_with fail
      refine (getBe_ok (some ⟨g, 9, none⟩) 64 64 tl (4 * (k : Int)) 4 wr HHr.out.tailInts HB.out (by omega) (by omega) (by omega) (by omega) (by omega) (by omega)).mono ?_
      rintro e w' ⟨rfl, rfl⟩
      obtain ⟨x, HX⟩ : ∃ x, Hid (x = wordK 2 tl k) := ⟨_, rfl⟩
      have HE : Hid (beNum ((tl.drop (4 * (k : Int)).toNat).take (4 : Int).toNat) = x) := by
        show _ = _
        rw [HX.out, show (4 * (k : Int)).toNat = 4 * k from by omega]
        rfl
      rw [HE.out]
      have hxb := wordK_bd 2 HB.out k
      rw [← HX.out] at hxb
      have hx0 := hxb.1
      have hx1 := hxb.2
      have ik := words_index (t := 56) (n := 16) (by kernel_rfl) B k (k : Int) rfl (by omega)
      have hl : ((wordsK 2 tl).take k).length = k := by rw [List.length_take, wordsK_len]; omega
      obtain ⟨y, hy⟩ : ∃ y, (arrC ((wordsK 2 tl).take k) 16)[k]? = some y := ⟨_, Array.getElem?_eq_getElem (by rw [arrC_size (by omega)]; omega)⟩
      have ck : wr.cell? ⟨B, k, none⟩ = some y := by rw [HCr.out.cell]; exact hy
      have fk := HCr.out.frozen k
      have HS := Lib.hid (arrC_set (xs := (wordsK 2 tl).take k) (n := 16) (by omega) x)
      rw [hl, HX.out, ← wordsK_take _ _ hlt, ← HX.out] at HS
      clear hl hy hxb
      go_wp2
      go_roundw
      case rel =>
        refine ⟨k + 1, by omega, by go_num, ?_, ?_, ?_⟩
        · rw [← HS.out]
          exact HCr.out.set _ _
        · exact HHr.out.upd ((Upd.refl [some B] wr).putIn (by simp) _) (by have := HGB.out; simp; omega)
        · exact HUr.out.put (by have := HBB.out; omega) _
      case measure => simp [intOf]; omega
    · obtain rfl : k = 16 := by omega
      have c0 : wr.cell? ⟨g, 1, none⟩ = some (.int .u32 s0) := HHr.out.state (i := 0) rfl
      have c1 : wr.cell? ⟨g, 2, none⟩ = some (.int .u32 s1) := HHr.out.state (i := 1) rfl
      have c2 : wr.cell? ⟨g, 3, none⟩ = some (.int .u32 s2) := HHr.out.state (i := 2) rfl
      have c3 : wr.cell? ⟨g, 4, none⟩ = some (.int .u32 s3) := HHr.out.state (i := 3) rfl
      have c4 : wr.cell? ⟨g, 5, none⟩ = some (.int .u32 s4) := HHr.out.state (i := 4) rfl
      have c5 : wr.cell? ⟨g, 6, none⟩ = some (.int .u32 s5) := HHr.out.state (i := 5) rfl
      have c6 : wr.cell? ⟨g, 7, none⟩ = some (.int .u32 s6) := HHr.out.state (i := 6) rfl
      have c7 : wr.cell? ⟨g, 8, none⟩ = some (.int .u32 s7) := HHr.out.state (i := 7) rfl
      have hk := HHr.out.kind_
      have HR : Hid (Blk (wr.alloc (.cells #[.int .u32 s0, .int .u32 s1, .int .u32 s2, .int .u32 s3, .int .u32 s4, .int .u32 s5, .int .u32 s6, .int .u32 s7] 47)) B 56 ((wordsK 2 tl).map (Value.int .u32)).toArray) := by
        have := HCr.out.alloc (.cells #[.int .u32 s0, .int .u32 s1, .int .u32 s2, .int .u32 s3, .int .u32 s4, .int .u32 s5, .int .u32 s6, .int .u32 s7] 47)
        unfold arrC at this
        rw [List.take_of_length_le (by rw [wordsK_len]; omega), wordsK_len] at this
        show Blk _ _ _ _
        simpa using this
      have HU3 : Hid (Upd [some g] w (wr.alloc (.cells #[.int .u32 s0, .int .u32 s1, .int .u32 s2, .int .u32 s3, .int .u32 s4, .int .u32 s5, .int .u32 s6, .int .u32 s7] 47))) := HUr.out.alloc _
      have HH3 : Hid (HashAt (wr.alloc (.cells #[.int .u32 s0, .int .u32 s1, .int .u32 s2, .int .u32 s3, .int .u32 s4, .int .u32 s5, .int .u32 s6, .int .u32 s7] 47)) g 2 [s0, s1, s2, s3, s4, s5, s6, s7] tl size) := HHr.out.upd ((Upd.refl [] wr).alloc _) (by simp)
      have HC3 : Hid (Blk (wr.alloc (.cells #[.int .u32 s0, .int .u32 s1, .int .u32 s2, .int .u32 s3, .int .u32 s4, .int .u32 s5, .int .u32 s6, .int .u32 s7] 47)) wr.heap.size 47 #[.int .u32 s0, .int .u32 s1, .int .u32 s2, .int .u32 s3, .int .u32 s4, .int .u32 s5, .int .u32 s6, .int .u32 s7]) := Blk.new _ _ _
      obtain ⟨C, HC⟩ : ∃ C, Hid (C = wr.heap.size) := ⟨_, rfl⟩
      have hk3 := HH3.out.kind_
      have hgl := HHr.out.blk.lt
      have HGC : Hid (g < C) := by rw [HC.out]; exact HHr.out.blk.lt
      go_wp2_with (refine wpList_load_row rfl 56 _ rfl B rfl _ _ _ (.array 16 24) HR.out (by kernel_rfl) rfl (by rw [List.size_toArray, List.length_map, wordsK_len]; kernel_rfl) ?_)
      rw [← HC.out] at HC3 ⊢
      clear c0 c1 c2 c3 c4 c5 c6 c7 hk hk3 hgl HR HCr HHr HUr
      generalize hw3 : wr.alloc _ = W3 at *
      have HT3 : Hid (Tabs W3) := HT.out.upd HU3.out (by intro b hb; simp at hb; omega)
      clear hw3
      refine (sha1_any W3 g 2 s0 s1 s2 s3 s4 s5 s6 s7 tl size (wordsK 2 tl) HH3.out (wordsK_len _ _)).mono ?_
      rintro e w4 ⟨rfl, hh4, hu4⟩
      have HH4 := Lib.hid (show HashAt w4 g 2 [(sha1Run (ext1 (wordsK 2 tl) 64) 80 ⟨s0, s1, s2, s3, s4⟩).a, (sha1Run (ext1 (wordsK 2 tl) 64) 80 ⟨s0, s1, s2, s3, s4⟩).b, (sha1Run (ext1 (wordsK 2 tl) 64) 80 ⟨s0, s1, s2, s3, s4⟩).c, (sha1Run (ext1 (wordsK 2 tl) 64) 80 ⟨s0, s1, s2, s3, s4⟩).d, (sha1Run (ext1 (wordsK 2 tl) 64) 80 ⟨s0, s1, s2, s3, s4⟩).e, s5, s6, s7] tl size from hh4)
      have HU4 := Lib.hid (HU3.out.trans hu4)
      have HC4 := Lib.hid (HC3.out.upd hu4 (by have := HGC.out; simp; omega))
      clear hh4 hu4 HH3 HU3 HC3 HT3
      obtain ⟨nw, HNW⟩ : ∃ nw, Hid (nw = [(sha1Run (ext1 (wordsK 2 tl) 64) 80 ⟨s0, s1, s2, s3, s4⟩).a, (sha1Run (ext1 (wordsK 2 tl) 64) 80 ⟨s0, s1, s2, s3, s4⟩).b, (sha1Run (ext1 (wordsK 2 tl) 64) 80 ⟨s0, s1, s2, s3, s4⟩).c, (sha1Run (ext1 (wordsK 2 tl) 64) 80 ⟨s0, s1, s2, s3, s4⟩).d, (sha1Run (ext1 (wordsK 2 tl) 64) 80 ⟨s0, s1, s2, s3, s4⟩).e, s5, s6, s7]) := ⟨_, rfl⟩
      have HL : Hid (nw.length = 8) := by rw [HNW.out]; rfl
      rw [← HNW.out] at HH4
      have e0 : w4.cell? ⟨C, 0, none⟩ = some (.int .u32 s0) := by rw [HC4.out.cell]; rfl
      have e1 : w4.cell? ⟨C, 1, none⟩ = some (.int .u32 s1) := by rw [HC4.out.cell]; rfl
      have e2 : w4.cell? ⟨C, 2, none⟩ = some (.int .u32 s2) := by rw [HC4.out.cell]; rfl
      have e3 : w4.cell? ⟨C, 3, none⟩ = some (.int .u32 s3) := by rw [HC4.out.cell]; rfl
      have e4 : w4.cell? ⟨C, 4, none⟩ = some (.int .u32 s4) := by rw [HC4.out.cell]; rfl
      have e5 : w4.cell? ⟨C, 5, none⟩ = some (.int .u32 s5) := by rw [HC4.out.cell]; rfl
      have e6 : w4.cell? ⟨C, 6, none⟩ = some (.int .u32 s6) := by rw [HC4.out.cell]; rfl
      have e7 : w4.cell? ⟨C, 7, none⟩ = some (.int .u32 s7) := by rw [HC4.out.cell]; rfl
      go_wp2
      clear e0 e1 e2 e3 e4 e5 e6 e7
      go_loopw [56] (fun i wr => ∃ k : Nat, k ≤ 8 ∧ i = .int .i64 k ∧ HashAt wr g 2 (addSt nw [s0, s1, s2, s3, s4, s5, s6, s7] k) tl size ∧ Upd [some g] w wr) (fun i _ => 8 - (intOf i).toNat)
      case atStart => exact ⟨0, by omega, rfl, by rw [addSt_zero _ _ HL.out]; exact HH4.out, HU4.out⟩
      case round =>
        obtain ⟨k, hk, rfl, hhr, hur⟩ := hrel
        have HHr := Lib.hid hhr
        have HUr := Lib.hid hur
        clear hhr hur HH4 HU4 HC4
        by_cases hlt : k < 8
        · have hix := agg8_index s0 s1 s2 s3 s4 s5 s6 s7 k hlt
          have ck := HHr.out.state (addSt_get nw [s0, s1, s2, s3, s4, s5, s6, s7] hlt)
          have fk := HHr.out.blk.frozen (1 + k)
          have ik := arr_index (t := 47) (P := Tryd.prog) (n := 8) (e := 24) (by kernel_rfl) (by kernel_rfl) g 1 k hlt .i64
          have HS := Lib.hid (HHr.out.setState hlt (add32 (at0 nw k) (at0 [s0, s1, s2, s3, s4, s5, s6, s7] k)))
          rw [addSt_set] at HS
          go_wp2
          go_still_tail 11, (by kernel_rfl)
          change wpList _ _ _ _ _ wr.drew
          go_wp2
          go_roundw
          case rel => exact ⟨k + 1, by omega, by go_num, HS.out.drewN 1, (HUr.out.putIn (by simp) _).drew⟩
          case measure => simp [intOf]; omega
        · obtain rfl : k = 8 := by omega
          go_wp2
          go_end0
          rw [HNW.out, addSt_8] at HHr
          exact ⟨rfl, HHr.out, HUr.out⟩

set_option maxRecDepth 100000 in
set_option maxHeartbeats 1000000 in
theorem block3_any (w : World) (g : Nat) (s0 s1 s2 s3 s4 s5 s6 s7 : Int) (tl : List Int) (size : Int) (h : HashAt w g 3 [s0, s1, s2, s3, s4, s5, s6, s7] tl size) (hb : ∀ z ∈ tl, 0 ≤ z ∧ z ≤ 255) (hT : Tabs w) (hg : 3 ≤ g) :
    Calls Tryd.prog 23 #[.pointer (some ⟨g, 0, none⟩)] w (HashPost w g 3 [add32 s0 (shaRun (ext2 (wordsK 3 tl) 48) 64 ⟨s0, s1, s2, s3, s4, s5, s6, s7⟩).a, add32 s1 (shaRun (ext2 (wordsK 3 tl) 48) 64 ⟨s0, s1, s2, s3, s4, s5, s6, s7⟩).b, add32 s2 (shaRun (ext2 (wordsK 3 tl) 48) 64 ⟨s0, s1, s2, s3, s4, s5, s6, s7⟩).c, add32 s3 (shaRun (ext2 (wordsK 3 tl) 48) 64 ⟨s0, s1, s2, s3, s4, s5, s6, s7⟩).d, add32 s4 (shaRun (ext2 (wordsK 3 tl) 48) 64 ⟨s0, s1, s2, s3, s4, s5, s6, s7⟩).e, add32 s5 (shaRun (ext2 (wordsK 3 tl) 48) 64 ⟨s0, s1, s2, s3, s4, s5, s6, s7⟩).f, add32 s6 (shaRun (ext2 (wordsK 3 tl) 48) 64 ⟨s0, s1, s2, s3, s4, s5, s6, s7⟩).g, add32 s7 (shaRun (ext2 (wordsK 3 tl) 48) 64 ⟨s0, s1, s2, s3, s4, s5, s6, s7⟩).h] tl size) := by
  have HT := Lib.hid hT
  have HH := Lib.hid h
  have HB := Lib.hid hb
  have hadd := add32_wrap
  have hadd' := add32_mod
  have hk := h.kind_
  have hz := (zero_of_info (P := Tryd.prog) (t := 56) (v := .agg (arrC [] 16)) (n := 16) (by kernel_rfl)).1
  clear h hT hb
  go_enter Tryd.func23, Tryd.ntmps23
  go_wp2
  clear hz hk
  obtain ⟨B, HBB⟩ : ∃ B, Hid (B = w.heap.size) := ⟨_, rfl⟩
  have HN : Hid (Blk (w.alloc (.cells (arrC [] 16) 56)) w.heap.size 56 (arrC [] 16)) := Blk.new _ _ _
  have HH1 : Hid (HashAt (w.alloc (.cells (arrC [] 16) 56)) g 3 [s0, s1, s2, s3, s4, s5, s6, s7] tl size) := HH.out.upd ((Upd.refl [] w).alloc _) (by simp)
  have HU1 : Hid (Upd [some g] w (w.alloc (.cells (arrC [] 16) 56))) := (Upd.refl _ w).alloc _
  have HGB : Hid (g < B) := by rw [HBB.out]; exact HH.out.blk.lt
  rw [← HBB.out] at HN ⊢
  generalize hw1 : w.alloc _ = w1 at *
  clear hw1
  go_loopw [15] (fun i wr => ∃ k : Nat, k ≤ 16 ∧ i = .int .i64 k ∧ Blk wr B 56 (arrC ((wordsK 3 tl).take k) 16) ∧ HashAt wr g 3 [s0, s1, s2, s3, s4, s5, s6, s7] tl size ∧ Upd [some g] w wr) (fun i _ => 16 - (intOf i).toNat)
  case atStart => exact ⟨0, by omega, rfl, HN.out, HH1.out, HU1.out⟩
  case round =>
    clear HN HH1 HU1
    obtain ⟨k, hk, rfl, hbr, hhr, hur⟩ := hrel
    have HCr := Lib.hid hbr
    have HHr := Lib.hid hhr
    have HUr := Lib.hid hur
    clear hbr hhr hur
    by_cases hlt : k < 16
    · go_wp2_with fail
      refine (getBe_ok (some ⟨g, 9, none⟩) 64 64 tl (4 * (k : Int)) 4 wr HHr.out.tailInts HB.out (by omega) (by omega) (by omega) (by omega) (by omega) (by omega)).mono ?_
      rintro e w' ⟨rfl, rfl⟩
      obtain ⟨x, HX⟩ : ∃ x, Hid (x = wordK 3 tl k) := ⟨_, rfl⟩
      have HE : Hid (beNum ((tl.drop (4 * (k : Int)).toNat).take (4 : Int).toNat) = x) := by
        show _ = _
        rw [HX.out, show (4 * (k : Int)).toNat = 4 * k from by omega]
        rfl
      rw [HE.out]
      have hxb := wordK_bd 3 HB.out k
      rw [← HX.out] at hxb
      have hx0 := hxb.1
      have hx1 := hxb.2
      have ik := words_index (t := 56) (n := 16) (by kernel_rfl) B k (k : Int) rfl (by omega)
      have hl : ((wordsK 3 tl).take k).length = k := by rw [List.length_take, wordsK_len]; omega
      obtain ⟨y, hy⟩ : ∃ y, (arrC ((wordsK 3 tl).take k) 16)[k]? = some y := ⟨_, Array.getElem?_eq_getElem (by rw [arrC_size (by omega)]; omega)⟩
      have ck : wr.cell? ⟨B, k, none⟩ = some y := by rw [HCr.out.cell]; exact hy
      have fk := HCr.out.frozen k
      have HS := Lib.hid (arrC_set (xs := (wordsK 3 tl).take k) (n := 16) (by omega) x)
      rw [hl, HX.out, ← wordsK_take _ _ hlt, ← HX.out] at HS
      clear hl hy hxb
      go_wp2
      go_roundw
      case rel =>
        refine ⟨k + 1, by omega, by go_num, ?_, ?_, ?_⟩
        · rw [← HS.out]
          exact HCr.out.set _ _
        · exact HHr.out.upd ((Upd.refl [some B] wr).putIn (by simp) _) (by have := HGB.out; simp; omega)
        · exact HUr.out.put (by have := HBB.out; omega) _
      case measure => simp [intOf]; omega
    · obtain rfl : k = 16 := by omega
      have c0 : wr.cell? ⟨g, 1, none⟩ = some (.int .u32 s0) := HHr.out.state (i := 0) rfl
      have c1 : wr.cell? ⟨g, 2, none⟩ = some (.int .u32 s1) := HHr.out.state (i := 1) rfl
      have c2 : wr.cell? ⟨g, 3, none⟩ = some (.int .u32 s2) := HHr.out.state (i := 2) rfl
      have c3 : wr.cell? ⟨g, 4, none⟩ = some (.int .u32 s3) := HHr.out.state (i := 3) rfl
      have c4 : wr.cell? ⟨g, 5, none⟩ = some (.int .u32 s4) := HHr.out.state (i := 4) rfl
      have c5 : wr.cell? ⟨g, 6, none⟩ = some (.int .u32 s5) := HHr.out.state (i := 5) rfl
      have c6 : wr.cell? ⟨g, 7, none⟩ = some (.int .u32 s6) := HHr.out.state (i := 6) rfl
      have c7 : wr.cell? ⟨g, 8, none⟩ = some (.int .u32 s7) := HHr.out.state (i := 7) rfl
      have hk := HHr.out.kind_
      have HR : Hid (Blk (wr.alloc (.cells #[.int .u32 s0, .int .u32 s1, .int .u32 s2, .int .u32 s3, .int .u32 s4, .int .u32 s5, .int .u32 s6, .int .u32 s7] 47)) B 56 ((wordsK 3 tl).map (Value.int .u32)).toArray) := by
        have := HCr.out.alloc (.cells #[.int .u32 s0, .int .u32 s1, .int .u32 s2, .int .u32 s3, .int .u32 s4, .int .u32 s5, .int .u32 s6, .int .u32 s7] 47)
        unfold arrC at this
        rw [List.take_of_length_le (by rw [wordsK_len]; omega), wordsK_len] at this
        show Blk _ _ _ _
        simpa using this
      have HU3 : Hid (Upd [some g] w (wr.alloc (.cells #[.int .u32 s0, .int .u32 s1, .int .u32 s2, .int .u32 s3, .int .u32 s4, .int .u32 s5, .int .u32 s6, .int .u32 s7] 47))) := HUr.out.alloc _
      have HH3 : Hid (HashAt (wr.alloc (.cells #[.int .u32 s0, .int .u32 s1, .int .u32 s2, .int .u32 s3, .int .u32 s4, .int .u32 s5, .int .u32 s6, .int .u32 s7] 47)) g 3 [s0, s1, s2, s3, s4, s5, s6, s7] tl size) := HHr.out.upd ((Upd.refl [] wr).alloc _) (by simp)
      have HC3 : Hid (Blk (wr.alloc (.cells #[.int .u32 s0, .int .u32 s1, .int .u32 s2, .int .u32 s3, .int .u32 s4, .int .u32 s5, .int .u32 s6, .int .u32 s7] 47)) wr.heap.size 47 #[.int .u32 s0, .int .u32 s1, .int .u32 s2, .int .u32 s3, .int .u32 s4, .int .u32 s5, .int .u32 s6, .int .u32 s7]) := Blk.new _ _ _
      obtain ⟨C, HC⟩ : ∃ C, Hid (C = wr.heap.size) := ⟨_, rfl⟩
      have hk3 := HH3.out.kind_
      have hgl := HHr.out.blk.lt
      have HGC : Hid (g < C) := by rw [HC.out]; exact HHr.out.blk.lt
      go_wp2_with (refine wpList_load_row rfl 56 _ rfl B rfl _ _ _ (.array 16 24) HR.out (by kernel_rfl) rfl (by rw [List.size_toArray, List.length_map, wordsK_len]; kernel_rfl) ?_)
      rw [← HC.out] at HC3 ⊢
      clear c0 c1 c2 c3 c4 c5 c6 c7 hk hk3 hgl HR HCr HHr HUr
      generalize hw3 : wr.alloc _ = W3 at *
      have HT3 : Hid (Tabs W3) := HT.out.upd HU3.out (by intro b hb; simp at hb; omega)
      clear hw3
      refine (sha256_any W3 g 3 s0 s1 s2 s3 s4 s5 s6 s7 tl size (wordsK 3 tl) HH3.out HT3.out hg (wordsK_len _ _)).mono ?_
      rintro e w4 ⟨rfl, hh4, hu4⟩
      have HH4 := Lib.hid (show HashAt w4 g 3 [(shaRun (ext2 (wordsK 3 tl) 48) 64 ⟨s0, s1, s2, s3, s4, s5, s6, s7⟩).a, (shaRun (ext2 (wordsK 3 tl) 48) 64 ⟨s0, s1, s2, s3, s4, s5, s6, s7⟩).b, (shaRun (ext2 (wordsK 3 tl) 48) 64 ⟨s0, s1, s2, s3, s4, s5, s6, s7⟩).c, (shaRun (ext2 (wordsK 3 tl) 48) 64 ⟨s0, s1, s2, s3, s4, s5, s6, s7⟩).d, (shaRun (ext2 (wordsK 3 tl) 48) 64 ⟨s0, s1, s2, s3, s4, s5, s6, s7⟩).e, (shaRun (ext2 (wordsK 3 tl) 48) 64 ⟨s0, s1, s2, s3, s4, s5, s6, s7⟩).f, (shaRun (ext2 (wordsK 3 tl) 48) 64 ⟨s0, s1, s2, s3, s4, s5, s6, s7⟩).g, (shaRun (ext2 (wordsK 3 tl) 48) 64 ⟨s0, s1, s2, s3, s4, s5, s6, s7⟩).h] tl size from hh4)
      have HU4 := Lib.hid (HU3.out.trans hu4)
      have HC4 := Lib.hid (HC3.out.upd hu4 (by have := HGC.out; simp; omega))
      clear hh4 hu4 HH3 HU3 HC3 HT3
      obtain ⟨nw, HNW⟩ : ∃ nw, Hid (nw = [(shaRun (ext2 (wordsK 3 tl) 48) 64 ⟨s0, s1, s2, s3, s4, s5, s6, s7⟩).a, (shaRun (ext2 (wordsK 3 tl) 48) 64 ⟨s0, s1, s2, s3, s4, s5, s6, s7⟩).b, (shaRun (ext2 (wordsK 3 tl) 48) 64 ⟨s0, s1, s2, s3, s4, s5, s6, s7⟩).c, (shaRun (ext2 (wordsK 3 tl) 48) 64 ⟨s0, s1, s2, s3, s4, s5, s6, s7⟩).d, (shaRun (ext2 (wordsK 3 tl) 48) 64 ⟨s0, s1, s2, s3, s4, s5, s6, s7⟩).e, (shaRun (ext2 (wordsK 3 tl) 48) 64 ⟨s0, s1, s2, s3, s4, s5, s6, s7⟩).f, (shaRun (ext2 (wordsK 3 tl) 48) 64 ⟨s0, s1, s2, s3, s4, s5, s6, s7⟩).g, (shaRun (ext2 (wordsK 3 tl) 48) 64 ⟨s0, s1, s2, s3, s4, s5, s6, s7⟩).h]) := ⟨_, rfl⟩
      have HL : Hid (nw.length = 8) := by rw [HNW.out]; rfl
      rw [← HNW.out] at HH4
      have e0 : w4.cell? ⟨C, 0, none⟩ = some (.int .u32 s0) := by rw [HC4.out.cell]; rfl
      have e1 : w4.cell? ⟨C, 1, none⟩ = some (.int .u32 s1) := by rw [HC4.out.cell]; rfl
      have e2 : w4.cell? ⟨C, 2, none⟩ = some (.int .u32 s2) := by rw [HC4.out.cell]; rfl
      have e3 : w4.cell? ⟨C, 3, none⟩ = some (.int .u32 s3) := by rw [HC4.out.cell]; rfl
      have e4 : w4.cell? ⟨C, 4, none⟩ = some (.int .u32 s4) := by rw [HC4.out.cell]; rfl
      have e5 : w4.cell? ⟨C, 5, none⟩ = some (.int .u32 s5) := by rw [HC4.out.cell]; rfl
      have e6 : w4.cell? ⟨C, 6, none⟩ = some (.int .u32 s6) := by rw [HC4.out.cell]; rfl
      have e7 : w4.cell? ⟨C, 7, none⟩ = some (.int .u32 s7) := by rw [HC4.out.cell]; rfl
      go_wp2
      clear e0 e1 e2 e3 e4 e5 e6 e7
      go_loopw [56] (fun i wr => ∃ k : Nat, k ≤ 8 ∧ i = .int .i64 k ∧ HashAt wr g 3 (addSt nw [s0, s1, s2, s3, s4, s5, s6, s7] k) tl size ∧ Upd [some g] w wr) (fun i _ => 8 - (intOf i).toNat)
      case atStart => exact ⟨0, by omega, rfl, by rw [addSt_zero _ _ HL.out]; exact HH4.out, HU4.out⟩
      case round =>
        obtain ⟨k, hk, rfl, hhr, hur⟩ := hrel
        have HHr := Lib.hid hhr
        have HUr := Lib.hid hur
        clear hhr hur HH4 HU4 HC4
        by_cases hlt : k < 8
        · have hix := agg8_index s0 s1 s2 s3 s4 s5 s6 s7 k hlt
          have ck := HHr.out.state (addSt_get nw [s0, s1, s2, s3, s4, s5, s6, s7] hlt)
          have fk := HHr.out.blk.frozen (1 + k)
          have ik := arr_index (t := 47) (P := Tryd.prog) (n := 8) (e := 24) (by kernel_rfl) (by kernel_rfl) g 1 k hlt .i64
          have HS := Lib.hid (HHr.out.setState hlt (add32 (at0 nw k) (at0 [s0, s1, s2, s3, s4, s5, s6, s7] k)))
          rw [addSt_set] at HS
          go_wp2
          go_still_tail 11, (by kernel_rfl)
          change wpList _ _ _ _ _ wr.drew
          go_wp2
          go_roundw
          case rel => exact ⟨k + 1, by omega, by go_num, HS.out.drewN 1, (HUr.out.putIn (by simp) _).drew⟩
          case measure => simp [intOf]; omega
        · obtain rfl : k = 8 := by omega
          go_wp2
          go_end0
          rw [HNW.out, addSt_8] at HHr
          exact ⟨rfl, HHr.out, HUr.out⟩

end Go.Proofs.YthojhmkahjpflaaDoor
