/- The walk of rhead.Get. -/
import Derived.Test.YtogknbpbjgdldaaRhX
import Derived.Test.YtogknbpbjgdldaaRhV
namespace Go.Proofs.Ytogknbpbjgdldaa
open Go.RowKit Go.Dray

/-- What Get hands back. -/
def GetPost (ts : List TagV) (tag : Int) (w : World) (e : Ending) (w' : World) : Prop :=
  ((∀ u ∈ ts, u.tag ≠ tag) ∧ e = .returned (.tuple #[.agg #[.int .i64 0, .int .i64 0, .slice none 0 0, .slice none 0 0, .slice none 0 0], .bool false]) ∧ Upd [] w w') ∨
  ∃ (k : Nat) (t : TagV) (p : TagP), ts[k]? = some t ∧ t.tag = tag ∧ (∀ u ∈ ts.take k, u.tag ≠ tag) ∧ e = .returned (.tuple #[.agg #[.int .i64 t.tag, .int .i64 t.typ, .slice p.IA p.i p.ic, .slice p.TA p.n p.tc, .slice p.BA p.m p.bc], .bool true]) ∧ TagM w' p t ∧ Upd [] w w'

set_option maxRecDepth 100000 in
set_option maxHeartbeats 1000000 in
theorem get_any (w : World) (A : Option Addr) (n c : Nat) (ts : List TagV) (tag : Int) (h : Tags w A n ts) (hs : ∀ t ∈ ts, SmallT t) (hn : n ≤ 1000000) :
    Calls Try.prog 15 #[.slice A n c, .int .i64 tag] w (GetPost ts tag w) := by
  have HH := Lib.hid h
  have HL := Lib.hid h.len
  have HS := Lib.hid hs
  clear h hs
  go_enter Try.func15, Try.ntmps15
  go_upto_region 1 with (fail)
  obtain ⟨R, HRR⟩ : ∃ R, Hid (R = w.heap.size) := ⟨_, rfl⟩
  have HRK : Hid (Blk (w.alloc (.cells #[.int .i64 0, .int .i64 0, .slice none 0 0, .slice none 0 0, .slice none 0 0] 40)) w.heap.size 40 #[.int .i64 0, .int .i64 0, .slice none 0 0, .slice none 0 0, .slice none 0 0]) := Blk.new _ _ _
  have HU1 : Hid (Upd [] w (w.alloc (.cells #[.int .i64 0, .int .i64 0, .slice none 0 0, .slice none 0 0, .slice none 0 0] 40))) := (Upd.refl _ _).alloc _
  rw [← HRR.out] at HRK ⊢
  generalize hw1 : w.alloc _ = w1 at *
  clear hw1
  go_wp2_with fail
  go_loopw [10] (fun i wr => ∃ k : Nat, k ≤ n ∧ i = .int .i64 k ∧ Hid (Blk wr R 40 #[.int .i64 0, .int .i64 0, .slice none 0 0, .slice none 0 0, .slice none 0 0]) ∧ Hid (Upd [] w wr) ∧ Hid (∀ u ∈ ts.take k, u.tag ≠ tag)) (fun i _ => n - (intOf i).toNat)
  case atStart => exact ⟨0, by omega, rfl, HRK, HU1, fun u hu => by simp at hu⟩
  case round =>
    clear HRK HU1
    obtain ⟨k, hk, rfl, HRK, HU, HK⟩ := hrel
    by_cases hlt : k < n
    · obtain ⟨t, p, HT, HPW, b0, b1, b2, b3, b4⟩ := HH.out.get hlt
      have c0 := HU.out.cell b0 (by simp)
      have c1 := HU.out.cell b1 (by simp)
      have c2 := HU.out.cell b2 (by simp)
      have c3 := HU.out.cell b3 (by simp)
      have c4 := HU.out.cell b4 (by simp)
      have hix := HH.out.index c k hlt
      have hst := HS.out t (List.mem_of_getElem? HT.out)
      have hpi : p.i ≤ 5000 := by rw [← HPW.out.ints.len.out]; exact hst.i
      have hpn : p.n ≤ 5000 := by rw [← HPW.out.texts.len.out]; exact hst.n
      have hpm : p.m ≤ 5000 := by rw [← HPW.out.bytes.len.out]; exact hst.m
      clear b0 b1 b2 b3 b4 hst
      go_upto_region 4 with (fail)
      obtain ⟨G, HG⟩ : ∃ G, Hid (G = wr.heap.size) := ⟨_, rfl⟩
      have HBw2 : Hid (Blk (wr.alloc (.cells #[.int .i64 t.tag, .int .i64 t.typ, .slice p.IA p.i p.ic, .slice p.TA p.n p.tc, .slice p.BA p.m p.bc] 40)) wr.heap.size 40 #[.int .i64 t.tag, .int .i64 t.typ, .slice p.IA p.i p.ic, .slice p.TA p.n p.tc, .slice p.BA p.m p.bc]) := Blk.new _ _ _
      have HV2 : Hid (Upd [] wr (wr.alloc (.cells #[.int .i64 t.tag, .int .i64 t.typ, .slice p.IA p.i p.ic, .slice p.TA p.n p.tc, .slice p.BA p.m p.bc] 40))) := (Upd.refl _ _).alloc _
      have hRG : R < G := by rw [HG.out]; exact HRK.out.lt
      have hGw : w.heap.size ≤ G := by rw [HG.out]; exact HU.out.size
      rw [← HG.out] at HBw2 ⊢
      generalize hw2 : wr.alloc _ = w2 at *
      clear hw2
      have HUw2 := Lib.hid (HU.out.trans HV2.out)
      have HRw2 := Lib.hid (HRK.out.upd HV2.out (by simp))
      clear HRK HV2 c0 c1 c2 c3 c4 hix HG
      have e0 : w2.cell? ⟨G, 0, none⟩ = some (.int .i64 t.tag) := by rw [HBw2.out.cell]; rfl
      by_cases hte : t.tag = tag
      · have HTE := Lib.hid hte
        have d0 : (t.tag == tag) = true := by simp [hte]
        clear hte
        go_upto_region 5 with (fail)
        clear d0 e0
        have ef := HBw2.out.cell 2
        rw [show (#[.int .i64 t.tag, .int .i64 t.typ, .slice p.IA p.i p.ic, .slice p.TA p.n p.tc, .slice p.BA p.m p.bc][2]? : Option Value) = some (.slice p.IA p.i p.ic) from rfl] at ef
        have ff := HBw2.out.frozen 2
        have HM0 := Lib.hid (HPW.out.upd0 HUw2.out)
        have hsz0 := HUw2.out.size
        go_upto_region 6 with (at_builtin; refine wpList_app rfl rfl el_int rfl (Own.nil w2 w.heap.size 3 1) rfl HM0.out.ints (by intro u hu; obtain ⟨z, _, rfl⟩ := List.mem_map.1 hu; rfl) (by simp only [maxLen]; omega) (by omega) (by omega) ?_; intro I ic2 v0 hown hu hfr; clear ef ff; have HC0 := Lib.hid (HBw2.out.upd hu (by simp [ob])); have ef := HC0.out.cell 2; rw [show (#[.int .i64 t.tag, .int .i64 t.typ, .slice p.IA p.i p.ic, .slice p.TA p.n p.tc, .slice p.BA p.m p.bc][2]? : Option Value) = some (.slice p.IA p.i p.ic) from rfl] at ef; have ff := HC0.out.frozen 2)
        have HRw3 := Lib.hid ((HRw2.out.upd hu (by simp [ob])).far (p := ⟨G, 2, none⟩) (by simp; omega) (.slice I p.i ic2))
        have HBw3 : Hid (Blk (v0.setCell ⟨G, 2, none⟩ (.slice I p.i ic2)) G 40 #[.int .i64 t.tag, .int .i64 t.typ, .slice I p.i ic2, .slice p.TA p.n p.tc, .slice p.BA p.m p.bc]) := HC0.out.set 2 (.slice I p.i ic2)
        have HUw3 := Lib.hid ((HUw2.out.then hu (fun b hb => by simp [ob] at hb)).put (b := G) (o := 2) (by omega) (.slice I p.i ic2))
        have HO0 : Hid (Own (v0.setCell ⟨G, 2, none⟩ (.slice I p.i ic2)) w.heap.size 3 1 I p.i ic2 (t.ints.map (Value.int .i64))) := by
          have h := hown
          rw [Nat.zero_add, List.nil_append] at h
          exact h.far (h.neBlk HC0.out (by decide)) _
        generalize hw : World.setCell _ _ _ = w3 at *
        clear hw ef ff hown hu hfr HC0 HBw2 HRw2
        have HQ0 := HO0
        clear HO0
        have ef := HBw3.out.cell 3
        rw [show (#[.int .i64 t.tag, .int .i64 t.typ, .slice I p.i ic2, .slice p.TA p.n p.tc, .slice p.BA p.m p.bc][3]? : Option Value) = some (.slice p.TA p.n p.tc) from rfl] at ef
        have ff := HBw3.out.frozen 3
        have HM1 := Lib.hid (HPW.out.upd0 HUw3.out)
        have hsz1 := HUw3.out.size
        go_upto_region 7 with (at_builtin; refine wpList_app rfl rfl el_str rfl (Own.nil w3 w.heap.size 9 1) rfl HM1.out.texts (by intro u hu; obtain ⟨z, _, rfl⟩ := List.mem_map.1 hu; rfl) (by simp only [maxLen]; omega) (by omega) (by omega) ?_; intro T tc2 v1 hown hu hfr; clear ef ff; have HC1 := Lib.hid (HBw3.out.upd hu (by simp [ob])); have ef := HC1.out.cell 3; rw [show (#[.int .i64 t.tag, .int .i64 t.typ, .slice I p.i ic2, .slice p.TA p.n p.tc, .slice p.BA p.m p.bc][3]? : Option Value) = some (.slice p.TA p.n p.tc) from rfl] at ef; have ff := HC1.out.frozen 3)
        have HRw4 := Lib.hid ((HRw3.out.upd hu (by simp [ob])).far (p := ⟨G, 3, none⟩) (by simp; omega) (.slice T p.n tc2))
        have HBw4 : Hid (Blk (v1.setCell ⟨G, 3, none⟩ (.slice T p.n tc2)) G 40 #[.int .i64 t.tag, .int .i64 t.typ, .slice I p.i ic2, .slice T p.n tc2, .slice p.BA p.m p.bc]) := HC1.out.set 3 (.slice T p.n tc2)
        have HUw4 := Lib.hid ((HUw3.out.then hu (fun b hb => by simp [ob] at hb)).put (b := G) (o := 3) (by omega) (.slice T p.n tc2))
        have HO1 : Hid (Own (v1.setCell ⟨G, 3, none⟩ (.slice T p.n tc2)) w.heap.size 9 1 T p.n tc2 (t.texts.map Value.string)) := by
          have h := hown
          rw [Nat.zero_add, List.nil_append] at h
          exact h.far (h.neBlk HC1.out (by decide)) _
        have HP01 : Hid (Own (v1.setCell ⟨G, 3, none⟩ (.slice T p.n tc2)) w.heap.size 3 1 I p.i ic2 (t.ints.map (Value.int .i64))) := by
          have h := (HQ0.out.upd hu (by intro g hg; simp [ob]))
          exact h.far (h.neBlk HC1.out (by decide)) _
        generalize hw : World.setCell _ _ _ = w4 at *
        clear hw ef ff hown hu hfr HC1 HBw3 HRw3
        clear HQ0
        have HQ0 := HP01
        clear HP01
        have HQ1 := HO1
        clear HO1
        have ef := HBw4.out.cell 4
        rw [show (#[.int .i64 t.tag, .int .i64 t.typ, .slice I p.i ic2, .slice T p.n tc2, .slice p.BA p.m p.bc][4]? : Option Value) = some (.slice p.BA p.m p.bc) from rfl] at ef
        have ff := HBw4.out.frozen 4
        have HM2 := Lib.hid (HPW.out.upd0 HUw4.out)
        have hsz2 := HUw4.out.size
        go_upto_region 8 with (at_builtin; refine wpList_app rfl rfl el_byte rfl (Own.nil w4 w.heap.size 5 1) rfl HM2.out.bytes (by intro u hu; obtain ⟨z, _, rfl⟩ := List.mem_map.1 hu; rfl) (by simp only [maxLen]; omega) (by omega) (by omega) ?_; intro Y bc2 v2 hown hu hfr; clear ef ff; have HC2 := Lib.hid (HBw4.out.upd hu (by simp [ob])); have ef := HC2.out.cell 4; rw [show (#[.int .i64 t.tag, .int .i64 t.typ, .slice I p.i ic2, .slice T p.n tc2, .slice p.BA p.m p.bc][4]? : Option Value) = some (.slice p.BA p.m p.bc) from rfl] at ef; have ff := HC2.out.frozen 4)
        have HRw5 := Lib.hid ((HRw4.out.upd hu (by simp [ob])).far (p := ⟨G, 4, none⟩) (by simp; omega) (.slice Y p.m bc2))
        have HBw5 : Hid (Blk (v2.setCell ⟨G, 4, none⟩ (.slice Y p.m bc2)) G 40 #[.int .i64 t.tag, .int .i64 t.typ, .slice I p.i ic2, .slice T p.n tc2, .slice Y p.m bc2]) := HC2.out.set 4 (.slice Y p.m bc2)
        have HUw5 := Lib.hid ((HUw4.out.then hu (fun b hb => by simp [ob] at hb)).put (b := G) (o := 4) (by omega) (.slice Y p.m bc2))
        have HO2 : Hid (Own (v2.setCell ⟨G, 4, none⟩ (.slice Y p.m bc2)) w.heap.size 5 1 Y p.m bc2 (t.bytes.map (Value.int .u8))) := by
          have h := hown
          rw [Nat.zero_add, List.nil_append] at h
          exact h.far (h.neBlk HC2.out (by decide)) _
        have HP02 : Hid (Own (v2.setCell ⟨G, 4, none⟩ (.slice Y p.m bc2)) w.heap.size 3 1 I p.i ic2 (t.ints.map (Value.int .i64))) := by
          have h := (HQ0.out.upd hu (by intro g hg; simp [ob]))
          exact h.far (h.neBlk HC2.out (by decide)) _
        have HP12 : Hid (Own (v2.setCell ⟨G, 4, none⟩ (.slice Y p.m bc2)) w.heap.size 9 1 T p.n tc2 (t.texts.map Value.string)) := by
          have h := (HQ1.out.upd hu (by intro g hg; simp [ob]))
          exact h.far (h.neBlk HC2.out (by decide)) _
        generalize hw : World.setCell _ _ _ = w5 at *
        clear hw ef ff hown hu hfr HC2 HBw4 HRw4
        clear HQ0
        have HQ0 := HP02
        clear HP02
        clear HQ1
        have HQ1 := HP12
        clear HP12
        have HQ2 := HO2
        clear HO2
        have g0 : w5.cell? ⟨G, 0, none⟩ = some (.int .i64 t.tag) := by rw [HBw5.out.cell]; rfl
        have g1 : w5.cell? ⟨G, 1, none⟩ = some (.int .i64 t.typ) := by rw [HBw5.out.cell]; rfl
        have g2 : w5.cell? ⟨G, 2, none⟩ = some (.slice I p.i ic2) := by rw [HBw5.out.cell]; rfl
        have g3 : w5.cell? ⟨G, 3, none⟩ = some (.slice T p.n tc2) := by rw [HBw5.out.cell]; rfl
        have g4 : w5.cell? ⟨G, 4, none⟩ = some (.slice Y p.m bc2) := by rw [HBw5.out.cell]; rfl
        have z0 : w5.cell? ⟨R, 0, none⟩ = some (.int .i64 0) := by rw [HRw5.out.cell]; rfl
        have z1 : w5.cell? ⟨R, 1, none⟩ = some (.int .i64 0) := by rw [HRw5.out.cell]; rfl
        have z2 : w5.cell? ⟨R, 2, none⟩ = some (.slice none 0 0) := by rw [HRw5.out.cell]; rfl
        have z3 : w5.cell? ⟨R, 3, none⟩ = some (.slice none 0 0) := by rw [HRw5.out.cell]; rfl
        have z4 : w5.cell? ⟨R, 4, none⟩ = some (.slice none 0 0) := by rw [HRw5.out.cell]; rfl
        have fz := HRw5.out.frozen
        have hx := HM2.out
        clear hx
        go_wp2
        have HK9 := Lib.hid (blk_set5 (y0 := .int .i64 t.tag) (y1 := .int .i64 t.typ) (y2 := .slice I p.i ic2) (y3 := .slice T p.n tc2) (y4 := .slice Y p.m bc2) HRw5.out)
        have HU9 := Lib.hid (upd_set5 (g := R) (y0 := .int .i64 t.tag) (y1 := .int .i64 t.typ) (y2 := .slice I p.i ic2) (y3 := .slice T p.n tc2) (y4 := .slice Y p.m bc2) HUw5.out (by have := HRR.out; omega))
        have HV9 := Lib.hid (upd5 (w := w5) (g := R) (y0 := .int .i64 t.tag) (y1 := .int .i64 t.typ) (y2 := .slice I p.i ic2) (y3 := .slice T p.n tc2) (y4 := .slice Y p.m bc2))
        generalize hw9 : World.setCell _ _ _ = w9 at *
        clear hw9
        have y0 : w9.cell? ⟨R, 0, none⟩ = some (.int .i64 t.tag) := by rw [HK9.out.cell]; rfl
        have y1 : w9.cell? ⟨R, 1, none⟩ = some (.int .i64 t.typ) := by rw [HK9.out.cell]; rfl
        have y2 : w9.cell? ⟨R, 2, none⟩ = some (.slice I p.i ic2) := by rw [HK9.out.cell]; rfl
        have y3 : w9.cell? ⟨R, 3, none⟩ = some (.slice T p.n tc2) := by rw [HK9.out.cell]; rfl
        have y4 : w9.cell? ⟨R, 4, none⟩ = some (.slice Y p.m bc2) := by rw [HK9.out.cell]; rfl
        have HF0 := Lib.hid (HQ0.out.upd HV9.out (by intro b hb; simp; rintro rfl; exact HQ0.out.neBlk HRw5.out (by decide) hb))
        have HF1 := Lib.hid (HQ1.out.upd HV9.out (by intro b hb; simp; rintro rfl; exact HQ1.out.neBlk HRw5.out (by decide) hb))
        have HF2 := Lib.hid (HQ2.out.upd HV9.out (by intro b hb; simp; rintro rfl; exact HQ2.out.neBlk HRw5.out (by decide) hb))
        exact bodyPost_ret (v := .tuple #[.agg #[.int .i64 t.tag, .int .i64 t.typ, .slice I p.i ic2, .slice T p.n tc2, .slice Y p.m bc2], .bool true]) (by simp [results, Try.results15, go_sem, y0, y1, y2, y3, y4]) rfl (Or.inr ⟨k, t, ⟨I, p.i, ic2, T, p.n, tc2, Y, p.m, bc2⟩, HT.out, HTE.out, HK.out, rfl, ⟨Ints.ofOwn HF0.out, HF1.out.seg, Ints.ofOwn HF2.out, HPW.out.ib, HPW.out.bb, HPW.out.li, HPW.out.ln, HPW.out.lm⟩, HU9.out⟩)
      · have d0 : (t.tag == tag) = false := by simp [hte]
        go_wp2
        go_roundw
        case rel =>
          refine ⟨k + 1, by omega, by go_num, HRw2, HUw2, fun y hy => ?_⟩
          obtain ⟨hkl, hke⟩ := List.getElem?_eq_some_iff.1 HT.out
          rw [List.take_succ_eq_append_getElem hkl, hke] at hy
          rcases List.mem_append.1 hy with h | h
          · exact HK.out y h
          · simp at h; subst h; exact hte
        case measure => simp [intOf]; omega
    · obtain rfl : k = n := by omega
      have HALL : Hid (∀ u ∈ ts, u.tag ≠ tag) := by
        have h := HK.out
        rw [List.take_of_length_le (by rw [HL.out]; exact Nat.le_refl _)] at h
        exact h
      have z0 : wr.cell? ⟨R, 0, none⟩ = some (.int .i64 0) := by rw [HRK.out.cell]; rfl
      have z1 : wr.cell? ⟨R, 1, none⟩ = some (.int .i64 0) := by rw [HRK.out.cell]; rfl
      have z2 : wr.cell? ⟨R, 2, none⟩ = some (.slice none 0 0) := by rw [HRK.out.cell]; rfl
      have z3 : wr.cell? ⟨R, 3, none⟩ = some (.slice none 0 0) := by rw [HRK.out.cell]; rfl
      have z4 : wr.cell? ⟨R, 4, none⟩ = some (.slice none 0 0) := by rw [HRK.out.cell]; rfl
      have fz := HRK.out.frozen
      go_wp2
      have HK9 := Lib.hid (blk_set5 (y0 := .int .i64 0) (y1 := .int .i64 0) (y2 := .slice none 0 0) (y3 := .slice none 0 0) (y4 := .slice none 0 0) HRK.out)
      have HU9 := Lib.hid (upd_set5 (g := R) (y0 := .int .i64 0) (y1 := .int .i64 0) (y2 := .slice none 0 0) (y3 := .slice none 0 0) (y4 := .slice none 0 0) HU.out (by have := HRR.out; omega))
      generalize hw9 : World.setCell _ _ _ = w9 at *
      have y0 : w9.cell? ⟨R, 0, none⟩ = some (.int .i64 0) := by rw [HK9.out.cell]; rfl
      have y1 : w9.cell? ⟨R, 1, none⟩ = some (.int .i64 0) := by rw [HK9.out.cell]; rfl
      have y2 : w9.cell? ⟨R, 2, none⟩ = some (.slice none 0 0) := by rw [HK9.out.cell]; rfl
      have y3 : w9.cell? ⟨R, 3, none⟩ = some (.slice none 0 0) := by rw [HK9.out.cell]; rfl
      have y4 : w9.cell? ⟨R, 4, none⟩ = some (.slice none 0 0) := by rw [HK9.out.cell]; rfl
      exact bodyPost_ret (v := .tuple #[.agg #[.int .i64 0, .int .i64 0, .slice none 0 0, .slice none 0 0, .slice none 0 0], .bool false]) (by simp [results, Try.results15, go_sem, y0, y1, y2, y3, y4]) rfl (Or.inl ⟨HALL.out, rfl, HU9.out⟩)

end Go.Proofs.Ytogknbpbjgdldaa
