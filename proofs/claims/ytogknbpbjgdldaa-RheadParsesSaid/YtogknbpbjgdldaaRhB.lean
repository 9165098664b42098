/- The walks of rhead.right and rhead.length. -/
import Derived.Test.YtogknbpbjgdldaaRhA
import Derived.Test.YtogknbpbjgdldaaShelf
import Derived.Lib.IndexLaws
import Derived.Deep.Cut
namespace Go.Proofs.Ytogknbpbjgdldaa
open Go.RowKit Go.Dray

/-- A value and new blocks alone. -/
def RetU (v : Value) (w : World) (e : Ending) (w' : World) : Prop := e = .returned v ∧ Upd [] w w'

/-- Where the first nought stands, or the end. -/
def noughtAt (zs : List Int) : Nat := zs.findIdx (· == 0)

theorem index_zero (l : List UInt8) : (0 ≤ Lib.indexByte l 0) ↔ (0 : Int) ∈ l.map fun b => (b.toNat : Int) := by
  constructor
  · intro h
    obtain ⟨o, ho⟩ := Int.eq_ofNat_of_zero_le h
    have h1 := (Lib.indexByte_some ho).1
    exact List.mem_map.2 ⟨0, List.mem_of_getElem? h1, rfl⟩
  · intro h
    obtain ⟨b, hb, he⟩ := List.mem_map.1 h
    have hb0 : b = 0 := by
      apply UInt8.toNat_inj.1
      simpa using he
    subst hb0
    obtain ⟨k, hk, hke⟩ := List.mem_iff_getElem.1 hb
    have h1 := Lib.indexByte_ge l 0
    by_cases h2 : Lib.indexByte l 0 = -1
    · exact absurd (by rw [List.getElem?_eq_getElem hk, hke]) (Lib.indexByte_none h2 k)
    · omega
theorem contains_no {s : ByteArray} (h : (0 : Int) ∉ sb s) : decide (0 ≤ Lib.indexByte s.data.toList 0) = false := by
  simp only [decide_eq_false_iff_not]
  exact fun h1 => h ((index_zero _).1 h1)
theorem contains_yes {s : ByteArray} (h : (0 : Int) ∈ sb s) : decide (0 ≤ Lib.indexByte s.data.toList 0) = true := by
  simp only [decide_eq_true_eq]
  exact (index_zero _).2 h

theorem nil_of_len {α : Type} {l : List α} {n : Nat} (h : l.length = n) : (n = 0 ↔ l = []) := by
  rw [← h]; exact List.length_eq_zero_iff

set_option maxRecDepth 100000 in
set_option maxHeartbeats 1000000 in
theorem right_any (w : World) (p : TagP) (t : TagV) (h : TagM w p t) :
    Calls Try.prog 23 #[.agg #[.int .i64 t.tag, .int .i64 t.typ, .slice p.IA p.i p.ic, .slice p.TA p.n p.tc, .slice p.BA p.m p.bc]] w (RetU (.bool (rightB t)) w) := by
  have HH := Lib.hid h
  have HLI := h.ints.len
  have HLN := h.texts.len
  have HLM := h.bytes.len
  have hli := h.li
  have hln := h.ln
  have hlm := h.lm
  clear h
  have HI0 : Hid (p.i = 0 ↔ t.ints = []) := nil_of_len HLI.out
  have HN0 : Hid (p.n = 0 ↔ t.texts = []) := nil_of_len HLN.out
  have HM0 : Hid (p.m = 0 ↔ t.bytes = []) := nil_of_len HLM.out
  go_enter Try.func23, Try.ntmps23
  go_wp2
  go_quiet (fail)
  go_upto_region 2 with (fail)
  obtain ⟨B, HB⟩ : ∃ B, Hid (B = w.heap.size) := ⟨_, rfl⟩
  have HBK : Hid (Blk (w.alloc (.cells #[.int .i64 t.tag, .int .i64 t.typ, .slice p.IA p.i p.ic, .slice p.TA p.n p.tc, .slice p.BA p.m p.bc] 40)) w.heap.size 40 #[.int .i64 t.tag, .int .i64 t.typ, .slice p.IA p.i p.ic, .slice p.TA p.n p.tc, .slice p.BA p.m p.bc]) := Blk.new _ _ _
  have HU0 : Hid (Upd [] w (w.alloc (.cells #[.int .i64 t.tag, .int .i64 t.typ, .slice p.IA p.i p.ic, .slice p.TA p.n p.tc, .slice p.BA p.m p.bc] 40))) := (Upd.refl _ _).alloc _
  rw [← HB.out] at HBK ⊢
  generalize hw1 : w.alloc _ = w1 at *
  generalize hw2 : w1.drewN _ = w2
  have HBK2 : Hid (Blk w2 B 40 #[.int .i64 t.tag, .int .i64 t.typ, .slice p.IA p.i p.ic, .slice p.TA p.n p.tc, .slice p.BA p.m p.bc]) := by rw [← hw2]; exact HBK.out.drewN _
  have HU : Hid (Upd [] w w2) := by rw [← hw2]; exact HU0.out.drewN _
  have HM2 : Hid (TagM w2 p t) := HH.out.upd0 HU.out
  clear hw1 hw2 HBK HU0 HH
  have c1 : w2.cell? ⟨B, 1, none⟩ = some (.int .i64 t.typ) := by rw [HBK2.out.cell]; rfl
  have c2 : w2.cell? ⟨B, 2, none⟩ = some (.slice p.IA p.i p.ic) := by rw [HBK2.out.cell]; rfl
  have c3 : w2.cell? ⟨B, 3, none⟩ = some (.slice p.TA p.n p.tc) := by rw [HBK2.out.cell]; rfl
  go_wp2_with fail
  refine (isNumbers_any t.typ _).mono ?_
  rintro e w' ⟨rfl, rfl⟩
  cases hnum : numT t.typ with
  | true =>
    have HNUM := Lib.hid hnum
    clear hnum
    by_cases b0 : p.i = 0
    · have e0 : ((p.i : Int) == 0) = true := by simp; omega
      have E0 := Lib.hid b0
      clear b0
      go_wp2
      go_ret
      exact ⟨ret_bool (by symm; exact rightB_false (fun h => by unfold rightP at h; rw [if_pos HNUM.out] at h; exact h.1 (HI0.out.1 E0.out))), HU.out⟩
    · have e0 : ((p.i : Int) == 0) = false := by simp; omega
      by_cases b1 : 0 < p.n
      · have e1 : decide (0 < p.n) = true := by simp; omega
        go_wp2
        go_ret
        exact ⟨ret_bool (by symm; exact rightB_false (fun h => by unfold rightP at h; rw [if_pos HNUM.out] at h; have := HN0.out.2 h.2.1; omega)), HU.out⟩
      · have e1 : decide (0 < p.n) = false := by simp; omega
        by_cases b2 : 0 < p.m
        · have e2 : decide (0 < p.m) = true := by simp; omega
          go_wp2
          go_ret
          exact ⟨ret_bool (by symm; exact rightB_false (fun h => by unfold rightP at h; rw [if_pos HNUM.out] at h; have := HM0.out.2 h.2.2.1; omega)), HU.out⟩
        · have e2 : decide (0 < p.m) = false := by simp; omega
          go_wp2
          go_loop [36] (fun i => ∃ k : Nat, k ≤ p.i ∧ i = .int .i64 k ∧ Hid (∀ z ∈ t.ints.take k, 0 ≤ z ∧ z ≤ mostT t.typ)) (fun i => p.i - (intOf i).toNat)
          case atStart => exact ⟨0, by omega, rfl, fun z hz => by simp at hz⟩
          case round =>
            obtain ⟨k, hk, rfl, HK⟩ := hrel
            by_cases hlt : k < p.i
            · obtain ⟨z, HX, hcell⟩ := HM2.out.ints.int hlt
              have hix := HM2.out.ints.index el_int p.ic .i64 k hlt
              have HMEM := Lib.hid (List.mem_of_getElem? HX.out)
              by_cases hz0 : z < 0
              · have d0 : decide (z < 0) = true := by simpa using hz0
                go_wp2
                go_ret
                exact ⟨ret_bool (by symm; exact rightB_false (fun h => by unfold rightP at h; rw [if_pos HNUM.out] at h; have := h.2.2.2 z HMEM.out; omega)), HU.out⟩
              · have d0 : decide (z < 0) = false := by simpa using hz0
                by_cases hzm : mostT t.typ < z
                · have d1 : decide (mostT t.typ < z) = true := by simpa using hzm
                  go_wp2_with fail
                  refine (most_any t.typ _).mono ?_
                  rintro e w' ⟨rfl, rfl⟩
                  go_wp2
                  go_ret
                  exact ⟨ret_bool (by symm; exact rightB_false (fun h => by unfold rightP at h; rw [if_pos HNUM.out] at h; have := h.2.2.2 z HMEM.out; omega)), HU.out⟩
                · have d1 : decide (mostT t.typ < z) = false := by simpa using hzm
                  go_wp2_with fail
                  refine (most_any t.typ _).mono ?_
                  rintro e w' ⟨rfl, rfl⟩
                  go_wp2
                  go_round
                  case rel =>
                    refine ⟨k + 1, by omega, by go_num, fun y hy => ?_⟩
                    obtain ⟨hkl, hke⟩ := List.getElem?_eq_some_iff.1 HX.out
                    rw [List.take_succ_eq_append_getElem hkl, hke] at hy
                    rcases List.mem_append.1 hy with h | h
                    · exact HK.out y h
                    · simp at h; subst h; omega
                  case measure => simp [intOf]; omega
            · obtain rfl : k = p.i := by omega
              go_wp2
              go_ret
              have hR : rightP t := by
                unfold rightP
                rw [if_pos HNUM.out]
                refine ⟨fun h => b0 (HI0.out.2 h), HN0.out.1 (by omega), HM0.out.1 (by omega), fun z hz => HK.out z ?_⟩
                rw [List.take_of_length_le (by rw [HLI.out]; omega)]
                exact hz
              exact ⟨ret_bool (rightB_true hR).symm, HU.out⟩
  | false =>
    have HNUM := Lib.hid hnum
    clear hnum
    by_cases h7 : t.typ = 7
    · have H7 := Lib.hid h7
      have d7 : (t.typ == 7) = true := by simp [h7]
      clear h7
      by_cases b0 : 0 < p.m
      · have e0 : decide (0 < p.m) = true := by simp; omega
        by_cases b1 : p.i = 0
        · have e1 : ((p.i : Int) == 0) = true := by simp; omega
          have E1 := Lib.hid b1
          clear b1
          by_cases b2 : p.n = 0
          · have e2 : ((p.n : Int) == 0) = true := by simp; omega
            have E2 := Lib.hid b2
            clear b2
            go_wp2
            go_ret
            exact ⟨ret_bool (by symm; exact rightB_true (by unfold rightP; rw [HNUM.out, if_neg (by decide), if_pos H7.out]; exact ⟨fun h => by have := HM0.out.2 h; omega, HI0.out.1 E1.out, HN0.out.1 E2.out⟩)), HU.out⟩
          · have e2 : ((p.n : Int) == 0) = false := by simp; omega
            go_wp2
            go_ret
            exact ⟨ret_bool (by symm; exact rightB_false (fun h => by unfold rightP at h; rw [HNUM.out, if_neg (by decide), if_pos H7.out] at h; have := HN0.out.2 h.2.2; omega)), HU.out⟩
        · have e1 : ((p.i : Int) == 0) = false := by simp; omega
          go_wp2
          go_ret
          exact ⟨ret_bool (by symm; exact rightB_false (fun h => by unfold rightP at h; rw [HNUM.out, if_neg (by decide), if_pos H7.out] at h; have := HI0.out.2 h.2.1; omega)), HU.out⟩
      · have e0 : decide (0 < p.m) = false := by simp; omega
        go_wp2
        go_ret
        exact ⟨ret_bool (by symm; exact rightB_false (fun h => by unfold rightP at h; rw [HNUM.out, if_neg (by decide), if_pos H7.out] at h; exact h.1 (HM0.out.1 (by omega)))), HU.out⟩
    · have H7 := Lib.hid h7
      have d7 : (t.typ == 7) = false := by simpa using h7
      clear h7
      by_cases h6 : t.typ = 6
      · have H6 := Lib.hid h6
        have d6 : (t.typ == 6) = true := by simp [h6]
        clear h6
        by_cases b0 : p.n = 0
        · have e0 : ((p.n : Int) == 0) = true := by simp; omega
          have E0 := Lib.hid b0
          clear b0
          go_wp2
          go_ret
          exact ⟨ret_bool (by symm; exact rightB_false (fun h => by unfold rightP at h; rw [HNUM.out, if_neg (by decide), if_neg H7.out] at h; exact h.1 (HN0.out.1 E0.out))), HU.out⟩
        · have e0 : ((p.n : Int) == 0) = false := by simp; omega
          by_cases b1 : p.n = 1
          · have e1 : ((p.n : Int) != 1) = false := by simp; omega
            have E1 := Lib.hid b1
            clear b1
            by_cases b2 : 0 < p.i
            · have e2 : decide (0 < p.i) = true := by simp; omega
              go_wp2
              go_ret
              exact ⟨ret_bool (by symm; exact rightB_false (fun h => by unfold rightP at h; rw [HNUM.out, if_neg (by decide), if_neg H7.out] at h; have := HI0.out.2 h.2.2.1; omega)), HU.out⟩
            · have e2 : decide (0 < p.i) = false := by simp; omega
              by_cases b3 : 0 < p.m
              · have e3 : decide (0 < p.m) = true := by simp; omega
                go_wp2
                go_ret
                exact ⟨ret_bool (by symm; exact rightB_false (fun h => by unfold rightP at h; rw [HNUM.out, if_neg (by decide), if_neg H7.out] at h; have := HM0.out.2 h.2.2.2.1; omega)), HU.out⟩
              · have e3 : decide (0 < p.m) = false := by simp; omega
                go_wp2
                go_loop [86] (fun i => ∃ k : Nat, k ≤ p.n ∧ i = .int .i64 k ∧ Hid (∀ s ∈ t.texts.take k, (0 : Int) ∉ sb s)) (fun i => p.n - (intOf i).toNat)
                case atStart => exact ⟨0, by omega, rfl, fun z hz => by simp at hz⟩
                case round =>
                  obtain ⟨k, hk, rfl, HK⟩ := hrel
                  by_cases hlt : k < p.n
                  · obtain ⟨s, HX, hcell⟩ := HM2.out.texts.str hlt
                    have hix := HM2.out.texts.index p.tc k hlt
                    have HMEM := Lib.hid (List.mem_of_getElem? HX.out)
                    by_cases hz0 : (0 : Int) ∈ sb s
                    · have d0 := contains_yes hz0
                      go_wp2_with fail
                      refine (Try.strings_Contains_one s 0 _).mono ?_
                      rintro e w' ⟨rfl, rfl⟩
                      go_wp2
                      go_ret
                      exact ⟨ret_bool (by symm; exact rightB_false (fun h => by unfold rightP at h; rw [HNUM.out, if_neg (by decide), if_neg H7.out] at h; exact h.2.2.2.2 s HMEM.out hz0)), HU.out⟩
                    · have d0 := contains_no hz0
                      go_wp2_with fail
                      refine (Try.strings_Contains_one s 0 _).mono ?_
                      rintro e w' ⟨rfl, rfl⟩
                      go_wp2
                      go_round
                      case rel =>
                        refine ⟨k + 1, by omega, by go_num, fun y hy => ?_⟩
                        obtain ⟨hkl, hke⟩ := List.getElem?_eq_some_iff.1 HX.out
                        rw [List.take_succ_eq_append_getElem hkl, hke] at hy
                        rcases List.mem_append.1 hy with h | h
                        · exact HK.out y h
                        · simp at h; subst h; exact hz0
                      case measure => simp [intOf]; omega
                  · obtain rfl : k = p.n := by omega
                    go_wp2
                    go_ret
                    have hR : rightP t := by
                      unfold rightP
                      rw [HNUM.out, if_neg (by decide), if_neg H7.out]
                      refine ⟨fun h => b0 (HN0.out.2 h), fun _ => by rw [HLN.out]; exact E1.out, HI0.out.1 (by omega), HM0.out.1 (by omega), fun z hz => HK.out z ?_⟩
                      rw [List.take_of_length_le (by rw [HLN.out]; omega)]
                      exact hz
                    exact ⟨ret_bool (rightB_true hR).symm, HU.out⟩
          · have e1 : ((p.n : Int) != 1) = true := by simp; omega
            go_wp2
            go_ret
            exact ⟨ret_bool (by symm; exact rightB_false (fun h => by unfold rightP at h; rw [HNUM.out, if_neg (by decide), if_neg H7.out] at h; have := h.2.1 H6.out; rw [HLN.out] at this; omega)), HU.out⟩
      · have d6 : (t.typ == 6) = false := by simpa using h6
        have H6 := Lib.hid h6
        clear h6
        by_cases b0 : p.n = 0
        · have e0 : ((p.n : Int) == 0) = true := by simp; omega
          have E0 := Lib.hid b0
          clear b0
          go_wp2
          go_ret
          exact ⟨ret_bool (by symm; exact rightB_false (fun h => by unfold rightP at h; rw [HNUM.out, if_neg (by decide), if_neg H7.out] at h; exact h.1 (HN0.out.1 E0.out))), HU.out⟩
        · have e0 : ((p.n : Int) == 0) = false := by simp; omega
          by_cases b1 : 0 < p.i
          · have e2 : decide (0 < p.i) = true := by simp; omega
            go_wp2
            go_ret
            exact ⟨ret_bool (by symm; exact rightB_false (fun h => by unfold rightP at h; rw [HNUM.out, if_neg (by decide), if_neg H7.out] at h; have := HI0.out.2 h.2.2.1; omega)), HU.out⟩
          · have e2 : decide (0 < p.i) = false := by simp; omega
            by_cases b2 : 0 < p.m
            · have e3 : decide (0 < p.m) = true := by simp; omega
              go_wp2
              go_ret
              exact ⟨ret_bool (by symm; exact rightB_false (fun h => by unfold rightP at h; rw [HNUM.out, if_neg (by decide), if_neg H7.out] at h; have := HM0.out.2 h.2.2.2.1; omega)), HU.out⟩
            · have e3 : decide (0 < p.m) = false := by simp; omega
              go_wp2
              go_loop [86] (fun i => ∃ k : Nat, k ≤ p.n ∧ i = .int .i64 k ∧ Hid (∀ s ∈ t.texts.take k, (0 : Int) ∉ sb s)) (fun i => p.n - (intOf i).toNat)
              case atStart => exact ⟨0, by omega, rfl, fun z hz => by simp at hz⟩
              case round =>
                obtain ⟨k, hk, rfl, HK⟩ := hrel
                by_cases hlt : k < p.n
                · obtain ⟨s, HX, hcell⟩ := HM2.out.texts.str hlt
                  have hix := HM2.out.texts.index p.tc k hlt
                  have HMEM := Lib.hid (List.mem_of_getElem? HX.out)
                  by_cases hz0 : (0 : Int) ∈ sb s
                  · have d0 := contains_yes hz0
                    go_wp2_with fail
                    refine (Try.strings_Contains_one s 0 _).mono ?_
                    rintro e w' ⟨rfl, rfl⟩
                    go_wp2
                    go_ret
                    exact ⟨ret_bool (by symm; exact rightB_false (fun h => by unfold rightP at h; rw [HNUM.out, if_neg (by decide), if_neg H7.out] at h; exact h.2.2.2.2 s HMEM.out hz0)), HU.out⟩
                  · have d0 := contains_no hz0
                    go_wp2_with fail
                    refine (Try.strings_Contains_one s 0 _).mono ?_
                    rintro e w' ⟨rfl, rfl⟩
                    go_wp2
                    go_round
                    case rel =>
                      refine ⟨k + 1, by omega, by go_num, fun y hy => ?_⟩
                      obtain ⟨hkl, hke⟩ := List.getElem?_eq_some_iff.1 HX.out
                      rw [List.take_succ_eq_append_getElem hkl, hke] at hy
                      rcases List.mem_append.1 hy with h | h
                      · exact HK.out y h
                      · simp at h; subst h; exact hz0
                    case measure => simp [intOf]; omega
                · obtain rfl : k = p.n := by omega
                  go_wp2
                  go_ret
                  have hR : rightP t := by
                    unfold rightP
                    rw [HNUM.out, if_neg (by decide), if_neg H7.out]
                    refine ⟨fun h => b0 (HN0.out.2 h), fun h => absurd h H6.out, HI0.out.1 (by omega), HM0.out.1 (by omega), fun z hz => HK.out z ?_⟩
                    rw [List.take_of_length_le (by rw [HLN.out]; omega)]
                    exact hz
                  exact ⟨ret_bool (rightB_true hR).symm, HU.out⟩

set_option maxRecDepth 100000 in
set_option maxHeartbeats 400000 in
theorem length_any (w : World) (p : TagP) (t : TagV) (h : TagM w p t) (ht : textLen t.texts ≤ 1000000000000000) :
    Calls Try.prog 25 #[.agg #[.int .i64 t.tag, .int .i64 t.typ, .slice p.IA p.i p.ic, .slice p.TA p.n p.tc, .slice p.BA p.m p.bc]] w (RetU (.int .i64 (lenT t : Nat)) w) := by
  have HH := Lib.hid h
  have HLI := h.ints.len
  have HLN := h.texts.len
  have HLM := h.bytes.len
  have hli := h.li
  have hln := h.ln
  have hlm := h.lm
  clear h
  obtain ⟨s, HS⟩ : ∃ s, Hid (s = sizeT t.typ) := ⟨_, rfl⟩
  have hsb := sizeT_bd t.typ
  rw [← HS.out] at hsb
  obtain ⟨q, HQ⟩ : ∃ q : Nat, Hid (q = p.i * s) := ⟨_, rfl⟩
  have hq : q ≤ 8000000000000000 := by
    rw [HQ.out]
    have := Nat.mul_le_mul hli hsb.2
    omega
  have hmul : IntKind.i64.wrap ((p.i : Int) * s) = (q : Int) := by
    rw [← Int.natCast_mul, ← HQ.out, IntKind.wrap_i64]
    omega
  have hadd : IntKind.i64.wrap ((q : Int) + p.m) = (q : Int) + p.m := by rw [IntKind.wrap_i64]; omega
  go_enter Try.func25, Try.ntmps25
  go_wp2
  have hsz : (sizeT t.typ : Int) = (s : Int) := by rw [HS.out]
  go_quiet ((go_at_call 17; exact quietL (size_any _ _)))
  clear hsz hmul hadd
  go_upto_region 2 with (fail)
  obtain ⟨B, HB⟩ : ∃ B, Hid (B = w.heap.size) := ⟨_, rfl⟩
  have HBK : Hid (Blk (w.alloc (.cells #[.int .i64 t.tag, .int .i64 t.typ, .slice p.IA p.i p.ic, .slice p.TA p.n p.tc, .slice p.BA p.m p.bc] 40)) w.heap.size 40 #[.int .i64 t.tag, .int .i64 t.typ, .slice p.IA p.i p.ic, .slice p.TA p.n p.tc, .slice p.BA p.m p.bc]) := Blk.new _ _ _
  have HU0 : Hid (Upd [] w (w.alloc (.cells #[.int .i64 t.tag, .int .i64 t.typ, .slice p.IA p.i p.ic, .slice p.TA p.n p.tc, .slice p.BA p.m p.bc] 40))) := (Upd.refl _ _).alloc _
  rw [← HB.out] at HBK ⊢
  generalize hw1 : w.alloc _ = w1 at *
  generalize hw2 : w1.drewN _ = w2
  have HBK2 : Hid (Blk w2 B 40 #[.int .i64 t.tag, .int .i64 t.typ, .slice p.IA p.i p.ic, .slice p.TA p.n p.tc, .slice p.BA p.m p.bc]) := by rw [← hw2]; exact HBK.out.drewN _
  have HU : Hid (Upd [] w w2) := by rw [← hw2]; exact HU0.out.drewN _
  have HM2 : Hid (TagM w2 p t) := HH.out.upd0 HU.out
  clear hw1 hw2 HBK HU0 HH
  have c3 : w2.cell? ⟨B, 3, none⟩ = some (.slice p.TA p.n p.tc) := by rw [HBK2.out.cell]; rfl
  go_wp2_with fail
  go_loop [3, 20] (fun x i => ∃ k : Nat, k ≤ p.n ∧ i = .int .i64 k ∧ x = .int .i64 (((q + p.m + textLen (t.texts.take k) : Nat) : Int))) (fun _ i => p.n - (intOf i).toNat)
  case atStart => exact ⟨0, by omega, rfl, by simp [textLen]⟩
  case round =>
    obtain ⟨k, hk, rfl, rfl⟩ := hrel
    by_cases hlt : k < p.n
    · obtain ⟨x, HX, hcell⟩ := HM2.out.texts.str hlt
      have hix := HM2.out.texts.index p.tc k hlt
      have HT := Lib.hid (textLen_take HX.out)
      have hle := textLen_le t.texts (k + 1)
      rw [HT.out] at hle
      obtain ⟨a, HA⟩ : ∃ a, Hid (a = textLen (t.texts.take k)) := ⟨_, rfl⟩
      rw [← HA.out] at hle HT ⊢
      go_wp2
      go_round
      case rel => exact ⟨k + 1, by omega, by go_num, by rw [HT.out]; go_num⟩
      case measure => simp [intOf]; omega
    · obtain rfl : k = p.n := by omega
      go_wp2
      go_ret
      refine ⟨ret_int ?_, HU.out⟩
      rw [List.take_of_length_le (by rw [HLN.out]; omega)]
      unfold lenT
      rw [HLI.out, HLM.out, ← HS.out, ← HQ.out]
      omega

end Go.Proofs.Ytogknbpbjgdldaa
