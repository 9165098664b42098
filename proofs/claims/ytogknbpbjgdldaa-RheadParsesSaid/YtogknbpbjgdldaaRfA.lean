/- The walks of the reference's Size, fits, Right, and of ref07.Has. -/
import Derived.Test.YtogknbpbjgdldaaRhB
import Derived.Deep.Cut
import Derived.BigQuiet
namespace Go.Proofs.Ytogknbpbjgdldaa
open Go.RowKit Go.Dray

/-- How many bytes a number of a type has, 0 where it has none. -/
def rsz (ty : Int) : Nat := if numT ty = true then sizeT ty else 0

set_option maxHeartbeats 400000 in
theorem rsize_any (ty : Int) (w : World) : Calls Try.prog 32 #[.int .i64 ty] w fun e w' => e = .returned (.int .i64 (rsz ty : Nat)) ∧ w = w' := by
  by_cases h1 : ty = 1
  · subst h1
    go_enter Try.func32, Try.ntmps32
    go_wp2
    go_ret
    exact ⟨rfl, rfl⟩
  · by_cases h2 : ty = 2
    · subst h2
      go_enter Try.func32, Try.ntmps32
      go_wp2
      go_ret
      exact ⟨rfl, rfl⟩
    · by_cases h3 : ty = 3
      · subst h3
        go_enter Try.func32, Try.ntmps32
        go_wp2
        go_ret
        exact ⟨rfl, rfl⟩
      · by_cases h4 : ty = 4
        · subst h4
          go_enter Try.func32, Try.ntmps32
          go_wp2
          go_ret
          exact ⟨rfl, rfl⟩
        · by_cases h5 : ty = 5
          · subst h5
            go_enter Try.func32, Try.ntmps32
            go_wp2
            go_ret
            exact ⟨rfl, rfl⟩
          · have HE : Hid (rsz ty = 0) := by show _ = _; unfold rsz numT; rw [if_neg]; simp; omega
            have d1 : (ty == 1) = false := by simpa using h1
            have d2 : (ty == 2) = false := by simpa using h2
            have d3 : (ty == 3) = false := by simpa using h3
            have d4 : (ty == 4) = false := by simpa using h4
            have d5 : (ty == 5) = false := by simpa using h5
            clear h1 h2 h3 h4 h5
            go_enter Try.func32, Try.ntmps32
            go_wp2
            go_ret
            exact ⟨by rw [HE.out]; rfl, rfl⟩

/-- Does a number fit into so many bytes? -/
def fitsB (z : Int) (s : Nat) : Bool := decide (0 ≤ z) && (decide (z / 2 ^ (8 * min s 7) = 0) || decide (s = 8))
theorem fits_step (z : Int) (k : Nat) : z / 2 ^ (8 * k) / 256 = z / 2 ^ (8 * (k + 1)) := by
  rw [show 8 * (k + 1) = 8 * k + 8 by omega, Int.pow_add, Int.ediv_ediv_of_nonneg (by have : (0 : Int) < 2 ^ (8 * k) := Int.pow_pos (by omega); omega)]
  rfl
set_option maxHeartbeats 400000 in
theorem fits_any (z : Int) (hz : -9223372036854775808 ≤ z ∧ z ≤ 9223372036854775807) (s : Nat) (hs : s ≤ 8) (w : World) : Calls Try.prog 42 #[.int .i64 z, .int .i64 s] w fun e w' => e = .returned (.bool (fitsB z s)) ∧ w = w' := by
  by_cases h0 : z < 0
  · have d0 : decide (z < 0) = true := by simpa using h0
    have HE : Hid (fitsB z s = false) := by show _ = _; unfold fitsB; simp; omega
    go_enter Try.func42, Try.ntmps42
    go_wp2
    go_ret
    exact ⟨ret_bool HE.out.symm, rfl⟩
  · have d0 : decide (z < 0) = false := by simpa using h0
    go_enter Try.func42, Try.ntmps42
    go_wp2_with fail
    go_loop [0, 5] (fun x i => ∃ (k : Nat) (y : Int), k ≤ min s 7 ∧ i = .int .i64 k ∧ x = .int .i64 y ∧ 0 ≤ y ∧ y ≤ 9223372036854775807 ∧ Hid (y = z / 2 ^ (8 * k))) (fun _ i => 8 - (intOf i).toNat)
    case atStart => exact ⟨0, z, by omega, rfl, rfl, by omega, by omega, by show _ = _; simp⟩
    case round =>
      obtain ⟨k, y, hk, rfl, rfl, hy0, hy1, HY⟩ := hrel
      by_cases hlt : k < s
      · have d1 : decide (k < s) = true := by simpa using hlt
        by_cases h7 : k < 7
        · have d2 : decide (k < 7) = true := by simpa using h7
          have HY2 : Hid (y / 256 = z / 2 ^ (8 * (k + 1))) := by show _ = _; rw [HY.out, fits_step]
          have hq0 : 0 ≤ y / 256 := by omega
          have hq1 : y / 256 ≤ 9223372036854775807 := by omega
          have ht : Int.tdiv y 256 = y / 256 := Int.tdiv_eq_ediv_of_nonneg hy0
          go_wp2
          go_round
          case rel => exact ⟨k + 1, y / 256, by omega, by go_num, by go_num, hq0, hq1, HY2⟩
          case measure => simp [intOf]; omega
        · have d2 : decide (k < 7) = false := by simpa using h7
          obtain rfl : k = 7 := by omega
          obtain rfl : s = 8 := by omega
          have HE : Hid (fitsB z 8 = true) := by show _ = _; unfold fitsB; simp; omega
          by_cases hy : y = 0
          · have d3 : (y == 0) = true := by simp [hy]
            clear hy
            go_wp2
            go_ret
            exact ⟨ret_bool HE.out.symm, rfl⟩
          · have d3 : (y == 0) = false := by simp [hy]
            clear hy
            go_wp2
            go_ret
            exact ⟨ret_bool HE.out.symm, rfl⟩
      · have d1 : decide (k < s) = false := by simpa using hlt
        obtain rfl : k = s := by omega
        by_cases hy : y = 0
        · have d3 : (y == 0) = true := by simp [hy]
          have HE : Hid (fitsB z k = true) := by show _ = _; unfold fitsB; rw [Nat.min_eq_left (by omega), ← HY.out]; simp [hy]; omega
          clear hy
          go_wp2
          go_ret
          exact ⟨ret_bool HE.out.symm, rfl⟩
        · have d3 : (y == 0) = false := by simp [hy]
          have d4 : ((k : Int) == 8) = false := by simp; omega
          have HE : Hid (fitsB z k = false) := by show _ = _; unfold fitsB; rw [Nat.min_eq_left (by omega), ← HY.out]; simp [hy]; omega
          clear hy
          go_wp2
          go_ret
          exact ⟨ret_bool HE.out.symm, rfl⟩
theorem fits_most (ty z : Int) (hn : numT ty = true) (hz : z ≤ 9223372036854775807) : fitsB z (sizeT ty) = true ↔ 0 ≤ z ∧ z ≤ mostT ty := by
  unfold numT at hn
  simp at hn
  have hc : ty = 1 ∨ ty = 2 ∨ ty = 3 ∨ ty = 4 ∨ ty = 5 := by omega
  rcases hc with rfl | rfl | rfl | rfl | rfl <;> simp [fitsB, sizeT, mostT] <;> omega

theorem sb_get {s : ByteArray} {k : Nat} (h : k < s.size) : (sb s)[k]? = some (s[k].toNat : Int) := by
  unfold sb
  rw [List.getElem?_map, List.getElem?_eq_getElem (by rw [Array.length_toList]; exact h)]
  rfl
theorem nil_len {α : Type} {l : List α} {n : Nat} (h : l.length = n) : n = 0 ↔ l = [] := by rw [← h]; exact List.length_eq_zero_iff

set_option maxHeartbeats 400000 in
theorem has_any (s : ByteArray) (hs : s.size ≤ 1000000000000000) (w : World) : Calls Try.prog 41 #[.string s, .int .u8 0] w fun e w' => e = .returned (.bool (decide ((0 : Int) ∈ sb s))) ∧ w = w' := by
  have hl := sb_len s
  obtain ⟨n, HN⟩ : ∃ n, Hid (n = s.size) := ⟨_, rfl⟩
  go_enter Try.func41, Try.ntmps41
  go_wp2_with fail
  go_loop [5] (fun i => ∃ k : Nat, k ≤ n ∧ i = .int .i64 k ∧ Hid ((0 : Int) ∉ (sb s).take k)) (fun i => n - (intOf i).toNat)
  case atStart => exact ⟨0, by omega, rfl, by show ¬ _; simp⟩
  case round =>
    obtain ⟨k, hk, rfl, HK⟩ := hrel
    by_cases hlt : k < n
    · have hlt2 : k < s.size := by rw [← HN.out]; exact hlt
      obtain ⟨x, HX⟩ : ∃ x : Int, Hid ((s[k].toNat : Int) = x) := ⟨(s[k].toNat : Int), rfl⟩
      have HG : Hid ((sb s)[k]? = some x) := by show _ = _; rw [← HX.out]; exact sb_get hlt2
      obtain ⟨hkl, hke⟩ := List.getElem?_eq_some_iff.1 HG.out
      have HKE := Lib.hid hke
      clear hke
      have hx := HX.out
      by_cases h0 : x = 0
      · have d0 : (x == 0) = true := by simp [h0]
        have HE : Hid (decide ((0 : Int) ∈ sb s) = true) := by show _ = _; simp only [decide_eq_true_eq]; rw [← h0]; exact List.mem_of_getElem? HG.out
        clear h0
        go_wp2
        go_ret
        exact ⟨ret_bool HE.out.symm, rfl⟩
      · have d0 : (x == 0) = false := by simp [h0]
        go_wp2
        go_round
        case rel =>
          refine ⟨k + 1, by omega, by go_num, ?_⟩
          show ¬ _
          rw [List.take_succ_eq_append_getElem hkl, HKE.out]
          intro h
          rcases List.mem_append.1 h with h | h
          · exact HK.out h
          · simp at h; exact h0 h.symm
        case measure => simp [intOf]; omega
    · obtain rfl : k = n := by omega
      have HE : Hid (decide ((0 : Int) ∈ sb s) = false) := by
        show _ = _
        have := HK.out
        rw [List.take_of_length_le (by rw [hl, HN.out]; omega)] at this
        simpa using this
      have hn := HN.out
      go_wp2
      go_ret
      exact ⟨ret_bool HE.out.symm, rfl⟩

set_option maxRecDepth 100000 in
set_option maxHeartbeats 1000000 in
theorem rright_any (w : World) (p : TagP) (t : TagV) (h : TagM w p t) (hx : ∀ s ∈ t.texts, s.size ≤ 1000000000000000) :
    Calls Try.prog 31 #[.agg #[.int .i64 t.tag, .int .i64 t.typ, .slice p.IA p.i p.ic, .slice p.TA p.n p.tc, .slice p.BA p.m p.bc]] w (RetU (.bool (rightB t)) w) := by
  have HH := Lib.hid h
  have HXT := Lib.hid hx
  have HLI := h.ints.len
  have HLN := h.texts.len
  have HLM := h.bytes.len
  have hli := h.li
  have hln := h.ln
  have hlm := h.lm
  clear h hx
  have HI0 : Hid (p.i = 0 ↔ t.ints = []) := nil_len HLI.out
  have HN0 : Hid (p.n = 0 ↔ t.texts = []) := nil_len HLN.out
  have HM0 : Hid (p.m = 0 ↔ t.bytes = []) := nil_len HLM.out
  go_enter Try.func31, Try.ntmps31
  go_upto_region 1 with (fail)
  obtain ⟨B, HB⟩ : ∃ B, Hid (B = w.heap.size) := ⟨_, rfl⟩
  have HBK : Hid (Blk (w.alloc (.cells #[.int .i64 t.tag, .int .i64 t.typ, .slice p.IA p.i p.ic, .slice p.TA p.n p.tc, .slice p.BA p.m p.bc] 40)) w.heap.size 40 #[.int .i64 t.tag, .int .i64 t.typ, .slice p.IA p.i p.ic, .slice p.TA p.n p.tc, .slice p.BA p.m p.bc]) := Blk.new _ _ _
  have HU : Hid (Upd [] w (w.alloc (.cells #[.int .i64 t.tag, .int .i64 t.typ, .slice p.IA p.i p.ic, .slice p.TA p.n p.tc, .slice p.BA p.m p.bc] 40))) := (Upd.refl _ _).alloc _
  rw [← HB.out] at HBK ⊢
  generalize hw2 : w.alloc _ = w2 at *
  have HM2 : Hid (TagM w2 p t) := HH.out.upd0 HU.out
  clear hw2 HH
  have c1 : w2.cell? ⟨B, 1, none⟩ = some (.int .i64 t.typ) := by rw [HBK.out.cell]; rfl
  have c2 : w2.cell? ⟨B, 2, none⟩ = some (.slice p.IA p.i p.ic) := by rw [HBK.out.cell]; rfl
  have c3 : w2.cell? ⟨B, 3, none⟩ = some (.slice p.TA p.n p.tc) := by rw [HBK.out.cell]; rfl
  have c4 : w2.cell? ⟨B, 4, none⟩ = some (.slice p.BA p.m p.bc) := by rw [HBK.out.cell]; rfl
  by_cases h7 : t.typ = 7
  · have H7 := Lib.hid h7
    have d7 : (t.typ == 7) = true := by simp [h7]
    clear h7
    by_cases b0 : p.i = 0
    · have e0 : ((p.i : Int) == 0) = true := by simp; omega
      have E0 := Lib.hid b0
      clear b0
      by_cases b1 : p.n = 0
      · have e1 : ((p.n : Int) == 0) = true := by simp; omega
        have E1 := Lib.hid b1
        clear b1
        by_cases b2 : 0 < p.m
        · have e2 : decide (0 < p.m) = true := by simp; omega
          go_wp2
          go_ret
          exact ⟨ret_bool (by symm; exact rightB_true (by unfold rightP; rw [H7.out, if_neg (by decide), if_pos rfl]; exact ⟨fun h => by have := HM0.out.2 h; omega, HI0.out.1 E0.out, HN0.out.1 E1.out⟩)), HU.out⟩
        · have e2 : decide (0 < p.m) = false := by simp; omega
          go_wp2
          go_ret
          exact ⟨ret_bool (by symm; exact rightB_false (fun h => by unfold rightP at h; rw [H7.out, if_neg (by decide), if_pos rfl] at h; exact h.1 (HM0.out.1 (by omega)))), HU.out⟩
      · have e1 : ((p.n : Int) == 0) = false := by simp; omega
        go_wp2
        go_ret
        exact ⟨ret_bool (by symm; exact rightB_false (fun h => by unfold rightP at h; rw [H7.out, if_neg (by decide), if_pos rfl] at h; have := HN0.out.2 h.2.2; omega)), HU.out⟩
    · have e0 : ((p.i : Int) == 0) = false := by simp; omega
      go_wp2
      go_ret
      exact ⟨ret_bool (by symm; exact rightB_false (fun h => by unfold rightP at h; rw [H7.out, if_neg (by decide), if_pos rfl] at h; have := HI0.out.2 h.2.1; omega)), HU.out⟩
  · have H7 := Lib.hid h7
    have d7 : (t.typ == 7) = false := by simpa using h7
    clear h7
    cases hnum : numT t.typ with
    | true =>
      have HNUM := Lib.hid hnum
      clear hnum
      obtain ⟨s, HS⟩ : ∃ s, Hid (s = sizeT t.typ) := ⟨_, rfl⟩
      have hsb := sizeT_bd t.typ
      rw [← HS.out] at hsb
      have HRZ : Hid ((rsz t.typ : Int) = (s : Int)) := by show _ = _; unfold rsz; rw [if_pos HNUM.out, HS.out]
      have ds : ((s : Int) == 0) = false := by simp; omega
      go_wp2_with fail
      refine (rsize_any t.typ _).mono ?_
      rintro e w' ⟨rfl, rfl⟩
      rw [HRZ.out]
      go_wp2_with fail
      have hrz := HRZ.out
      go_loopw [4] (fun i wr => ∃ k : Nat, k ≤ p.i ∧ i = .int .i64 k ∧ (∃ q, wr = w2.drewN q) ∧ Hid (∀ z ∈ t.ints.take k, 0 ≤ z ∧ z ≤ mostT t.typ)) (fun i _ => p.i - (intOf i).toNat)
      case atStart => exact ⟨0, by omega, rfl, ⟨0, rfl⟩, fun z hz => by simp at hz⟩
      case round =>
        obtain ⟨k, hk, rfl, ⟨q, rfl⟩, HK⟩ := hrel
        have HUq := Lib.hid (HU.out.drewN q)
        have HMq := Lib.hid (HM2.out.drewN q)
        have HBq := Lib.hid (HBK.out.drewN q)
        generalize hwq : w2.drewN q = wr at *
        clear c1 c2 c3 c4
        have c1 : wr.cell? ⟨B, 1, none⟩ = some (.int .i64 t.typ) := by rw [HBq.out.cell]; rfl
        have c2 : wr.cell? ⟨B, 2, none⟩ = some (.slice p.IA p.i p.ic) := by rw [HBq.out.cell]; rfl
        have c3 : wr.cell? ⟨B, 3, none⟩ = some (.slice p.TA p.n p.tc) := by rw [HBq.out.cell]; rfl
        have c4 : wr.cell? ⟨B, 4, none⟩ = some (.slice p.BA p.m p.bc) := by rw [HBq.out.cell]; rfl
        by_cases hlt : k < p.i
        · obtain ⟨z, HX, hcell⟩ := HMq.out.ints.int hlt
          have hix := HMq.out.ints.index el_int p.ic .i64 k hlt
          have HMEM := Lib.hid (List.mem_of_getElem? HX.out)
          have hzb := HMq.out.ib z HMEM.out
          by_cases hz0 : 0 ≤ z ∧ z ≤ mostT t.typ
          · have HD : Hid (fitsB z s = true) := by show _ = _; rw [HS.out]; exact (fits_most t.typ z HNUM.out hzb.2).2 hz0
            have hd := HD.out
            go_wp2
            go_quiet (first | (go_at_call 32; exact quietL (rsize_any _ _)) | (go_at_call 42; exact quietL (fits_any z hzb s (by omega) _)))
            clear hrz hd
            go_wp2
            go_roundw
            case rel =>
              refine ⟨k + 1, by omega, by go_num, ?_, fun y hy => ?_⟩
              · rw [← hwq]
                exact ⟨_, World.drewN_drewN _ _ _⟩
              · obtain ⟨hkl, hke⟩ := List.getElem?_eq_some_iff.1 HX.out
                rw [List.take_succ_eq_append_getElem hkl, hke] at hy
                rcases List.mem_append.1 hy with h | h
                · exact HK.out y h
                · simp at h; subst h; exact hz0
            case measure => simp [intOf]; omega
          · have HD : Hid (fitsB z s = false) := by show _ = _; rw [HS.out]; exact Bool.eq_false_iff.2 fun h => hz0 ((fits_most t.typ z HNUM.out hzb.2).1 h)
            have hd := HD.out
            go_wp2
            go_quiet (first | (go_at_call 32; exact quietL (rsize_any _ _)) | (go_at_call 42; exact quietL (fits_any z hzb s (by omega) _)))
            go_wp2
            go_ret
            exact ⟨ret_bool (by symm; exact rightB_false (fun h => by unfold rightP at h; rw [if_pos HNUM.out] at h; exact hz0 (h.2.2.2 z HMEM.out))), HUq.out.drewN _⟩
        · obtain rfl : k = p.i := by omega
          clear hrz
          have HALL : Hid (∀ z ∈ t.ints, 0 ≤ z ∧ z ≤ mostT t.typ) := by
            have := HK.out
            rw [List.take_of_length_le (by rw [HLI.out]; omega)] at this
            exact this
          by_cases b0 : 0 < p.i
          · have e0 : decide (0 < p.i) = true := by simp; omega
            by_cases b1 : p.n = 0
            · have e1 : ((p.n : Int) == 0) = true := by simp; omega
              have E1 := Lib.hid b1
              clear b1
              by_cases b2 : p.m = 0
              · have e2 : ((p.m : Int) == 0) = true := by simp; omega
                have E2 := Lib.hid b2
                clear b2
                go_wp2
                go_ret
                exact ⟨ret_bool (by symm; exact rightB_true (by unfold rightP; rw [if_pos HNUM.out]; exact ⟨fun h => by have := HI0.out.2 h; omega, HN0.out.1 E1.out, HM0.out.1 E2.out, HALL.out⟩)), HUq.out⟩
              · have e2 : ((p.m : Int) == 0) = false := by simp; omega
                go_wp2
                go_ret
                exact ⟨ret_bool (by symm; exact rightB_false (fun h => by unfold rightP at h; rw [if_pos HNUM.out] at h; have := HM0.out.2 h.2.2.1; omega)), HUq.out⟩
            · have e1 : ((p.n : Int) == 0) = false := by simp; omega
              go_wp2
              go_ret
              exact ⟨ret_bool (by symm; exact rightB_false (fun h => by unfold rightP at h; rw [if_pos HNUM.out] at h; have := HN0.out.2 h.2.1; omega)), HUq.out⟩
          · have e0 : decide (0 < p.i) = false := by simp; omega
            go_wp2
            go_ret
            exact ⟨ret_bool (by symm; exact rightB_false (fun h => by unfold rightP at h; rw [if_pos HNUM.out] at h; exact h.1 (HI0.out.1 (by omega)))), HUq.out⟩
    | false =>
      have HNUM := Lib.hid hnum
      clear hnum
      have HRZ : Hid ((rsz t.typ : Int) = 0) := by show _ = _; unfold rsz; rw [HNUM.out]; rfl
      go_wp2_with fail
      refine (rsize_any t.typ _).mono ?_
      rintro e w' ⟨rfl, rfl⟩
      rw [HRZ.out]
      go_wp2_with fail
      go_loop [3] (fun i => ∃ k : Nat, k ≤ p.n ∧ i = .int .i64 k ∧ Hid (∀ s ∈ t.texts.take k, (0 : Int) ∉ sb s)) (fun i => p.n - (intOf i).toNat)
      case atStart => exact ⟨0, by omega, rfl, fun z hz => by simp at hz⟩
      case round =>
        obtain ⟨k, hk, rfl, HK⟩ := hrel
        by_cases hlt : k < p.n
        · obtain ⟨s, HX, hcell⟩ := HM2.out.texts.str hlt
          have hix := HM2.out.texts.index p.tc k hlt
          have HMEM := Lib.hid (List.mem_of_getElem? HX.out)
          by_cases hz0 : (0 : Int) ∈ sb s
          · have HD : Hid (decide ((0 : Int) ∈ sb s) = true) := by show _ = _; simpa using hz0
            go_wp2_with fail
            refine (has_any s (HXT.out s HMEM.out) _).mono ?_
            rintro e w' ⟨rfl, rfl⟩
            rw [HD.out]
            go_wp2
            go_ret
            exact ⟨ret_bool (by symm; exact rightB_false (fun h => by unfold rightP at h; rw [HNUM.out, if_neg (by decide), if_neg H7.out] at h; exact h.2.2.2.2 s HMEM.out hz0)), HU.out⟩
          · have HD : Hid (decide ((0 : Int) ∈ sb s) = false) := by show _ = _; simpa using hz0
            go_wp2_with fail
            refine (has_any s (HXT.out s HMEM.out) _).mono ?_
            rintro e w' ⟨rfl, rfl⟩
            rw [HD.out]
            go_wp2
            go_round
            case rel =>
              refine ⟨k + 1, by omega, by go_num, fun y hy => ?_⟩
              obtain ⟨hkl, hke⟩ := List.getElem?_eq_some_iff.1 HX.out
              rw [List.take_succ_eq_append_getElem hkl, hke] at hy
              rcases List.mem_append.1 hy with h | h
              · exact HK.out y h
              · simp at h; subst h; exact hz0
            case measure => simp [intOf]; omega
        · obtain rfl : k = p.n := by omega
          have HALL : Hid (∀ s ∈ t.texts, (0 : Int) ∉ sb s) := by
            have := HK.out
            rw [List.take_of_length_le (by rw [HLN.out]; omega)] at this
            exact this
          by_cases b0 : p.i = 0
          · have e0 : ((p.i : Int) == 0) = true := by simp; omega
            have E0 := Lib.hid b0
            clear b0
            by_cases b1 : p.m = 0
            · have e1 : ((p.m : Int) == 0) = true := by simp; omega
              have E1 := Lib.hid b1
              clear b1
              by_cases b2 : 0 < p.n
              · have e2 : decide (0 < p.n) = true := by simp; omega
                by_cases h6 : t.typ = 6
                · have H6 := Lib.hid h6
                  have d6 : (t.typ != 6) = false := by simp [h6]
                  clear h6
                  by_cases b3 : p.n = 1
                  · have e3 : ((p.n : Int) == 1) = true := by simp; omega
                    have E3 := Lib.hid b3
                    clear b3
                    go_wp2
                    go_ret
                    exact ⟨ret_bool (by symm; exact rightB_true (by unfold rightP; rw [HNUM.out, if_neg (by decide), if_neg H7.out]; exact ⟨fun h => by have := HN0.out.2 h; omega, fun _ => by rw [HLN.out]; exact E3.out, HI0.out.1 E0.out, HM0.out.1 E1.out, HALL.out⟩)), HU.out⟩
                  · have e3 : ((p.n : Int) == 1) = false := by simp; omega
                    go_wp2
                    go_ret
                    exact ⟨ret_bool (by symm; exact rightB_false (fun h => by unfold rightP at h; rw [HNUM.out, if_neg (by decide), if_neg H7.out] at h; have := h.2.1 H6.out; rw [HLN.out] at this; omega)), HU.out⟩
                · have H6 := Lib.hid h6
                  have d6 : (t.typ != 6) = true := by simp [h6]
                  clear h6
                  go_wp2
                  go_ret
                  exact ⟨ret_bool (by symm; exact rightB_true (by unfold rightP; rw [HNUM.out, if_neg (by decide), if_neg H7.out]; exact ⟨fun h => by have := HN0.out.2 h; omega, fun h => absurd h H6.out, HI0.out.1 E0.out, HM0.out.1 E1.out, HALL.out⟩)), HU.out⟩
              · have e2 : decide (0 < p.n) = false := by simp; omega
                go_wp2
                go_ret
                exact ⟨ret_bool (by symm; exact rightB_false (fun h => by unfold rightP at h; rw [HNUM.out, if_neg (by decide), if_neg H7.out] at h; exact h.1 (HN0.out.1 (by omega)))), HU.out⟩
            · have e1 : ((p.m : Int) == 0) = false := by simp; omega
              go_wp2
              go_ret
              exact ⟨ret_bool (by symm; exact rightB_false (fun h => by unfold rightP at h; rw [HNUM.out, if_neg (by decide), if_neg H7.out] at h; have := HM0.out.2 h.2.2.2.1; omega)), HU.out⟩
          · have e0 : ((p.i : Int) == 0) = false := by simp; omega
            go_wp2
            go_ret
            exact ⟨ret_bool (by symm; exact rightB_false (fun h => by unfold rightP at h; rw [HNUM.out, if_neg (by decide), if_neg H7.out] at h; have := HI0.out.2 h.2.2.1; omega)), HU.out⟩

end Go.Proofs.Ytogknbpbjgdldaa
