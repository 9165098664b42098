/- Tags that came in; the walk of the reference's Light. -/
import Derived.Test.YtogknbpbjgdldaaRhS
import Derived.Test.YtogknbpbjgdldaaLawKit
import Derived.Deep.Strs
import Derived.SliceStrings
namespace Go.Proofs.Ytogknbpbjgdldaa
open Go.RowKit Go.Dray

/-- A tag in memory, of whatever length. -/
structure TagR (w : World) (p : TagP) (t : TagV) : Prop where
  ints : Ints .i64 w p.IA p.i t.ints
  texts : Strs w p.TA p.n t.texts
  bytes : Ints .u8 w p.BA p.m t.bytes
  ib : ∀ z ∈ t.ints, -9223372036854775808 ≤ z ∧ z ≤ 9223372036854775807
  bb : ∀ z ∈ t.bytes, 0 ≤ z ∧ z ≤ 255
structure TagsR (w : World) (A : Option Addr) (n : Nat) (ts : List TagV) : Prop where
  len : ts.length = n
  at_ : 0 < n → A = some ⟨bl A, ofs A, none⟩
  tag : ∀ k t, ts[k]? = some t → ∃ p : TagP, TagR w p t ∧ ∀ j v, (tagC p t)[j]? = some v → w.cell? ⟨bl A, ofs A + k * 5 + j, none⟩ = some v
theorem TagR.upd0 {w w' : World} {p : TagP} {t : TagV} (h : TagR w p t) (hu : Upd [] w w') : TagR w' p t := ⟨h.ints.upd hu (by simp), h.texts.upd hu (by simp), h.bytes.upd hu (by simp), h.ib, h.bb⟩
theorem TagsR.upd0 {w w' : World} {A : Option Addr} {n : Nat} {ts : List TagV} (h : TagsR w A n ts) (hu : Upd [] w w') : TagsR w' A n ts :=
  ⟨h.len, h.at_, fun k t hk => by
    obtain ⟨p, hp, hc⟩ := h.tag k t hk
    exact ⟨p, hp.upd0 hu, fun j v hv => hu.cell (hc j v hv) (by simp)⟩⟩
theorem TagsR.index {w : World} {A : Option Addr} {n : Nat} {ts : List TagV} (h : TagsR w A n ts) (c k : Nat) (hk : k < n) :
    ∀ W : World, (Instr.indexAt 22 (.slice A n c) (.int .i64 k)).run Try.prog W = .ok (.pointer (some ⟨bl A, ofs A + k * 5, none⟩)) W := run_index el_tag h.at_ c .i64 k hk
theorem TagsR.get {w : World} {A : Option Addr} {n : Nat} {ts : List TagV} (h : TagsR w A n ts) {k : Nat} (hk : k < n) : ∃ (t : TagV) (p : TagP), Hid (ts[k]? = some t) ∧ Hid (TagR w p t) ∧
    w.cell? ⟨bl A, ofs A + k * 5, none⟩ = some (.int .i64 t.tag) ∧ w.cell? ⟨bl A, ofs A + k * 5 + 1, none⟩ = some (.int .i64 t.typ) ∧ w.cell? ⟨bl A, ofs A + k * 5 + 2, none⟩ = some (.slice p.IA p.i p.ic) ∧
    w.cell? ⟨bl A, ofs A + k * 5 + 3, none⟩ = some (.slice p.TA p.n p.tc) ∧ w.cell? ⟨bl A, ofs A + k * 5 + 4, none⟩ = some (.slice p.BA p.m p.bc) := by
  have hl : k < ts.length := by rw [h.len]; exact hk
  obtain ⟨p, hp, hc⟩ := h.tag k ts[k] (List.getElem?_eq_getElem hl)
  exact ⟨ts[k], p, List.getElem?_eq_getElem hl, hp, hc 0 _ rfl, hc 1 _ rfl, hc 2 _ rfl, hc 3 _ rfl, hc 4 _ rfl⟩

/-- What texts weigh, and tags. -/
def strLen (ss : List ByteArray) : Nat := (ss.map fun s => s.size).sum
def wgtT (t : TagV) : Nat := 8 * t.ints.length + t.texts.length + t.bytes.length + strLen t.texts
def wsum (ts : List TagV) : Nat := (ts.map wgtT).sum
structure SmallT (t : TagV) : Prop where
  i : t.ints.length ≤ 5000
  n : t.texts.length ≤ 5000
  m : t.bytes.length ≤ 5000
  s : ∀ s ∈ t.texts, s.size ≤ 5000
structure LightF (ts : List TagV) : Prop where
  len : ts.length ≤ 300
  small : ∀ t ∈ ts, SmallT t
  sum : wsum ts ≤ 5000
theorem strLen_take {ss : List ByteArray} {k : Nat} {s : ByteArray} (h : ss[k]? = some s) : strLen (ss.take (k + 1)) = strLen (ss.take k) + s.size := by
  obtain ⟨hk, he⟩ := List.getElem?_eq_some_iff.1 h
  rw [List.take_succ_eq_append_getElem hk, he]
  simp [strLen]
theorem wsum_take {ts : List TagV} {k : Nat} {t : TagV} (h : ts[k]? = some t) : wsum (ts.take (k + 1)) = wsum (ts.take k) + wgtT t := by
  obtain ⟨hk, he⟩ := List.getElem?_eq_some_iff.1 h
  rw [List.take_succ_eq_append_getElem hk, he]
  simp [wsum]
theorem textLen_strLen (ss : List ByteArray) : textLen ss = strLen ss + ss.length := by
  induction ss with
  | nil => rfl
  | cons s ss ih =>
    have e1 : textLen (s :: ss) = s.size + 1 + textLen ss := by simp [textLen]
    have e2 : strLen (s :: ss) = s.size + strLen ss := by simp [strLen]
    rw [e1, e2, ih, List.length_cons]
    omega
theorem lenT_wgt (t : TagV) : lenT t ≤ wgtT t := by
  unfold lenT wgtT
  rw [textLen_strLen]
  have := Nat.mul_le_mul_left t.ints.length (sizeT_bd t.typ).2
  omega
theorem dsum_wsum (ts : List TagV) : dsum ts ≤ wsum ts + 8 * ts.length := by
  induction ts with
  | nil => simp [dsum]
  | cons t ts ih =>
    have h1 := lenT_wgt t
    have e1 : dsum (t :: ts) = lenT t + 8 + dsum ts := by simp [dsum]
    have e2 : wsum (t :: ts) = wgtT t + wsum ts := by simp [wsum]
    rw [e1, e2, List.length_cons]
    omega
theorem LightF.dsum {ts : List TagV} (h : LightF ts) : dsum ts ≤ 7400 := by
  have h1 := dsum_wsum ts
  have h2 := h.len
  have h3 := h.sum
  omega
theorem LightF.tags {w : World} {A : Option Addr} {n : Nat} {ts : List TagV} (h : LightF ts) (ht : TagsR w A n ts) : Tags w A n ts :=
  ⟨ht.len, ht.at_, fun k t hk => by
    obtain ⟨p, hp, hc⟩ := ht.tag k t hk
    have hs := h.small t (List.mem_of_getElem? hk)
    have i1 := hp.ints.len.out
    have i2 := hp.texts.len.out
    have i3 := hp.bytes.len.out
    exact ⟨p, ⟨hp.ints, hp.texts, hp.bytes, hp.ib, hp.bb, by have := hs.i; omega, by have := hs.n; omega, by have := hs.m; omega⟩, hc⟩⟩

def LightPost (ts : List TagV) (w : World) (e : Ending) (w' : World) : Prop := ∃ b : Bool, e = .returned (.bool b) ∧ (b = true → LightF ts) ∧ Upd [] w w'

set_option maxRecDepth 100000 in
set_option maxHeartbeats 1000000 in
theorem light_any (w : World) (A : Option Addr) (n c : Nat) (ts : List TagV) (h : TagsR w A n ts) :
    Calls Try.prog 8 #[.slice A n c, .int .i64 300, .int .i64 5000] w (LightPost ts w) := by
  have HH := Lib.hid h
  have HL := Lib.hid h.len
  clear h
  by_cases hbig : 300 < n
  · have d1 : decide ((300 : Int) < n) = true := by simp; omega
    go_enter Try.func8, Try.ntmps8
    go_wp2
    go_ret
    exact ⟨false, rfl, (fun h => by cases h), Upd.refl _ _⟩
  · have d1 : decide ((300 : Int) < n) = false := by simp; omega
    go_enter Try.func8, Try.ntmps8
    go_wp2_with fail
    go_loopw [7, 8] (fun x i wr => ∃ (k m : Nat), k ≤ n ∧ m ≤ 5000 ∧ i = .int .i64 k ∧ x = .int .i64 m ∧ Hid (m = wsum (ts.take k)) ∧ Hid (∀ t ∈ ts.take k, SmallT t) ∧ Hid (Upd [] w wr)) (fun _ i _ => n - (intOf i).toNat)
    case atStart => exact ⟨0, 0, by omega, by omega, rfl, rfl, rfl, fun t ht => by simp at ht, Upd.refl _ _⟩
    case round =>
      obtain ⟨k, m, hk, hm, rfl, rfl, HM, HS, HU⟩ := hrel
      by_cases hlt : k < n
      · have HHr := Lib.hid (HH.out.upd0 HU.out)
        obtain ⟨t, p, HT, HP, c0, c1, c2, c3, c4⟩ := HHr.out.get hlt
        have hix := HHr.out.index c k hlt
        have HLI := HP.out.ints.len
        have HLN := HP.out.texts.len
        have HLM := HP.out.bytes.len
        clear c0 c1
        by_cases b1 : 5000 < p.i
        · have e1 : decide ((5000 : Int) < p.i) = true := by simp; omega
          go_wp2
          go_ret
          exact ⟨false, rfl, (fun h => by cases h), HU.out⟩
        · have e1 : decide ((5000 : Int) < p.i) = false := by simp; omega
          by_cases b2 : 5000 < p.n
          · have e2 : decide ((5000 : Int) < p.n) = true := by simp; omega
            go_wp2
            go_ret
            exact ⟨false, rfl, (fun h => by cases h), HU.out⟩
          · have e2 : decide ((5000 : Int) < p.n) = false := by simp; omega
            by_cases b3 : 5000 < p.m
            · have e3 : decide ((5000 : Int) < p.m) = true := by simp; omega
              go_wp2
              go_ret
              exact ⟨false, rfl, (fun h => by cases h), HU.out⟩
            · have e3 : decide ((5000 : Int) < p.m) = false := by simp; omega
              have hw1 : IntKind.i64.wrap (8 * (p.i : Int)) = 8 * (p.i : Int) := by rw [IntKind.wrap_i64]; omega
              have hw2 : IntKind.i64.wrap ((m : Int) + 8 * (p.i : Int)) = (m : Int) + 8 * (p.i : Int) := by rw [IntKind.wrap_i64]; omega
              have hw3 : IntKind.i64.wrap ((m : Int) + 8 * (p.i : Int) + p.n) = (m : Int) + 8 * (p.i : Int) + p.n := by rw [IntKind.wrap_i64]; omega
              have hw4 : IntKind.i64.wrap ((m : Int) + 8 * (p.i : Int) + p.n + p.m) = ((m + 8 * p.i + p.n + p.m : Nat) : Int) := by rw [IntKind.wrap_i64]; omega
              go_wp2
              go_quiet (fail)
              clear hw1 hw2 hw3 hw4
              generalize hw5 : wr.drewN _ = w5
              have HU5 : Hid (Upd [] w w5) := by rw [← hw5]; exact HU.out.drewN _
              have HV5 : Hid (Upd [] wr w5) := by rw [← hw5]; exact (Upd.refl _ _).drewN _
              have f3 := HV5.out.cell c3 (by simp)
              have HP5 := Lib.hid (HP.out.upd0 HV5.out)
              clear hw5 HHr c2 c3 c4 HP HU HV5 e1 e2 e3
              go_wp2_with fail
              go_loop [7, 9] (fun x i => ∃ (j : Nat), j ≤ p.n ∧ i = .int .i64 j ∧ x = .int .i64 (((m + 8 * p.i + p.n + p.m + strLen (t.texts.take j) : Nat) : Int)) ∧ Hid (strLen (t.texts.take j) ≤ 5000 * j) ∧ Hid (∀ s ∈ t.texts.take j, s.size ≤ 5000)) (fun _ i => p.n - (intOf i).toNat)
              case atStart => exact ⟨0, by omega, rfl, by simp [strLen], by show _ ≤ _; simp [strLen], fun s hs => by simp at hs⟩
              case round =>
                obtain ⟨j, hj, rfl, rfl, HB, HJ⟩ := hrel
                obtain ⟨q, HQ⟩ : ∃ q, Hid (q = strLen (t.texts.take j)) := ⟨_, rfl⟩
                rw [← HQ.out] at HB ⊢
                have hq : q ≤ 25000000 := by have := HB.out; omega
                by_cases hjl : j < p.n
                · obtain ⟨s, HX, hcell⟩ := HP5.out.texts.str hjl
                  have hiy := HP5.out.texts.index p.tc j hjl
                  by_cases b4 : 5000 < s.size
                  · have e4 : decide ((5000 : Int) < s.size) = true := by simp; omega
                    go_wp2
                    go_ret
                    exact ⟨false, rfl, (fun h => by cases h), HU5.out⟩
                  · have e4 : decide ((5000 : Int) < s.size) = false := by simp; omega
                    go_wp2
                    go_round
                    case rel =>
                      refine ⟨j + 1, by omega, by go_num, ?_, ?_, ?_⟩
                      · rw [strLen_take HX.out, ← HQ.out]
                        go_num
                      · show _ ≤ _
                        rw [strLen_take HX.out, ← HQ.out]
                        have := HB.out
                        omega
                      · intro y hy
                        obtain ⟨hkl, hke⟩ := List.getElem?_eq_some_iff.1 HX.out
                        rw [List.take_succ_eq_append_getElem hkl, hke] at hy
                        rcases List.mem_append.1 hy with h | h
                        · exact HJ.out y h
                        · simp at h; subst h; omega
                    case measure => simp [intOf]; omega
                · obtain rfl : j = p.n := by omega
                  have HW : Hid (wgtT t = 8 * p.i + p.n + p.m + q) := by
                    show _ = _
                    unfold wgtT
                    rw [HLI.out, HLN.out, HLM.out, HQ.out, List.take_of_length_le (by rw [HLN.out]; omega)]
                  have HSM : Hid (SmallT t) := ⟨by rw [HLI.out]; omega, by rw [HLN.out]; omega, by rw [HLM.out]; omega, fun s hs => HJ.out s (by rw [List.take_of_length_le (by rw [HLN.out]; omega)]; exact hs)⟩
                  by_cases b5 : 5000 < m + 8 * p.i + p.n + p.m + q
                  · have e5 : decide ((5000 : Int) < ((m + 8 * p.i + p.n + p.m + q : Nat) : Int)) = true := by simp only [decide_eq_true_eq]; omega
                    go_wp2
                    go_ret
                    exact ⟨false, rfl, (fun h => by cases h), HU5.out⟩
                  · have e5 : decide ((5000 : Int) < ((m + 8 * p.i + p.n + p.m + q : Nat) : Int)) = false := by simp only [decide_eq_false_iff_not]; omega
                    go_wp2
                    go_roundw
                    case rel =>
                      refine ⟨k + 1, m + 8 * p.i + p.n + p.m + q, by omega, by omega, by go_num, rfl, ?_, ?_, HU5⟩
                      · show _ = _
                        rw [wsum_take HT.out, ← HM.out, HW.out]
                        omega
                      · intro y hy
                        obtain ⟨hkl, hke⟩ := List.getElem?_eq_some_iff.1 HT.out
                        rw [List.take_succ_eq_append_getElem hkl, hke] at hy
                        rcases List.mem_append.1 hy with h | h
                        · exact HS.out y h
                        · simp at h; subst h; exact HSM.out
                    case measure => simp [intOf]; omega
      · obtain rfl : k = n := by omega
        have HTK : Hid (ts.take k = ts) := by show _ = _; exact List.take_of_length_le (by rw [HL.out]; exact Nat.le_refl _)
        rw [HTK.out] at HM HS
        go_wp2
        go_ret
        exact ⟨true, rfl, (fun _ => ⟨by rw [HL.out]; omega, HS.out, by rw [← HM.out]; exact hm⟩), HU.out⟩

end Go.Proofs.Ytogknbpbjgdldaa
