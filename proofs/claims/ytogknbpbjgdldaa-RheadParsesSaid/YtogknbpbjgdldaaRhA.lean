/- Rpm headers, plainly: a tag, what is right, what is written; a tag in memory. -/
import Derived.Test.YtogknbpbjgdldaaCodec
import Derived.Test.YtogknbpbjgdldaaStrApp
namespace Go.Proofs.Ytogknbpbjgdldaa
open Go.RowKit Go.Dray

theorem el_str : El Try.prog 38 9 (.string ⟨#[]⟩) 1 16 := ⟨Try.underlying38, by kernel_rfl, rfl, by omega⟩
theorem el_tag : El Try.prog 22 40 (.agg #[.int .i64 0, .int .i64 0, .slice none 0 0, .slice none 0 0, .slice none 0 0]) 5 88 := ⟨Try.underlying22, by kernel_rfl, rfl, by omega⟩

/-- A tag, plainly. -/
structure TagV where
  (tag typ : Int)
  (ints : List Int)
  (texts : List ByteArray)
  (bytes : List Int)
/-- Where a tag's three slices lie. -/
structure TagP where
  (IA : Option Addr)
  (i ic : Nat)
  (TA : Option Addr)
  (n tc : Nat)
  (BA : Option Addr)
  (m bc : Nat)
def Strs (w : World) (A : Option Addr) (n : Nat) (ss : List ByteArray) : Prop := Seg w 1 A n (ss.map Value.string)
/-- A tag in memory. -/
structure TagM (w : World) (p : TagP) (t : TagV) : Prop where
  ints : Ints .i64 w p.IA p.i t.ints
  texts : Strs w p.TA p.n t.texts
  bytes : Ints .u8 w p.BA p.m t.bytes
  ib : ∀ z ∈ t.ints, -9223372036854775808 ≤ z ∧ z ≤ 9223372036854775807
  bb : ∀ z ∈ t.bytes, 0 ≤ z ∧ z ≤ 255
  li : p.i ≤ 1000000000000000
  ln : p.n ≤ 1000000000000000
  lm : p.m ≤ 1000000000000000
/-- The five cells of a tag. -/
def tagC (p : TagP) (t : TagV) : List Value := [.int .i64 t.tag, .int .i64 t.typ, .slice p.IA p.i p.ic, .slice p.TA p.n p.tc, .slice p.BA p.m p.bc]

section
variable {w w' : World} {A : Option Addr} {n : Nat} {ss : List ByteArray} {L : List (Option Nat)} {p : TagP} {t : TagV}
theorem Strs.len (h : Strs w A n ss) : Hid (ss.length = n) := by
  have := Seg.len h
  rw [List.length_map] at this
  show _ = _
  omega
theorem Strs.str (h : Strs w A n ss) {i : Nat} (hi : i < n) : ∃ s, Hid (ss[i]? = some s) ∧ w.cell? ⟨bl A, ofs A + i, none⟩ = some (.string s) := by
  have hl := h.len.out
  refine ⟨ss[i], List.getElem?_eq_getElem (by omega), Seg.cell h i _ ?_⟩
  rw [List.getElem?_map, List.getElem?_eq_getElem (by omega)]
  rfl
theorem Strs.index (h : Strs w A n ss) (c : Nat) (k : Nat) (hk : k < n) : ∀ W : World, (Instr.indexAt 38 (.slice A n c) (.int .i64 k)).run Try.prog W = .ok (.pointer (some ⟨bl A, ofs A + k, none⟩)) W := by
  have := Seg.index h el_str c .i64 k hk
  simpa using this
theorem Strs.upd (h : Strs w A n ss) (hu : Upd L w w') (hn : 0 < n → some (bl A) ∉ L) : Strs w' A n ss := Seg.upd h hu (by omega) hn
theorem TagM.upd0 (h : TagM w p t) (hu : Upd [] w w') : TagM w' p t :=
  ⟨h.ints.upd hu (by simp), h.texts.upd hu (by simp), h.bytes.upd hu (by simp), h.ib, h.bb, h.li, h.ln, h.lm⟩
theorem TagM.drewN (h : TagM w p t) (k : Nat) : TagM (w.drewN k) p t := ⟨h.ints.drewN k, Seg.drewN h.texts k, h.bytes.drewN k, h.ib, h.bb, h.li, h.ln, h.lm⟩
end

/-- How many bytes a number of a type has; 1 of types without numbers. -/
def sizeT (ty : Int) : Nat := if ty = 3 then 2 else if ty = 4 then 4 else if ty = 5 then 8 else 1
theorem sizeT_bd (ty : Int) : 1 ≤ sizeT ty ∧ sizeT ty ≤ 8 := by unfold sizeT; split <;> (try split) <;> (try split) <;> omega
/-- The greatest number of a type. -/
def mostT (ty : Int) : Int := if ty = 5 then 9223372036854775807 else 2 ^ (8 * sizeT ty) - 1
def numT (ty : Int) : Bool := decide (1 ≤ ty) && decide (ty ≤ 5)

/-- Is a tag right? -/
def rightP (t : TagV) : Prop :=
  if numT t.typ = true then t.ints ≠ [] ∧ t.texts = [] ∧ t.bytes = [] ∧ ∀ z ∈ t.ints, 0 ≤ z ∧ z ≤ mostT t.typ
  else if t.typ = 7 then t.bytes ≠ [] ∧ t.ints = [] ∧ t.texts = []
  else t.texts ≠ [] ∧ (t.typ = 6 → t.texts.length = 1) ∧ t.ints = [] ∧ t.bytes = [] ∧ ∀ s ∈ t.texts, (0 : Int) ∉ sb s
open Classical in
noncomputable def rightB (t : TagV) : Bool := decide (rightP t)
theorem rightB_true {t : TagV} (h : rightP t) : rightB t = true := by unfold rightB; simp [h]
theorem rightB_false {t : TagV} (h : ¬ rightP t) : rightB t = false := by unfold rightB; simp [h]

/-- How many bytes texts take. -/
def textLen (ss : List ByteArray) : Nat := (ss.map fun s => s.size + 1).sum
theorem textLen_snoc (ss : List ByteArray) (s : ByteArray) : textLen (ss ++ [s]) = textLen ss + (s.size + 1) := by simp [textLen]
theorem textLen_take {ss : List ByteArray} {k : Nat} {s : ByteArray} (h : ss[k]? = some s) : textLen (ss.take (k + 1)) = textLen (ss.take k) + (s.size + 1) := by
  obtain ⟨hk, he⟩ := List.getElem?_eq_some_iff.1 h
  rw [List.take_succ_eq_append_getElem hk, he, textLen_snoc]
theorem textLen_le (ss : List ByteArray) (k : Nat) : textLen (ss.take k) ≤ textLen ss := by
  have h := congrArg textLen (List.take_append_drop k ss)
  unfold textLen at h ⊢
  rw [List.map_append, List.sum_append] at h
  omega
def lenT (t : TagV) : Nat := t.ints.length * sizeT t.typ + t.bytes.length + textLen t.texts
def upN (at_ s : Nat) : Nat := (at_ + s - 1) / s * s

set_option maxHeartbeats 400000 in
theorem size_any (ty : Int) (w : World) : Calls Try.prog 17 #[.int .i64 ty] w fun e w' => e = .returned (.int .i64 (sizeT ty : Nat)) ∧ w = w' := by
  by_cases h3 : ty = 3
  · subst h3
    go_enter Try.func17, Try.ntmps17
    go_wp2
    go_ret
    exact ⟨rfl, rfl⟩
  · by_cases h4 : ty = 4
    · subst h4
      go_enter Try.func17, Try.ntmps17
      go_wp2
      go_ret
      exact ⟨rfl, rfl⟩
    · by_cases h5 : ty = 5
      · subst h5
        go_enter Try.func17, Try.ntmps17
        go_wp2
        go_ret
        exact ⟨rfl, rfl⟩
      · have d3 : (ty == 3) = false := by simpa using h3
        have d4 : (ty == 4) = false := by simpa using h4
        have d5 : (ty == 5) = false := by simpa using h5
        have HE : Hid (sizeT ty = 1) := by show _ = _; simp [sizeT, h3, h4, h5]
        clear h3 h4 h5
        go_enter Try.func17, Try.ntmps17
        go_wp2
        go_ret
        exact ⟨by rw [HE.out]; rfl, rfl⟩

theorem pow_size (ty : Int) (h : ty ≠ 5) : (2 : Int) ^ (8 * sizeT ty) ≤ 4294967296 ∧ (1 : Int) ≤ 2 ^ (8 * sizeT ty) ∧ 8 * sizeT ty ≤ 32 := by
  unfold sizeT
  split
  · decide
  · split
    · decide
    · decide

set_option maxHeartbeats 400000 in
theorem most_any (ty : Int) (w : World) : Calls Try.prog 35 #[.int .i64 ty] w fun e w' => e = .returned (.int .i64 (mostT ty)) ∧ w = w' := by
  by_cases h5 : ty = 5
  · subst h5
    go_enter Try.func35, Try.ntmps35
    go_wp2
    go_ret
    exact ⟨rfl, rfl⟩
  · have d5 : (ty == 5) = false := by simpa using h5
    have hp := pow_size ty h5
    have HE : Hid (mostT ty = 2 ^ (8 * sizeT ty) - 1) := by show _ = _; simp [mostT, h5]
    have hb := sizeT_bd ty
    obtain ⟨s, hs⟩ : ∃ s, s = sizeT ty := ⟨_, rfl⟩
    rw [← hs] at hp hb
    obtain ⟨hp1, hp2, hp3⟩ := hp
    have hw : wrap64 (2 ^ (8 * s)) = 2 ^ (8 * s) := IntWalk.wrap64_in _ (by omega)
    have HS := Lib.hid hs
    clear h5 hs
    go_enter Try.func35, Try.ntmps35
    go_wp2_with fail
    refine (size_any ty w).mono ?_
    rintro e w' ⟨rfl, rfl⟩
    rw [← HS.out]
    go_wp2
    go_ret
    exact ⟨by rw [HE.out, ← HS.out]; rfl, rfl⟩

set_option maxHeartbeats 400000 in
theorem isNumbers_any (ty : Int) (w : World) : Calls Try.prog 34 #[.int .i64 ty] w fun e w' => e = .returned (.bool (numT ty)) ∧ w = w' := by
  by_cases h1 : 1 ≤ ty
  · have d1 : decide (1 ≤ ty) = true := by simpa using h1
    have HE : Hid (numT ty = decide (ty ≤ 5)) := by show _ = _; simp [numT, h1]
    clear h1
    go_enter Try.func34, Try.ntmps34
    go_wp2
    go_ret
    exact ⟨by rw [HE.out]; rfl, rfl⟩
  · have d1 : decide (1 ≤ ty) = false := by simpa using h1
    have HE : Hid (numT ty = false) := by show _ = _; simp [numT, h1]
    clear h1
    go_enter Try.func34, Try.ntmps34
    go_wp2
    go_ret
    exact ⟨by rw [HE.out]; rfl, rfl⟩

set_option maxHeartbeats 400000 in
theorem up_any (a s : Nat) (w : World) (ha : a ≤ 1000000000000000) (h1 : 1 ≤ s) (h8 : s ≤ 8) : Calls Try.prog 24 #[.int .i64 a, .int .i64 s] w fun e w' => e = .returned (.int .i64 (upN a s : Nat)) ∧ w = w' := by
  have hs : s = 1 ∨ s = 2 ∨ s = 3 ∨ s = 4 ∨ s = 5 ∨ s = 6 ∨ s = 7 ∨ s = 8 := by omega
  rcases hs with rfl | rfl | rfl | rfl | rfl | rfl | rfl | rfl
  all_goals
    go_enter Try.func24, Try.ntmps24
    go_wp2
    go_ret
    exact ⟨ret_int (by unfold upN; omega), rfl⟩

end Go.Proofs.Ytogknbpbjgdldaa
