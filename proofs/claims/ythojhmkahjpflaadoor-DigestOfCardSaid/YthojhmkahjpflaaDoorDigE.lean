/- The walks of Hash.Write and New: a hash of the bytes that were written. -/
import Derived.Test.YthojhmkahjpflaaDoorDigBlock
namespace Go.Proofs.YthojhmkahjpflaaDoor
open Go.RowKit Go.Dray

def IsKind (kind : Int) : Prop := kind = 1 ∨ kind = 2 ∨ kind = 3
/-- A program's state. -/
def stK (kind : Int) (s : List Int) : List Int := s ++ List.replicate (8 - nwK kind) 0

theorem list4 {s : List Int} (h : s.length = 4) : s = [at0 s 0, at0 s 1, at0 s 2, at0 s 3] := by
  match s, h with
  | [a, b, c, d], _ => rfl
theorem list5 {s : List Int} (h : s.length = 5) : s = [at0 s 0, at0 s 1, at0 s 2, at0 s 3, at0 s 4] := by
  match s, h with
  | [a, b, c, d, e], _ => rfl
theorem list8 {s : List Int} (h : s.length = 8) : s = [at0 s 0, at0 s 1, at0 s 2, at0 s 3, at0 s 4, at0 s 5, at0 s 6, at0 s 7] := by
  match s, h with
  | [a, b, c, d, e, f, g, i], _ => rfl

theorem block_any (w : World) (g : Nat) (kind : Int) (hk : IsKind kind) (s tl : List Int) (size : Int) (hs : s.length = nwK kind) (h : HashAt w g kind (stK kind s) tl size) (hb : ∀ z ∈ tl, 0 ≤ z ∧ z ≤ 255) (hT : Tabs w) (hg : 3 ≤ g) :
    Calls Tryd.prog 23 #[.pointer (some ⟨g, 0, none⟩)] w (HashPost w g kind (stK kind (compK kind s (wordsK kind tl))) tl size) := by
  rcases hk with rfl | rfl | rfl
  · have e : stK 1 s = [at0 s 0, at0 s 1, at0 s 2, at0 s 3, 0, 0, 0, 0] := by
      conv => lhs; unfold stK; rw [list4 hs]
      rfl
    rw [e] at h
    have := block1_any w g _ _ _ _ _ _ _ _ tl size h hb hT hg
    rw [add32_zero] at this
    exact this
  · have e : stK 2 s = [at0 s 0, at0 s 1, at0 s 2, at0 s 3, at0 s 4, 0, 0, 0] := by
      conv => lhs; unfold stK; rw [list5 hs]
      rfl
    rw [e] at h
    have := block2_any w g _ _ _ _ _ _ _ _ tl size h hb hT hg
    rw [add32_zero] at this
    exact this
  · have e : stK 3 s = [at0 s 0, at0 s 1, at0 s 2, at0 s 3, at0 s 4, at0 s 5, at0 s 6, at0 s 7] := by
      conv => lhs; unfold stK; rw [list8 hs]
      rfl
    rw [e] at h
    exact block3_any w g _ _ _ _ _ _ _ _ tl size h hb hT hg

/-- A hash into which the bytes bs were written. -/
structure HashIs (w : World) (g : Nat) (kind : Int) (bs tl : List Int) : Prop where
  at_ : HashAt w g kind (stK kind (runB kind bs (bs.length / 64))) tl bs.length
  tail : tl.take (bs.length % 64) = bs.drop (64 * (bs.length / 64))
  bd : ∀ z ∈ tl, 0 ≤ z ∧ z ≤ 255

theorem HashIs.upd {w w' : World} {g : Nat} {kind : Int} {bs tl : List Int} {L : List (Option Nat)} (h : HashIs w g kind bs tl) (hu : Upd L w w') (hg : some g ∉ L) : HashIs w' g kind bs tl := ⟨h.at_.upd hu hg, h.tail, h.bd⟩
theorem HashIs.drewN {w : World} {g : Nat} {kind : Int} {bs tl : List Int} (h : HashIs w g kind bs tl) (n : Nat) : HashIs (w.drewN n) g kind bs tl := ⟨h.at_.drewN n, h.tail, h.bd⟩

/-- Some more bytes, within the block. -/
theorem hash_more {w w' : World} {g : Nat} {kind : Int} {bs tl zs : List Int} (h : HashIs w g kind bs tl) (hz : ∀ z ∈ zs, 0 ≤ z ∧ z ≤ 255)
    (tl' : List Int) (htl : tl' = tl.take (bs.length % 64) ++ zs ++ tl.drop (bs.length % 64 + zs.length)) (hw : HashAt w' g kind (stK kind (runB kind bs (bs.length / 64))) tl' (bs.length + zs.length : Int)) :
    (bs.length % 64 + zs.length < 64 → HashIs w' g kind (bs ++ zs) tl') ∧
    (bs.length % 64 + zs.length = 64 → (∀ z ∈ tl', 0 ≤ z ∧ z ≤ 255) ∧ (bs ++ zs).length % 64 = 0 ∧
      ∀ w'', HashAt w'' g kind (stK kind (compK kind (runB kind bs (bs.length / 64)) (wordsK kind tl'))) tl' (bs.length + zs.length : Int) → HashIs w'' g kind (bs ++ zs) tl') := by
  have h64 := h.at_.ltl
  have hbd : ∀ z ∈ tl', 0 ≤ z ∧ z ≤ 255 := by
    intro z hm
    rw [htl] at hm
    simp only [List.mem_append] at hm
    rcases hm with (hm | hm) | hm
    · exact h.bd z (List.mem_of_mem_take hm)
    · exact hz z hm
    · exact h.bd z (List.mem_of_mem_drop hm)
  have hl1 : (tl.take (bs.length % 64)).length = bs.length % 64 := by rw [List.length_take]; omega
  refine ⟨fun hlt => ?_, fun heq => ⟨hbd, by simp; omega, fun w'' hw'' => ?_⟩⟩
  · have e1 : (bs ++ zs).length / 64 = bs.length / 64 := by simp; omega
    have e2 : (bs ++ zs).length % 64 = bs.length % 64 + zs.length := by simp; omega
    refine ⟨?_, ?_, hbd⟩
    · rw [e1, runB_app _ _ _ _ (by omega)]
      simpa using hw
    · rw [e1, e2, htl, List.take_append_of_le_length (by simp [hl1]), List.take_of_length_le (by simp [hl1]), h.tail, List.drop_append_of_le_length (by omega)]
  · have e1 : (bs ++ zs).length / 64 = bs.length / 64 + 1 := by simp; omega
    have e2 : (bs ++ zs).length % 64 = 0 := by simp; omega
    refine ⟨?_, ?_, hbd⟩
    · rw [e1, runB, runB_app _ _ _ _ (by omega)]
      have e3 : ((bs ++ zs).drop (64 * (bs.length / 64))).take 64 = tl' := by
        rw [List.drop_append_of_le_length (by omega), ← h.tail, htl, List.take_of_length_le (by simp [hl1]; omega), List.drop_of_length_le (by omega), List.append_nil]
      rw [e3]
      simpa using hw''
    · rw [e1, e2, List.take_zero, List.drop_of_length_le (by simp; omega)]

/-- The bytes' tail when k of them are cut off. -/
theorem cut_slice {w : World} {A : Option Addr} {n : Nat} {zs : List Int} (h : Ints .u8 w A n zs) {c k : Nat} (hk : k ≤ n) (hc : n ≤ c) : Ints .u8 w (cutA 1 A c k) (n - k) (zs.drop k) := by
  have h1 := h.cut (lo := k) (hi := n) (c := c) hk (Nat.le_refl _) hc
  rw [List.take_of_length_le (by rw [List.length_drop, h.len.out]; omega)] at h1
  exact h1

/-- What Write leaves. -/
def WritePost (w : World) (g : Nat) (kind : Int) (bs : List Int) (e : Ending) (w' : World) : Prop := e = .returned (.tuple #[]) ∧ (∃ tl, HashIs w' g kind bs tl) ∧ Upd [some g] w w'

end Go.Proofs.YthojhmkahjpflaaDoor
