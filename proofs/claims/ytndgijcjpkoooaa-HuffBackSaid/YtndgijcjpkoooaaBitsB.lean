/- Plain facts: the bits of the bytes of bits. No program. -/
import Derived.Test.YtndgijcjpkoooaaBits
namespace Go.Dray
open Go.RowKit

theorem num_bit (l : List Bool) (j : Nat) : low (num l / 2 ^ j) = l.getD j false := by
  induction l generalizing j with
  | nil => simp [num, low]
  | cons b r ih =>
    match j with
    | 0 =>
      rw [Int.pow_zero, Int.ediv_one]
      unfold low
      have hb := b2i_bd b
      simp only [num]
      cases b
      · simp [b2i]
      · simp [b2i]
    | j + 1 =>
      have e : num (b :: r) / 2 ^ (j + 1) = num r / 2 ^ j := by
        rw [Int.pow_succ, Int.mul_comm, ← Int.ediv_ediv_of_nonneg (by decide)]
        congr 1
        have hb := b2i_bd b
        simp only [num]
        omega
      rw [e, ih]
      simp [List.getD]

theorem pack_bd (bs : List Bool) : ∀ z ∈ pack bs, 0 ≤ z ∧ z ≤ 255 := by
  intro z hz
  unfold pack tab at hz
  obtain ⟨i, _, rfl⟩ := List.mem_map.1 hz
  exact packB_bd bs i

theorem bitsOf_pack (bs : List Bool) : bitsOf (pack bs) = bs ++ List.replicate (8 * ((bs.length + 7) / 8) - bs.length) false := by
  apply List.ext_getElem
  · rw [bitsOf_len, pack_len, List.length_append, List.length_replicate]
    omega
  · intro i h1 h2
    rw [bitsOf_get]
    have hl : i < 8 * ((bs.length + 7) / 8) := by rw [bitsOf_len, pack_len] at h1; exact h1
    have e : (pack bs).getD (i / 8) 0 = packB bs (i / 8) := by
      unfold pack
      simp only [List.getD]
      rw [tab_get _ (by omega)]
      rfl
    rw [e]
    unfold packB
    rw [num_bit]
    have e2 : ((bs.drop (8 * (i / 8))).take 8).getD (i % 8) false = bs.getD i false := by
      simp only [List.getD]
      rw [List.getElem?_take_of_lt (by omega), List.getElem?_drop, show 8 * (i / 8) + i % 8 = i from by omega]
    rw [e2]
    by_cases hi : i < bs.length
    · rw [List.getElem_append_left hi]
      simp [List.getD, hi]
    · rw [List.getElem_append_right (by omega)]
      simp [List.getD, hi]

end Go.Dray
