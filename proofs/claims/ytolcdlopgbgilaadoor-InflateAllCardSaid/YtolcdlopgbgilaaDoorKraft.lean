/- Plain facts on a code whose lengths fit: its rows are apart, and no row is the beginning of another one. -/
import Derived.Test.YtolcdlopgbgilaaDoorHuffT
namespace Go.Proofs.YtolcdlopgbgilaaDoor
open Go.RowKit Go.Dray

theorem emod_twice (v a : Int) (ha : 0 < a) : v % (a * 2) = v % a + a * (v / a % 2) := by
  have h1 : a * (v / a) + v % a = v := Int.mul_ediv_add_emod v a
  have h2 : 2 * (v / a / 2) + v / a % 2 = v / a := Int.mul_ediv_add_emod (v / a) 2
  have hr0 := Int.emod_nonneg v (show a ≠ 0 by omega)
  have hr1 := Int.emod_lt_of_pos v ha
  have e : v = (v % a + a * (v / a % 2)) + (a * 2) * (v / a / 2) := by
    rw [Int.mul_assoc, Int.add_assoc, ← Int.mul_add, Int.add_comm (v / a % 2), h2]
    omega
  rw [e, Int.add_mul_emod_self_left, ← e]
  refine Int.emod_eq_of_lt ?_ ?_
  · rcases (show v / a % 2 = 0 ∨ v / a % 2 = 1 by omega) with h | h <;> rw [h] <;> omega
  · rcases (show v / a % 2 = 0 ∨ v / a % 2 = 1 by omega) with h | h <;> rw [h] <;> omega

theorem digits_num (v : Int) (n : Nat) : num (digits v n) = v % 2 ^ n := by
  induction n with
  | zero => simp [digits, tab, num, Int.emod_one]
  | succ n ih =>
    have hl : (digits v n).length = n := tab_len _ _
    have e : digits v (n + 1) = digits v n ++ [low (v / 2 ^ n)] := tab_succ n _
    rw [e, num_snoc, ih, hl, b2i_low, Int.pow_succ]
    have h1 : v % (2 ^ n * 2) = v % 2 ^ n + 2 ^ n * (v / 2 ^ n % 2) := emod_twice v (2 ^ n) (Int.pow_pos (by decide))
    rw [h1, Int.mul_comm (v / 2 ^ n % 2)]

theorem rowBits_rev (v : Int) (n : Nat) : (rowBits v n).reverse = digits v n := by
  unfold rowBits digits tab
  rw [← List.map_reverse]
  apply List.ext_getElem (by simp)
  intro i h1 h2
  simp at h1 h2
  simp only [List.getElem_map, List.getElem_reverse, List.getElem_range, List.length_range]
  congr 3
  omega

theorem rowBits_num (v : Int) (n : Nat) (h0 : 0 ≤ v) (h : v < 2 ^ n) : num (rowBits v n).reverse = v := by
  rw [rowBits_rev, digits_num, Int.emod_eq_of_lt h0 h]

/-- The first bits of a row are a row of a smaller number. -/
theorem rowBits_take (v : Int) (n m : Nat) (h : m ≤ n) : (rowBits v n).take m = rowBits (v / 2 ^ (n - m)) m := by
  apply List.ext_getElem (by simp [rowBits, tab_len]; omega)
  intro i h1 h2
  have hi : i < m := by simp [rowBits, tab_len] at h2; exact h2
  rw [List.getElem_take]
  simp only [rowBits, tab, List.getElem_map, List.getElem_range]
  rw [Int.ediv_ediv_of_nonneg (Int.pow_nonneg (by decide)), ← Int.pow_add]
  congr 3
  omega

theorem cnt_mono (zs : List Int) (n : Int) {i j : Nat} (h : i ≤ j) : cnt zs n i ≤ cnt zs n j := by
  unfold cnt
  have : zs.take i = (zs.take j).take i := by rw [List.take_take, Nat.min_eq_left h]
  rw [this]
  exact (List.take_sublist i (zs.take j)).countP_le

/-- The share of the rows of length at most n. -/
def share (zs : List Int) (n : Nat) : Int := (zs.map fun z : Int => if 0 < z ∧ z ≤ (n : Int) then wt z else 0).sum

theorem share_le {zs : List Int} (hb : ∀ z ∈ zs, 0 ≤ z ∧ z ≤ 15) (n : Nat) : share zs n ≤ wsum zs := by
  unfold share wsum
  induction zs with
  | nil => simp
  | cons z zs ih =>
    have h1 := wt_bd z (hb z (by simp)).1
    have h2 := ih fun y hy => hb y (by simp [hy])
    simp only [List.map_cons, List.sum_cons]
    split <;> omega

theorem share_succ (zs : List Int) (n : Nat) (hn : n + 1 ≤ 15) : share zs (n + 1) = share zs n + cnt zs (n + 1 : Nat) zs.length * 2 ^ (15 - (n + 1)) := by
  have hc : cnt zs (n + 1 : Nat) zs.length = zs.countP (· == ((n + 1 : Nat) : Int)) := by unfold cnt; rw [List.take_length]
  rw [hc]
  unfold share
  clear hc
  induction zs with
  | nil => simp
  | cons z zs ih =>
    simp only [List.map_cons, List.sum_cons, List.countP_cons, ih]
    by_cases h : z = ((n + 1 : Nat) : Int)
    · have e : wt z = 2 ^ (15 - (n + 1)) := by
        rw [wt_pos z (by omega), h]
        congr 1
        omega
      have hz : (z == ((n + 1 : Nat) : Int)) = true := by simp [h]
      rw [if_pos (by omega), if_neg (by omega), e, hz]
      simp only [if_true]
      generalize List.countP (fun x => x == ((n + 1 : Nat) : Int)) zs = q
      rw [show ((q + 1 : Nat) : Int) = (q : Int) + 1 from by omega, Int.add_mul, Int.one_mul]
      omega
    · have hz : (z == ((n + 1 : Nat) : Int)) = false := by simp; omega
      rw [hz]
      by_cases h2 : 0 < z ∧ z ≤ (n : Int)
      · rw [if_pos (by omega), if_pos h2]; simp; omega
      · rw [if_neg (by omega), if_neg h2]; simp

theorem rowAt_share (zs : List Int) (n : Nat) (hn : n ≤ 15) : rowAt zs n * 2 ^ (15 - n) = share zs n := by
  induction n with
  | zero =>
    have : share zs 0 = 0 := by
      unfold share
      induction zs with
      | nil => simp
      | cons z zs ih => simp only [List.map_cons, List.sum_cons, ih]; rw [if_neg (by omega)]; rfl
    rw [this]
    simp [rowAt]
  | succ n ih =>
    rw [share_succ zs n hn, ← ih (by omega), rowAt, Int.add_mul]
    have e : (2 : Int) ^ (15 - n) = 2 * 2 ^ (15 - (n + 1)) := by
      rw [show 15 - n = (15 - (n + 1)) + 1 from by omega, Int.pow_succ, Int.mul_comm]
    rw [e, ← Int.mul_assoc, Int.mul_comm 2 (rowAt zs n)]

theorem rowAt_le {zs : List Int} (h : chk zs = 0) (n : Nat) (hn : n ≤ 15) : rowAt zs n ≤ 2 ^ n := by
  obtain ⟨_, hb, hw⟩ := chk_zero h
  have h1 := rowAt_share zs n hn
  have h2 := share_le hb n
  have hp : (0 : Int) < 2 ^ (15 - n) := Int.pow_pos (by decide)
  have e : (2 : Int) ^ n * 2 ^ (15 - n) = 32768 := by rw [← Int.pow_add, show n + (15 - n) = 15 from by omega]; rfl
  rcases Int.lt_or_le (2 ^ n) (rowAt zs n) with h3 | h3
  · have := Int.mul_lt_mul_of_pos_right h3 hp
    omega
  · exact h3

theorem rowAt_nonneg (zs : List Int) (n : Nat) : 0 ≤ rowAt zs n := by
  induction n with
  | zero => simp [rowAt]
  | succ n ih => rw [rowAt]; omega
theorem rowAt_grow (zs : List Int) (n m : Nat) : rowAt zs n * 2 ^ m ≤ rowAt zs (n + m) := by
  induction m with
  | zero => simp
  | succ m ih =>
    rw [Int.pow_succ, ← Int.mul_assoc, show n + (m + 1) = (n + m) + 1 from by omega, rowAt]
    omega

theorem getD_mem {zs : List Int} {t : Nat} (ht : t < zs.length) : zs[t]? = some (zs.getD t 0) := by
  rw [List.getElem?_eq_getElem ht]
  simp [List.getD, ht]

theorem codeOf_lt {zs : List Int} {t : Nat} (ht : t < zs.length) {l : Nat} (hl : zs.getD t 0 = l) (hp : 0 < l) : 0 ≤ codeOf zs t ∧ codeOf zs t < rowAt zs l := by
  have h0 := rowAt_nonneg zs (l - 1)
  have hc := cnt_succ (getD_mem ht) (zs.getD t 0)
  rw [if_pos rfl] at hc
  have hm := cnt_mono zs (zs.getD t 0) (show t + 1 ≤ zs.length by omega)
  unfold codeOf
  rw [if_neg (by omega), hl, Int.toNat_natCast]
  rw [hl] at hc hm
  have e : rowAt zs l = 2 * rowAt zs (l - 1) + cnt zs l zs.length := by
    match l, hp with
    | l + 1, _ => rw [rowAt]; rfl
  omega

/-- A row that begins with another one is that one. -/
theorem rowOf_apart {zs : List Int} (h : chk zs = 0) {s t : Nat} (hs : s < zs.length) (ht : t < zs.length) (ps : 0 < zs.getD s 0) (pt : 0 < zs.getD t 0) (hpre : rowOf zs t <+: rowOf zs s) : t = s := by
  obtain ⟨_, hb, _⟩ := chk_zero h
  have bs := hb _ (List.mem_of_getElem? (getD_mem hs))
  have bt := hb _ (List.mem_of_getElem? (getD_mem ht))
  obtain ⟨ls, els⟩ := Int.eq_ofNat_of_zero_le bs.1
  obtain ⟨lt, elt⟩ := Int.eq_ofNat_of_zero_le bt.1
  have cs := codeOf_lt hs els (by omega)
  have ct := codeOf_lt ht elt (by omega)
  have rs := rowAt_le h ls (by omega)
  have rt := rowAt_le h lt (by omega)
  have hlen := hpre.length_le
  rw [rowOf_len, rowOf_len, els, elt, Int.toNat_natCast, Int.toNat_natCast] at hlen
  have e1 : rowOf zs t = (rowOf zs s).take lt := by
    have h1 := List.prefix_iff_eq_take.1 hpre
    rw [rowOf_len, elt, Int.toNat_natCast] at h1
    exact h1
  unfold rowOf at e1
  rw [els, elt, Int.toNat_natCast, Int.toNat_natCast, rowBits_take _ _ _ hlen] at e1
  have hp : (0 : Int) < 2 ^ (ls - lt) := Int.pow_pos (by decide)
  have hq0 : 0 ≤ codeOf zs s / 2 ^ (ls - lt) := Int.ediv_nonneg cs.1 (by omega)
  have hq1 : codeOf zs s / 2 ^ (ls - lt) < 2 ^ lt := by
    apply Int.ediv_lt_of_lt_mul hp
    rw [← Int.pow_add, show lt + (ls - lt) = ls from by omega]
    omega
  have e2 : codeOf zs t = codeOf zs s / 2 ^ (ls - lt) := by
    have a := rowBits_num (codeOf zs t) lt ct.1 (by omega)
    have b := rowBits_num (codeOf zs s / 2 ^ (ls - lt)) lt hq0 hq1
    rw [e1, b] at a
    exact a.symm
  rcases Nat.lt_or_ge lt ls with hlt | hge
  · have h3 : rowAt zs lt * 2 ^ (ls - lt) ≤ codeOf zs s := by
      have h4 := rowAt_grow zs lt (ls - 1 - lt)
      rw [show lt + (ls - 1 - lt) = ls - 1 from by omega] at h4
      have e3 : (2 : Int) ^ (ls - lt) = 2 ^ (ls - 1 - lt) * 2 := by rw [show ls - lt = (ls - 1 - lt) + 1 from by omega, Int.pow_succ]
      unfold codeOf
      rw [if_neg (by omega), els, Int.toNat_natCast, e3, ← Int.mul_assoc]
      omega
    have h5 : rowAt zs lt ≤ codeOf zs s / 2 ^ (ls - lt) := (Int.le_ediv_iff_mul_le hp).2 h3
    omega
  · obtain rfl : ls = lt := by omega
    rw [Nat.sub_self, Int.pow_zero, Int.ediv_one] at e2
    rcases Nat.lt_trichotomy s t with hst | hst | hst
    · have hm := cnt_mono zs (ls : Int) (show s + 1 ≤ t by omega)
      have hc := cnt_succ (getD_mem hs) (ls : Int)
      rw [els, if_pos rfl] at hc
      unfold codeOf at e2
      rw [els, elt, if_neg (by omega)] at e2
      omega
    · exact hst.symm
    · have hm := cnt_mono zs (ls : Int) (show t + 1 ≤ s by omega)
      have hc := cnt_succ (getD_mem ht) (ls : Int)
      rw [elt, if_pos rfl] at hc
      unfold codeOf at e2
      rw [els, elt, if_neg (by omega)] at e2
      omega

theorem leafF_none {zs : List Int} {s : Nat} {q : List Bool} : leafF zs s q = none ↔ ∀ t, t < s → 0 < zs.getD t 0 → rowOf zs t ≠ q := by
  induction s with
  | zero => simp [leafF]
  | succ s ih =>
    rw [leafF]
    constructor
    · intro h t ht hp he
      split at h
      · cases h
      · rename_i hc
        by_cases e : t = s
        · subst e; exact hc ⟨hp, he⟩
        · exact ih.1 h t (by omega) hp he
    · intro h
      rw [if_neg (fun hc => h s (by omega) hc.1 hc.2)]
      exact ih.2 fun t ht => h t (by omega)

theorem leafF_row {zs : List Int} (h : chk zs = 0) {t : Nat} (ht : t < zs.length) (hp : 0 < zs.getD t 0) : leafF zs zs.length (rowOf zs t) = some t := by
  cases hF : leafF zs zs.length (rowOf zs t) with
  | none => exact absurd rfl (leafF_none.1 hF t ht hp)
  | some u =>
    obtain ⟨h1, h2, h3⟩ := leafF_in hF
    rw [rowOf_apart h ht h1 hp h2 (by rw [h3]; exact List.prefix_refl _)]

end Go.Proofs.YtolcdlopgbgilaaDoor
