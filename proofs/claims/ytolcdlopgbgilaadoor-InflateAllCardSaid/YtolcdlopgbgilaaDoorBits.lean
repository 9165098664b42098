/- Plain facts on bits and the bytes that hold them. No program. -/
import Derived.Test.YtolcdlopgbgilaaDoorBase
import Derived.Laws.BitsAllLaws
namespace Go.Dray
open Go.RowKit

def b2i (b : Bool) : Int := if b then 1 else 0
/-- The number of bits, the first the lowest. -/
def num : List Bool → Int
  | [] => 0
  | b :: r => b2i b + 2 * num r
/-- The i-th byte of bits, filled up by noughts. -/
def packB (bs : List Bool) (i : Nat) : Int := num ((bs.drop (8 * i)).take 8)
/-- The bytes of bits, filled up by noughts. -/
def pack (bs : List Bool) : List Int := tab ((bs.length + 7) / 8) (packB bs)

theorem b2i_bd (b : Bool) : 0 ≤ b2i b ∧ b2i b ≤ 1 := by cases b <;> simp [b2i]
theorem num_nonneg (l : List Bool) : 0 ≤ num l := by
  induction l with
  | nil => simp [num]
  | cons b r ih => have := b2i_bd b; simp only [num]; omega
theorem num_lt (l : List Bool) : num l < 2 ^ l.length := by
  induction l with
  | nil => simp [num]
  | cons b r ih => have := b2i_bd b; simp only [num, List.length_cons, Int.pow_succ]; omega
theorem num_append (l m : List Bool) : num (l ++ m) = num l + 2 ^ l.length * num m := by
  induction l with
  | nil => simp [num]
  | cons b r ih =>
    simp only [List.cons_append, num, ih, List.length_cons, Int.pow_succ]
    have e : (2 : Int) ^ r.length * 2 * num m = 2 * (2 ^ r.length * num m) := by rw [Int.mul_comm _ 2, Int.mul_assoc]
    rw [e]
    omega
theorem packB_bd (bs : List Bool) (i : Nat) : 0 ≤ packB bs i ∧ packB bs i ≤ 255 := by
  have h := num_lt ((bs.drop (8 * i)).take 8)
  have h2 : ((bs.drop (8 * i)).take 8).length ≤ 8 := List.length_take_le _ _
  have h3 := Nat.pow_le_pow_right (n := 2) (by omega) h2
  have e : ((2 ^ ((bs.drop (8 * i)).take 8).length : Nat) : Int) = (2 : Int) ^ ((bs.drop (8 * i)).take 8).length := by simp
  rw [← e] at h
  exact ⟨num_nonneg _, by unfold packB; omega⟩
theorem pack_len (bs : List Bool) : (pack bs).length = (bs.length + 7) / 8 := tab_len _ _
theorem pack_nil : pack [] = [] := rfl

theorem pack_new (bs : List Bool) (b : Bool) (h : bs.length % 8 = 0) : pack (bs ++ [b]) = pack bs ++ [b2i b] := by
  apply List.ext_getElem?
  intro i
  have hl : ((bs ++ [b]).length + 7) / 8 = (bs.length + 7) / 8 + 1 := by simp; omega
  have h8 : 8 * ((bs.length + 7) / 8) = bs.length := by omega
  rcases Nat.lt_trichotomy i ((bs.length + 7) / 8) with hi | hi | hi
  · rw [List.getElem?_append_left (by rw [pack_len]; exact hi)]
    unfold pack
    rw [tab_get _ (by omega), tab_get _ hi]
    unfold packB
    rw [List.drop_append_of_le_length (by omega), List.take_append_of_le_length (by rw [List.length_drop]; omega)]
  · subst hi
    rw [List.getElem?_append_right (by rw [pack_len]; omega), pack_len, Nat.sub_self]
    unfold pack
    rw [tab_get _ (by omega)]
    unfold packB
    rw [h8, List.drop_append_of_le_length (by omega), List.drop_length]
    simp [num]
  · rw [List.getElem?_eq_none (by rw [pack_len]; omega), List.getElem?_eq_none (by rw [List.length_append, pack_len]; simp; omega)]

theorem pack_old (bs : List Bool) (b : Bool) (h : bs.length % 8 ≠ 0) :
    pack (bs ++ [b]) = (pack bs).set ((bs.length + 7) / 8 - 1) (packB bs ((bs.length + 7) / 8 - 1) + b2i b * 2 ^ (bs.length % 8)) := by
  have hl : ((bs ++ [b]).length + 7) / 8 = (bs.length + 7) / 8 := by simp; omega
  unfold pack
  rw [hl, tab_set]
  refine tab_congr fun j hj => ?_
  by_cases e : j = (bs.length + 7) / 8 - 1
  · rw [if_pos e]
    subst e
    unfold packB
    have h1 : 8 * ((bs.length + 7) / 8 - 1) = bs.length - bs.length % 8 := by omega
    rw [h1, List.drop_append_of_le_length (by omega)]
    have h2 : (bs.drop (bs.length - bs.length % 8)).length = bs.length % 8 := by rw [List.length_drop]; omega
    rw [List.take_of_length_le (by rw [List.length_append, h2]; simp; omega), List.take_of_length_le (by rw [h2]; omega), num_append, h2]
    simp [num, Int.mul_comm]
  · rw [if_neg e]
    unfold packB
    rw [List.drop_append_of_le_length (by omega), List.take_append_of_le_length (by rw [List.length_drop]; omega)]

/-- The lowest bit of a number. -/
def low (v : Int) : Bool := v % 2 == 1
theorem b2i_low (v : Int) : b2i (low v) = v % 2 := by
  unfold b2i low
  by_cases h : v % 2 = 1
  · simp [h]
  · simp [h]; omega

theorem and_one_i64 (v : Int) : bits .and .i64 v 1 = v % 2 := by
  unfold bits
  have h1 : (BitVec.ofInt IntKind.i64.bits v &&& BitVec.ofInt IntKind.i64.bits 1).toNat = (v % 2).toNat := by
    rw [BitVec.toNat_and]
    show (BitVec.ofInt 64 v).toNat &&& (BitVec.ofInt 64 1).toNat = _
    rw [BitVec.toNat_ofInt, show (BitVec.ofInt 64 1).toNat = 1 from rfl, Nat.and_one_is_mod]
    omega
  simp only [h1]
  have h2 : 0 ≤ v % 2 ∧ v % 2 ≤ 1 := by omega
  simp only [IntKind.wrap_i64]
  omega

/-- Putting a bit behind k bits of a byte. -/
theorem or_bit (a x : Int) (k : Nat) (ha : 0 ≤ a) (hk : k < 8) (hak : a < 2 ^ k) (hx : 0 ≤ x) (hx1 : x ≤ 1) : bits .or .u8 a (x * 2 ^ k) = a + x * 2 ^ k := by
  have hp : (2 : Int) ^ k ≤ 128 := by
    have := Nat.pow_le_pow_right (n := 2) (by omega) (show k ≤ 7 by omega)
    have e : ((2 ^ k : Nat) : Int) = (2 : Int) ^ k := by simp
    rw [← e]; omega
  have hp0 : (0 : Int) < 2 ^ k := Int.pow_pos (by decide)
  have hx2 : 0 ≤ x * 2 ^ k ∧ x * 2 ^ k ≤ 128 := by
    rcases (show x = 0 ∨ x = 1 by omega) with rfl | rfl <;> omega
  rw [u8_or a _ ha (by omega) (by omega) (by omega), Nat.or_comm, nat_join k]
  · omega
  · obtain ⟨y, rfl⟩ := Int.eq_ofNat_of_zero_le hx
    have e : ((y : Int) * 2 ^ k).toNat = y * 2 ^ k := by
      have : ((y * 2 ^ k : Nat) : Int) = (y : Int) * 2 ^ k := by simp
      omega
    rw [e]
    exact Nat.mul_mod_left _ _
  · have e : ((2 ^ k : Nat) : Int) = (2 : Int) ^ k := by simp
    omega

theorem byte_step (y v : Int) (k : Nat) (hk : k < 8) (hy0 : 0 ≤ y) (hy : y < 2 ^ k) : bits .or .u8 y (bits .and .i64 v 1 % 256 * 2 ^ k % 256) = y + b2i (low v) * 2 ^ k := by
  have hp : (2 : Int) ^ k ≤ 128 := by
    have := Nat.pow_le_pow_right (n := 2) (by omega) (show k ≤ 7 by omega)
    have e : ((2 ^ k : Nat) : Int) = (2 : Int) ^ k := by simp
    rw [← e]; omega
  have hp0 : (0 : Int) < 2 ^ k := Int.pow_pos (by decide)
  rw [and_one_i64, b2i_low]
  have e1 : v % 2 % 256 = v % 2 := by omega
  have e2 : v % 2 * 2 ^ k % 256 = v % 2 * 2 ^ k := by
    rcases (show v % 2 = 0 ∨ v % 2 = 1 by omega) with h | h <;> rw [h] <;> omega
  rw [e1, e2]
  exact or_bit y (v % 2) k hy0 hk hy (by omega) (by omega)

theorem packB_lt (bs : List Bool) (h : bs.length % 8 ≠ 0) : packB bs ((bs.length + 7) / 8 - 1) < 2 ^ (bs.length % 8) := by
  have h1 : 8 * ((bs.length + 7) / 8 - 1) = bs.length - bs.length % 8 := by omega
  have h2 : (bs.drop (bs.length - bs.length % 8)).length = bs.length % 8 := by rw [List.length_drop]; omega
  unfold packB
  rw [h1, List.take_of_length_le (by rw [h2]; omega)]
  have := num_lt (bs.drop (bs.length - bs.length % 8))
  rw [h2] at this
  exact this

theorem pack_new' (bs : List Bool) (v : Int) (h : bs.length % 8 = 0) (y : Int) (hy : (pack bs ++ [0])[(bs.length + 7) / 8]? = some y) :
    (pack bs ++ [0]).set ((bs.length + 7) / 8) (bits .or .u8 y (bits .and .i64 v 1 % 256 * 2 ^ (bs.length % 8) % 256)) = pack (bs ++ [low v]) := by
  have hl := pack_len bs
  rw [List.getElem?_append_right (by omega), hl, Nat.sub_self] at hy
  simp at hy
  subst hy
  rw [byte_step 0 v _ (by omega) (by omega) (Int.pow_pos (by decide)), pack_new _ _ h, h, List.set_append_right _ _ (by omega), hl, Nat.sub_self]
  simp

theorem pack_old' (bs : List Bool) (v : Int) (h : bs.length % 8 ≠ 0) (y : Int) (hy : (pack bs)[(bs.length + 7) / 8 - 1]? = some y) :
    (pack bs).set ((bs.length + 7) / 8 - 1) (bits .or .u8 y (bits .and .i64 v 1 % 256 * 2 ^ (bs.length % 8) % 256)) = pack (bs ++ [low v]) := by
  have e : y = packB bs ((bs.length + 7) / 8 - 1) := by
    unfold pack at hy
    rw [tab_get _ (by omega)] at hy
    injection hy with hy
    exact hy.symm
  have h1 := packB_lt bs h
  have h2 := packB_bd bs ((bs.length + 7) / 8 - 1)
  rw [← e] at h1 h2
  rw [byte_step y v _ (by omega) h2.1 h1, pack_old _ _ h, e]

/-- The bits of bytes. -/
def bitsOf (zs : List Int) : List Bool := tab (8 * zs.length) fun i => low (zs.getD (i / 8) 0 / 2 ^ (i % 8))
theorem bitsOf_len (zs : List Int) : (bitsOf zs).length = 8 * zs.length := tab_len _ _

theorem pow2_bd (k : Nat) (h : k ≤ 24) : (1 : Int) ≤ 2 ^ k ∧ (2 : Int) ^ k ≤ 16777216 := by
  have h1 := Nat.pow_le_pow_right (n := 2) (by omega) h
  have e : ((2 ^ k : Nat) : Int) = (2 : Int) ^ k := by simp
  have h0 : 0 < 2 ^ k := Nat.pow_pos (by omega)
  rw [← e]; omega

theorem i64_or_nat (a b : Nat) (ha : a < 4611686018427387904) (hb : b < 4611686018427387904) : bits .or .i64 (a : Int) (b : Int) = ((a ||| b : Nat) : Int) := by
  have h1 : ∀ x : Nat, x < 4611686018427387904 → (BitVec.ofInt 64 (x : Int)).toNat = x := fun x hx => by rw [BitVec.toNat_ofInt]; omega
  have h3 : a ||| b < 2 ^ 62 := Nat.or_lt_two_pow (by omega) (by omega)
  unfold bits
  show IntKind.i64.wrap (((BitVec.ofInt 64 (a : Int) ||| BitVec.ofInt 64 (b : Int)).toNat : Nat) : Int) = _
  rw [BitVec.toNat_or, h1 a ha, h1 b hb, IntKind.wrap_i64]
  omega

/-- Reading a bit of a byte behind k bits. -/
theorem read_step (v z : Int) (j k : Nat) (hz0 : 0 ≤ z) (hz : z ≤ 255) (hk : k ≤ 24) (hv0 : 0 ≤ v) (hv : v < 2 ^ k) :
    bits .or .i64 v (wrap64 (wrap64 (bits .and .u8 (z / 2 ^ j) 1) * 2 ^ k)) = v + b2i (low (z / 2 ^ j)) * 2 ^ k := by
  have hp := pow2_bd k hk
  have hj : (0 : Int) < 2 ^ j := Int.pow_pos (by decide)
  have hq0 : 0 ≤ z / 2 ^ j := Int.ediv_nonneg hz0 (by omega)
  have hq1 : z / 2 ^ j ≤ z := Int.ediv_le_self _ hz0
  have e1 : bits .and .u8 (z / 2 ^ j) 1 = z / 2 ^ j % 2 := by
    rw [u8_and _ 1 hq0 (by omega) (by omega) (by omega)]
    show (((z / 2 ^ j).toNat &&& 1 : Nat) : Int) = _
    rw [nat_mask1]
    omega
  rw [e1, b2i_low]
  generalize z / 2 ^ j = x
  have hx : x % 2 = 0 ∨ x % 2 = 1 := by omega
  rw [IntWalk.wrap64_in (x % 2) (by omega), IntWalk.wrap64_in (x % 2 * 2 ^ k) (by rcases hx with h | h <;> rw [h] <;> omega)]
  obtain ⟨a, rfl⟩ := Int.eq_ofNat_of_zero_le hv0
  have e : ((2 ^ k : Nat) : Int) = (2 : Int) ^ k := by simp
  rw [← e] at hp hv ⊢
  rcases hx with h | h
  · rw [h, Int.zero_mul, Int.add_zero]
    have := i64_or_nat a 0 (by omega) (by omega)
    simpa using this
  · rw [h, Int.one_mul, i64_or_nat a (2 ^ k) (by omega) (by omega), Nat.or_comm, nat_join k _ _ (Nat.mod_self _) (by omega)]
    omega

theorem num_snoc (l : List Bool) (b : Bool) : num (l ++ [b]) = num l + b2i b * 2 ^ l.length := by
  rw [num_append]
  simp [num, Int.mul_comm]

theorem num_take_succ (bs : List Bool) (p k : Nat) (h : p + k < bs.length) : num ((bs.drop p).take (k + 1)) = num ((bs.drop p).take k) + b2i bs[p + k] * 2 ^ k := by
  have hl : k < (bs.drop p).length := by rw [List.length_drop]; omega
  rw [List.take_succ_eq_append_getElem hl, num_snoc, List.length_take, Nat.min_eq_left (by omega), List.getElem_drop]

theorem bitsOf_get (zs : List Int) (i : Nat) (h : i < (bitsOf zs).length) : (bitsOf zs)[i] = low (zs.getD (i / 8) 0 / 2 ^ (i % 8)) := by
  have h1 := tab_get (fun i => low (zs.getD (i / 8) 0 / 2 ^ (i % 8))) (by rw [bitsOf_len] at h; exact h)
  have h2 : (bitsOf zs)[i]? = some (bitsOf zs)[i] := List.getElem?_eq_getElem h
  unfold bitsOf at h2 ⊢
  rw [h1] at h2
  injection h2 with h2
  exact h2.symm

theorem take_step {zs : List Int} {p k : Nat} {z : Int} (hzs : ∀ z ∈ zs, 0 ≤ z ∧ z ≤ 255) (hk : k ≤ 24) (h : zs[(p + k) / 8]? = some z) :
    bits .or .i64 (num (((bitsOf zs).drop p).take k)) (wrap64 (wrap64 (bits .and .u8 (z / 2 ^ ((p + k) % 8)) 1) * 2 ^ k)) = num (((bitsOf zs).drop p).take (k + 1)) := by
  have hi : (p + k) / 8 < zs.length := (List.getElem?_eq_some_iff.1 h).1
  have hb := hzs z (List.mem_of_getElem? h)
  have hl : p + k < (bitsOf zs).length := by rw [bitsOf_len]; omega
  have hlen : (((bitsOf zs).drop p).take k).length = k := by rw [List.length_take, List.length_drop]; omega
  have hlt := num_lt (((bitsOf zs).drop p).take k)
  rw [hlen] at hlt
  rw [read_step _ z _ k hb.1 hb.2 hk (num_nonneg _) hlt, num_take_succ _ _ _ hl, bitsOf_get]
  simp [List.getD, h]

end Go.Dray
