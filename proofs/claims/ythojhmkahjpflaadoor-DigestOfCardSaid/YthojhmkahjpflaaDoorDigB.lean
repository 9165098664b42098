/- The walks of the rotations: bits.RotateLeft32, digest.right, the reference's left, right, turn. -/
import Derived.Test.YthojhmkahjpflaaDoorDigA
namespace Go.Proofs.YthojhmkahjpflaaDoor
open Go.RowKit Go.Dray

/-- x turned left by k. -/
def rotl (x : Int) (k : Nat) : Int := bits .or .u32 (x * 2 ^ k % 4294967296) (x / 2 ^ (32 - k))
theorem or_u32 (a b : Int) : U32 (bits .or .u32 a b) := by
  unfold bits U32
  have h := (BitVec.ofInt IntKind.u32.bits a ||| BitVec.ofInt IntKind.u32.bits b).isLt
  simp only [IntKind.wrap_u32']
  omega
theorem and_u32 (a b : Int) : U32 (bits .and .u32 a b) := by
  unfold bits U32
  have h := (BitVec.ofInt IntKind.u32.bits a &&& BitVec.ofInt IntKind.u32.bits b).isLt
  simp only [IntKind.wrap_u32']
  omega
theorem rotl_bd (x : Int) (k : Nat) : U32 (rotl x k) := or_u32 _ _

theorem and31 (k : Nat) (h : k < 32) : bits .and .u64 (k : Int) 31 = k := by
  have := u64_and_nat k 31 (by omega) (by omega)
  rw [show ((31 : Nat) : Int) = 31 from rfl] at this
  rw [this, show (31 : Nat) = 2 ^ 5 - 1 from rfl, Nat.and_two_pow_sub_one_eq_mod, Nat.mod_eq_of_lt (by omega)]

set_option maxHeartbeats 400000 in
theorem rot_any (x k : Int) (w : World) (h0 : 0 ≤ k) (h1 : k ≤ 31) : Calls Tryd.prog 36 #[.int .u32 x, .int .i64 k] w fun e w' => e = .returned (.int .u32 (rotl x k.toNat)) ∧ w = w' := by
  obtain ⟨n, rfl⟩ := Int.eq_ofNat_of_zero_le h0
  rw [Int.toNat_natCast]
  have ha := and31 n (by omega)
  have hr : bits .or .u32 (x * 2 ^ n % 4294967296) (x / 2 ^ (32 - n)) = rotl x n := rfl
  go_enter Tryd.func36, Tryd.ntmps36
  go_wp2
  go_ret
  exact ⟨rfl, rfl⟩

set_option maxHeartbeats 400000 in
theorem left_any (x k : Int) (w : World) (h0 : 0 ≤ k) (h1 : k ≤ 31) : Calls Tryd.prog 28 #[.int .u32 x, .int .i64 k] w fun e w' => e = .returned (.int .u32 (rotl x k.toNat)) ∧ w = w' := by
  obtain ⟨n, rfl⟩ := Int.eq_ofNat_of_zero_le h0
  rw [Int.toNat_natCast]
  have ha := and31 n (by omega)
  have hr : bits .or .u32 (x * 2 ^ n % 4294967296) (x / 2 ^ (32 - n)) = rotl x n := rfl
  go_enter Tryd.func28, Tryd.ntmps28
  go_wp2
  go_ret
  exact ⟨rfl, rfl⟩

set_option maxHeartbeats 400000 in
theorem right_any (x k : Int) (w : World) (h0 : 1 ≤ k) (h1 : k ≤ 31) : Calls Tryd.prog 37 #[.int .u32 x, .int .i64 k] w fun e w' => e = .returned (.int .u32 (rotl x (32 - k).toNat)) ∧ w = w' := by
  go_enter Tryd.func37, Tryd.ntmps37
  go_wp2_with (go_at_call 36; refine (rot_any x (32 - k) w (by omega) (by omega)).mono ?_; rintro e w' ⟨rfl, rfl⟩)
  go_ret
  exact ⟨rfl, rfl⟩

set_option maxHeartbeats 400000 in
theorem rright_any (x k : Int) (w : World) (h0 : 1 ≤ k) (h1 : k ≤ 31) : Calls Tryd.prog 30 #[.int .u32 x, .int .i64 k] w fun e w' => e = .returned (.int .u32 (rotl x (32 - k).toNat)) ∧ w = w' := by
  go_enter Tryd.func30, Tryd.ntmps30
  go_wp2_with (go_at_call 28; refine (left_any x (32 - k) w (by omega) (by omega)).mono ?_; rintro e w' ⟨rfl, rfl⟩)
  go_ret
  exact ⟨rfl, rfl⟩

/-- By how many bits MD5 turns in a step. -/
def turnL : List Int := [7, 12, 17, 22, 5, 9, 14, 20, 4, 11, 16, 23, 6, 10, 15, 21]
def turnT (i : Nat) : Int := turnL.getD (4 * (i / 16) + i % 4) 0
theorem turnT_bd (i : Nat) (h : i < 64) : 1 ≤ turnT i ∧ turnT i ≤ 31 := by
  have : ∀ i < 64, 1 ≤ turnT i ∧ turnT i ≤ 31 := by decide
  exact this i h

/-- A number and new blocks alone. -/
def RetUpd (v : Value) (w : World) (e : Ending) (w' : World) : Prop := e = .returned v ∧ Upd [] w w'

set_option maxHeartbeats 400000 in
theorem turn_any (k : Nat) (w : World) (h1 : k < 64) : Calls Tryd.prog 29 #[.int .i64 k] w (RetUpd (.int .i64 (turnT k)) w) := by
  have hc : ([.int .i64 7, .int .i64 12, .int .i64 17, .int .i64 22, .int .i64 5, .int .i64 9, .int .i64 14, .int .i64 20, .int .i64 4, .int .i64 11, .int .i64 16, .int .i64 23, .int .i64 6, .int .i64 10, .int .i64 15, .int .i64 21] : List Value)[4 * (k / 16) + k % 4]? = some (.int .i64 (turnT k)) := by
    show (turnL.map (Value.int .i64))[4 * (k / 16) + k % 4]? = _
    have hl : 4 * (k / 16) + k % 4 < turnL.length := by show _ < 16; omega
    rw [List.getElem?_map, List.getElem?_eq_getElem hl]
    simp [turnT, List.getD, hl]
  go_enter Tryd.func29, Tryd.ntmps29
  go_wp2
  go_ret
  exact ⟨rfl, (Upd.refl _ _).alloc _⟩

end Go.Proofs.YthojhmkahjpflaaDoor
