/- What a header's bytes tell; the walks of rhead.number and rhead.parseNumbers. -/
import Derived.Test.YtogknbpbjgdldaaRhF
namespace Go.Proofs.Ytogknbpbjgdldaa
open Go.RowKit Go.Dray

/-- The number of four bytes at a place. -/
def num4 (b : List Int) (k : Nat) : Int := beNum ((b.drop k).take 4)
theorem num4_bd {b : List Int} (h : ∀ z ∈ b, 0 ≤ z ∧ z ≤ 255) (k : Nat) : 0 ≤ num4 b k ∧ num4 b k ≤ 4294967295 := by
  have h1 := beNum_bd ((b.drop k).take 4) fun z hz => h z (List.mem_of_mem_drop (List.mem_of_mem_take hz))
  have hl : ((b.drop k).take 4).length ≤ 4 := List.length_take_le _ _
  have h3 := Nat.pow_le_pow_right (n := 2) (by omega) (show 8 * ((b.drop k).take 4).length ≤ 32 by omega)
  have e : ((2 ^ (8 * ((b.drop k).take 4).length) : Nat) : Int) = (2 : Int) ^ (8 * ((b.drop k).take 4).length) := by simp
  rw [← e] at h1
  unfold num4
  omega

/-- Numbers of s bytes each. -/
def numV (d : List Int) (s : Nat) (i : Nat) : Int := beNum ((d.drop (i * s)).take s)
def numsV (d : List Int) (s cnt : Nat) : List Int := tab cnt (numV d s)
theorem numsV_take (d : List Int) (s cnt : Nat) {k : Nat} (h : k < cnt) : (numsV d s cnt).take (k + 1) = (numsV d s cnt).take k ++ [numV d s k] := by
  have hl : k < (numsV d s cnt).length := by unfold numsV; rw [tab_len]; exact h
  rw [List.take_succ_eq_append_getElem hl]
  have := List.getElem?_eq_getElem hl
  unfold numsV at this ⊢
  rw [tab_get _ h] at this
  injection this with this
  rw [← this]
theorem numV_nonneg {d : List Int} (h : ∀ z ∈ d, 0 ≤ z ∧ z ≤ 255) (s i : Nat) (hs : s ≤ 8) : 0 ≤ numV d s i ∧ numV d s i ≤ 18446744073709551615 := by
  have h1 := beNum_bd ((d.drop (i * s)).take s) fun z hz => h z (List.mem_of_mem_drop (List.mem_of_mem_take hz))
  have hl : ((d.drop (i * s)).take s).length ≤ s := List.length_take_le _ _
  have h3 := Nat.pow_le_pow_right (n := 2) (by omega) (show 8 * ((d.drop (i * s)).take s).length ≤ 64 by omega)
  have e : ((2 ^ (8 * ((d.drop (i * s)).take s).length) : Nat) : Int) = (2 : Int) ^ (8 * ((d.drop (i * s)).take s).length) := by simp
  rw [← e] at h1
  unfold numV
  omega

set_option maxHeartbeats 400000 in
theorem number_any (A : Option Addr) (n c : Nat) (b : List Int) (k : Nat) (w : World) (hs : Ints .u8 w A n b) (hb : ∀ z ∈ b, 0 ≤ z ∧ z ≤ 255) (hnc : n ≤ c) (hn : n ≤ 100000000000000) (hk : k + 4 ≤ n) :
    Calls Try.prog 26 #[.slice A n c, .int .i64 k] w fun e w' => e = .returned (.int .i64 (num4 b k)) ∧ w = w' := by
  have HB := Lib.hid hb
  have HS := Lib.hid hs
  obtain ⟨x, HX⟩ : ∃ x, Hid (x = num4 b k) := ⟨_, rfl⟩
  have hbd := num4_bd hb k
  rw [← HX.out] at hbd
  clear hs hb
  go_enter Try.func26, Try.ntmps26
  go_wp2_with fail
  refine (getBe_ok A n c b k 4 w HS.out HB.out hnc hn (by omega) (by omega) (by omega) (by omega)).mono ?_
  rintro e w' ⟨rfl, rfl⟩
  have HE : Hid (beNum ((b.drop (k : Int).toNat).take (4 : Int).toNat) = x) := by
    show _ = _
    rw [HX.out, Int.toNat_natCast]
    rfl
  rw [HE.out]
  go_wp2
  go_ret
  exact ⟨ret_int HX.out, rfl⟩

/-- A tag of the call's own. -/
structure TagO (w : World) (B : Nat) (p : TagP) (t : TagV) : Prop where
  ints : Own w B 3 1 p.IA p.i p.ic (t.ints.map (Value.int .i64))
  texts : Own w B 9 1 p.TA p.n p.tc (t.texts.map Value.string)
  bytes : Own w B 5 1 p.BA p.m p.bc (t.bytes.map (Value.int .u8))
  ib : ∀ z ∈ t.ints, -9223372036854775808 ≤ z ∧ z ≤ 9223372036854775807
  bb : ∀ z ∈ t.bytes, 0 ≤ z ∧ z ≤ 255

/-- A tag and an error, by value. -/
def tagRes (p : TagP) (t : TagV) (e : Int) : Value := .tuple #[.agg #[.int .i64 t.tag, .int .i64 t.typ, .slice p.IA p.i p.ic, .slice p.TA p.n p.tc, .slice p.BA p.m p.bc], .int .i64 e]
def noTag (e : Int) : Value := .tuple #[.agg #[.int .i64 0, .int .i64 0, .slice none 0 0, .slice none 0 0, .slice none 0 0], .int .i64 e]
def TagPost (t : TagV) (w : World) (e : Ending) (w' : World) : Prop := ∃ p : TagP, e = .returned (tagRes p t 0) ∧ TagO w' w.heap.size p t ∧ Upd [] w w'

end Go.Proofs.Ytogknbpbjgdldaa
