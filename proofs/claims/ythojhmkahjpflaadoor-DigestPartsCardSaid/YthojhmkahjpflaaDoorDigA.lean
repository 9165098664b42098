/- The walks of digest.Crc, CrcMore and of the reference's Crc; plain facts on the CRC-32. -/
import Derived.Test.YthojhmkahjpflaaDoorElems
import Derived.Test.YthojhmkahjpflaaDoorBits
namespace Go.Proofs.YthojhmkahjpflaaDoor
open Go.RowKit Go.Dray

/-- One step of the CRC-32. -/
def crcBit (c : Int) : Int := if c % 2 = 1 then bits .xor .u32 (c / 2) 3988292384 else c / 2
def crcN : Nat → Int → Int
  | 0, c => c
  | n + 1, c => crcBit (crcN n c)
/-- One byte more. -/
def crcB (c z : Int) : Int := crcN 8 (bits .xor .u32 c z)
def crcL (c : Int) (zs : List Int) : Int := zs.foldl crcB c

def U32 (c : Int) : Prop := 0 ≤ c ∧ c ≤ 4294967295
theorem xor_u32 (a b : Int) : U32 (bits .xor .u32 a b) := by
  unfold bits U32
  have h := (BitVec.ofInt IntKind.u32.bits a ^^^ BitVec.ofInt IntKind.u32.bits b).isLt
  simp only [IntKind.wrap_u32']
  omega
theorem crcBit_bd (c : Int) (h : U32 c) : U32 (crcBit c) := by
  unfold crcBit
  split
  · exact xor_u32 _ _
  · unfold U32 at *; omega
theorem crcN_bd (n : Nat) (c : Int) (h : U32 c) : U32 (crcN n c) := by
  induction n with
  | zero => exact h
  | succ n ih => exact crcBit_bd _ ih
theorem crcL_snoc (c : Int) (zs : List Int) (z : Int) : crcL c (zs ++ [z]) = crcB (crcL c zs) z := by simp [crcL]
theorem crcL_bd (c : Int) (h : U32 c) (zs : List Int) : U32 (crcL c zs) := by
  unfold crcL
  induction zs generalizing c with
  | nil => exact h
  | cons z zs ih => exact ih _ (crcN_bd 8 _ (xor_u32 _ _))
theorem crcL_take {zs : List Int} {k : Nat} {z : Int} (c : Int) (h : zs[k]? = some z) : crcL c (zs.take (k + 1)) = crcB (crcL c (zs.take k)) z := by
  obtain ⟨hk, he⟩ := List.getElem?_eq_some_iff.1 h
  rw [List.take_succ_eq_append_getElem hk, he, crcL_snoc]

theorem and1_u32 (c : Int) (h : U32 c) : bits .and .u32 c 1 = c % 2 := by
  unfold U32 at h
  rw [u32_and c 1 h.1 (by omega) (by omega) (by omega)]
  show ((c.toNat &&& 1 : Nat) : Int) = _
  rw [nat_mask1]
  omega
theorem crcBit_odd {c : Int} (h : c % 2 = 1) : crcBit c = bits .xor .u32 (c / 2) 3988292384 := by simp [crcBit, h]
theorem crcBit_even {c : Int} (h : ¬ c % 2 = 1) : crcBit c = c / 2 := by simp [crcBit, h]

/-- The other bits. -/
def not32 (c : Int) : Int := bits .xor .u32 4294967295 c
theorem run_not32 (c : Int) : Op.unary .xor (.int .u32 c) = pure (.int .u32 (not32 c)) := rfl
theorem not32_eq (c : Int) (h : U32 c) : not32 c = 4294967295 - c := by
  unfold U32 at h
  obtain ⟨n, rfl⟩ := Int.eq_ofNat_of_zero_le h.1
  show IntKind.u32.wrap (((BitVec.ofInt 32 4294967295 ^^^ BitVec.ofInt 32 (n : Int)).toNat : Nat) : Int) = _
  have e : BitVec.ofInt 32 4294967295 = BitVec.allOnes 32 := by decide
  rw [e, BitVec.allOnes_xor, BitVec.toNat_not, ofInt_u32 n (by omega), IntKind.wrap_u32']
  omega
theorem not32_bd (c : Int) : U32 (not32 c) := xor_u32 _ _
theorem not32_not32 (c : Int) (h : U32 c) : not32 (not32 c) = c := by
  rw [not32_eq _ (not32_bd c), not32_eq c h]; omega

set_option maxHeartbeats 400000 in
theorem crcMore_any (A : Option Addr) (n c : Nat) (zs : List Int) (s : Int) (w : World) (hs : Ints .u8 w A n zs) (hz : ∀ z ∈ zs, 0 ≤ z ∧ z ≤ 255) (hn : n ≤ 100000000000000) :
    Calls Tryd.prog 10 #[.int .u32 s, .slice A n c] w fun e w' => e = .returned (.int .u32 (not32 (crcL (not32 s) zs))) ∧ w = w' := by
  have HL := hs.len
  have HZ := Lib.hid hz
  have hnot := run_not32
  clear hz
  go_enter Tryd.func10, Tryd.ntmps10
  go_wp2
  go_loop [5, 12] (fun x i => ∃ k : Nat, k ≤ n ∧ i = .int .i64 k ∧ x = .int .u32 (crcL (not32 s) (zs.take k))) (fun _ i => n - (intOf i).toNat)
  case atStart => exact ⟨0, Nat.zero_le _, rfl, rfl⟩
  case round =>
    obtain ⟨k, hk, rfl, rfl⟩ := hrel
    have hcb := crcL_bd (not32 s) (not32_bd s) (zs.take k)
    unfold U32 at hcb
    by_cases hlt : k < n
    · obtain ⟨z, HX, hcell⟩ := hs.int hlt
      have hix := hs.index el_byte c .i64 k hlt
      obtain ⟨hz0, hz1⟩ := HZ.out z (List.mem_of_getElem? HX.out)
      go_wp2
      go_loop [5, 20] (fun x i => ∃ j : Nat, j ≤ 8 ∧ i = .int .i64 j ∧ x = .int .u32 (crcN j (bits .xor .u32 (crcL (not32 s) (zs.take k)) z))) (fun _ i => 8 - (intOf i).toNat)
      case atStart => exact ⟨0, by omega, rfl, rfl⟩
      case round =>
        obtain ⟨j, hj, rfl, rfl⟩ := hrel
        have hb := crcN_bd j _ (xor_u32 (crcL (not32 s) (zs.take k)) z)
        by_cases hj8 : j < 8
        · obtain ⟨y, hy⟩ : ∃ y, y = crcN j (bits .xor .u32 (crcL (not32 s) (zs.take k)) z) := ⟨_, rfl⟩
          rw [← hy] at hb ⊢
          have ha := and1_u32 y hb
          have HY := Lib.hid hy
          obtain ⟨hb0, hb1⟩ := hb
          clear hy
          by_cases ho : y % 2 = 1
          · have hd : (y % 2 == 1) = true := by simp [ho]
            have HO := Lib.hid ho
            clear ho
            go_wp2
            go_round
            case rel => exact ⟨j + 1, by omega, by go_num, by rw [crcN, ← HY.out, crcBit_odd HO.out]⟩
            case measure => simp [intOf]; omega
          · have hd : (y % 2 == 1) = false := by simp [ho]
            have HO := Lib.hid ho
            clear ho
            go_wp2
            go_round
            case rel => exact ⟨j + 1, by omega, by go_num, by rw [crcN, ← HY.out, crcBit_even HO.out]⟩
            case measure => simp [intOf]; omega
        · obtain rfl : j = 8 := by omega
          go_wp2
          go_round
          case rel => exact ⟨k + 1, by omega, by go_num, by rw [crcL_take _ HX.out]; rfl⟩
          case measure => simp [intOf]; omega
    · obtain rfl : k = n := by omega
      go_wp2
      go_ret
      exact ⟨ret_int (by rw [List.take_of_length_le (by rw [HL.out]; omega)]), rfl⟩

set_option maxHeartbeats 400000 in
theorem crc_any (A : Option Addr) (n c : Nat) (zs : List Int) (w : World) (hs : Ints .u8 w A n zs) (hz : ∀ z ∈ zs, 0 ≤ z ∧ z ≤ 255) (hn : n ≤ 100000000000000) :
    Calls Tryd.prog 8 #[.slice A n c] w fun e w' => e = .returned (.int .u32 (not32 (crcL 4294967295 zs))) ∧ w = w' := by
  have HZ := Lib.hid hz
  have HE : Hid (not32 0 = 4294967295) := by show not32 0 = 4294967295; rw [not32_eq 0 (by unfold U32; omega)]; rfl
  clear hz
  go_enter Tryd.func8, Tryd.ntmps8
  go_wp2_with (go_at_call 10; refine (crcMore_any A n c zs 0 w hs HZ.out hn).mono ?_; rintro e w' ⟨rfl, rfl⟩)
  go_ret
  exact ⟨by rw [HE.out]; rfl, rfl⟩

set_option maxHeartbeats 400000 in
theorem rcrc_any (A : Option Addr) (n c : Nat) (zs : List Int) (w : World) (hs : Ints .u8 w A n zs) (hz : ∀ z ∈ zs, 0 ≤ z ∧ z ≤ 255) (hn : n ≤ 100000000000000) :
    Calls Tryd.prog 9 #[.slice A n c] w fun e w' => e = .returned (.int .u32 (not32 (crcL 4294967295 zs))) ∧ w = w' := by
  have HL := hs.len
  have HZ := Lib.hid hz
  have hnot := run_not32
  clear hz
  have hF : U32 4294967295 := by unfold U32; omega
  have HF := Lib.hid hF
  clear hF
  go_enter Tryd.func9, Tryd.ntmps9
  go_wp2
  go_loop [3, 4] (fun x i => ∃ k : Nat, k ≤ n ∧ i = .int .i64 k ∧ x = .int .u32 (crcL 4294967295 (zs.take k))) (fun _ i => n - (intOf i).toNat)
  case atStart => exact ⟨0, Nat.zero_le _, rfl, rfl⟩
  case round =>
    obtain ⟨k, hk, rfl, rfl⟩ := hrel
    have hcb := crcL_bd 4294967295 HF.out (zs.take k)
    unfold U32 at hcb
    by_cases hlt : k < n
    · obtain ⟨z, HX, hcell⟩ := hs.int hlt
      have hix := hs.index el_byte c .i64 k hlt
      obtain ⟨hz0, hz1⟩ := HZ.out z (List.mem_of_getElem? HX.out)
      go_wp2
      go_loop [3, 5] (fun x i => ∃ j : Nat, j ≤ 8 ∧ i = .int .i64 j ∧ x = .int .u32 (crcN j (bits .xor .u32 (crcL 4294967295 (zs.take k)) z))) (fun _ i => 8 - (intOf i).toNat)
      case atStart => exact ⟨0, by omega, rfl, rfl⟩
      case round =>
        obtain ⟨j, hj, rfl, rfl⟩ := hrel
        have hb := crcN_bd j _ (xor_u32 (crcL 4294967295 (zs.take k)) z)
        by_cases hj8 : j < 8
        · obtain ⟨y, hy⟩ : ∃ y, y = crcN j (bits .xor .u32 (crcL 4294967295 (zs.take k)) z) := ⟨_, rfl⟩
          rw [← hy] at hb ⊢
          have HY := Lib.hid hy
          obtain ⟨hb0, hb1⟩ := hb
          clear hy
          by_cases ho : y % 2 = 1
          · have hd : (y % 2 == 1) = true := by simp [ho]
            have HO := Lib.hid ho
            clear ho
            go_wp2
            go_round
            case rel => exact ⟨j + 1, by omega, by go_num, by rw [crcN, ← HY.out, crcBit_odd HO.out]⟩
            case measure => simp [intOf]; omega
          · have hd : (y % 2 == 1) = false := by simp [ho]
            have HO := Lib.hid ho
            clear ho
            go_wp2
            go_round
            case rel => exact ⟨j + 1, by omega, by go_num, by rw [crcN, ← HY.out, crcBit_even HO.out]⟩
            case measure => simp [intOf]; omega
        · obtain rfl : j = 8 := by omega
          go_wp2
          go_round
          case rel => exact ⟨k + 1, by omega, by go_num, by rw [crcL_take _ HX.out]; rfl⟩
          case measure => simp [intOf]; omega
    · obtain rfl : k = n := by omega
      go_wp2
      go_ret
      exact ⟨ret_int (by rw [List.take_of_length_le (by rw [HL.out]; omega)]), rfl⟩

end Go.Proofs.YthojhmkahjpflaaDoor
