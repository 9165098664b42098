/- The walk of drayagelaw03.awake. -/
import Derived.Test.YtndgijcjpkoooaaHuffW
import Derived.Test.YtndgijcjpkoooaaHuffB
namespace Go.Proofs.Ytndgijcjpkoooaa
open Go.RowKit Go.Dray

theorem awake_bits : pack ([] ++ digits 1 (1 : Int).toNat ++ digits 2 (2 : Int).toNat ++ digits 0 (1 : Int).toNat ++ digits 9 (4 : Int).toNat) = [149] := by decide +kernel
theorem awake_len : (([] ++ digits 1 (1 : Int).toNat ++ digits 2 (2 : Int).toNat ++ digits 0 (1 : Int).toNat ++ digits 9 (4 : Int).toNat).length + 7) / 8 = 1 := by decide +kernel
theorem awake_chk : chk [2, 1, 3, 3] = 0 := by decide +kernel
theorem awake_codes : codesV [2, 1, 3, 3] = [2, 0, 6, 7].map (Value.int .i64) := congrArg (List.map (Value.int .i64)) (show tab _ (codeOf [2, 1, 3, 3]) = [2, 0, 6, 7] by decide +kernel)

set_option maxHeartbeats 400000 in
theorem awake_any (w : World) : Calls Try.prog 8 #[] w fun e w' => e = .returned (.bool true) ∧ Upd [] w w' := by
  go_enter Try.func8, Try.ntmps8
  go_wp2_with (go_at_call 24; refine (newWriter_any _).mono ?_; rintro e w1 ⟨rfl, hw⟩; have HW1 := Lib.hid hw; clear hw)
  obtain ⟨A1, hA1⟩ : ∃ A1 : Option Addr, A1 = none := ⟨_, rfl⟩
  have HA1 := Lib.hid hA1
  clear hA1
  have hw1 : Wr w1 w.heap.size w.heap.size A1 [] := by rw [HW1.out, HA1.out]; exact Wr.new w w.heap.size
  have hu1 : Upd [] w w1 := by rw [HW1.out]; exact (Upd.refl [] w).alloc _
  refine (put_any _ w.heap.size w.heap.size A1 ([]) 1 1 (by omega) (by omega) (by simp) (by have := hu1.size; omega) hw1).mono ?_
  rintro e w2 ⟨rfl, A2, hw2, hv, -⟩
  have hu2 := hw1.thenUpd hu1 hv (Nat.le_refl _) (Nat.le_refl _)
  clear hv hw1 hu1
  go_wp2_with fail
  refine (put_any _ w.heap.size w.heap.size A2 ([] ++ digits 1 (1 : Int).toNat) 2 2 (by omega) (by omega) (by simp [digits, tab_len]) (by have := hu2.size; omega) hw2).mono ?_
  rintro e w3 ⟨rfl, A3, hw3, hv, -⟩
  have hu3 := hw2.thenUpd hu2 hv (Nat.le_refl _) (Nat.le_refl _)
  clear hv hw2 hu2
  go_wp2_with fail
  refine (put_any _ w.heap.size w.heap.size A3 ([] ++ digits 1 (1 : Int).toNat ++ digits 2 (2 : Int).toNat) 0 1 (by omega) (by omega) (by simp [digits, tab_len]) (by have := hu3.size; omega) hw3).mono ?_
  rintro e w4 ⟨rfl, A4, hw4, hv, -⟩
  have hu4 := hw3.thenUpd hu3 hv (Nat.le_refl _) (Nat.le_refl _)
  clear hv hw3 hu3
  go_wp2_with fail
  refine (put_any _ w.heap.size w.heap.size A4 ([] ++ digits 1 (1 : Int).toNat ++ digits 2 (2 : Int).toNat ++ digits 0 (1 : Int).toNat) 9 4 (by omega) (by omega) (by simp [digits, tab_len]) (by have := hu4.size; omega) hw4).mono ?_
  rintro e w5 ⟨rfl, A5, hw5, hv, -⟩
  have hu5 := hw4.thenUpd hu4 hv (Nat.le_refl _) (Nat.le_refl _)
  clear hv hw4 hu4
  go_wp2_with fail
  have hz : Ints .i64 (w5.alloc (.cells #[.int .i64 2, .int .i64 1, .int .i64 3, .int .i64 3] 3)) (some ⟨w5.heap.size, 0, none⟩) 4 [2, 1, 3, 3] := Blk.seg (Blk.new w5 _ _)
  refine (codes_ok _ _ _ _ _ hz awake_chk).mono ?_
  rintro e w6 ⟨C, cc, rfl, hown6, hv⟩
  rw [awake_codes] at hown6
  have hu6 := (hu5.alloc _).then hv (by simp)
  have hw6 := (hw5.upd ((Upd.refl [] w5).alloc _) (by simp) (by simp)).upd hv (by simp) (by simp)
  clear hv hw5 hu5 hz
  go_wp2_with fail
  refine (wbytes_any _ _ _ _ _ (by simp [digits, tab_len]) hw6 _ awake_len _ awake_bits).mono ?_
  rintro e w7 ⟨D, cd, rfl, hown7, hv⟩
  have hi6 := (Ints.ofOwn hown6).upd hv (by simp)
  have hi7 := Ints.ofOwn hown7
  have hu7 := hu6.then hv (by simp)
  clear hv hw6 hu6 hown6 hown7
  have x0 := hi6.indexI el_int cc .i64 0 0 rfl (by omega)
  have x2 := hi6.indexI el_int cc .i64 2 2 rfl (by omega)
  have x3 := hi6.indexI el_int cc .i64 3 3 rfl (by omega)
  have y0 := hi7.indexI el_byte cd .i64 0 0 rfl (by omega)
  have a0 := hi6.cell (i := 0) rfl
  have a2 := hi6.cell (i := 2) rfl
  have a3 := hi6.cell (i := 3) rfl
  have b0 := hi7.cell (i := 0) rfl
  simp only [Nat.add_zero] at x0 y0 a0 b0
  clear hi6 hi7
  go_wp2
  go_ret
  exact ⟨rfl, hu7⟩

end Go.Proofs.Ytndgijcjpkoooaa
