/- The walk of drayagelaw03.HuffCodes. -/
import Derived.Test.YtndgijcjpkoooaaHuffAwake
import Derived.Test.YtndgijcjpkoooaaLawKit
namespace Go.Proofs.Ytndgijcjpkoooaa
open Go.RowKit Go.Dray

set_option maxHeartbeats 400000 in
theorem huffCodes_walk (A : Option Addr) (n c : Nat) (zs : List Int) (w : World) (hin : InInts .i64 w A n c zs) :
    Calls Try.prog 3 #[.slice A n c] w fun e w' => e = .returned (.bool true) ∧ Below w.heap.size w w' := by
  obtain ⟨hs, -, -, -⟩ := hin
  have HL := hs.len
  by_cases hbig : 400 < n
  · go_enter Try.func3, Try.ntmps3
    go_wp2_with (go_at_call 8; refine (awake_any _).mono ?_; rintro e w1 ⟨rfl, hu1⟩)
    go_ret
    exact ⟨rfl, hu1.below (Nat.le_refl _) (by simp)⟩
  · have hn : n ≤ 400 := by omega
    by_cases h : chk zs = 0
    · have HE := Lib.hid h
      clear h
      go_enter Try.func3, Try.ntmps3
      go_wp2_with (go_at_call 8; refine (awake_any _).mono ?_; rintro e w1 ⟨rfl, hu1⟩)
      have hs1 : Ints .i64 w1 A n zs := hs.upd hu1 (by simp)
      refine (codes_ok A n c zs w1 hs1 HE.out).mono ?_
      rintro e w2 ⟨X, cx, rfl, hx, hv⟩
      have hu2 := hu1.then hv (by simp)
      have hs2 : Ints .i64 w2 A n zs := hs1.upd hv (by simp)
      clear hv hu1 hs1
      go_wp2_with fail
      refine (rcodes_ok A n c zs w2 hs2 HE.out).mono ?_
      rintro e w3 ⟨Y, cy, rfl, hy, hv⟩
      have hu3 := hu2.then hv (by simp)
      have hs3 : Ints .i64 w3 A n zs := hs2.upd hv (by simp)
      have hx3 : Own w3 w1.heap.size 3 1 X n cx (codesV zs) := hx.upd hv (by simp)
      clear hv hu2 hs2 hx
      have hd : (chk zs != 0) = false := by simp [HE.out]
      go_wp2_with (first
        | (go_at_call 11; refine (check_any A n c zs _ hs3).mono ?_; rintro e w' ⟨rfl, rfl⟩)
        | (go_at_call 12; refine (full_any A n c zs _ hs3).mono ?_; rintro e w' ⟨rfl, rfl⟩)
        | (go_at_call 13; refine (rfull_any A n c zs _ hs3).mono ?_; rintro e w' ⟨rfl, rfl⟩))
      have hX : Ints .i64 w3 X n (tab zs.length (codeOf zs)) := Ints.ofOwn hx3
      have hY : Ints .i64 w3 Y n (tab zs.length (codeOf zs)) := Ints.ofOwn hy
      clear hx3 hy hs3 hs
      go_loopw [7] (fun i wr => ∃ k : Nat, k ≤ n ∧ i = .int .i64 k ∧ ∃ q, wr = w3.drewN q) (fun i _ => n - (intOf i).toNat)
      case atStart => exact ⟨0, Nat.zero_le _, rfl, 0, rfl⟩
      case round =>
        obtain ⟨k, hk, rfl, q, rfl⟩ := hrel
        by_cases hlt : k < n
        · obtain ⟨x, HX, cx1⟩ := hX.int hlt
          have cx2 := hY.cell HX.out
          have ix1 := hX.index el_int cx .i64 k hlt
          have ix2 := hY.index el_int cy .i64 k hlt
          clear hX hY
          go_wp2
          go_quiet (fail)
          go_wp2
          go_roundw
          case rel => exact ⟨k + 1, by omega, by go_num, _, rfl⟩
          case measure => simp [intOf]; omega
        · obtain rfl : k = n := by omega
          go_wp2
          go_ret
          exact ⟨rfl, (hu3.drewN q).below (Nat.le_refl _) (by simp)⟩
    · have HE := Lib.hid h
      clear h
      go_enter Try.func3, Try.ntmps3
      go_wp2_with (go_at_call 8; refine (awake_any _).mono ?_; rintro e w1 ⟨rfl, hu1⟩)
      have hs1 : Ints .i64 w1 A n zs := hs.upd hu1 (by simp)
      refine (codes_err A n c zs w1 hs1 HE.out).mono ?_
      rintro e w2 ⟨rfl, rfl⟩
      go_wp2_with fail
      refine (rcodes_err A n c zs w1 hs1 HE.out).mono ?_
      rintro e w3 ⟨rfl, rfl⟩
      go_wp2_with (first
        | (go_at_call 11; refine (check_any A n c zs _ hs1).mono ?_; rintro e w' ⟨rfl, rfl⟩)
        | (go_at_call 12; refine (full_any A n c zs _ hs1).mono ?_; rintro e w' ⟨rfl, rfl⟩)
        | (go_at_call 13; refine (rfull_any A n c zs _ hs1).mono ?_; rintro e w' ⟨rfl, rfl⟩))
      refine wp_loop_rounds 1 ?_
      rw [rounds_succ]
      go_wp2
      go_ret
      exact ⟨rfl, hu1.below (Nat.le_refl _) (by simp)⟩

end Go.Proofs.Ytndgijcjpkoooaa
