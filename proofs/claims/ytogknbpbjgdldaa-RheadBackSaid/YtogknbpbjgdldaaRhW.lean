/- The walk of RheadPrints. -/
import Derived.Test.YtogknbpbjgdldaaRfC
import Derived.Test.YtogknbpbjgdldaaRhV
namespace Go.Proofs.Ytogknbpbjgdldaa
open Go.RowKit Go.Dray

theorem rchk_check {ts : List TagV} (h : dlen ts + 16 ≤ 1048576) : checkE ts = rchk ts := by
  unfold checkE rchk
  split
  · rfl
  · split
    · rename_i h2
      rw [if_neg (by omega), h2]
    · rfl
theorem nil_str (w : World) : (convert 25 9 (.slice none 0 0)).run Try.prog w = .ok (.string (strOfNums [])) w :=
  Ints.str (ints_nil .u8 w) Try.underlying25 Try.underlying5 Try.underlying9 0

set_option maxRecDepth 100000 in
set_option maxHeartbeats 1000000 in
theorem rheadPrints_walk (A : Option Addr) (n c : Nat) (ts : List TagV) (w : World) (hin : InTags w A n c ts) :
    Calls Try.prog 3 #[.slice A n c] w fun e w' => e = .returned (.bool true) ∧ Below w.heap.size w w' := by
  suffices hU : Calls Try.prog 3 #[.slice A n c] w fun e w' => e = .returned (.bool true) ∧ Upd [] w w' from hU.mono fun _ _ ⟨h1, h2⟩ => ⟨h1, h2.below (Nat.le_refl _) (by simp)⟩
  have HR := Lib.hid hin.2.2
  clear hin
  go_enter Try.func3, Try.ntmps3
  go_wp2_with fail
  refine (awake_any w).mono ?_
  rintro e w1 ⟨rfl, hv1⟩
  have HU1 := Lib.hid hv1
  clear hv1
  go_wp2_with fail
  refine (light_any w1 A n c ts (HR.out.upd0 HU1.out)).mono ?_
  rintro e w2 ⟨b, rfl, hlf, hv2⟩
  have HU2 := Lib.hid (HU1.out.trans hv2)
  clear hv2
  cases b with
  | false =>
    clear hlf
    go_wp2
    go_ret
    exact ⟨rfl, HU2.out⟩
  | true =>
    have HLF := Lib.hid (hlf rfl)
    clear hlf
    have hds := HLF.out.dsum
    have hn : n ≤ 300 := by rw [← HR.out.len]; exact HLF.out.len
    have HT : Hid (∀ W, Upd [] w W → Tags W A n ts) := fun W hW => HLF.out.tags (HR.out.upd0 hW)
    have HXX : Hid (∀ t ∈ ts, ∀ s ∈ t.texts, s.size ≤ 1000000000000000) := fun t ht s hs => by have := (HLF.out.small t ht).s s hs; omega
    have hdl : dlen ts ≤ 7400 := Nat.le_trans (dlen_le ts) hds
    have HCE : Hid (checkE ts = rchk ts) := rchk_check (by omega)
    obtain ⟨q, HQ⟩ : ∃ q, Hid (rchk ts = q) := ⟨rchk ts, rfl⟩
    have HQ2 : Hid (checkE ts = q) := by show _ = _; rw [HCE.out, HQ.out]
    by_cases h0 : q = 0
    · subst h0
      go_wp2_with fail
      refine (print_ok w2 A n c ts (HT.out w2 HU2.out) (by omega) HQ2.out).mono ?_
      rintro e w3 ⟨X, xc, rfl, ho3, hv3⟩
      have HU3 := Lib.hid (HU2.out.trans hv3)
      have HO3 := Lib.hid ho3
      clear hv3 ho3
      go_wp2_with fail
      refine (rprint_ok w3 A n c ts (HT.out w3 HU3.out) HXX.out (by omega) HQ.out).mono ?_
      rintro e w4 ⟨Y, m, yc, rfl, hi4, hv4⟩
      have HU4 := Lib.hid (HU3.out.trans hv4)
      have s1 := Ints.str (Ints.ofOwn (HO3.out.upd hv4 (by simp))) Try.underlying25 Try.underlying5 Try.underlying9 xc
      have s2 := Ints.str hi4 Try.underlying25 Try.underlying5 Try.underlying9 yc
      clear hi4 hv4
      go_wp2_with fail
      refine (check_any w4 A n c ts (HT.out w4 HU4.out) (by omega) (by omega)).mono ?_
      rintro e w5 ⟨rfl, hv5⟩
      rw [HQ2.out]
      have HU5 := Lib.hid (HU4.out.trans hv5)
      clear s1 s2 hv5
      go_wp2
      go_ret
      exact ⟨rfl, HU5.out⟩
    · have HNE : Hid (checkE ts ≠ 0) := by show _ ≠ _; rw [HQ2.out]; exact h0
      have HNE2 : Hid (rchk ts ≠ 0) := by show _ ≠ _; rw [HQ.out]; exact h0
      go_wp2_with fail
      refine (print_err w2 A n c ts (HT.out w2 HU2.out) (by omega) (by omega) HNE.out).mono ?_
      rintro e w3 ⟨rfl, hv3⟩
      rw [HQ2.out]
      have HU3 := Lib.hid (HU2.out.trans hv3)
      clear hv3
      go_wp2_with fail
      refine (rprint_err w3 A n c ts (HT.out w3 HU3.out) HXX.out (by omega) HNE2.out).mono ?_
      rintro e w4 ⟨rfl, hv4⟩
      rw [HQ.out]
      have HU4 := Lib.hid (HU3.out.trans hv4)
      have s1 := nil_str w4
      clear hv4
      go_wp2_with fail
      refine (check_any w4 A n c ts (HT.out w4 HU4.out) (by omega) (by omega)).mono ?_
      rintro e w5 ⟨rfl, hv5⟩
      rw [HQ2.out]
      have HU5 := Lib.hid (HU4.out.trans hv5)
      clear s1 hv5
      go_wp2
      go_ret
      exact ⟨rfl, HU5.out⟩

end Go.Proofs.Ytogknbpbjgdldaa
