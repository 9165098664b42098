/- The walk of RheadParses. -/
import Derived.Test.YtogknbpbjgdldaaRfJ
import Derived.Test.YtogknbpbjgdldaaRhX
import Derived.Test.YtogknbpbjgdldaaLawKit
namespace Go.Proofs.Ytogknbpbjgdldaa
open Go.RowKit Go.Dray

theorem tags_nil (w : World) : Tags w none 0 [] := ⟨rfl, fun h => by omega, fun k t hk => by simp at hk⟩

set_option maxRecDepth 100000 in
set_option maxHeartbeats 1000000 in
theorem rheadParses_walk (D : Option Addr) (m d : Nat) (ys : List Int) (w : World) (hin2 : InInts .u8 w D m d ys) :
    Calls Try.prog 4 #[.slice D m d] w fun e w' => e = .returned (.bool true) ∧ Below w.heap.size w w' := by
  suffices hU : Calls Try.prog 4 #[.slice D m d] w fun e w' => e = .returned (.bool true) ∧ Upd [] w w' from hU.mono fun _ _ ⟨h1, h2⟩ => ⟨h1, h2.below (Nat.le_refl _) (by simp)⟩
  have HBI := Lib.hid hin2.1
  have HYL := hin2.1.len
  have hmd := hin2.2.1
  have HBY : Hid (∀ z ∈ ys, 0 ≤ z ∧ z ≤ 255) := fun z hz => by
    have := hin2.2.2.2 z hz
    simp only [Lit.wf, Bool.and_eq_true, decide_eq_true_eq] at this
    exact this
  clear hin2
  go_enter Try.func4, Try.ntmps4
  go_wp2_with fail
  refine (awake_any w).mono ?_
  rintro e w1 ⟨rfl, hv1⟩
  have HUw1 := Lib.hid hv1
  clear hv1
  by_cases hm5 : 5000 < m
  · have dm : decide ((5000 : Int) < m) = true := by simp; omega
    go_wp2
    go_ret
    exact ⟨rfl, HUw1.out⟩
  · have dm : decide ((5000 : Int) < m) = false := by simp; omega
    have HI := Lib.hid (HBI.out.upd HUw1.out (by simp))
    go_wp2_with fail
    refine (parse_any w1 D m d ys HI.out HBY.out hmd (by omega)).mono ?_
    obtain ⟨r, HR⟩ : ∃ r, Hid (parseB ys = r) := ⟨parseB ys, rfl⟩
    rw [HR.out]
    clear HI
    cases r with
    | error kc =>
      obtain ⟨ak, ac⟩ := kc
      rintro e w2 ⟨rfl, hv2⟩
      have HUw2 := Lib.hid (HUw1.out.trans hv2)
      clear hv2
      go_upto_region 6 with (fail)
      have HBF : Hid (Blk (w2.alloc (.cells #[.string ⟨#[]⟩, .int .i64 (ak : Int), .int .i64 ac] 32)) w2.heap.size 32 #[.string ⟨#[]⟩, .int .i64 (ak : Int), .int .i64 ac]) := Blk.new _ _ _
      have HNw3 : Hid (Upd [] w2 (w2.alloc (.cells #[.string ⟨#[]⟩, .int .i64 (ak : Int), .int .i64 ac] 32))) := (Upd.refl _ _).alloc _
      obtain ⟨F, HGF⟩ : ∃ F, Hid (F = w2.heap.size) := ⟨_, rfl⟩
      rw [← HGF.out] at HBF ⊢
      generalize hw : w2.alloc _ = w3 at *
      clear hw
      have HUw3 := Lib.hid (HUw2.out.trans HNw3.out)
      have HI3 := Lib.hid (HBI.out.upd HUw3.out (by simp))
      go_wp2_with fail
      refine (rparse_any w3 D m d ys HI3.out HBY.out hmd (by omega)).mono ?_
      rw [HR.out]
      rintro e w4 ⟨rfl, hv4⟩
      have HUw4 := Lib.hid (HUw3.out.trans hv4)
      have HV4 := Lib.hid hv4
      have HF4 := Lib.hid (HBF.out.upd hv4 (by simp))
      clear hv4 HI3
      go_upto_region 7 with (fail)
      have HBF2 : Hid (Blk (w4.alloc (.cells #[.string ⟨#[]⟩, .int .i64 (ak : Int), .int .i64 ac] 32)) w4.heap.size 32 #[.string ⟨#[]⟩, .int .i64 (ak : Int), .int .i64 ac]) := Blk.new _ _ _
      have HNw5 : Hid (Upd [] w4 (w4.alloc (.cells #[.string ⟨#[]⟩, .int .i64 (ak : Int), .int .i64 ac] 32))) := (Upd.refl _ _).alloc _
      obtain ⟨F2, HGF2⟩ : ∃ F2, Hid (F2 = w4.heap.size) := ⟨_, rfl⟩
      rw [← HGF2.out] at HBF2 ⊢
      generalize hw : w4.alloc _ = w5 at *
      clear hw
      have HUw5 := Lib.hid (HUw4.out.trans HNw5.out)
      have HF5 := Lib.hid (HF4.out.upd HNw5.out (by simp))
      go_wp2_with fail
      refine (same_any w5 none 0 0 none 0 [] (tags_nil w5) (tags_nil w5) (by omega)).mono ?_
      rintro e w6 ⟨rfl, hv6⟩
      have HUw6 := Lib.hid (HUw5.out.trans hv6)
      have HF6 := Lib.hid (HF5.out.upd hv6 (by simp))
      have HF26 := Lib.hid (HBF2.out.upd hv6 (by simp))
      clear hv6
      have f0 : w6.cell? ⟨F, 0, none⟩ = some (.string ⟨#[]⟩) := by rw [HF6.out.cell]; rfl
      have f1 : w6.cell? ⟨F, 1, none⟩ = some (.int .i64 (ak : Int)) := by rw [HF6.out.cell]; rfl
      have f2 : w6.cell? ⟨F, 2, none⟩ = some (.int .i64 ac) := by rw [HF6.out.cell]; rfl
      have g0 : w6.cell? ⟨F2, 0, none⟩ = some (.string ⟨#[]⟩) := by rw [HF26.out.cell]; rfl
      have g1 : w6.cell? ⟨F2, 1, none⟩ = some (.int .i64 (ak : Int)) := by rw [HF26.out.cell]; rfl
      have g2 : w6.cell? ⟨F2, 2, none⟩ = some (.int .i64 ac) := by rw [HF26.out.cell]; rfl
      go_wp2
      go_ret
      exact ⟨rfl, HUw6.out⟩
    | ok us =>
      rintro e w2 ⟨L2, lc2, xs2, hus, rfl, ht2, hv2⟩
      have HUw2 := Lib.hid (HUw1.out.trans hv2)
      have HTO := Lib.hid ht2
      have HUS := Lib.hid hus
      clear ht2 hus
      clear hv2
      go_upto_region 6 with (fail)
      have HBF : Hid (Blk (w2.alloc (.cells #[.string ⟨#[]⟩, .int .i64 0, .int .i64 0] 32)) w2.heap.size 32 #[.string ⟨#[]⟩, .int .i64 0, .int .i64 0]) := Blk.new _ _ _
      have HNw3 : Hid (Upd [] w2 (w2.alloc (.cells #[.string ⟨#[]⟩, .int .i64 0, .int .i64 0] 32))) := (Upd.refl _ _).alloc _
      obtain ⟨F, HGF⟩ : ∃ F, Hid (F = w2.heap.size) := ⟨_, rfl⟩
      rw [← HGF.out] at HBF ⊢
      generalize hw : w2.alloc _ = w3 at *
      clear hw
      have HUw3 := Lib.hid (HUw2.out.trans HNw3.out)
      have HI3 := Lib.hid (HBI.out.upd HUw3.out (by simp))
      go_wp2_with fail
      refine (rparse_any w3 D m d ys HI3.out HBY.out hmd (by omega)).mono ?_
      rw [HR.out]
      rintro e w4 ⟨L3, lc3, xs3, hus3, rfl, ht4, hv4⟩
      have HUw4 := Lib.hid (HUw3.out.trans hv4)
      have HV4 := Lib.hid hv4
      have HF4 := Lib.hid (HBF.out.upd hv4 (by simp))
      clear hv4 HI3
      have HSM : Hid (∀ x ∈ xs2, lenT x.2 ≤ 1000000000000000) := by
        obtain ⟨_, dd, _, h2, _, h5⟩ := parse_good HBY.out HR.out
        intro x hx
        have := h5 x.2 (by rw [HUS.out]; exact List.mem_map_of_mem hx)
        rw [HYL.out] at h2
        omega
      have HSM3 : Hid (∀ x ∈ xs3, lenT x.2 ≤ 1000000000000000) := by
        intro x hx
        have hm3 : x.2 ∈ us := by rw [hus3]; exact List.mem_map_of_mem hx
        rw [HUS.out] at hm3
        obtain ⟨y, hy, he⟩ := List.mem_map.1 hm3
        have := HSM.out y hy
        rw [he] at this
        exact this
      have hl2 : xs2.length ≤ 256 := by
        obtain ⟨_, dd, _, _, h4, _⟩ := parse_good HBY.out HR.out
        rw [HUS.out, List.length_map] at h4
        exact h4
      obtain ⟨n2, HN2⟩ : ∃ n2, Hid (xs2.length = n2) := ⟨xs2.length, rfl⟩
      have HN3 : Hid (xs3.length = n2) := by
        have h := congrArg List.length hus3
        rw [HUS.out, List.length_map, List.length_map, HN2.out] at h
        exact h.symm
      have HTK : Hid (∀ W, Upd [] w2 W → Tags W L2 n2 us) := fun W hW => by rw [HUS.out, ← HN2.out]; exact (HTO.out.upd hW).tags' HSM.out
      have HTK3 : Hid (∀ W, Upd [] w4 W → Tags W L3 n2 us) := fun W hW => by rw [hus3, ← HN3.out]; exact (ht4.upd hW).tags' HSM3.out
      rw [HN2.out] at hl2 ⊢
      rw [HN3.out]
      go_upto_region 7 with (fail)
      have HBF2 : Hid (Blk (w4.alloc (.cells #[.string ⟨#[]⟩, .int .i64 0, .int .i64 0] 32)) w4.heap.size 32 #[.string ⟨#[]⟩, .int .i64 0, .int .i64 0]) := Blk.new _ _ _
      have HNw5 : Hid (Upd [] w4 (w4.alloc (.cells #[.string ⟨#[]⟩, .int .i64 0, .int .i64 0] 32))) := (Upd.refl _ _).alloc _
      obtain ⟨F2, HGF2⟩ : ∃ F2, Hid (F2 = w4.heap.size) := ⟨_, rfl⟩
      rw [← HGF2.out] at HBF2 ⊢
      generalize hw : w4.alloc _ = w5 at *
      clear hw
      have HUw5 := Lib.hid (HUw4.out.trans HNw5.out)
      have HF5 := Lib.hid (HF4.out.upd HNw5.out (by simp))
      go_wp2_with fail
      refine (same_any w5 L2 n2 lc2 L3 lc3 us (HTK.out w5 (HNw3.out.trans (HV4.out.trans HNw5.out))) (HTK3.out w5 HNw5.out) (by omega)).mono ?_
      rintro e w6 ⟨rfl, hv6⟩
      have HUw6 := Lib.hid (HUw5.out.trans hv6)
      have HF6 := Lib.hid (HF5.out.upd hv6 (by simp))
      have HF26 := Lib.hid (HBF2.out.upd hv6 (by simp))
      clear hv6
      have f0 : w6.cell? ⟨F, 0, none⟩ = some (.string ⟨#[]⟩) := by rw [HF6.out.cell]; rfl
      have f1 : w6.cell? ⟨F, 1, none⟩ = some (.int .i64 0) := by rw [HF6.out.cell]; rfl
      have f2 : w6.cell? ⟨F, 2, none⟩ = some (.int .i64 0) := by rw [HF6.out.cell]; rfl
      have g0 : w6.cell? ⟨F2, 0, none⟩ = some (.string ⟨#[]⟩) := by rw [HF26.out.cell]; rfl
      have g1 : w6.cell? ⟨F2, 1, none⟩ = some (.int .i64 0) := by rw [HF26.out.cell]; rfl
      have g2 : w6.cell? ⟨F2, 2, none⟩ = some (.int .i64 0) := by rw [HF26.out.cell]; rfl
      go_wp2
      go_ret
      exact ⟨rfl, HUw6.out⟩

end Go.Proofs.Ytogknbpbjgdldaa
