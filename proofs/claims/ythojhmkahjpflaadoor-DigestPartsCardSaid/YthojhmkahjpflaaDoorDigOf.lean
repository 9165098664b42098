/- The walks of digest.Of and of the reference's Of. -/
import Derived.Test.YthojhmkahjpflaaDoorDigWhole
import Derived.Test.YthojhmkahjpflaaDoorDigMd5R
import Derived.Test.YthojhmkahjpflaaDoorDigSha2R
namespace Go.Proofs.YthojhmkahjpflaaDoor
open Go.RowKit Go.Dray

set_option maxRecDepth 100000 in
set_option maxHeartbeats 400000 in
theorem of_ok (w : World) (kind : Int) (hk : IsKind kind) (A : Option Addr) (n c : Nat) (zs : List Int) (hs : Ints .u8 w A n zs) (hz : ∀ z ∈ zs, 0 ≤ z ∧ z ≤ 255) (hnc : n ≤ c) (hT : Tabs w) (hn : n ≤ 1000000000000) :
    Calls Tryd.prog 11 #[.int .i64 kind, .slice A n c] w (NewBytes (4 * nwK kind) (sumK kind zs) w) := by
  have HT := Lib.hid hT
  have HK := Lib.hid hk
  have HS := Lib.hid hs
  have HZ := Lib.hid hz
  have HL := hs.len
  clear hT hk hs hz
  go_enter Tryd.func11, Tryd.ntmps11
  go_wp2_with fail
  refine (new_any w kind HK.out).mono ?_
  rintro e w1 ⟨rfl, hh1, hu1⟩
  have HH1 := Lib.hid hh1
  have HU1 := Lib.hid hu1
  have HS1 := Lib.hid (HS.out.upd hu1 (by simp))
  have HNE : Hid (0 < n → bl A ≠ w.heap.size) := fun hp => by have := Seg.lt HS.out hp (by omega); omega
  have HT1 := Lib.hid (HT.out.upd hu1 (by simp))
  have hg : 3 ≤ w.heap.size := HT.out.size
  clear hh1 hu1 HS
  go_wp2_with fail
  refine (write_any w1 w.heap.size kind HK.out [] _ HH1.out A n c zs HS1.out HZ.out hnc HNE.out HT1.out hg (by simp; omega)).mono ?_
  rintro e w2 ⟨rfl, ⟨tl2, hh2⟩, hu2⟩
  have HH2 := Lib.hid hh2
  have HU2 := Lib.hid (HU1.out.then hu2 (by intro b hb; right; simp at hb; omega))
  have HT2 := Lib.hid (HT.out.upd HU2.out (by simp))
  clear hh2 hu2 HH1 HU1 HS1 HT1
  go_wp2_with fail
  refine (sum_any w2 w.heap.size kind HK.out _ tl2 HH2.out HT2.out hg (by rw [List.nil_append, HL.out]; exact hn)).mono ?_
  rintro e w3 ⟨X, xc, rfl, hown, hu3⟩
  have HO := Lib.hid (hown.monoB HU2.out.size)
  have HU3 := Lib.hid (HU2.out.trans hu3)
  clear hown hu3
  go_wp2_with fail
  go_ret
  exact ⟨X, xc, rfl, HO.out, HU3.out⟩

set_option maxRecDepth 100000 in
set_option maxHeartbeats 400000 in
theorem of_bad (w : World) (kind : Int) (hk : ¬ IsKind kind) (A : Option Addr) (n c : Nat) : Calls Tryd.prog 11 #[.int .i64 kind, .slice A n c] w (RetUpd (.slice none 0 0) w) := by
  have HK := Lib.hid hk
  clear hk
  go_enter Tryd.func11, Tryd.ntmps11
  go_wp2_with fail
  refine (new_bad w kind HK.out).mono ?_
  rintro e w1 ⟨rfl, hu1⟩
  go_wp2_with fail
  go_ret
  exact ⟨rfl, hu1⟩

set_option maxRecDepth 100000 in
set_option maxHeartbeats 400000 in
theorem rof_bad (w : World) (kind : Int) (hk : ¬ IsKind kind) (A : Option Addr) (n c : Nat) : Calls Tryd.prog 12 #[.int .i64 kind, .slice A n c] w (RetUpd (.slice none 0 0) w) := by
  by_cases h1 : kind < 1
  · have d1 : decide (kind < 1) = true := by simp; omega
    clear hk
    go_enter Tryd.func12, Tryd.ntmps12
    go_wp2
    go_ret
    exact ⟨rfl, Upd.refl _ _⟩
  · have d1 : decide (kind < 1) = false := by simp; omega
    have d2 : decide (3 < kind) = true := by unfold IsKind at hk; simp; omega
    clear hk
    go_enter Tryd.func12, Tryd.ntmps12
    go_wp2
    go_ret
    exact ⟨rfl, Upd.refl _ _⟩

set_option maxRecDepth 100000 in
set_option maxHeartbeats 1000000 in
theorem rof1 (w : World) (A : Option Addr) (n c : Nat) (zs : List Int) (hs : Ints .u8 w A n zs) (hz : ∀ z ∈ zs, 0 ≤ z ∧ z ≤ 255) (hT : Tabs w) (hn : n ≤ 1000000000000) :
    Calls Tryd.prog 12 #[.int .i64 1, .slice A n c] w (NewBytes 16 (sumK 1 zs) w) := by
  have HT := Lib.hid hT
  have HS := Lib.hid hs
  have HZ := Lib.hid hz
  have HL := hs.len
  clear hT hs hz
  go_enter Tryd.func12, Tryd.ntmps12
  go_wp2_with fail
  have HU0 : Hid (Upd [] w (w.alloc (.cells #[.int .u32 1732584193, .int .u32 4023233417, .int .u32 2562383102, .int .u32 271733878] 24))) := (Upd.refl _ _).alloc _
  obtain ⟨S0, HS0⟩ : ∃ S0, Hid (S0 = w.heap.size) := ⟨_, rfl⟩
  have HSA : Hid (Own (w.alloc (.cells #[.int .u32 1732584193, .int .u32 4023233417, .int .u32 2562383102, .int .u32 271733878] 24)) w.heap.size 24 1 (some ⟨S0, 0, none⟩) 4 4 ((initK 1).map (Value.int .u32))) := by
    have hb := Blk.new (w) 24 #[.int .u32 1732584193, .int .u32 4023233417, .int .u32 2562383102, .int .u32 271733878]
    try simp only [World.size_alloc] at hb
    rw [HS0.out]
    exact Own.mk (n := 4) (c := 4) rfl (Nat.le_refl _) (by simp [maxLen]) rfl (by omega) hb rfl rfl
  rw [← HS0.out]
  generalize hw0 : w.alloc _ = w0 at *
  clear hw0
  refine (whole1_any w0 A n c zs (HS.out.upd HU0.out (by simp)) hn).mono ?_
  rintro e w1 ⟨MA, mc, rfl, hmo, hv1⟩
  obtain ⟨N, HN⟩ : ∃ N, Hid (N = (padded 1 zs).length / 64) := ⟨_, rfl⟩
  obtain ⟨ms, HMS⟩ : ∃ ms, Hid (ms = padded 1 zs) := ⟨_, rfl⟩
  have HML : Hid (ms.length = 64 * N) := by
    show _ = _
    rw [HMS.out, HN.out]
    have := padded_blocks 1 zs
    omega
  have HMN : Hid (n + 1 + padN n + 8 = 64 * N) := by
    show _ = _
    rw [← HML.out, HMS.out, padded_len, HL.out]
  have hNb : N ≤ 1000000000000 := by
    have h1 := HMN.out
    have h2 := padN_spec n
    omega
  rw [HMN.out]
  rw [HMN.out, ← HMS.out] at hmo
  have HMB : Hid (∀ z ∈ ms, 0 ≤ z ∧ z ≤ 255) := by
    rw [HMS.out]
    intro z hz
    unfold padded at hz
    simp only [List.mem_append, List.mem_singleton, List.mem_replicate] at hz
    rcases hz with ((h | h) | h) | h
    · exact HZ.out z h
    · omega
    · omega
    · exact numB_bd _ _ _ z h
  have HM1 := Lib.hid (Ints.ofOwn hmo)
  have hmc : 64 * N ≤ mc := hmo.le
  have HSA1 := Lib.hid (HSA.out.upd hv1 (by simp))
  have HU1 := Lib.hid (HU0.out.trans hv1)
  clear hmo hv1 HSA HU0 HS
  go_wp2_with fail
  go_loopw [5, 7] (fun s i wr => ∃ (j : Nat) (SA : Option Addr) (sc : Nat), j ≤ N ∧ i = .int .i64 (64 * (j : Int)) ∧ s = .slice SA 4 sc ∧ Hid (Own wr w.heap.size 24 1 SA 4 sc ((runB 1 ms j).map (Value.int .u32))) ∧ Hid (Ints .u8 wr MA (64 * N) ms) ∧ Hid (Upd [] w wr)) (fun _ i _ => 64 * N - (intOf i).toNat)
  case atStart => exact ⟨0, _, _, by omega, rfl, rfl, HSA1, HM1, HU1⟩
  case round =>
    clear HSA1 HM1 HU1
    obtain ⟨j, SA, sc, hj, rfl, rfl, HSO, HMr, HU⟩ := hrel
    by_cases hlt : j < N
    · have hcut := run_cut_lh el_byte MA (64 * N) mc .i64 .i64 (64 * (j : Int)) (64 * (j : Int) + 64) (64 * j) (64 * j + 64) (by omega) (by omega) (by omega) (by omega)
      have hct := HMr.out.cut (lo := 64 * j) (hi := 64 * j + 64) (c := mc) (by omega) (by omega) hmc
      rw [Nat.add_sub_cancel_left] at hcut hct
      have HCT := Lib.hid hct
      clear hct
      go_wp2_with fail
      with_reducible refine (wordsOf1_any wr (cutA 1 MA mc (64 * j)) (mc - 64 * j) _ HCT.out (fun z hz => HMB.out z (List.mem_of_mem_drop (List.mem_of_mem_take hz))) (by omega)).mono ?_
      rintro e w6 ⟨WA, wc, rfl, hwo, hv6⟩
      have HW := Lib.hid hwo
      have HV6 := Lib.hid hv6
      obtain ⟨S, HSS⟩ : ∃ S, Hid (S = runB 1 ms j) := ⟨_, rfl⟩
      have HSL : Hid (S.length = 4) := by rw [HSS.out]; exact runB_len _ _ _
      have HSI : Hid (Ints .u32 w6 SA 4 [at0 S 0, at0 S 1, at0 S 2, at0 S 3]) := by
        have h := (Ints.ofOwn HSO.out).upd hv6 (by simp)
        rw [← HSS.out, list4 HSL.out] at h
        exact h
      have HM6 := Lib.hid (HMr.out.upd hv6 (by simp))
      have HU6 := Lib.hid (HU.out.trans hv6)
      have HT6 := Lib.hid (HT.out.upd HU6.out (by simp))
      have HSW : Hid (some (bl SA) ∉ [ob WA]) := by
        have h1 := Seg.lt HSO.out.seg (by omega) (by omega)
        intro hm
        simp at hm
        have := (HW.out.base hm.symm).1
        omega
      have HWT : Hid (∀ g, ob WA = some g → 3 ≤ g) := fun g hg => by
        have h1 := (HW.out.base hg).1
        have h2 := HT.out.size
        have h3 := HU.out.size
        omega
      have HWB : Hid (∀ b, some b ∈ [ob WA] → w.heap.size ≤ b) := fun b hb => by
        simp at hb
        have h1 := (HW.out.base hb.symm).1
        have h3 := HU.out.size
        omega
      have HMA : Hid (0 < 64 * N → some (bl MA) ∉ [ob WA]) := fun hp hm => by
        have h1 := Seg.lt HMr.out hp (by omega)
        simp at hm
        have := (HW.out.base hm.symm).1
        omega
      clear hwo hv6
      go_wp2_with fail
      refine (rmd5_any w6 SA sc (at0 S 0) (at0 S 1) (at0 S 2) (at0 S 3) WA wc _ HSI.out (Ints.ofOwn HW.out) HT6.out).mono ?_
      rintro e w7 ⟨S7, s7, rfl, ho7, hv7⟩
      have HM7 := Lib.hid (HM6.out.upd hv7 (by simp))
      have HU7 := Lib.hid (HU6.out.then hv7 (by simp))
      have HO7 : Hid (Own w7 w.heap.size 24 1 S7 4 s7 ((runB 1 ms (j + 1)).map (Value.int .u32))) := by
        have h := ho7.monoB HU6.out.size
        rw [runB, ← HSS.out]
        exact h
      clear ho7 hv7 HW HV6 HSI HM6 HU6 HT6 HSO HMr HU HCT hcut
      go_wp2
      go_roundw
      case rel => exact ⟨j + 1, S7, s7, by omega, by go_num, rfl, HO7, HM7, HU7⟩
      case measure => simp [intOf]; omega
    · obtain rfl : j = N := by omega
      obtain ⟨S, HSS⟩ : ∃ S, Hid (S = runB 1 ms j) := ⟨_, rfl⟩
      have HSL : Hid (S.length = 4) := by rw [HSS.out]; exact runB_len _ _ _
      have HSB : Hid (∀ x ∈ S, U32 x) := by rw [HSS.out, HMS.out, HN.out]; exact runB_bd _ _ (padded_blocks _ _).2
      have HSI : Hid (Ints .u32 wr SA 4 S) := by
        rw [HSS.out]
        exact Ints.ofOwn HSO.out
      have HSZ : Hid (0 < 4 → bl SA < wr.heap.size) := fun hp => Seg.lt HSO.out.seg hp (by omega)
      clear HMr
      obtain ⟨wo, rfl⟩ : ∃ wo : World, wo = wr := ⟨_, rfl⟩
      go_wp2_with fail
      go_loopw [9, 10] (fun x i wr => ∃ (q : Nat) (X : Option Addr) (xc : Nat), q ≤ 4 ∧ i = .int .i64 q ∧ x = .slice X (4 * q) xc ∧ Hid (Own wr wo.heap.size 5 1 X (4 * q) xc ((bytesK 1 (S.take q)).map (Value.int .u8))) ∧ Hid (Ints .u32 wr SA 4 S) ∧ Hid (Upd [] wo wr)) (fun _ i _ => 4 - (intOf i).toNat)
      case atStart => exact ⟨0, none, 0, by omega, rfl, rfl, Own.nil _ _ _ _, HSI, Upd.refl _ _⟩
      case round =>
        obtain ⟨q, X, xc, hq, rfl, rfl, HO, HIr, HUr⟩ := hrel
        by_cases hlt2 : q < 4
        · obtain ⟨x, HX, hcell⟩ := HIr.out.int hlt2
          have hix := HIr.out.index el_u32 sc .i64 q hlt2
          have hxb := HSB.out x (List.mem_of_getElem? HX.out)
          unfold U32 at hxb
          have hx0 := hxb.1
          have hx1 := hxb.2
          clear hxb
          go_wp2_with fail
          refine (rbe_any wr x 4 (by omega) (by omega) (by omega) (by omega)).mono ?_
          rintro e w9 ⟨NA, nc, rfl, hno, hv9⟩
          have HNO := Lib.hid hno
          have HO9 := Lib.hid (HO.out.upd hv9 (by simp))
          have HI9 := Lib.hid (HIr.out.upd hv9 (by simp))
          have HU9 := Lib.hid (HUr.out.trans hv9)
          clear hno hv9 HO HIr HUr hcell hix
          go_wp2_with fail
          refine (turned_any NA 4 nc _ w9 (Ints.ofOwn HNO.out) (by omega)).mono ?_
          rintro e wt ⟨NB, nd, rfl, hno, hvt⟩
          have HOt := Lib.hid (HO9.out.upd hvt (by simp))
          have HIt := Lib.hid (HI9.out.upd hvt (by simp))
          have HUt := Lib.hid (HU9.out.trans hvt)
          have HQt : Hid (Own wt w9.heap.size 5 1 NB 4 nd ((leB x 4).map (Value.int .u8))) := by
            have h := hno
            unfold beB at h
            rw [List.reverse_reverse] at h
            exact h
          clear hno hvt HO9 HI9 HU9 HNO
          go_wp2_with (at_builtin; refine wpList_app rfl rfl el_byte rfl HOt.out rfl HQt.out.seg (ints_one _ _) (by simp only [maxLen]; omega) (by omega) HUt.out.size ?_; intro Xb cb wb hownb hub hfrb)
          have HOb : Hid (Own wb wo.heap.size 5 1 Xb (4 * (q + 1)) cb ((bytesK 1 (S.take (q + 1))).map (Value.int .u8))) := by
            rw [bytesK_take HX.out, List.map_append]
            exact hownb
          have HIb := Lib.hid (HIt.out.upd hub (fun hp => by
            simp
            intro h
            have h1 := (HOt.out.base h.symm).1
            have h2 := HSZ.out hp
            omega))
          have HUb := Lib.hid (HUt.out.then hub (fun b hb => by simp at hb; right; exact (HOt.out.base hb.symm).1))
          clear hownb hub hfrb HOt HIt HUt HQt
          go_roundw
          case rel => exact ⟨q + 1, Xb, cb, by omega, by go_num, rfl, HOb, HIb, HUb⟩
          case measure => simp [intOf]; omega
        · obtain rfl : q = 4 := by omega
          go_wp2
          go_ret
          refine ⟨X, xc, rfl, ?_, HU.out.trans HUr.out⟩
          have h := HO.out.monoB HU.out.size
          rw [List.take_of_length_le (by rw [HSL.out]; omega), HSS.out, HMS.out, HN.out] at h
          exact h

set_option maxRecDepth 100000 in
set_option maxHeartbeats 1000000 in
theorem rof2 (w : World) (A : Option Addr) (n c : Nat) (zs : List Int) (hs : Ints .u8 w A n zs) (hz : ∀ z ∈ zs, 0 ≤ z ∧ z ≤ 255) (hT : Tabs w) (hn : n ≤ 1000000000000) :
    Calls Tryd.prog 12 #[.int .i64 2, .slice A n c] w (NewBytes 20 (sumK 2 zs) w) := by
  have HT := Lib.hid hT
  have HS := Lib.hid hs
  have HZ := Lib.hid hz
  have HL := hs.len
  clear hT hs hz
  go_enter Tryd.func12, Tryd.ntmps12
  go_wp2_with fail
  have HU0 : Hid (Upd [] w ((w.alloc (.cells #[.int .u32 1732584193, .int .u32 4023233417, .int .u32 2562383102, .int .u32 271733878] 24)).alloc (.cells #[.int .u32 1732584193, .int .u32 4023233417, .int .u32 2562383102, .int .u32 271733878, .int .u32 3285377520] 24))) := ((Upd.refl _ _).alloc _).alloc _
  obtain ⟨S0, HS0⟩ : ∃ S0, Hid (S0 = w.heap.size + 1) := ⟨_, rfl⟩
  have HSA : Hid (Own ((w.alloc (.cells #[.int .u32 1732584193, .int .u32 4023233417, .int .u32 2562383102, .int .u32 271733878] 24)).alloc (.cells #[.int .u32 1732584193, .int .u32 4023233417, .int .u32 2562383102, .int .u32 271733878, .int .u32 3285377520] 24)) w.heap.size 24 1 (some ⟨S0, 0, none⟩) 5 5 ((initK 2).map (Value.int .u32))) := by
    have hb := Blk.new (w.alloc (.cells #[.int .u32 1732584193, .int .u32 4023233417, .int .u32 2562383102, .int .u32 271733878] 24)) 24 #[.int .u32 1732584193, .int .u32 4023233417, .int .u32 2562383102, .int .u32 271733878, .int .u32 3285377520]
    try simp only [World.size_alloc] at hb
    rw [HS0.out]
    exact Own.mk (n := 5) (c := 5) rfl (Nat.le_refl _) (by simp [maxLen]) rfl (by omega) hb rfl rfl
  rw [← HS0.out]
  generalize hw0 : World.alloc (w.alloc _) _ = w0 at *
  clear hw0
  refine (whole0_any w0 2 (by decide) A n c zs (HS.out.upd HU0.out (by simp)) hn).mono ?_
  rintro e w1 ⟨MA, mc, rfl, hmo, hv1⟩
  obtain ⟨N, HN⟩ : ∃ N, Hid (N = (padded 2 zs).length / 64) := ⟨_, rfl⟩
  obtain ⟨ms, HMS⟩ : ∃ ms, Hid (ms = padded 2 zs) := ⟨_, rfl⟩
  have HML : Hid (ms.length = 64 * N) := by
    show _ = _
    rw [HMS.out, HN.out]
    have := padded_blocks 2 zs
    omega
  have HMN : Hid (n + 1 + padN n + 8 = 64 * N) := by
    show _ = _
    rw [← HML.out, HMS.out, padded_len, HL.out]
  have hNb : N ≤ 1000000000000 := by
    have h1 := HMN.out
    have h2 := padN_spec n
    omega
  rw [HMN.out]
  rw [HMN.out, ← HMS.out] at hmo
  have HMB : Hid (∀ z ∈ ms, 0 ≤ z ∧ z ≤ 255) := by
    rw [HMS.out]
    intro z hz
    unfold padded at hz
    simp only [List.mem_append, List.mem_singleton, List.mem_replicate] at hz
    rcases hz with ((h | h) | h) | h
    · exact HZ.out z h
    · omega
    · omega
    · exact numB_bd _ _ _ z h
  have HM1 := Lib.hid (Ints.ofOwn hmo)
  have hmc : 64 * N ≤ mc := hmo.le
  have HSA1 := Lib.hid (HSA.out.upd hv1 (by simp))
  have HU1 := Lib.hid (HU0.out.trans hv1)
  clear hmo hv1 HSA HU0 HS
  go_wp2_with fail
  go_loopw [5, 7] (fun s i wr => ∃ (j : Nat) (SA : Option Addr) (sc : Nat), j ≤ N ∧ i = .int .i64 (64 * (j : Int)) ∧ s = .slice SA 5 sc ∧ Hid (Own wr w.heap.size 24 1 SA 5 sc ((runB 2 ms j).map (Value.int .u32))) ∧ Hid (Ints .u8 wr MA (64 * N) ms) ∧ Hid (Upd [] w wr)) (fun _ i _ => 64 * N - (intOf i).toNat)
  case atStart => exact ⟨0, _, _, by omega, rfl, rfl, HSA1, HM1, HU1⟩
  case round =>
    clear HSA1 HM1 HU1
    obtain ⟨j, SA, sc, hj, rfl, rfl, HSO, HMr, HU⟩ := hrel
    by_cases hlt : j < N
    · have hcut := run_cut_lh el_byte MA (64 * N) mc .i64 .i64 (64 * (j : Int)) (64 * (j : Int) + 64) (64 * j) (64 * j + 64) (by omega) (by omega) (by omega) (by omega)
      have hct := HMr.out.cut (lo := 64 * j) (hi := 64 * j + 64) (c := mc) (by omega) (by omega) hmc
      rw [Nat.add_sub_cancel_left] at hcut hct
      have HCT := Lib.hid hct
      clear hct
      go_wp2_with fail
      with_reducible refine (wordsOf0_any wr 2 (by decide) (cutA 1 MA mc (64 * j)) (mc - 64 * j) _ HCT.out (fun z hz => HMB.out z (List.mem_of_mem_drop (List.mem_of_mem_take hz)))).mono ?_
      rintro e w6 ⟨WA, wc, rfl, hwo, hv6⟩
      have HW := Lib.hid hwo
      have HV6 := Lib.hid hv6
      obtain ⟨S, HSS⟩ : ∃ S, Hid (S = runB 2 ms j) := ⟨_, rfl⟩
      have HSL : Hid (S.length = 5) := by rw [HSS.out]; exact runB_len _ _ _
      have HSI : Hid (Ints .u32 w6 SA 5 [at0 S 0, at0 S 1, at0 S 2, at0 S 3, at0 S 4]) := by
        have h := (Ints.ofOwn HSO.out).upd hv6 (by simp)
        rw [← HSS.out, list5 HSL.out] at h
        exact h
      have HM6 := Lib.hid (HMr.out.upd hv6 (by simp))
      have HU6 := Lib.hid (HU.out.trans hv6)
      have HT6 := Lib.hid (HT.out.upd HU6.out (by simp))
      have HSW : Hid (some (bl SA) ∉ [ob WA]) := by
        have h1 := Seg.lt HSO.out.seg (by omega) (by omega)
        intro hm
        simp at hm
        have := (HW.out.base hm.symm).1
        omega
      have HWT : Hid (∀ g, ob WA = some g → 3 ≤ g) := fun g hg => by
        have h1 := (HW.out.base hg).1
        have h2 := HT.out.size
        have h3 := HU.out.size
        omega
      have HWB : Hid (∀ b, some b ∈ [ob WA] → w.heap.size ≤ b) := fun b hb => by
        simp at hb
        have h1 := (HW.out.base hb.symm).1
        have h3 := HU.out.size
        omega
      have HMA : Hid (0 < 64 * N → some (bl MA) ∉ [ob WA]) := fun hp hm => by
        have h1 := Seg.lt HMr.out hp (by omega)
        simp at hm
        have := (HW.out.base hm.symm).1
        omega
      clear hwo hv6
      go_wp2_with fail
      refine (rsha1_any w6 wr.heap.size SA sc (at0 S 0) (at0 S 1) (at0 S 2) (at0 S 3) (at0 S 4) WA wc _ HSI.out HW.out HV6.out.size HSW.out).mono ?_
      rintro e w7 ⟨S7, s7, rfl, ho7, hv7⟩
      have HM7 := Lib.hid (HM6.out.upd hv7 HMA.out)
      have HU7 := Lib.hid (HU6.out.then hv7 (fun b hb => Or.inr (HWB.out b hb)))
      have HO7 : Hid (Own w7 w.heap.size 24 1 S7 5 s7 ((runB 2 ms (j + 1)).map (Value.int .u32))) := by
        have h := ho7.monoB HU6.out.size
        rw [runB, ← HSS.out]
        exact h
      clear ho7 hv7 HW HV6 HSI HM6 HU6 HT6 HSO HMr HU HCT hcut
      go_wp2
      go_roundw
      case rel => exact ⟨j + 1, S7, s7, by omega, by go_num, rfl, HO7, HM7, HU7⟩
      case measure => simp [intOf]; omega
    · obtain rfl : j = N := by omega
      obtain ⟨S, HSS⟩ : ∃ S, Hid (S = runB 2 ms j) := ⟨_, rfl⟩
      have HSL : Hid (S.length = 5) := by rw [HSS.out]; exact runB_len _ _ _
      have HSB : Hid (∀ x ∈ S, U32 x) := by rw [HSS.out, HMS.out, HN.out]; exact runB_bd _ _ (padded_blocks _ _).2
      have HSI : Hid (Ints .u32 wr SA 5 S) := by
        rw [HSS.out]
        exact Ints.ofOwn HSO.out
      have HSZ : Hid (0 < 5 → bl SA < wr.heap.size) := fun hp => Seg.lt HSO.out.seg hp (by omega)
      clear HMr
      obtain ⟨wo, rfl⟩ : ∃ wo : World, wo = wr := ⟨_, rfl⟩
      go_wp2_with fail
      go_loopw [9, 10] (fun x i wr => ∃ (q : Nat) (X : Option Addr) (xc : Nat), q ≤ 5 ∧ i = .int .i64 q ∧ x = .slice X (4 * q) xc ∧ Hid (Own wr wo.heap.size 5 1 X (4 * q) xc ((bytesK 2 (S.take q)).map (Value.int .u8))) ∧ Hid (Ints .u32 wr SA 5 S) ∧ Hid (Upd [] wo wr)) (fun _ i _ => 5 - (intOf i).toNat)
      case atStart => exact ⟨0, none, 0, by omega, rfl, rfl, Own.nil _ _ _ _, HSI, Upd.refl _ _⟩
      case round =>
        obtain ⟨q, X, xc, hq, rfl, rfl, HO, HIr, HUr⟩ := hrel
        by_cases hlt2 : q < 5
        · obtain ⟨x, HX, hcell⟩ := HIr.out.int hlt2
          have hix := HIr.out.index el_u32 sc .i64 q hlt2
          have hxb := HSB.out x (List.mem_of_getElem? HX.out)
          unfold U32 at hxb
          have hx0 := hxb.1
          have hx1 := hxb.2
          clear hxb
          go_wp2_with fail
          refine (rbe_any wr x 4 (by omega) (by omega) (by omega) (by omega)).mono ?_
          rintro e w9 ⟨NA, nc, rfl, hno, hv9⟩
          have HNO := Lib.hid hno
          have HO9 := Lib.hid (HO.out.upd hv9 (by simp))
          have HI9 := Lib.hid (HIr.out.upd hv9 (by simp))
          have HU9 := Lib.hid (HUr.out.trans hv9)
          clear hno hv9 HO HIr HUr hcell hix
          go_wp2_with (at_builtin; refine wpList_app rfl rfl el_byte rfl HO9.out rfl HNO.out.seg (ints_one _ _) (by simp only [maxLen]; omega) (by omega) HU9.out.size ?_; intro Xb cb wb hownb hub hfrb)
          have HOb : Hid (Own wb wo.heap.size 5 1 Xb (4 * (q + 1)) cb ((bytesK 2 (S.take (q + 1))).map (Value.int .u8))) := by
            rw [bytesK_take HX.out, List.map_append]
            exact hownb
          have HIb := Lib.hid (HI9.out.upd hub (fun hp => by
            simp
            intro h
            have h1 := (HO9.out.base h.symm).1
            have h2 := HSZ.out hp
            omega))
          have HUb := Lib.hid (HU9.out.then hub (fun b hb => by simp at hb; right; exact (HO9.out.base hb.symm).1))
          clear hownb hub hfrb HO9 HI9 HU9 HNO
          go_roundw
          case rel => exact ⟨q + 1, Xb, cb, by omega, by go_num, rfl, HOb, HIb, HUb⟩
          case measure => simp [intOf]; omega
        · obtain rfl : q = 5 := by omega
          go_wp2
          go_ret
          refine ⟨X, xc, rfl, ?_, HU.out.trans HUr.out⟩
          have h := HO.out.monoB HU.out.size
          rw [List.take_of_length_le (by rw [HSL.out]; omega), HSS.out, HMS.out, HN.out] at h
          exact h

set_option maxRecDepth 100000 in
set_option maxHeartbeats 1000000 in
theorem rof3 (w : World) (A : Option Addr) (n c : Nat) (zs : List Int) (hs : Ints .u8 w A n zs) (hz : ∀ z ∈ zs, 0 ≤ z ∧ z ≤ 255) (hT : Tabs w) (hn : n ≤ 1000000000000) :
    Calls Tryd.prog 12 #[.int .i64 3, .slice A n c] w (NewBytes 32 (sumK 3 zs) w) := by
  have HT := Lib.hid hT
  have HS := Lib.hid hs
  have HZ := Lib.hid hz
  have HL := hs.len
  clear hT hs hz
  go_enter Tryd.func12, Tryd.ntmps12
  go_wp2_with fail
  have HU0 : Hid (Upd [] w ((w.alloc (.cells #[.int .u32 1732584193, .int .u32 4023233417, .int .u32 2562383102, .int .u32 271733878] 24)).alloc (.cells #[.int .u32 1779033703, .int .u32 3144134277, .int .u32 1013904242, .int .u32 2773480762, .int .u32 1359893119, .int .u32 2600822924, .int .u32 528734635, .int .u32 1541459225] 24))) := ((Upd.refl _ _).alloc _).alloc _
  obtain ⟨S0, HS0⟩ : ∃ S0, Hid (S0 = w.heap.size + 1) := ⟨_, rfl⟩
  have HSA : Hid (Own ((w.alloc (.cells #[.int .u32 1732584193, .int .u32 4023233417, .int .u32 2562383102, .int .u32 271733878] 24)).alloc (.cells #[.int .u32 1779033703, .int .u32 3144134277, .int .u32 1013904242, .int .u32 2773480762, .int .u32 1359893119, .int .u32 2600822924, .int .u32 528734635, .int .u32 1541459225] 24)) w.heap.size 24 1 (some ⟨S0, 0, none⟩) 8 8 ((initK 3).map (Value.int .u32))) := by
    have hb := Blk.new (w.alloc (.cells #[.int .u32 1732584193, .int .u32 4023233417, .int .u32 2562383102, .int .u32 271733878] 24)) 24 #[.int .u32 1779033703, .int .u32 3144134277, .int .u32 1013904242, .int .u32 2773480762, .int .u32 1359893119, .int .u32 2600822924, .int .u32 528734635, .int .u32 1541459225]
    try simp only [World.size_alloc] at hb
    rw [HS0.out]
    exact Own.mk (n := 8) (c := 8) rfl (Nat.le_refl _) (by simp [maxLen]) rfl (by omega) hb rfl rfl
  rw [← HS0.out]
  generalize hw0 : World.alloc (w.alloc _) _ = w0 at *
  clear hw0
  refine (whole0_any w0 3 (by decide) A n c zs (HS.out.upd HU0.out (by simp)) hn).mono ?_
  rintro e w1 ⟨MA, mc, rfl, hmo, hv1⟩
  obtain ⟨N, HN⟩ : ∃ N, Hid (N = (padded 3 zs).length / 64) := ⟨_, rfl⟩
  obtain ⟨ms, HMS⟩ : ∃ ms, Hid (ms = padded 3 zs) := ⟨_, rfl⟩
  have HML : Hid (ms.length = 64 * N) := by
    show _ = _
    rw [HMS.out, HN.out]
    have := padded_blocks 3 zs
    omega
  have HMN : Hid (n + 1 + padN n + 8 = 64 * N) := by
    show _ = _
    rw [← HML.out, HMS.out, padded_len, HL.out]
  have hNb : N ≤ 1000000000000 := by
    have h1 := HMN.out
    have h2 := padN_spec n
    omega
  rw [HMN.out]
  rw [HMN.out, ← HMS.out] at hmo
  have HMB : Hid (∀ z ∈ ms, 0 ≤ z ∧ z ≤ 255) := by
    rw [HMS.out]
    intro z hz
    unfold padded at hz
    simp only [List.mem_append, List.mem_singleton, List.mem_replicate] at hz
    rcases hz with ((h | h) | h) | h
    · exact HZ.out z h
    · omega
    · omega
    · exact numB_bd _ _ _ z h
  have HM1 := Lib.hid (Ints.ofOwn hmo)
  have hmc : 64 * N ≤ mc := hmo.le
  have HSA1 := Lib.hid (HSA.out.upd hv1 (by simp))
  have HU1 := Lib.hid (HU0.out.trans hv1)
  clear hmo hv1 HSA HU0 HS
  go_wp2_with fail
  go_loopw [5, 7] (fun s i wr => ∃ (j : Nat) (SA : Option Addr) (sc : Nat), j ≤ N ∧ i = .int .i64 (64 * (j : Int)) ∧ s = .slice SA 8 sc ∧ Hid (Own wr w.heap.size 24 1 SA 8 sc ((runB 3 ms j).map (Value.int .u32))) ∧ Hid (Ints .u8 wr MA (64 * N) ms) ∧ Hid (Upd [] w wr)) (fun _ i _ => 64 * N - (intOf i).toNat)
  case atStart => exact ⟨0, _, _, by omega, rfl, rfl, HSA1, HM1, HU1⟩
  case round =>
    clear HSA1 HM1 HU1
    obtain ⟨j, SA, sc, hj, rfl, rfl, HSO, HMr, HU⟩ := hrel
    by_cases hlt : j < N
    · have hcut := run_cut_lh el_byte MA (64 * N) mc .i64 .i64 (64 * (j : Int)) (64 * (j : Int) + 64) (64 * j) (64 * j + 64) (by omega) (by omega) (by omega) (by omega)
      have hct := HMr.out.cut (lo := 64 * j) (hi := 64 * j + 64) (c := mc) (by omega) (by omega) hmc
      rw [Nat.add_sub_cancel_left] at hcut hct
      have HCT := Lib.hid hct
      clear hct
      go_wp2_with fail
      with_reducible refine (wordsOf0_any wr 3 (by decide) (cutA 1 MA mc (64 * j)) (mc - 64 * j) _ HCT.out (fun z hz => HMB.out z (List.mem_of_mem_drop (List.mem_of_mem_take hz)))).mono ?_
      rintro e w6 ⟨WA, wc, rfl, hwo, hv6⟩
      have HW := Lib.hid hwo
      have HV6 := Lib.hid hv6
      obtain ⟨S, HSS⟩ : ∃ S, Hid (S = runB 3 ms j) := ⟨_, rfl⟩
      have HSL : Hid (S.length = 8) := by rw [HSS.out]; exact runB_len _ _ _
      have HSI : Hid (Ints .u32 w6 SA 8 [at0 S 0, at0 S 1, at0 S 2, at0 S 3, at0 S 4, at0 S 5, at0 S 6, at0 S 7]) := by
        have h := (Ints.ofOwn HSO.out).upd hv6 (by simp)
        rw [← HSS.out, list8 HSL.out] at h
        exact h
      have HM6 := Lib.hid (HMr.out.upd hv6 (by simp))
      have HU6 := Lib.hid (HU.out.trans hv6)
      have HT6 := Lib.hid (HT.out.upd HU6.out (by simp))
      have HSW : Hid (some (bl SA) ∉ [ob WA]) := by
        have h1 := Seg.lt HSO.out.seg (by omega) (by omega)
        intro hm
        simp at hm
        have := (HW.out.base hm.symm).1
        omega
      have HWT : Hid (∀ g, ob WA = some g → 3 ≤ g) := fun g hg => by
        have h1 := (HW.out.base hg).1
        have h2 := HT.out.size
        have h3 := HU.out.size
        omega
      have HWB : Hid (∀ b, some b ∈ [ob WA] → w.heap.size ≤ b) := fun b hb => by
        simp at hb
        have h1 := (HW.out.base hb.symm).1
        have h3 := HU.out.size
        omega
      have HMA : Hid (0 < 64 * N → some (bl MA) ∉ [ob WA]) := fun hp hm => by
        have h1 := Seg.lt HMr.out hp (by omega)
        simp at hm
        have := (HW.out.base hm.symm).1
        omega
      clear hwo hv6
      go_wp2_with fail
      refine (rsha256_any w6 wr.heap.size SA sc (at0 S 0) (at0 S 1) (at0 S 2) (at0 S 3) (at0 S 4) (at0 S 5) (at0 S 6) (at0 S 7) WA wc _ HSI.out HW.out HV6.out.size HSW.out HT6.out HWT.out).mono ?_
      rintro e w7 ⟨S7, s7, rfl, ho7, hv7⟩
      have HM7 := Lib.hid (HM6.out.upd hv7 HMA.out)
      have HU7 := Lib.hid (HU6.out.then hv7 (fun b hb => Or.inr (HWB.out b hb)))
      have HO7 : Hid (Own w7 w.heap.size 24 1 S7 8 s7 ((runB 3 ms (j + 1)).map (Value.int .u32))) := by
        have h := ho7.monoB HU6.out.size
        rw [runB, ← HSS.out]
        exact h
      clear ho7 hv7 HW HV6 HSI HM6 HU6 HT6 HSO HMr HU HCT hcut
      go_wp2
      go_roundw
      case rel => exact ⟨j + 1, S7, s7, by omega, by go_num, rfl, HO7, HM7, HU7⟩
      case measure => simp [intOf]; omega
    · obtain rfl : j = N := by omega
      obtain ⟨S, HSS⟩ : ∃ S, Hid (S = runB 3 ms j) := ⟨_, rfl⟩
      have HSL : Hid (S.length = 8) := by rw [HSS.out]; exact runB_len _ _ _
      have HSB : Hid (∀ x ∈ S, U32 x) := by rw [HSS.out, HMS.out, HN.out]; exact runB_bd _ _ (padded_blocks _ _).2
      have HSI : Hid (Ints .u32 wr SA 8 S) := by
        rw [HSS.out]
        exact Ints.ofOwn HSO.out
      have HSZ : Hid (0 < 8 → bl SA < wr.heap.size) := fun hp => Seg.lt HSO.out.seg hp (by omega)
      clear HMr
      obtain ⟨wo, rfl⟩ : ∃ wo : World, wo = wr := ⟨_, rfl⟩
      go_wp2_with fail
      go_loopw [9, 10] (fun x i wr => ∃ (q : Nat) (X : Option Addr) (xc : Nat), q ≤ 8 ∧ i = .int .i64 q ∧ x = .slice X (4 * q) xc ∧ Hid (Own wr wo.heap.size 5 1 X (4 * q) xc ((bytesK 3 (S.take q)).map (Value.int .u8))) ∧ Hid (Ints .u32 wr SA 8 S) ∧ Hid (Upd [] wo wr)) (fun _ i _ => 8 - (intOf i).toNat)
      case atStart => exact ⟨0, none, 0, by omega, rfl, rfl, Own.nil _ _ _ _, HSI, Upd.refl _ _⟩
      case round =>
        obtain ⟨q, X, xc, hq, rfl, rfl, HO, HIr, HUr⟩ := hrel
        by_cases hlt2 : q < 8
        · obtain ⟨x, HX, hcell⟩ := HIr.out.int hlt2
          have hix := HIr.out.index el_u32 sc .i64 q hlt2
          have hxb := HSB.out x (List.mem_of_getElem? HX.out)
          unfold U32 at hxb
          have hx0 := hxb.1
          have hx1 := hxb.2
          clear hxb
          go_wp2_with fail
          refine (rbe_any wr x 4 (by omega) (by omega) (by omega) (by omega)).mono ?_
          rintro e w9 ⟨NA, nc, rfl, hno, hv9⟩
          have HNO := Lib.hid hno
          have HO9 := Lib.hid (HO.out.upd hv9 (by simp))
          have HI9 := Lib.hid (HIr.out.upd hv9 (by simp))
          have HU9 := Lib.hid (HUr.out.trans hv9)
          clear hno hv9 HO HIr HUr hcell hix
          go_wp2_with (at_builtin; refine wpList_app rfl rfl el_byte rfl HO9.out rfl HNO.out.seg (ints_one _ _) (by simp only [maxLen]; omega) (by omega) HU9.out.size ?_; intro Xb cb wb hownb hub hfrb)
          have HOb : Hid (Own wb wo.heap.size 5 1 Xb (4 * (q + 1)) cb ((bytesK 3 (S.take (q + 1))).map (Value.int .u8))) := by
            rw [bytesK_take HX.out, List.map_append]
            exact hownb
          have HIb := Lib.hid (HI9.out.upd hub (fun hp => by
            simp
            intro h
            have h1 := (HO9.out.base h.symm).1
            have h2 := HSZ.out hp
            omega))
          have HUb := Lib.hid (HU9.out.then hub (fun b hb => by simp at hb; right; exact (HO9.out.base hb.symm).1))
          clear hownb hub hfrb HO9 HI9 HU9 HNO
          go_roundw
          case rel => exact ⟨q + 1, Xb, cb, by omega, by go_num, rfl, HOb, HIb, HUb⟩
          case measure => simp [intOf]; omega
        · obtain rfl : q = 8 := by omega
          go_wp2
          go_ret
          refine ⟨X, xc, rfl, ?_, HU.out.trans HUr.out⟩
          have h := HO.out.monoB HU.out.size
          rw [List.take_of_length_le (by rw [HSL.out]; omega), HSS.out, HMS.out, HN.out] at h
          exact h

theorem rof_ok (w : World) (kind : Int) (hk : IsKind kind) (A : Option Addr) (n c : Nat) (zs : List Int) (hs : Ints .u8 w A n zs) (hz : ∀ z ∈ zs, 0 ≤ z ∧ z ≤ 255) (hT : Tabs w) (hn : n ≤ 1000000000000) :
    Calls Tryd.prog 12 #[.int .i64 kind, .slice A n c] w (NewBytes (4 * nwK kind) (sumK kind zs) w) := by
  rcases hk with rfl | rfl | rfl
  · exact rof1 w A n c zs hs hz hT hn
  · exact rof2 w A n c zs hs hz hT hn
  · exact rof3 w A n c zs hs hz hT hn

end Go.Proofs.YthojhmkahjpflaaDoor
