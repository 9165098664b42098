/- The walks of drayageref03.Bad and of drayagelaw03.HuffLengths (printed by gen/hufflen.py). -/
import Derived.Test.YtndgijcjpkoooaaHuffAwake
import Derived.Test.YtndgijcjpkoooaaLawKit
import Derived.Test.YtndgijcjpkoooaaLenX
namespace Go.Proofs.Ytndgijcjpkoooaa
open Go.RowKit Go.Dray

/-- Bad reads alone. -/
def BadPost (zs : List Int) (most : Int) (w : World) (e : Ending) (w' : World) : Prop := e = .returned (.int .i64 (badL zs most)) ∧ w = w'

set_option maxHeartbeats 1000000 in
theorem rbad_any (A : Option Addr) (n c : Nat) (zs : List Int) (most : Int) (w : World) (hs : Ints .i64 w A n zs) :
    Calls Try.prog 29 #[.slice A n c, .int .i64 most] w (BadPost zs most w) := by
  have HL := hs.len
  by_cases hm1 : most < 1
  · have HE : Hid (badL zs most = 1) := badL_arg (Or.inl hm1)
    go_enter Try.func29, Try.ntmps29
    go_wp2
    go_ret
    exact ⟨ret_int HE.out.symm, rfl⟩
  · by_cases hm2 : 15 < most
    · have HE : Hid (badL zs most = 1) := badL_arg (Or.inr hm2)
      go_enter Try.func29, Try.ntmps29
      go_wp2
      go_ret
      exact ⟨ret_int HE.out.symm, rfl⟩
    · obtain ⟨M, rfl⟩ := Int.eq_ofNat_of_zero_le (show 0 ≤ most by omega)
      by_cases hbig : 320 < n
      · have HE : Hid (badL zs M = 4) := badL_large (by omega) (by rw [HL.out]; exact hbig)
        go_enter Try.func29, Try.ntmps29
        go_wp2
        go_ret
        exact ⟨ret_int HE.out.symm, rfl⟩
      · have hcn : n ≤ 320 := by omega
        have hM1 : 1 ≤ M := by omega
        have hM2 : M ≤ 15 := by omega
        have hpw := pow2_bd hM1 hM2
        have dM1 : decide ((M : Int) < 1) = false := by simp; omega
        have dM2 : decide ((15 : Int) < M) = false := by simp; omega
        have dM3 : decide ((320 : Int) < n) = false := by simp; omega
        clear hm1 hm2 hbig
        go_enter Try.func29, Try.ntmps29
        go_wp2
        go_loop [5, 6] (fun v i => ∃ k un : Nat, k ≤ n ∧ un ≤ k ∧ i = .int .i64 k ∧ v = .int .i64 un ∧ Hid (∀ z ∈ zs.take k, 0 ≤ z ∧ z ≤ 4294967296) ∧ Hid (un = (usedI zs k).length)) (fun _ i => n - (intOf i).toNat)
        case atStart => exact ⟨0, 0, by omega, by omega, rfl, rfl, by intro z hz; simp at hz, rfl⟩
        case round =>
          obtain ⟨k, un, hk, hun, rfl, rfl, HB, HU⟩ := hrel
          by_cases hlt : k < n
          · obtain ⟨x, HX, hcell⟩ := hs.int hlt
            have hix := hs.index el_int c .i64 k hlt
            clear hs
            by_cases hx1 : x < 0
            · have HE : Hid (badL zs M = 1) := badL_count (by omega) (by rw [HL.out]; exact hcn) HX.out (Or.inl hx1)
              go_wp2
              go_ret
              exact ⟨ret_int HE.out.symm, rfl⟩
            · by_cases hx2 : 4294967296 < x
              · have HE : Hid (badL zs M = 1) := badL_count (by omega) (by rw [HL.out]; exact hcn) HX.out (Or.inr hx2)
                go_wp2
                go_ret
                exact ⟨ret_int HE.out.symm, rfl⟩
              · have hx0 : 0 ≤ x := by omega
                have hx3 : x ≤ 4294967296 := by omega
                have HG : Hid (zs.getD k 0 = x) := getD_of2 HX.out
                clear hx1 hx2
                by_cases hpos : 0 < x
                · go_wp2
                  go_round
                  case rel =>
                    refine ⟨k + 1, un + 1, by omega, by omega, by go_num, by go_num, takeC HX.out HB.out ⟨hx0, hx3⟩, ?_⟩
                    show _ = _
                    rw [usedI_succ, HG.out, if_pos hpos, List.length_append, ← HU.out]
                    rfl
                  case measure => simp [intOf]; omega
                · go_wp2
                  go_round
                  case rel =>
                    refine ⟨k + 1, un, by omega, by omega, by go_num, rfl, takeC HX.out HB.out ⟨hx0, hx3⟩, ?_⟩
                    show _ = _
                    rw [usedI_succ, HG.out, if_neg (by omega), List.append_nil]
                    exact HU.out
                  case measure => simp [intOf]; omega
          · obtain rfl : k = n := by omega
            have HB2 : Hid (∀ z ∈ zs, 0 ≤ z ∧ z ≤ 4294967296) := by
              have := HB.out
              rw [List.take_of_length_le (by rw [HL.out]; omega)] at this
              exact this
            have HU2 : Hid (un = (usedI zs zs.length).length) := by rw [HL.out]; exact HU.out
            by_cases hmany : (2 : Int) ^ M < un
            · have HE : Hid (badL zs M = 4) := badL_many (by omega) (by rw [HL.out]; exact hcn) HB2.out (by
                rw [← HU2.out, Int.toNat_natCast]
                have e : ((2 ^ M : Nat) : Int) = (2 : Int) ^ M := by simp
                omega)
              go_wp2
              go_ret
              exact ⟨ret_int HE.out.symm, rfl⟩
            · have HE : Hid (badL zs M = 0) := badL_ok (by omega) (by rw [HL.out]; exact hcn) HB2.out (by
                rw [← HU2.out, Int.toNat_natCast]
                have e : ((2 ^ M : Nat) : Int) = (2 : Int) ^ M := by simp
                omega)
              go_wp2
              go_ret
              exact ⟨ret_int HE.out.symm, rfl⟩

theorem full_of {zs : List Int} {most : Nat} {L : List Int} (h : LensOk zs most L) (hm : most ≤ 15) (hl : zs.length ≤ 320) (hu : 2 ≤ (usedI zs zs.length).length) : fullB L = true := by
  have hw := h.full hu
  have hb : ∀ z ∈ L, 0 ≤ z ∧ z ≤ 15 := fun z hz => by
    obtain ⟨i, hi, rfl⟩ := List.getElem_of_mem hz
    have := h.bd i (by rw [← h.len]; exact hi)
    rw [getD_lt hi] at this
    omega
  have hc := chk_ok (by rw [h.len]; exact hl) hb (by omega)
  unfold fullB
  rw [hc, hw]
  rfl
theorem badL_len {zs : List Int} {most : Int} (h : badL zs most = 0) : zs.length ≤ 320 ∧ 1 ≤ most ∧ most ≤ 15 := by
  unfold badL at h
  split at h
  · omega
  · split at h
    · omega
    · exact ⟨by omega, by omega, by omega⟩

set_option maxRecDepth 100000 in
set_option maxHeartbeats 4000000 in
theorem huffLengths_walk (A : Option Addr) (n c : Nat) (zs : List Int) (most : Int) (w : World) (hin : InInts .i64 w A n c zs) (_hw : (Lit.int .i64 most).wf = true) :
    Calls Try.prog 7 #[.slice A n c, .int .i64 most] w fun e w' => e = .returned (.bool true) ∧ Below w.heap.size w w' := by
  obtain ⟨hs, -, -, -⟩ := hin
  have HL := hs.len
  by_cases hbig : 400 < n
  · go_enter Try.func7, Try.ntmps7
    go_wp2_with (go_at_call 8; refine (awake_any _).mono ?_; rintro e w1 ⟨rfl, hu1⟩)
    go_ret
    exact ⟨rfl, hu1.below (Nat.le_refl _) (by simp)⟩
  · have hn : n ≤ 400 := by omega
    have dn : decide ((400 : Int) < n) = false := by simp; omega
    clear hbig
    go_enter Try.func7, Try.ntmps7
    go_wp2_with (go_at_call 8; refine (awake_any _).mono ?_; rintro e w1 ⟨rfl, hu1⟩)
    have hs1 : Ints .i64 w1 A n zs := hs.upd hu1 (by simp)
    refine (lengths_any A n c zs most w1 hs1).mono ?_
    rintro e w2 (⟨hb, rfl, hu2⟩ | ⟨hb, LA, lc, L, rfl, hown, hok, hu2⟩)
    · have hs2 : Ints .i64 w2 A n zs := hs1.upd hu2 (by simp)
      have hu3 := hu1.then hu2 (by simp)
      obtain ⟨b, hbv⟩ : ∃ b, b = badL zs most := ⟨_, rfl⟩
      have hd : (b != 0) = true := by rw [hbv]; simp [hb]
      have hd2 : (b == b) = true := by simp
      have HBV := Lib.hid hbv
      rw [← hbv]
      clear hb hbv hu2 hu1 hs1 hs
      go_wp2_with (go_at_call 29; refine (rbad_any A n c zs most _ hs2).mono ?_; rintro e w' ⟨rfl, rfl⟩; rw [← HBV.out])
      go_ret
      exact ⟨rfl, hu3.below (Nat.le_refl _) (by simp)⟩
    · have hs2 : Ints .i64 w2 A n zs := hs1.upd hu2 (by simp)
      have hu3 := hu1.then hu2 (by simp)
      have HBD := Lib.hid hb
      obtain ⟨hl320, hm1, hm2⟩ := badL_len hb
      obtain ⟨M, rfl⟩ := Int.eq_ofNat_of_zero_le (show 0 ≤ most by omega)
      rw [Int.toNat_natCast] at hok
      have HOK := Lib.hid hok
      have HLL := Lib.hid hl320
      have hLi : Ints .i64 w2 LA n L := Ints.ofOwn hown
      have dnn : ((n : Int) != n) = false := by simp
      clear hb hok hu2 hu1 hs1 hs hown hl320
      go_wp2_with (go_at_call 29; refine (rbad_any A n c zs M _ hs2).mono ?_; rintro e w' ⟨rfl, rfl⟩; rw [HBD.out])
      go_loopw [8, 9] (fun v i wr => ∃ k un : Nat, k ≤ n ∧ un ≤ k ∧ i = .int .i64 k ∧ v = .int .i64 un ∧ Hid (un = (usedI zs k).length) ∧ ∃ q, wr = w2.drewN q) (fun _ i _ => n - (intOf i).toNat)
      case atStart => exact ⟨0, 0, by omega, by omega, rfl, rfl, rfl, 0, rfl⟩
      case round =>
        obtain ⟨k, un, hk, hun, rfl, rfl, HU, q, rfl⟩ := hrel
        by_cases hlt : k < n
        · obtain ⟨xi, HXI, cxi⟩ := hLi.int hlt
          obtain ⟨ci, HCI, cci⟩ := hs2.int hlt
          have ixi := hLi.index el_int lc .i64 k hlt
          have ici := hs2.index el_int c .i64 k hlt
          have HXG : Hid (L.getD k 0 = xi) := getD_of2 HXI.out
          have HCG : Hid (zs.getD k 0 = ci) := getD_of2 HCI.out
          have hbd := HOK.out.bd k (by rw [HL.out]; exact hlt)
          have hps := HOK.out.pos k (by rw [HL.out]; exact hlt)
          rw [HXG.out] at hbd hps
          rw [HCG.out] at hps
          have q1 : decide (xi < 0) = false := by simp; omega
          have q2 : decide ((M : Int) < xi) = false := by simp; omega
          have HPS := Lib.hid hps
          clear hps
          have HUN : Hid ((usedI zs (k + 1)).length = un + if 0 < xi then 1 else 0) := by
            show _ = _
            rw [usedI_succ, HCG.out, List.length_append, ← HU.out]
            by_cases h : 0 < xi
            · rw [if_pos h, if_pos (HPS.out.1 h)]; rfl
            · rw [if_neg h, if_neg fun h' => h (HPS.out.2 h')]; rfl
          by_cases hp : 0 < xi
          · have q4 : decide ((0 : Int) < xi) = true := by simp; omega
            have q5 : decide ((0 : Int) < ci) = true := by have := HPS.out; simp; omega
            have HU2 : Hid (un + 1 = (usedI zs (k + 1)).length) := by show _ = _; rw [HUN.out, if_pos hp]
            clear hp
            go_wp2
            go_quiet (fail)
            go_wp2
            go_loopw [10] (fun i wr => ∃ j : Nat, j ≤ k ∧ i = .int .i64 j ∧ ∃ q, wr = w2.drewN q) (fun i _ => k - (intOf i).toNat)
            case atStart => exact ⟨0, by omega, rfl, _, rfl⟩
            case round =>
              obtain ⟨j, hj, rfl, q2, rfl⟩ := hrel
              by_cases hjk : j < k
              · obtain ⟨xk, HXK, cxk⟩ := hLi.int (show j < n by omega)
                obtain ⟨ck, HCK, cck⟩ := hs2.int (show j < n by omega)
                have ixk := hLi.index el_int lc .i64 j (show j < n by omega)
                have ick := hs2.index el_int c .i64 j (show j < n by omega)
                have HMO : Hid (0 < xi → 0 < xk → (ci < ck → xk ≤ xi) ∧ (ck < ci → xi ≤ xk)) := fun h1 h2 => by
                  have a1 := HOK.out.mono k j (by rw [HL.out]; exact hlt) (by rw [HL.out]; omega)
                  have a2 := HOK.out.mono j k (by rw [HL.out]; omega) (by rw [HL.out]; exact hlt)
                  rw [HXG.out, HCG.out, getD_of2 HXK.out, getD_of2 HCK.out] at a1 a2
                  exact ⟨fun h => a1 h1 h2 h, fun h => a2 h2 h1 h⟩
                have d1 : decide ((0 : Int) < xi) = true := q4
                have e1 : 0 < xi := by simpa using q4
                by_cases e2 : 0 < xk
                · have d2 : decide ((0 : Int) < xk) = true := by simp [e2]
                  by_cases e3 : ci < ck
                  · have d3 : decide (ci < ck) = true := by simp [e3]
                    have d4 : decide (xi < xk) = false := by have := (HMO.out e1 e2).1 e3; simp; omega
                    have d5 : decide (ck < ci) = false := by simp; omega
                    clear e1 e2 e3
                    go_wp2
                    go_quiet (fail)
                    go_wp2
                    go_roundw
                    case rel => exact ⟨j + 1, by omega, by go_num, _, rfl⟩
                    case measure => simp [intOf]; omega
                  · have d3 : decide (ci < ck) = false := by simp; omega
                    by_cases e4 : ck < ci
                    · have d4 : decide (ck < ci) = true := by simp [e4]
                      have d5 : decide (xk < xi) = false := by have := (HMO.out e1 e2).2 e4; simp; omega
                      clear e1 e2 e3 e4
                      go_wp2
                      go_quiet (fail)
                      go_wp2
                      go_roundw
                      case rel => exact ⟨j + 1, by omega, by go_num, _, rfl⟩
                      case measure => simp [intOf]; omega
                    · have d4 : decide (ck < ci) = false := by simp; omega
                      clear e1 e2 e3 e4
                      go_wp2
                      go_quiet (fail)
                      go_wp2
                      go_roundw
                      case rel => exact ⟨j + 1, by omega, by go_num, _, rfl⟩
                      case measure => simp [intOf]; omega
                · have d2 : decide ((0 : Int) < xk) = false := by simp; omega
                  clear e1 e2
                  go_wp2
                  go_quiet (fail)
                  go_wp2
                  go_roundw
                  case rel => exact ⟨j + 1, by omega, by go_num, _, rfl⟩
                  case measure => simp [intOf]; omega
              · obtain rfl : j = k := by omega
                go_wp2
                go_roundw
                case rel => exact ⟨j + 1, un + 1, by omega, by omega, by go_num, by go_num, HU2, _, rfl⟩
                case measure => simp [intOf]; omega
          · have q4 : decide ((0 : Int) < xi) = false := by simp; omega
            have q5 : decide ((0 : Int) < ci) = false := by have := HPS.out; simp; omega
            have HU2 : Hid (un = (usedI zs (k + 1)).length) := by show _ = _; rw [HUN.out, if_neg hp]; rfl
            clear hp
            go_wp2
            go_quiet (fail)
            go_wp2
            go_loopw [10] (fun i wr => ∃ j : Nat, j ≤ k ∧ i = .int .i64 j ∧ ∃ q, wr = w2.drewN q) (fun i _ => k - (intOf i).toNat)
            case atStart => exact ⟨0, by omega, rfl, _, rfl⟩
            case round =>
              obtain ⟨j, hj, rfl, q2, rfl⟩ := hrel
              by_cases hjk : j < k
              · obtain ⟨xk, HXK, cxk⟩ := hLi.int (show j < n by omega)
                obtain ⟨ck, HCK, cck⟩ := hs2.int (show j < n by omega)
                have ixk := hLi.index el_int lc .i64 j (show j < n by omega)
                have ick := hs2.index el_int c .i64 j (show j < n by omega)
                have HMO : Hid (0 < xi → 0 < xk → (ci < ck → xk ≤ xi) ∧ (ck < ci → xi ≤ xk)) := fun h1 h2 => by
                  have a1 := HOK.out.mono k j (by rw [HL.out]; exact hlt) (by rw [HL.out]; omega)
                  have a2 := HOK.out.mono j k (by rw [HL.out]; omega) (by rw [HL.out]; exact hlt)
                  rw [HXG.out, HCG.out, getD_of2 HXK.out, getD_of2 HCK.out] at a1 a2
                  exact ⟨fun h => a1 h1 h2 h, fun h => a2 h2 h1 h⟩
                go_wp2
                go_quiet (fail)
                go_wp2
                go_roundw
                case rel => exact ⟨j + 1, by omega, by go_num, _, rfl⟩
                case measure => simp [intOf]; omega
              · obtain rfl : j = k := by omega
                go_wp2
                go_roundw
                case rel => exact ⟨j + 1, un, by omega, by omega, by go_num, by go_num, HU2, _, rfl⟩
                case measure => simp [intOf]; omega
        · obtain rfl : k = n := by omega
          have HU2 : Hid (un = (usedI zs zs.length).length) := by rw [HL.out]; exact HU.out
          by_cases hf : un < 2
          · have du : decide ((un : Int) < 2) = true := by simp; omega
            have HONE : Hid (∀ i, i < k → L.getD i 0 ≤ 1) := by
              have := HOK.out.one (by rw [← HU2.out]; exact hf)
              rw [HL.out] at this
              exact this
            go_wp2
            go_loopw [11] (fun i wr => ∃ j : Nat, j ≤ k ∧ i = .int .i64 j ∧ ∃ q, wr = w2.drewN q) (fun i _ => k - (intOf i).toNat)
            case atStart => exact ⟨0, by omega, rfl, _, rfl⟩
            case round =>
              obtain ⟨j, hj, rfl, q2, rfl⟩ := hrel
              by_cases hjk : j < k
              · obtain ⟨xk, HXK, cxk⟩ := hLi.int hjk
                have ixk := hLi.index el_int lc .i64 j hjk
                have h1 := HONE.out j hjk
                rw [getD_of2 HXK.out] at h1
                go_wp2
                go_roundw
                case rel => exact ⟨j + 1, by omega, by go_num, _, rfl⟩
                case measure => simp [intOf]; omega
              · obtain rfl : j = k := by omega
                go_wp2
                go_ret
                exact ⟨rfl, (hu3.drewN _).below (Nat.le_refl _) (by simp)⟩
          · have du : decide ((un : Int) < 2) = false := by simp; omega
            have HFU : Hid (fullB L = true) := full_of HOK.out (by omega) HLL.out (by rw [← HU2.out]; omega)
            go_wp2_with (go_at_call 13; refine (rfull_any LA k lc L _ (hLi.drewN q)).mono ?_; rintro e w' ⟨rfl, rfl⟩; rw [HFU.out])
            go_ret
            exact ⟨rfl, (hu3.drewN q).below (Nat.le_refl _) (by simp)⟩

end Go.Proofs.Ytndgijcjpkoooaa
