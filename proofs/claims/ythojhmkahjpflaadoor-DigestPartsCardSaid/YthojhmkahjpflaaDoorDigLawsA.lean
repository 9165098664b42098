/- The walks of drayagelaw02.DigestCrc and DigestTells. -/
import Derived.Test.YthojhmkahjpflaaDoorDigAwake
import Derived.Test.YthojhmkahjpflaaDoorLawKit
namespace Go.Proofs.YthojhmkahjpflaaDoor
open Go.RowKit Go.Dray

theorem bytes_bd {W : World} {A : Option Addr} {n c : Nat} {zs : List Int} (h : InInts .u8 W A n c zs) : ∀ z ∈ zs, 0 ≤ z ∧ z ≤ 255 := fun z hz => bounds_u8 (h.2.2.2 z hz)

theorem crcL_app (c : Int) (a b : List Int) : crcL c (a ++ b) = crcL (crcL c a) b := by simp [crcL]

set_option maxRecDepth 100000 in
set_option maxHeartbeats 400000 in
theorem digestCrc_walk (A : Option Addr) (n c : Nat) (zs : List Int) (D : Option Addr) (m d : Nat) (ys : List Int) (w : World) (hin : InInts .u8 w A n c zs) (hin2 : InInts .u8 w D m d ys) (hT : Tabs w) :
    Calls Tryd.prog 3 #[.slice A n c, .slice D m d] w fun e w' => e = .returned (.bool true) ∧ Below w.heap.size w w' := by
  have HZ := Lib.hid (bytes_bd hin)
  have HY := Lib.hid (bytes_bd hin2)
  have HT := Lib.hid hT
  have HS := Lib.hid hin.1
  have HD := Lib.hid hin2.1
  clear hin hin2 hT
  by_cases hn : 3000 < n
  · have d1 : decide ((3000 : Int) < n) = true := by simp; omega
    go_enter Tryd.func3, Tryd.ntmps3
    go_wp2_with (go_at_call 7; refine (awake_any _ HT.out).mono ?_; rintro e w1 ⟨rfl, hu1⟩)
    go_ret
    exact ⟨rfl, hu1.below (Nat.le_refl _) (by simp)⟩
  · have d1 : decide ((3000 : Int) < n) = false := by simp; omega
    by_cases hm : 3000 < m
    · have d2 : decide ((3000 : Int) < m) = true := by simp; omega
      go_enter Tryd.func3, Tryd.ntmps3
      go_wp2_with (go_at_call 7; refine (awake_any _ HT.out).mono ?_; rintro e w1 ⟨rfl, hu1⟩)
      go_ret
      exact ⟨rfl, hu1.below (Nat.le_refl _) (by simp)⟩
    · have d2 : decide ((3000 : Int) < m) = false := by simp; omega
      go_enter Tryd.func3, Tryd.ntmps3
      go_upto_region 5 with (go_at_call 7; refine (awake_any _ HT.out).mono ?_; rintro e w1 ⟨rfl, hu1⟩; have HU1 := Lib.hid hu1; clear hu1)
      have HS1 := Lib.hid (HS.out.upd HU1.out (by simp))
      have HD1 := Lib.hid (HD.out.upd HU1.out (by simp))
      have HB0 : Hid (w.heap.size ≤ w1.heap.size) := HU1.out.size
      clear HS HD
      go_wp2_with (first
        | (at_builtin; refine wpList_app (s := .tmp 16) rfl rfl el_byte rfl (Own.empty w1 w1.heap.size _ (Nat.le_refl _)) rfl (Seg.upd HS1.out ((Upd.refl [] w1).alloc _) (by omega) (by simp)) (ints_one _ _) (by simp only [maxLen]; omega) (by omega) (by simp) ?_; intro X2 c2 w2 hown2 hu2 hfr2; rw [Nat.zero_add, List.nil_append] at *; have HO2 := Lib.hid hown2; have HV2 : Hid (Upd [] w1 w2) := ((Upd.refl [] w1).alloc _).then hu2 (by intro b hb; right; simp [ob] at hb; omega); clear hown2 hu2 hfr2; have HD2 := Lib.hid (HD1.out.upd HV2.out (by simp)); have HS2 := Lib.hid (HS1.out.upd HV2.out (by simp)))
        | (at_builtin; refine wpList_app (s := .tmp 18) rfl rfl el_byte rfl HO2.out rfl HD2.out (ints_one _ _) (by simp only [maxLen]; omega) (by omega) HV2.out.size ?_; intro X3 c3 w3 hown3 hu3 hfr3; have HO3 := Lib.hid hown3; have HV3 := Lib.hid hu3; clear hown3 hu3 hfr3)
        | fail)
      have HS3 : Hid (Ints .u8 w3 A n zs) := HS2.out.upd HV3.out (fun hp => by
        have h1 := Seg.lt HS1.out hp (by omega)
        simp
        intro h
        have := (HO2.out.base h.symm).1
        omega)
      have HD3 : Hid (Ints .u8 w3 D m ys) := HD2.out.upd HV3.out (fun hp => by
        have h1 := Seg.lt HD1.out hp (by omega)
        simp
        intro h
        have := (HO2.out.base h.symm).1
        omega)
      have HU3 : Hid (Upd [] w w3) := (HU1.out.trans HV2.out).then HV3.out (fun b hb => by
        simp at hb
        right
        have := (HO2.out.base hb.symm).1
        have := HB0.out
        omega)
      have HB3 : Hid (Ints .u8 w3 X3 (n + m) (zs ++ ys)) := by
        have h := HO3.out
        rw [← List.map_append] at h
        exact Ints.ofOwn h
      clear HO2 HV2 HO3 HV3 HS1 HD1 HS2 HD2
      refine (crc_any A n c zs w3 HS3.out HZ.out (by omega)).mono ?_
      rintro e w' ⟨rfl, rfl⟩
      go_wp2_with fail
      refine (rcrc_any A n c zs w3 HS3.out HZ.out (by omega)).mono ?_
      rintro e w' ⟨rfl, rfl⟩
      go_wp2_with fail
      refine (crc_any A n c zs w3 HS3.out HZ.out (by omega)).mono ?_
      rintro e w' ⟨rfl, rfl⟩
      go_wp2_with fail
      refine (crcMore_any D m d ys _ w3 HD3.out HY.out (by omega)).mono ?_
      rintro e w' ⟨rfl, rfl⟩
      go_wp2_with fail
      refine (rcrc_any X3 (n + m) c3 (zs ++ ys) w3 HB3.out (fun z hz => by rcases List.mem_append.1 hz with h | h; exact HZ.out z h; exact HY.out z h) (by omega)).mono ?_
      rintro e w' ⟨rfl, rfl⟩
      have HE : Hid (not32 (crcL (not32 (not32 (crcL 4294967295 zs))) ys) = not32 (crcL 4294967295 (zs ++ ys))) := by
        show _ = _
        rw [not32_not32 _ (crcL_bd _ (by unfold U32; omega) _), crcL_app]
      rw [HE.out]
      go_wp2
      go_ret
      exact ⟨rfl, HU3.out.below (Nat.le_refl _) (by simp)⟩

/-! Two lists of bytes that differ in one place have different CRCs. -/

theorem xor_nat (a b : Nat) (ha : a < 4294967296) (hb : b < 4294967296) : bits .xor .u32 (a : Int) (b : Int) = ((a ^^^ b : Nat) : Int) := by
  have h1 : ∀ x : Nat, x < 4294967296 → (BitVec.ofInt 32 (x : Int)).toNat = x := fun x hx => by rw [BitVec.toNat_ofInt]; omega
  have h3 : a ^^^ b < 2 ^ 32 := Nat.xor_lt_two_pow (by omega) (by omega)
  unfold bits
  show IntKind.u32.wrap (((BitVec.ofInt 32 (a : Int) ^^^ BitVec.ofInt 32 (b : Int)).toNat : Nat) : Int) = _
  rw [BitVec.toNat_xor, h1 a ha, h1 b hb, IntKind.wrap_u32']
  omega

theorem nat_xor_inj {a b c : Nat} (h : a ^^^ c = b ^^^ c) : a = b := by
  have := congrArg (· ^^^ c) h
  simpa [Nat.xor_assoc] using this
theorem xor_inj {a b c : Int} (ha : U32 a) (hb : U32 b) (hc : U32 c) (h : bits .xor .u32 a c = bits .xor .u32 b c) : a = b := by
  unfold U32 at *
  obtain ⟨x, rfl⟩ := Int.eq_ofNat_of_zero_le ha.1
  obtain ⟨y, rfl⟩ := Int.eq_ofNat_of_zero_le hb.1
  obtain ⟨z, rfl⟩ := Int.eq_ofNat_of_zero_le hc.1
  rw [xor_nat _ _ (by omega) (by omega), xor_nat _ _ (by omega) (by omega)] at h
  have h1 : x ^^^ z = y ^^^ z := by omega
  rw [nat_xor_inj h1]
theorem xor_comm32 {a b : Int} (ha : U32 a) (hb : U32 b) : bits .xor .u32 a b = bits .xor .u32 b a := by
  unfold U32 at *
  obtain ⟨x, rfl⟩ := Int.eq_ofNat_of_zero_le ha.1
  obtain ⟨y, rfl⟩ := Int.eq_ofNat_of_zero_le hb.1
  rw [xor_nat _ _ (by omega) (by omega), xor_nat _ _ (by omega) (by omega), Nat.xor_comm]

theorem crc_top (x : Nat) (h : x < 2147483648) : 2147483648 ≤ x ^^^ 3988292384 := by
  have h1 : (x ^^^ 3988292384).testBit 31 = true := by
    rw [Nat.testBit_xor, Nat.testBit_lt_two_pow (show x < 2 ^ 31 by omega)]
    decide
  exact Nat.ge_two_pow_of_testBit h1
theorem crcBit_inj {a b : Int} (ha : U32 a) (hb : U32 b) (h : crcBit a = crcBit b) : a = b := by
  unfold U32 at ha hb
  obtain ⟨x, rfl⟩ := Int.eq_ofNat_of_zero_le ha.1
  obtain ⟨y, rfl⟩ := Int.eq_ofNat_of_zero_le hb.1
  have ex : ((x : Int) / 2) = ((x / 2 : Nat) : Int) := by omega
  have ey : ((y : Int) / 2) = ((y / 2 : Nat) : Int) := by omega
  have tx := crc_top (x / 2) (by omega)
  have ty := crc_top (y / 2) (by omega)
  have hp : (3988292384 : Int) = ((3988292384 : Nat) : Int) := rfl
  unfold crcBit at h
  by_cases hx : (x : Int) % 2 = 1
  · by_cases hy : (y : Int) % 2 = 1
    · rw [if_pos hx, if_pos hy, ex, ey, hp, xor_nat _ _ (by omega) (by omega), xor_nat _ _ (by omega) (by omega)] at h
      have h1 : x / 2 ^^^ 3988292384 = y / 2 ^^^ 3988292384 := by omega
      have := nat_xor_inj h1
      omega
    · rw [if_pos hx, if_neg hy, ex, ey, hp, xor_nat _ _ (by omega) (by omega)] at h
      omega
  · by_cases hy : (y : Int) % 2 = 1
    · rw [if_neg hx, if_pos hy, ex, ey, hp, xor_nat _ _ (by omega) (by omega)] at h
      omega
    · rw [if_neg hx, if_neg hy] at h
      omega
theorem crcN_inj (n : Nat) {a b : Int} (ha : U32 a) (hb : U32 b) (h : crcN n a = crcN n b) : a = b := by
  induction n with
  | zero => exact h
  | succ n ih => exact ih (crcBit_inj (crcN_bd n a ha) (crcN_bd n b hb) h)
theorem crcL_inj (zs : List Int) (hz : ∀ z ∈ zs, 0 ≤ z ∧ z ≤ 255) {a b : Int} (ha : U32 a) (hb : U32 b) (h : crcL a zs = crcL b zs) : a = b := by
  induction zs generalizing a b with
  | nil => exact h
  | cons z zs ih =>
    have hzb := hz z (by simp)
    have h1 := ih (fun y hy => hz y (by simp [hy])) (crcN_bd 8 _ (xor_u32 a z)) (crcN_bd 8 _ (xor_u32 b z)) h
    exact xor_inj ha hb (by unfold U32; omega) (crcN_inj 8 (xor_u32 _ _) (xor_u32 _ _) h1)

theorem crc_tells (zs : List Int) (hz : ∀ z ∈ zs, 0 ≤ z ∧ z ≤ 255) {k : Nat} {x y : Int} (hx : zs[k]? = some x) (hy0 : 0 ≤ y) (hy1 : y ≤ 255) (hne : y ≠ x) : not32 (crcL 4294967295 (zs.set k y)) ≠ not32 (crcL 4294967295 zs) := by
  have hF : U32 4294967295 := by unfold U32; omega
  have hxb := hz x (List.mem_of_getElem? hx)
  have hxu : U32 x := by unfold U32; omega
  have hyu : U32 y := by unfold U32; omega
  obtain ⟨hk, he⟩ := List.getElem?_eq_some_iff.1 hx
  obtain ⟨pre, post, rfl, rfl⟩ : ∃ pre post, zs = pre ++ x :: post ∧ pre.length = k :=
    ⟨zs.take k, zs.drop (k + 1), by rw [← he, ← List.drop_eq_getElem_cons hk, List.take_append_drop], by rw [List.length_take]; omega⟩
  intro h
  have h1 := congrArg not32 h
  rw [not32_not32 _ (crcL_bd _ hF _), not32_not32 _ (crcL_bd _ hF _), List.set_append_right _ _ (Nat.le_refl _), Nat.sub_self, List.set_cons_zero, crcL_app, crcL_app] at h1
  have hp := crcL_bd _ hF pre
  generalize crcL 4294967295 pre = p at h1 hp
  have h2 : crcB p y = crcB p x := crcL_inj post (fun z hm => hz z (by simp [hm])) (crcN_bd 8 _ (xor_u32 _ _)) (crcN_bd 8 _ (xor_u32 _ _)) h1
  have h3 := crcN_inj 8 (xor_u32 _ _) (xor_u32 _ _) h2
  rw [xor_comm32 hp hyu, xor_comm32 hp hxu] at h3
  exact hne (xor_inj hyu hxu hp h3)

/-- A byte with one bit turned. -/
theorem flip_byte (x : Int) (b : Nat) (hx0 : 0 ≤ x) (hx1 : x ≤ 255) (hb : b ≤ 7) : ∃ y, bits .xor .u8 x (2 ^ b) = y ∧ 0 ≤ y ∧ y ≤ 255 ∧ y ≠ x := by
  obtain ⟨n, rfl⟩ := Int.eq_ofNat_of_zero_le hx0
  have h1 : ∀ v : Nat, v < 256 → (BitVec.ofInt 8 (v : Int)).toNat = v := fun v hv => by rw [BitVec.toNat_ofInt]; omega
  have hp : 2 ^ b < 256 := by
    have := Nat.pow_le_pow_right (n := 2) (by omega) hb
    omega
  have h3 : n ^^^ 2 ^ b < 2 ^ 8 := Nat.xor_lt_two_pow (by omega) (by omega)
  have e : bits .xor .u8 (n : Int) (2 ^ b) = ((n ^^^ 2 ^ b : Nat) : Int) := by
    rw [show ((2 : Int) ^ b) = ((2 ^ b : Nat) : Int) from by simp]
    unfold bits
    show IntKind.u8.wrap (((BitVec.ofInt 8 (n : Int) ^^^ BitVec.ofInt 8 ((2 ^ b : Nat) : Int)).toNat : Nat) : Int) = _
    rw [BitVec.toNat_xor, h1 n (by omega), h1 _ hp, IntKind.wrap_u8']
    omega
  refine ⟨_, e, by omega, by omega, fun h => ?_⟩
  have h4 : n ^^^ 2 ^ b = n := by omega
  have h5 : (n ^^^ 2 ^ b) ^^^ n = n ^^^ n := by rw [h4]
  rw [Nat.xor_self, Nat.xor_comm, ← Nat.xor_assoc, Nat.xor_self, Nat.zero_xor] at h5
  have := Nat.pow_pos (n := b) (show 0 < 2 by omega)
  omega

set_option maxRecDepth 100000 in
set_option maxHeartbeats 400000 in
theorem digestTells_walk (A : Option Addr) (n c : Nat) (zs : List Int) (p q : Int) (w : World) (hin : InInts .u8 w A n c zs) (_hp : (Lit.int .i64 p).wf = true) (_hq : (Lit.int .i64 q).wf = true) (hT : Tabs w) :
    Calls Tryd.prog 6 #[.slice A n c, .int .i64 p, .int .i64 q] w fun e w' => e = .returned (.bool true) ∧ Below w.heap.size w w' := by
  have HZ := Lib.hid (bytes_bd hin)
  have HT := Lib.hid hT
  have HS := Lib.hid hin.1
  clear hin hT
  by_cases hok : n ≤ 3000 ∧ 0 ≤ p ∧ p < n ∧ 0 ≤ q ∧ q ≤ 7
  · obtain ⟨hn, hp0, hp1, hq0, hq1⟩ := hok
    obtain ⟨k, rfl⟩ := Int.eq_ofNat_of_zero_le hp0
    obtain ⟨b, rfl⟩ := Int.eq_ofNat_of_zero_le hq0
    have hk : k < n := by omega
    have hb : b ≤ 7 := by omega
    have d1 : decide ((3000 : Int) < n) = false := by simp; omega
    have d2 : decide ((k : Int) < 0) = false := by simp
    have d3 : decide (n ≤ k) = false := by simp; omega
    have d4 : decide ((b : Int) < 0) = false := by simp
    have d5 : decide ((7 : Int) < b) = false := by simp; omega
    clear hp0 hp1 hq0 hq1
    go_enter Tryd.func6, Tryd.ntmps6
    go_upto_region 5 with (go_at_call 7; refine (awake_any _ HT.out).mono ?_; rintro e w1 ⟨rfl, hu1⟩; have HU1 := Lib.hid hu1; clear hu1)
    have HS1 := Lib.hid (HS.out.upd HU1.out (by simp))
    clear HS
    go_upto_region 6 with (at_builtin; refine wpList_app rfl rfl el_byte rfl (Own.empty w1 w1.heap.size _ (Nat.le_refl _)) rfl (Seg.upd HS1.out ((Upd.refl [] w1).alloc _) (by omega) (by simp)) (ints_one _ _) (by simp only [maxLen]; omega) (by omega) (by simp) ?_; intro X2 c2 w2 hown2 hu2 hfr2; rw [Nat.zero_add, List.nil_append] at *; have HO2 := Lib.hid hown2; have HV2 : Hid (Upd [] w1 w2) := ((Upd.refl [] w1).alloc _).then hu2 (by intro b hb; right; simp [ob] at hb; omega); clear hown2 hu2 hfr2; have HS2 := Lib.hid (HS1.out.upd HV2.out (by simp)))
    have HU2 := Lib.hid (HU1.out.trans HV2.out)
    obtain ⟨x, HX, hcell⟩ := (Ints.ofOwn HO2.out).int hk
    have hix := (Ints.ofOwn HO2.out).index el_byte c2 .i64 k hk
    have hfz := HO2.out.frozen (by omega) k
    obtain ⟨hx0, hx1⟩ := HZ.out x (List.mem_of_getElem? HX.out)
    obtain ⟨y, hy, hy0, hy1, hne⟩ := flip_byte x b hx0 hx1 hb
    have HO3 := Lib.hid (HO2.out.set (k := k) (by omega) (.int .u8 y))
    rw [← List.map_set] at HO3
    have HX2 : Hid (w1.heap.size ≤ bl X2) := (HO2.out.base (HO2.out.obl (by omega))).1
    have HS3 : Hid (Ints .u8 (w2.setCell ⟨bl X2, ofs X2 + k, none⟩ (.int .u8 y)) A n zs) := HS2.out.upd ((Upd.refl [some (bl X2)] w2).putIn (by simp) _) (fun hp => by
      have h1 := Seg.lt HS1.out hp (by omega)
      have h2 := HX2.out
      simp
      omega)
    have HU3 : Hid (Upd [] w (w2.setCell ⟨bl X2, ofs X2 + k, none⟩ (.int .u8 y))) := HU2.out.put (by have h1 := HU1.out.size; have h2 := HX2.out; omega) _
    have HNE : Hid (not32 (crcL 4294967295 (zs.set k y)) ≠ not32 (crcL 4294967295 zs)) := crc_tells zs HZ.out HX.out hy0 hy1 hne
    have hsh : IntKind.u8.wrap (2 ^ b) = 2 ^ b := by
      have h1 := pow2_bd b (by omega)
      have h2 := Nat.pow_le_pow_right (n := 2) (by omega) hb
      have e : ((2 ^ b : Nat) : Int) = (2 : Int) ^ b := by simp
      rw [IntKind.wrap_u8']
      omega
    have hsh2 : (2 : Int) ^ b % 256 = 2 ^ b := by
      rw [IntKind.wrap_u8'] at hsh
      exact hsh
    clear HO2 HV2 HS2 HU2 HU1
    go_wp2_with fail
    refine (crc_any X2 n c2 _ _ (Ints.ofOwn HO3.out) (fun z hz => by rcases List.mem_or_eq_of_mem_set hz with h | h; exact HZ.out z h; omega) (by omega)).mono ?_
    rintro e w' ⟨rfl, rfl⟩
    go_wp2_with fail
    refine (crc_any A n c zs _ HS3.out HZ.out (by omega)).mono ?_
    rintro e w' ⟨rfl, rfl⟩
    have hnb : (not32 (crcL 4294967295 (zs.set k y)) != not32 (crcL 4294967295 zs)) = true := by simpa using HNE.out
    go_wp2
    go_ret
    exact ⟨rfl, HU3.out.below (Nat.le_refl _) (by simp)⟩
  · by_cases b0 : 3000 < n
    · have e0 : decide ((3000 : Int) < n) = true := by simp; omega
      clear hok
      go_enter Tryd.func6, Tryd.ntmps6
      go_wp2_with (go_at_call 7; refine (awake_any _ HT.out).mono ?_; rintro e w1 ⟨rfl, hu1⟩)
      go_ret
      exact ⟨rfl, hu1.below (Nat.le_refl _) (by simp)⟩
    · have e0 : decide ((3000 : Int) < n) = false := by simp; omega
      by_cases b1 : p < 0
      · have e1 : decide (p < 0) = true := by simp; omega
        clear hok
        go_enter Tryd.func6, Tryd.ntmps6
        go_wp2_with (go_at_call 7; refine (awake_any _ HT.out).mono ?_; rintro e w1 ⟨rfl, hu1⟩)
        go_ret
        exact ⟨rfl, hu1.below (Nat.le_refl _) (by simp)⟩
      · have e1 : decide (p < 0) = false := by simp; omega
        by_cases b2 : (n : Int) ≤ p
        · have e2 : decide ((n : Int) ≤ p) = true := by simp; omega
          clear hok
          go_enter Tryd.func6, Tryd.ntmps6
          go_wp2_with (go_at_call 7; refine (awake_any _ HT.out).mono ?_; rintro e w1 ⟨rfl, hu1⟩)
          go_ret
          exact ⟨rfl, hu1.below (Nat.le_refl _) (by simp)⟩
        · have e2 : decide ((n : Int) ≤ p) = false := by simp; omega
          by_cases b3 : q < 0
          · have e3 : decide (q < 0) = true := by simp; omega
            clear hok
            go_enter Tryd.func6, Tryd.ntmps6
            go_wp2_with (go_at_call 7; refine (awake_any _ HT.out).mono ?_; rintro e w1 ⟨rfl, hu1⟩)
            go_ret
            exact ⟨rfl, hu1.below (Nat.le_refl _) (by simp)⟩
          · have e3 : decide (q < 0) = false := by simp; omega
            have e4 : decide (7 < q) = true := by simp; omega
            clear hok
            go_enter Tryd.func6, Tryd.ntmps6
            go_wp2_with (go_at_call 7; refine (awake_any _ HT.out).mono ?_; rintro e w1 ⟨rfl, hu1⟩)
            go_ret
            exact ⟨rfl, hu1.below (Nat.le_refl _) (by simp)⟩

end Go.Proofs.YthojhmkahjpflaaDoor
