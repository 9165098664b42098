/- Merged by wip/tools/merge.py: GzRA GzRT. -/
import Derived.Test.YtolcdlopgbgilaaGreatDoorMz23
import Derived.Test.YtolcdlopgbgilaaGreatDoorMz25
import Derived.Test.YtolcdlopgbgilaaGreatDoorMz27

/-! Text GzRA. -/
namespace Go.Proofs.YtolcdlopgbgilaaGreatDoor
open Go.RowKit Go.Dray

set_option maxHeartbeats 1000000 in
theorem rgetBe_any (A : Option Addr) (m c : Nat) (zs : List Int) (w : World) (hs : Ints .u8 w A m zs) (hz : ∀ z ∈ zs, 0 ≤ z ∧ z ≤ 255) (h0 : 1 ≤ m) (hm : m ≤ 7) :
    Calls Tryz.prog 41 #[.slice A m c, .int .i64 0, .int .i64 m] w fun e w' => e = .returned (.tuple #[.int .u64 (beNum zs), .bool true]) ∧ w = w' := by
  have HZ := Lib.hid hz
  have HS := Lib.hid hs
  have HL := hs.len
  have d1 : decide ((m : Int) < 1) = false := by simp; omega
  have d2 : decide (8 < (m : Int)) = false := by simp; omega
  clear hz hs
  go_enter Tryz.func41, Tryz.ntmps41
  go_wp2
  go_loop [8, 9] (fun x i => ∃ k : Nat, k ≤ m ∧ i = .int .i64 k ∧ x = .int .u64 (beNum (zs.take k))) (fun _ i => m - (intOf i).toNat)
  case atStart => exact ⟨0, by omega, rfl, rfl⟩
  case round =>
    obtain ⟨k, hk, rfl, rfl⟩ := hrel
    by_cases hlt : k < m
    · obtain ⟨x, HX, hcell⟩ := HS.out.int hlt
      have hix := HS.out.index el_byte c .i64 k hlt
      obtain ⟨hx0, hx1⟩ := HZ.out x (List.mem_of_getElem? HX.out)
      have HT : Hid (beNum (zs.take (k + 1)) = beNum (zs.take k) * 256 + x) := by
        have h := take_num (a := 0) (k := k) (by rw [Nat.zero_add]; exact HX.out)
        rw [List.drop_zero] at h
        show _ = _
        rw [h, beNum_snoc]
      obtain ⟨q, hq⟩ : ∃ q, q = beNum (zs.take k) := ⟨_, rfl⟩
      have hb := beNum_bd (zs.take k) fun z h => HZ.out z (List.mem_of_mem_take h)
      have hl : (zs.take k).length = k := by rw [List.length_take, HL.out]; omega
      rw [hl, ← hq] at hb
      have hk6 := pow8_bd 6 (by omega)
      have hq0 := hb.1
      have hq1 : q ≤ 281474976710656 := by
        have h1 := hb.2
        have h3 := Nat.pow_le_pow_right (n := 2) (by omega) (show 8 * k ≤ 48 by omega)
        have e : ∀ j : Nat, ((2 ^ j : Nat) : Int) = (2 : Int) ^ j := fun j => by simp
        rw [← e] at h1
        omega
      rw [← hq] at HT ⊢
      clear hq hb hl hk6
      go_wp2
      go_round
      case rel => exact ⟨k + 1, by omega, by go_num, by rw [HT.out]⟩
      case measure => simp [intOf]; omega
    · obtain rfl : k = m := by omega
      have HT : Hid (zs.take k = zs) := by show _ = _; exact List.take_of_length_le (by rw [HL.out]; exact Nat.le_refl _)
      rw [HT.out]
      go_wp2
      go_ret2
      exact ⟨rfl, rfl⟩

set_option maxHeartbeats 1000000 in
theorem rgetLe_ok (A : Option Addr) (n c : Nat) (zs : List Int) (a m : Nat) (w : World) (hs : Ints .u8 w A n zs) (hz : ∀ z ∈ zs, 0 ≤ z ∧ z ≤ 255) (hnc : n ≤ c) (hn : n ≤ 100000000) (h0 : 1 ≤ m) (hm : m ≤ 7) (ham : a + m ≤ n) :
    Calls Tryz.prog 18 #[.slice A n c, .int .i64 a, .int .i64 m] w fun e w' => e = .returned (.tuple #[.int .u64 (leNum ((zs.drop a).take m)), .bool true]) ∧ Upd [] w w' := by
  have HZ := Lib.hid hz
  have d1 : decide ((m : Int) < 1) = false := by simp; omega
  have d2 : decide (8 < (m : Int)) = false := by simp; omega
  have d3 : decide ((a : Int) < 0) = false := by simp
  have d4 : decide (n < a) = false := by simp; omega
  have d5 : decide ((n : Int) - a < m) = false := by simp; omega
  have hcut := run_cut_lh el_byte A n c .i64 .i64 (a : Int) ((a : Int) + m) a (a + m) rfl (by omega) (by omega) (by omega)
  have HC := Lib.hid (hs.cut (lo := a) (hi := a + m) (c := c) (by omega) (by omega) hnc)
  rw [Nat.add_sub_cancel_left] at hcut HC
  clear hz hs
  go_enter Tryz.func18, Tryz.ntmps18
  go_wp2_with fail
  refine (turned_any (cutA 1 A c a) m (c - a) _ w HC.out (by omega)).mono ?_
  rintro e w1 ⟨B, bc, rfl, hb, hu⟩
  have HB := Lib.hid (Ints.ofOwn hb)
  have HU := Lib.hid hu
  have HBZ : Hid (∀ z ∈ ((zs.drop a).take m).reverse, 0 ≤ z ∧ z ≤ 255) := fun z h => HZ.out z (List.mem_of_mem_drop (List.mem_of_mem_take (List.mem_reverse.1 h)))
  clear hb hu hcut
  go_wp2_with fail
  refine (rgetBe_any B m bc _ w1 HB.out HBZ.out h0 hm).mono ?_
  rintro e w' ⟨rfl, rfl⟩
  have HE : Hid (beNum ((zs.drop a).take m).reverse = leNum ((zs.drop a).take m)) := rfl
  rw [HE.out]
  go_wp2
  go_ret2
  exact ⟨rfl, HU.out⟩
set_option maxHeartbeats 1000000 in
theorem rgetLe_bad (A : Option Addr) (n c : Nat) (a m : Nat) (w : World) (_hn : n ≤ 100000000) (h0 : 1 ≤ m) (hm : m ≤ 7) (han : a ≤ n) (ham : n < a + m) :
    Calls Tryz.prog 18 #[.slice A n c, .int .i64 a, .int .i64 m] w fun e w' => e = .returned (.tuple #[.int .u64 0, .bool false]) ∧ w = w' := by
  have d1 : decide ((m : Int) < 1) = false := by simp; omega
  have d2 : decide (8 < (m : Int)) = false := by simp; omega
  have d3 : decide ((a : Int) < 0) = false := by simp
  have d4 : decide (n < a) = false := by simp; omega
  have d5 : decide ((n : Int) - a < m) = true := by simp; omega
  go_enter Tryz.func18, Tryz.ntmps18
  go_wp2
  go_ret2
  exact ⟨rfl, rfl⟩

theorem nought_drop {zs : List Int} {a k : Nat} (h : ∀ j, a ≤ j → j < k → ∀ x, zs[j]? = some x → x ≠ 0) (hak : a ≤ k) (hx : zs[k]? = some 0) : noughtAt (zs.drop a) = k - a := by
  unfold noughtAt
  obtain ⟨hk, he⟩ := List.getElem?_eq_some_iff.1 hx
  rw [List.findIdx_eq (by rw [List.length_drop]; omega)]
  refine ⟨?_, fun j hj => ?_⟩
  · rw [List.getElem_drop]
    simp [show a + (k - a) = k from by omega, he]
  · rw [List.getElem_drop]
    have hj2 : a + j < zs.length := by omega
    have := h (a + j) (by omega) (by omega) _ (List.getElem?_eq_getElem hj2)
    simpa using this
theorem nought_end {zs : List Int} {a : Nat} (h : ∀ j, a ≤ j → j < zs.length → ∀ x, zs[j]? = some x → x ≠ 0) : ¬ noughtAt (zs.drop a) < zs.length - a := fun hlt => by
  unfold noughtAt at hlt
  have hl : (zs.drop a).findIdx (· == 0) < (zs.drop a).length := by rw [List.length_drop]; exact hlt
  have h1 := List.findIdx_getElem (w := hl)
  rw [List.getElem_drop] at h1
  have hj2 : a + (zs.drop a).findIdx (· == 0) < zs.length := by rw [List.length_drop] at hl; omega
  exact h _ (by omega) hj2 _ (List.getElem?_eq_getElem hj2) (by simpa using h1)

/-- Where the first nought from a place on stands; -1: there is none. -/
def zeroAt (zs : List Int) (n a : Nat) : Int := if noughtAt (zs.drop a) < n - a then ((a + noughtAt (zs.drop a) : Nat) : Int) else -1
set_option maxHeartbeats 1000000 in
theorem zero_any (A : Option Addr) (n c : Nat) (zs : List Int) (a : Nat) (w : World) (hs : Ints .u8 w A n zs) (hn : n ≤ 100000000) (han : a ≤ n) :
    Calls Tryz.prog 19 #[.slice A n c, .int .i64 a] w fun e w' => e = .returned (.int .i64 (zeroAt zs n a)) ∧ w = w' := by
  have HS := Lib.hid hs
  have HL := hs.len
  clear hs
  go_enter Tryz.func19, Tryz.ntmps19
  go_wp2
  go_loop [5] (fun i => ∃ k : Nat, a ≤ k ∧ k ≤ n ∧ i = .int .i64 k ∧ Hid (∀ j, a ≤ j → j < k → ∀ x, zs[j]? = some x → x ≠ 0)) (fun i => n - (intOf i).toNat)
  case atStart => exact ⟨a, Nat.le_refl _, han, rfl, fun j h1 h2 => by omega⟩
  case round =>
    obtain ⟨k, hak, hk, rfl, HJ⟩ := hrel
    by_cases hlt : k < n
    · obtain ⟨x, HX, hcell⟩ := HS.out.int hlt
      have hix := HS.out.index el_byte c .i64 k hlt
      by_cases h0 : x = 0
      · have HE : Hid (zeroAt zs n a = (k : Int)) := by
          have h1 := nought_drop HJ.out hak (by rw [HX.out, h0])
          show _ = _
          rw [zeroAt, h1, if_pos (by omega)]
          omega
        subst h0
        go_wp2
        go_ret
        exact ⟨by rw [HE.out]; rfl, rfl⟩
      · have HJ2 : Hid (∀ j, a ≤ j → j < k + 1 → ∀ x, zs[j]? = some x → x ≠ 0) := fun j h1 hj y hy => by
          by_cases hjk : j < k
          · exact HJ.out j h1 hjk y hy
          · obtain rfl : j = k := by omega
            have := HX.out
            rw [hy] at this
            injection this with this
            rw [this]
            exact h0
        have e0 : (x == 0) = false := by simpa using h0
        clear h0
        go_wp2
        go_round
        case rel => exact ⟨k + 1, by omega, by omega, by go_num, HJ2⟩
        case measure => simp [intOf]; omega
    · obtain rfl : k = n := by omega
      have HE : Hid (zeroAt zs k a = -1) := by
        have h := nought_end (zs := zs) (a := a) (fun j h1 h2 => HJ.out j h1 (by rw [HL.out] at h2; exact h2))
        rw [HL.out] at h
        show _ = _
        rw [zeroAt, if_neg h]
      go_wp2
      go_ret
      exact ⟨by rw [HE.out]; rfl, rfl⟩

end Go.Proofs.YtolcdlopgbgilaaGreatDoor

/-! Text GzRT. -/
namespace Go.Proofs.YtolcdlopgbgilaaGreatDoor
open Go.RowKit Go.Dray

theorem frame_meet {a0 a' : Act} {ops : Array Oper} {v1 v2 : Value} {d1 d2 : Nat} {l : List Value} (ds : List Nat) (hsz : a'.tmps.size = a0.tmps.size) (hdf : a'.defers = a0.defers)
    (hfr : ∀ t, (∀ k, k < ops.size → dstOf ops k ≠ t) → a'.tmps.getD t undef = a0.tmps.getD t undef)
    (h1 : ds.any (Nat.beq d1) = true) (h2 : ds.any (Nat.beq d2) = true) (hd1 : d1 < a0.tmps.size) (hd2 : d2 < a0.tmps.size) (ho : ((List.range ops.size).all fun k => ds.any (Nat.beq (dstOf ops k))) = true)
    (hl : ((List.range a0.tmps.size).map fun i => cond (ds.any (Nat.beq i)) (((a'.put (some d1) v1).put (some d2) v2).tmps.getD i undef) (a0.tmps.getD i undef)) = l) :
    (a'.put (some d1) v1).put (some d2) v2 = ⟨l.toArray, a0.defers⟩ := by
  subst hl
  have e : (a'.put (some d1) v1).put (some d2) v2 = ⟨((a'.tmps.setIfInBounds d1 v1).setIfInBounds d2 v2), a'.defers⟩ := rfl
  have key : ((a'.tmps.setIfInBounds d1 v1).setIfInBounds d2 v2) = ((List.range a0.tmps.size).map fun i => cond (ds.any (Nat.beq i)) (((a'.tmps.setIfInBounds d1 v1).setIfInBounds d2 v2).getD i undef) (a0.tmps.getD i undef)).toArray := by
    apply Array.ext
    · simp [hsz]
    · intro i hi1 hi2
      have hi : i < a0.tmps.size := by simpa [hsz] using hi1
      have hg : ((a'.tmps.setIfInBounds d1 v1).setIfInBounds d2 v2)[i] = ((a'.tmps.setIfInBounds d1 v1).setIfInBounds d2 v2).getD i undef := by
        simp only [Array.getD]
        rw [dif_pos hi1]
        rfl
      rw [hg]
      simp only [List.getElem_toArray, List.getElem_map, List.getElem_range]
      cases hc : ds.any (Nat.beq i) with
      | true => rfl
      | false =>
        have hne : ∀ d, ds.any (Nat.beq d) = true → i ≠ d := fun d hd e => by
          rw [e, hd] at hc
          cases hc
        rw [tmps_set _ _ _ _ (by simp [hsz]; exact hd2), if_neg (hne d2 h2), tmps_set _ _ _ _ (by rw [hsz]; exact hd1), if_neg (hne d1 h1)]
        refine hfr i fun k hk hdk => ?_
        have h3 := List.all_eq_true.1 ho k (List.mem_range.2 hk)
        rw [hdk] at h3
        rw [h3] at hc
        cases hc
  rw [e, hdf]
  exact congrArg (fun x => Act.mk x a0.defers) key

/-- What each operation yields. -/
def GotR (B x : Nat) (OA : Option Addr) (on oc : Nat) (qc : Int) : Nat → Value → World → Prop
  | 0, v, _ => v = .pointer (some ⟨x, 0, none⟩)
  | 1, v, _ => v = .slice OA on oc
  | 2, v, _ => v = .int .u32 qc
  | 3, v, _ => v = .int .u64 qc
  | 4, v, w => ∃ Y yc, v = .slice Y 4 yc ∧ Own w B 5 1 Y 4 yc ((leB qc 4).map (Value.int .u8))
  | 5, v, _ => v = .pointer (some ⟨x, 0, none⟩)
  | 6, v, _ => v = .slice OA on oc
  | 7, v, _ => v = .int .i64 (on : Int)
  | 8, v, _ => v = .int .u64 (on : Int)
  | 9, v, w => ∃ Y yc, v = .slice Y 4 yc ∧ Own w B 5 1 Y 4 yc ((leB (on : Int) 4).map (Value.int .u8))
  | _, _, _ => True
theorem GotR.stable {B x : Nat} {OA : Option Addr} {on oc : Nat} {qc : Int} (i : Nat) (v : Value) (w w' : World) (hu : Upd [] w w') (h : GotR B x OA on oc qc i v w) : GotR B x OA on oc qc i v w' := by
  match i, h with
  | 0, h | 1, h | 2, h | 3, h | 5, h | 6, h | 7, h | 8, h => exact h
  | 4, h => obtain ⟨Y, yc, h1, h2⟩ := h; exact ⟨Y, yc, h1, h2.upd hu (by simp)⟩
  | 9, h => obtain ⟨Y, yc, h1, h2⟩ := h; exact ⟨Y, yc, h1, h2.upd hu (by simp)⟩
  | k + 10, _ => trivial
set_option maxHeartbeats 1000000 in
theorem rle4_any (w : World) (v : Int) (hv : 0 ≤ v) (hv1 : v ≤ 9223372036854775807) : Calls Tryz.prog 22 #[.int .u64 v, .int .i64 4] w (NewBytes 4 (leB v 4) w) := by
  go_enter Tryz.func22, Tryz.ntmps22
  go_wp2_with fail
  refine (rbe_any w v 4 hv hv1 (by omega) (by omega)).mono ?_
  rintro e w1 ⟨B1, c1, rfl, hb1, hu1⟩
  go_wp2_with fail
  refine (turned_any B1 4 c1 (beB v 4) w1 (Ints.ofOwn hb1) (by omega)).mono ?_
  rintro e w2 ⟨B2, c2, rfl, hb2, hu2⟩
  rw [show (beB v 4).reverse = leB v 4 from List.reverse_reverse _] at hb2
  have HO := Lib.hid (hb2.monoB hu1.size)
  have HU := Lib.hid (hu1.trans hu2)
  clear hb1 hu1 hb2 hu2
  go_wp2
  go_ret
  exact ⟨B2, c2, rfl, HO.out, HU.out⟩
/-- Texts of bytes that differ. -/
theorem strOfNums_ne {a b : List Int} (ha : ∀ z ∈ a, 0 ≤ z ∧ z ≤ 255) (hb : ∀ z ∈ b, 0 ≤ z ∧ z ≤ 255) (h : a ≠ b) : strOfNums a ≠ strOfNums b := fun e => by
  have h1 := congrArg sb e
  rw [sb_strOfNums a ha, sb_strOfNums b hb] at h1
  exact h h1

end Go.Proofs.YtolcdlopgbgilaaGreatDoor
