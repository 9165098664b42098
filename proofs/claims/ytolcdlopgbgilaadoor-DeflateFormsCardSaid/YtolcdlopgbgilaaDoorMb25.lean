/- Merged by wip/tools/merge.py: DefS DefT. -/
import Derived.Deep.RegionWith
import Derived.Test.YtolcdlopgbgilaaDoorMb24

/-! Text DefS. -/
namespace Go.Proofs.YtolcdlopgbgilaaDoor
open Go.RowKit Go.Dray

/-- A number below 65536 as two bytes, the lowest first. -/
theorem two_turned (v : Int) (h0 : 0 ≤ v) (h1 : v ≤ 65535) : (beB v (Int.toNat 2)).reverse = [v % 256, v / 256] := by
  show (beB v 2).reverse = _
  unfold beB
  rw [List.reverse_reverse]
  unfold leB tab
  have : v / 256 % 256 = v / 256 := by omega
  simp [List.range_succ, this]
theorem two_beB_len (v : Int) : (beB v 2).length = 2 := by simp [beB, leB, tab_len]

set_option maxRecDepth 100000 in
set_option maxHeartbeats 4000000 in
theorem formStored_any (A : Option Addr) (n c : Nat) (xs : List Int) (w : World) (hs : Ints .u8 w A n xs) (hnc : n ≤ c) (hn : n ≤ 1000000) :
    Calls Tryd.prog 16 #[.slice A n c] w (NewBytes (stAll (xs.length + 1) xs).length (stAll (xs.length + 1) xs) w) := by
  have HL := hs.len
  have HS := Lib.hid hs
  clear hs
  go_enter Tryd.func16, Tryd.ntmps16
  go_wp2
  go_loopw [0, 3] (fun vb vo wr => ∃ (A1 : Option Addr) (m c1 : Nat) (X : Option Addr) (xn xc f : Nat) (rest ys : List Int), vb = .slice A1 m c1 ∧ vo = .slice X xn xc ∧ m ≤ c1 ∧ m ≤ n ∧ m < f ∧ Hid (Own wr w.heap.size 5 1 X xn xc (ys.map (Value.int .u8))) ∧ Hid (ys.length = xn) ∧ Hid (Upd [] w wr) ∧ Hid (Ints .u8 w A1 m rest) ∧ Hid (ys ++ stAll f rest = stAll (xs.length + 1) xs)) (fun vb _ _ => match vb with | .slice _ m _ => m | _ => 0)
  case atStart => exact ⟨A, n, c, none, 0, 0, xs.length + 1, xs, [], rfl, rfl, hnc, Nat.le_refl _, by rw [HL.out]; omega, Own.nil _ _ _ _, rfl, Upd.refl _ _, HS.out, rfl⟩
  case round =>
    obtain ⟨A1, m, c1, X, xn, xc, f, rest, ys, rfl, rfl, hmc, hmn, hmf, HO, HYN, HU, HI, HE⟩ := hrel
    have hyl : xn ≤ 2 * n + 5 := by
      have h1 := congrArg List.length HE.out
      have h2 := stAll_len (xs.length + 1) xs (by omega)
      rw [List.length_append, HYN.out] at h1
      have := HL.out
      omega
    have HLR := HI.out.len
    obtain ⟨f', rfl⟩ : ∃ f', f = f' + 1 := ⟨f - 1, by omega⟩
    have hB := HU.out.size
    clear HS
    by_cases hbig : m ≤ 65535
    · have m1 : (m : Int) ≤ 65535 := by omega
      go_wp2_with (first | (at_builtin; refine wpList_app rfl rfl el_byte rfl (HO.out.alloc _) rfl (Seg.one wr _ _) (by intro u hu; simp at hu; subst hu; rfl) (by simp only [maxLen]; omega) (by omega) (by simp; omega) ?_; intro X2 c2 w2 hown2 hu2 hfr2) | fail)
      have HU2 : Hid (Upd [] w w2) := (HU.out.alloc _).then hu2 (fun b hb => by right; simp at hb; exact (HO.out.base hb.symm).1)
      have HO2 : Hid (Own w2 w.heap.size 5 1 X2 (xn + 1) c2 ((ys ++ [(1 : Int)]).map (Value.int .u8))) := by show Own _ _ _ _ _ _ _ _; rw [List.map_append]; exact hown2
      clear hown2 hu2 hfr2 HO HU
      refine (rbe_any w2 (m : Int) 2 (by omega) (by omega) (by omega) (by omega)).mono ?_
      rintro e w3 ⟨B1, bc1, rfl, hb1, hv1⟩
      have HO3 := Lib.hid (HO2.out.upd hv1 (by simp))
      have HU3 : Hid (Upd [] w w3) := HU2.out.trans hv1
      have HB1 := Lib.hid (Ints.ofOwn hb1)
      clear hb1 hv1 HO2 HU2
      go_wp2_with fail
      refine (turned_any B1 2 bc1 _ w3 HB1.out (by omega)).mono ?_
      rintro e w4 ⟨B2, bc2, rfl, hb2, hv2⟩
      rw [two_turned _ (by omega) (by omega)] at hb2
      have HO4 := Lib.hid (HO3.out.upd hv2 (by simp))
      have HU4 : Hid (Upd [] w w4) := HU3.out.trans hv2
      have HB2 := Lib.hid (Ints.ofOwn hb2)
      have hB4 := HU4.out.size
      clear hb2 hv2 HO3 HU3 HB1
      go_wp2_with (first | (at_builtin; refine wpList_app rfl rfl el_byte rfl HO4.out rfl HB2.out (ints_one _ _) (by simp only [maxLen]; omega) (by omega) hB4 ?_; intro X5 c5 w5 hown5 hu5 hfr5) | fail)
      have HU5 : Hid (Upd [] w w5) := HU4.out.then hu5 (fun b hb => by right; simp at hb; exact (HO4.out.base hb.symm).1)
      have HO5 : Hid (Own w5 w.heap.size 5 1 X5 (xn + 1 + 2) c5 ((ys ++ [(1 : Int)] ++ [(m : Int) % 256, (m : Int) / 256]).map (Value.int .u8))) := by show Own _ _ _ _ _ _ _ _; rw [List.map_append]; exact hown5
      clear hown5 hu5 hfr5 HO4 HU4 HB2 hB4
      refine (rbe_any w5 (65535 - (m : Int)) 2 (by omega) (by omega) (by omega) (by omega)).mono ?_
      rintro e w6 ⟨B3, bc3, rfl, hb3, hv3⟩
      have HO6 := Lib.hid (HO5.out.upd hv3 (by simp))
      have HU6 : Hid (Upd [] w w6) := HU5.out.trans hv3
      have HB3 := Lib.hid (Ints.ofOwn hb3)
      clear hb3 hv3 HO5 HU5
      go_wp2_with fail
      refine (turned_any B3 2 bc3 _ w6 HB3.out (by omega)).mono ?_
      rintro e w7 ⟨B4, bc4, rfl, hb4, hv4⟩
      rw [two_turned _ (by omega) (by omega)] at hb4
      have HO7 := Lib.hid (HO6.out.upd hv4 (by simp))
      have HU7 : Hid (Upd [] w w7) := HU6.out.trans hv4
      have HB4 := Lib.hid (Ints.ofOwn hb4)
      have hB7 := HU7.out.size
      clear hb4 hv4 HO6 HU6 HB3
      have cutH := run_cut_h el_byte A1 m c1 .i64 (m : Int) m rfl (by omega)
      have cutL := run_cut_l el_byte A1 m c1 .i64 (m : Int) m rfl (by omega)
      go_wp2_with (first
        | (at_builtin; refine wpList_app rfl rfl el_byte rfl HO8.out rfl ((HI.out.upd HU8.out (by simp))) (ints_one _ _) (by simp only [maxLen]; omega) (by omega) hB8 ?_; intro X9 c9 w9 hown9 hu9 hfr9; have HU9 : Hid (Upd [] w w9) := HU8.out.then hu9 (fun b hb => by right; simp at hb; exact (HO8.out.base hb.symm).1); have HO9 : Hid (Own w9 w.heap.size 5 1 X9 (xn + 1 + 2 + 2 + m) c9 ((ys ++ [(1 : Int)] ++ [(m : Int) % 256, (m : Int) / 256] ++ [(65535 - (m : Int)) % 256, (65535 - (m : Int)) / 256] ++ rest).map (Value.int .u8))) := (by show Own _ _ _ _ _ _ _ _; rw [List.map_append]; exact hown9); clear hown9 hu9 hfr9)
        | (at_builtin; refine wpList_app rfl rfl el_byte rfl HO7.out rfl HB4.out (ints_one _ _) (by simp only [maxLen]; omega) (by omega) hB7 ?_; intro X8 c8 w8 hown8 hu8 hfr8; have HU8 : Hid (Upd [] w w8) := HU7.out.then hu8 (fun b hb => by right; simp at hb; exact (HO7.out.base hb.symm).1); have HO8 : Hid (Own w8 w.heap.size 5 1 X8 (xn + 1 + 2 + 2) c8 ((ys ++ [(1 : Int)] ++ [(m : Int) % 256, (m : Int) / 256] ++ [(65535 - (m : Int)) % 256, (65535 - (m : Int)) / 256]).map (Value.int .u8))) := (by show Own _ _ _ _ _ _ _ _; rw [List.map_append]; exact hown8); have hB8 := HU8.out.size; clear hown8 hu8 hfr8)
        | fail)
      go_ret
      have HF : Hid (ys ++ [(1 : Int)] ++ [(m : Int) % 256, (m : Int) / 256] ++ [(65535 - (m : Int)) % 256, (65535 - (m : Int)) / 256] ++ rest = stAll (xs.length + 1) xs) := by
        show _ = _
        rw [← HE.out, stAll, if_pos (by rw [HLR.out]; exact hbig)]
        unfold stOne
        rw [HLR.out]
        simp
      have HFL : xn + 1 + 2 + 2 + m = (stAll (xs.length + 1) xs).length := by
        have h := congrArg List.length HF.out
        simp only [List.length_append, List.length_cons, List.length_nil, HYN.out, HLR.out] at h
        omega
      refine ⟨X9, c9, ?_, ?_, HU9.out⟩
      · rw [← HFL]; rfl
      · rw [← HFL, ← HF.out]; exact HO9.out
    · have m1 : (65535 : Int) < m := by omega
      go_wp2_with (first | (at_builtin; refine wpList_app rfl rfl el_byte rfl (HO.out.alloc _) rfl (Seg.one wr _ _) (by intro u hu; simp at hu; subst hu; rfl) (by simp only [maxLen]; omega) (by omega) (by simp; omega) ?_; intro X2 c2 w2 hown2 hu2 hfr2) | fail)
      have HU2 : Hid (Upd [] w w2) := (HU.out.alloc _).then hu2 (fun b hb => by right; simp at hb; exact (HO.out.base hb.symm).1)
      have HO2 : Hid (Own w2 w.heap.size 5 1 X2 (xn + 1) c2 ((ys ++ [(0 : Int)]).map (Value.int .u8))) := by show Own _ _ _ _ _ _ _ _; rw [List.map_append]; exact hown2
      clear hown2 hu2 hfr2 HO HU
      refine (rbe_any w2 (65535 : Int) 2 (by omega) (by omega) (by omega) (by omega)).mono ?_
      rintro e w3 ⟨B1, bc1, rfl, hb1, hv1⟩
      have HO3 := Lib.hid (HO2.out.upd hv1 (by simp))
      have HU3 : Hid (Upd [] w w3) := HU2.out.trans hv1
      have HB1 := Lib.hid (Ints.ofOwn hb1)
      clear hb1 hv1 HO2 HU2
      go_wp2_with fail
      refine (turned_any B1 2 bc1 _ w3 HB1.out (by omega)).mono ?_
      rintro e w4 ⟨B2, bc2, rfl, hb2, hv2⟩
      rw [two_turned _ (by omega) (by omega)] at hb2
      have HO4 := Lib.hid (HO3.out.upd hv2 (by simp))
      have HU4 : Hid (Upd [] w w4) := HU3.out.trans hv2
      have HB2 := Lib.hid (Ints.ofOwn hb2)
      have hB4 := HU4.out.size
      clear hb2 hv2 HO3 HU3 HB1
      go_wp2_with (first | (at_builtin; refine wpList_app rfl rfl el_byte rfl HO4.out rfl HB2.out (ints_one _ _) (by simp only [maxLen]; omega) (by omega) hB4 ?_; intro X5 c5 w5 hown5 hu5 hfr5) | fail)
      have HU5 : Hid (Upd [] w w5) := HU4.out.then hu5 (fun b hb => by right; simp at hb; exact (HO4.out.base hb.symm).1)
      have HO5 : Hid (Own w5 w.heap.size 5 1 X5 (xn + 1 + 2) c5 ((ys ++ [(0 : Int)] ++ [(65535 : Int) % 256, (65535 : Int) / 256]).map (Value.int .u8))) := by show Own _ _ _ _ _ _ _ _; rw [List.map_append]; exact hown5
      clear hown5 hu5 hfr5 HO4 HU4 HB2 hB4
      refine (rbe_any w5 (0 : Int) 2 (by omega) (by omega) (by omega) (by omega)).mono ?_
      rintro e w6 ⟨B3, bc3, rfl, hb3, hv3⟩
      have HO6 := Lib.hid (HO5.out.upd hv3 (by simp))
      have HU6 : Hid (Upd [] w w6) := HU5.out.trans hv3
      have HB3 := Lib.hid (Ints.ofOwn hb3)
      clear hb3 hv3 HO5 HU5
      go_wp2_with fail
      refine (turned_any B3 2 bc3 _ w6 HB3.out (by omega)).mono ?_
      rintro e w7 ⟨B4, bc4, rfl, hb4, hv4⟩
      rw [two_turned _ (by omega) (by omega)] at hb4
      have HO7 := Lib.hid (HO6.out.upd hv4 (by simp))
      have HU7 : Hid (Upd [] w w7) := HU6.out.trans hv4
      have HB4 := Lib.hid (Ints.ofOwn hb4)
      have hB7 := HU7.out.size
      clear hb4 hv4 HO6 HU6 HB3
      have cutH := run_cut_h el_byte A1 m c1 .i64 (65535 : Int) 65535 rfl (by omega)
      have cutL := run_cut_l el_byte A1 m c1 .i64 (65535 : Int) 65535 rfl (by omega)
      go_wp2_with (first
        | (at_builtin; refine wpList_app rfl rfl el_byte rfl HO8.out rfl (((HI.out.upd HU8.out (by simp)).pre (by omega))) (ints_one _ _) (by simp only [maxLen]; omega) (by omega) hB8 ?_; intro X9 c9 w9 hown9 hu9 hfr9; have HU9 : Hid (Upd [] w w9) := HU8.out.then hu9 (fun b hb => by right; simp at hb; exact (HO8.out.base hb.symm).1); have HO9 : Hid (Own w9 w.heap.size 5 1 X9 (xn + 1 + 2 + 2 + 65535) c9 ((ys ++ [(0 : Int)] ++ [(65535 : Int) % 256, (65535 : Int) / 256] ++ [(0 : Int) % 256, (0 : Int) / 256] ++ rest.take 65535).map (Value.int .u8))) := (by show Own _ _ _ _ _ _ _ _; rw [List.map_append]; exact hown9); clear hown9 hu9 hfr9)
        | (at_builtin; refine wpList_app rfl rfl el_byte rfl HO7.out rfl HB4.out (ints_one _ _) (by simp only [maxLen]; omega) (by omega) hB7 ?_; intro X8 c8 w8 hown8 hu8 hfr8; have HU8 : Hid (Upd [] w w8) := HU7.out.then hu8 (fun b hb => by right; simp at hb; exact (HO7.out.base hb.symm).1); have HO8 : Hid (Own w8 w.heap.size 5 1 X8 (xn + 1 + 2 + 2) c8 ((ys ++ [(0 : Int)] ++ [(65535 : Int) % 256, (65535 : Int) / 256] ++ [(0 : Int) % 256, (0 : Int) / 256]).map (Value.int .u8))) := (by show Own _ _ _ _ _ _ _ _; rw [List.map_append]; exact hown8); have hB8 := HU8.out.size; clear hown8 hu8 hfr8)
        | fail)
      have HF : Hid (ys ++ [(0 : Int)] ++ [(65535 : Int) % 256, (65535 : Int) / 256] ++ [(0 : Int) % 256, (0 : Int) / 256] ++ rest.take 65535 ++ stAll f' (rest.drop 65535) = stAll (xs.length + 1) xs) := by
        show _ = _
        rw [← HE.out, stAll, if_neg (by rw [HLR.out]; omega)]
        unfold stOne
        rw [List.length_take, HLR.out, Nat.min_eq_left (by omega)]
        simp
      have HCUT : Hid (Ints .u8 w (cutA 1 A1 c1 65535) (m - 65535) (rest.drop 65535)) := by
        have := HI.out.cut (lo := 65535) (hi := m) (c := c1) (by omega) (Nat.le_refl _) hmc
        rw [List.take_of_length_le (by rw [List.length_drop, HLR.out]; exact Nat.le_refl _)] at this
        exact this
      go_roundw
      case rel =>
        refine ⟨cutA 1 A1 c1 65535, m - 65535, c1 - 65535, X9, xn + 1 + 2 + 2 + 65535, c9, f', rest.drop 65535, _, by simp, rfl, by omega, by omega, by omega, HO9, ?_, HU9, HCUT, HF⟩
        show _ = _
        simp only [List.length_append, List.length_cons, List.length_nil, List.length_take, HYN.out, HLR.out, Nat.min_eq_left (show 65535 ≤ m by omega)]
      case measure => simp; omega

end Go.Proofs.YtolcdlopgbgilaaDoor

/-! Text DefT. -/
namespace Go.Proofs.YtolcdlopgbgilaaDoor
open Go.RowKit Go.Dray

/-- The three lowest bits of the first byte. -/
theorem head_byte (b0 b1 b2 : Bool) (rest : List Bool) : ∃ y, (pack (b0 :: b1 :: b2 :: rest))[0]? = some y ∧ 0 < (pack (b0 :: b1 :: b2 :: rest)).length ∧ bits .and .u8 y 7 = b2i b0 + 2 * b2i b1 + 4 * b2i b2 := by
  have hb := packB_bd (b0 :: b1 :: b2 :: rest) 0
  have hl : 0 < (pack (b0 :: b1 :: b2 :: rest)).length := by rw [pack_len]; simp only [List.length_cons]; omega
  refine ⟨packB (b0 :: b1 :: b2 :: rest) 0, ?_, hl, ?_⟩
  · rw [List.getElem?_eq_getElem hl]
    simp [pack, tab]
  · have he : packB (b0 :: b1 :: b2 :: rest) 0 = b2i b0 + 2 * (b2i b1 + 2 * (b2i b2 + 2 * num (rest.take 5))) := by simp [packB, num]
    obtain ⟨k, hk⟩ := Int.eq_ofNat_of_zero_le hb.1
    rw [hk] at hb he ⊢
    have h1 := u8_and_nat k 7 (by omega) (by omega)
    rw [show ((7 : Nat) : Int) = 7 from rfl] at h1
    rw [h1, show k &&& 7 = k % 8 from Nat.and_two_pow_sub_one_eq_mod k 3]
    have h0 := b2i_bd b0
    have h1 := b2i_bd b1
    have h2 := b2i_bd b2
    omega

theorem DefOut.head1 {xs out : List Int} (h : DefOut xs 1 out) : ∃ y, Hid (out[0]? = some y) ∧ 0 < out.length ∧ bits .and .u8 y 7 = 3 := by
  rcases h with ⟨h, _⟩ | ⟨_, ps, _, _, rfl⟩ | ⟨h, _⟩
  · omega
  · exact head_byte true true false (blockBits fixedL fixedD ps)
  · omega
theorem DefOut.head2 {xs out : List Int} (h : DefOut xs 2 out) : ∃ y, Hid (out[0]? = some y) ∧ 0 < out.length ∧ bits .and .u8 y 7 = 5 := by
  rcases h with ⟨h, _⟩ | ⟨h, _⟩ | ⟨_, ps, lz, dz, tz, c, ss, _, _, _, _, _, _, rfl⟩
  · omega
  · omega
  · exact head_byte true false true (tellBits lz dz tz c ss ++ blockBits lz dz ps)

set_option maxRecDepth 100000 in
set_option maxHeartbeats 4000000 in
theorem deflateForms_walk (A : Option Addr) (n c : Nat) (zs : List Int) (w : World) (hin : InInts .u8 w A n c zs) (hT : OrdD w) :
    Calls Tryd.prog 6 #[.slice A n c] w fun e w' => e = .returned (.bool true) ∧ Below w.heap.size w w' := by
  have HZ := Lib.hid (inBytes_bd hin)
  have HT := Lib.hid hT
  have HS := Lib.hid hin.1
  have hnc := hin.2.1
  have HL := hin.1.len
  clear hin hT
  by_cases h1 : 140000 < n
  · have d1 : decide ((140000 : Int) < n) = true := by simp; omega
    go_enter Tryd.func6, Tryd.ntmps6
    go_wp2_with (go_at_call 14; refine (awake5_any _).mono ?_; rintro e w1 ⟨rfl, hu1⟩)
    go_ret
    exact ⟨rfl, hu1.below (Nat.le_refl _) (by simp)⟩
  · have d1 : decide ((140000 : Int) < n) = false := by simp; omega
    go_enter Tryd.func6, Tryd.ntmps6
    go_upto_region 6 with (first
      | (go_at_call 14; refine (awake5_any _).mono ?_; rintro e w1 ⟨rfl, hu1⟩; have HU1 := Lib.hid hu1; clear hu1)
      | (go_at_call 15; refine (deflate_stored A n c zs _ (HS.out.upd HU1.out (by simp)) HZ.out hnc (by omega)).mono ?_; rintro e w2 ⟨X, xc, out, rfl, hown, hdef, hol, hu2⟩; have HU2 : Hid (Upd [] w w2) := (HU1.out.trans hu2); have HX := Lib.hid (Ints.ofOwn hown); have HDEF := Lib.hid hdef; clear hown hdef hu2))
    obtain rfl : out = stAll (zs.length + 1) zs := by
      rcases HDEF.out with ⟨_, h⟩ | ⟨h, _⟩ | ⟨h, _⟩
      · exact h
      · omega
      · omega
    have HI : Hid (∀ W, Upd [] w2 W → Ints .u8 W A n zs) := fun W hW => (HS.out.upd HU2.out (by simp)).upd hW (by simp)
    have HO : Hid (∀ W, Upd [] w2 W → OrdD W) := fun W hW => (HT.out.upd HU2.out (by simp)).upd hW (by simp)
    have hcur : Upd [] w2 w2.drew := (Upd.refl _ _).drew
    have s1 := str_cut (c := xc) (HX.out.upd hcur (by simp))
    clear HS HT HDEF
    generalize hq : stAll (zs.length + 1) zs = q at HX s1 ⊢
    have HQ := Lib.hid hq
    clear hq
    go_region_with ((go_at_call 16; refine (formStored_any A n c zs _ (HI.out _ (by assumption)) hnc (by omega)).mono ?_; rw [HQ.out]; rintro e wb ⟨A2, c2, rfl, ho2, hv2⟩; have hcb := Upd.trans hcur hv2; have s2 := str_cut (c := c2) (Ints.ofOwn ho2); have t1 := str_cut (c := xc) (HX.out.upd hcb (by simp)); have HCB := Lib.hid hcb; clear hcb hv2))
    all_goals
      clear s1 s2 t1
      by_cases h2 : 3000 < n
      · have d2 : decide ((3000 : Int) < n) = true := by simp; omega
        go_wp2
        go_ret
        exact ⟨rfl, (HU2.out.trans HCB.out).below (Nat.le_refl _) (by simp)⟩
      · have d2 : decide ((3000 : Int) < n) = false := by simp; omega
        go_wp2_with fail
        refine (deflate_fixed A n c zs wb (HI.out _ HCB.out) HZ.out hnc (by omega)).mono ?_
        rintro e w3 ⟨Y, yc, o1, rfl, hown1, hdef1, hol1, hu3⟩
        obtain ⟨y, HY0, hyl, hyb⟩ := hdef1.head1
        have HU3 := Lib.hid (HCB.out.trans hu3)
        have HY := Lib.hid (Ints.ofOwn hown1)
        clear hown1 hdef1 hu3
        go_wp2_with fail
        refine (deflate_dynamic A n c zs w3 (HI.out _ HU3.out) HZ.out hnc (by omega) (HO.out _ HU3.out)).mono ?_
        rintro e w4 ⟨Z, zc, o2, rfl, hown2, hdef2, hol2, hu4⟩
        obtain ⟨z, HZ0, hzl, hzb⟩ := hdef2.head2
        have HU4 := Lib.hid (HU3.out.trans hu4)
        have HY4 := Lib.hid (HY.out.upd hu4 (by simp))
        have HZ4 := Lib.hid (Ints.ofOwn hown2)
        have iy := HY4.out.index el_byte yc .i64 0 hyl
        have iz := HZ4.out.index el_byte zc .i64 0 hzl
        have cy := HY4.out.cell HY0.out
        have cz := HZ4.out.cell HZ0.out
        simp at iy iz cy cz
        clear hown2 hdef2 hu4
        go_wp2
        go_ret
        exact ⟨rfl, (HU2.out.trans HU4.out).below (Nat.le_refl _) (by simp)⟩

end Go.Proofs.YtolcdlopgbgilaaDoor
