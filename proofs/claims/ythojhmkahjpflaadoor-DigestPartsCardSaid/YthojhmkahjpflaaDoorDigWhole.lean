/- The walks of the reference's whole and wordsOf. -/
import Derived.Test.YthojhmkahjpflaaDoorDigSum
namespace Go.Proofs.YthojhmkahjpflaaDoor
open Go.RowKit Go.Dray

set_option maxRecDepth 100000 in
set_option maxHeartbeats 1000000 in
theorem whole1_any (w : World) (A : Option Addr) (n c : Nat) (zs : List Int) (hs : Ints .u8 w A n zs) (hn : n ≤ 1000000000000) :
    Calls Tryd.prog 16 #[.slice A n c, .bool true] w (NewBytes (n + 1 + padN n + 8) (padded 1 zs) w) := by
  have HS := Lib.hid hs
  have HL := hs.len
  clear hs
  go_enter Tryd.func16, Tryd.ntmps16
  go_upto_region 2 with (at_builtin; refine wpList_app rfl rfl el_byte rfl (Own.empty w w.heap.size _ (Nat.le_refl _)) rfl (Seg.upd HS.out ((Upd.refl [] w).alloc _) (by omega) (by simp)) (ints_one _ _) (by simp only [maxLen]; omega) (by omega) (by simp) ?_; intro X1 c1 w1 hown1 hu1 hfr1; have HO1 := Lib.hid hown1; have HU1 : Hid (Upd [] w w1) := ((Upd.refl [] w).alloc _).then hu1 (by intro b hb; right; simp [ob] at hb; omega); clear hown1 hu1 hfr1; rw [Nat.zero_add, List.nil_append] at *)
  have HS1 := Lib.hid (HS.out.upd HU1.out (by simp))
  clear HS
  have hB1 : w.heap.size ≤ w1.heap.size := HU1.out.size
  go_wp2_with (at_builtin; refine wpList_app rfl rfl el_byte rfl (HO1.out.alloc _) rfl (Seg.one _ _ _) (by intro u hu; simp at hu; subst hu; rfl) (by simp only [maxLen]; omega) (by omega) (by simp; omega) ?_; intro X2 c2 w2 hown2 hu2 hfr2)
  have HV2 : Hid (Upd [ob X1] w1 w2) := ((Upd.refl _ _).alloc _).trans hu2
  have HU2 : Hid (Upd [] w w2) := HU1.out.then HV2.out (by intro b hb; simp at hb; right; exact (HO1.out.base hb.symm).1)
  have HO2 : Hid (Own w2 w.heap.size 5 1 X2 (n + 1) c2 ((zs ++ [128] ++ List.replicate 0 0).map (Value.int .u8))) := by
    show Own _ _ _ _ _ _ _ _
    simpa using hown2
  clear hown2 hu2 hfr2 HV2 hB1
  obtain ⟨P, HP⟩ : ∃ P, Hid (P = padN n) := ⟨_, rfl⟩
  have hpl : P < 64 := by rw [HP.out]; exact (padN_spec n).2
  go_loopw [5] (fun x wr => ∃ (j : Nat) (X : Option Addr) (xc : Nat), j ≤ P ∧ x = .slice X (n + 1 + j) xc ∧ Hid (Own wr w.heap.size 5 1 X (n + 1 + j) xc ((zs ++ [128] ++ List.replicate j 0).map (Value.int .u8))) ∧ Hid (Upd [] w wr)) (fun x _ => match x with | .slice _ m _ => n + 100 - m | _ => 0)
  case atStart => exact ⟨0, X2, c2, by omega, rfl, HO2, HU2⟩
  case round =>
    clear HO2 HU2 HO1 HU1 HS1
    obtain ⟨j, X, xc, hj, rfl, HO, HU⟩ := hrel
    by_cases hlt : j < P
    · have d1 : (((n : Int) + 1 + j) % 64 != 56) = true := by
        have h2 := HP.out
        unfold padN at h2
        simp
        omega
      have hB1 : w.heap.size ≤ wr.heap.size := HU.out.size
      go_wp2_with (at_builtin; refine wpList_app rfl rfl el_byte rfl (HO.out.alloc _) rfl (Seg.one _ _ _) (by intro u hu; simp at hu; subst hu; rfl) (by simp only [maxLen]; omega) (by omega) (by simp; omega) ?_; intro X3 c3 w3 hown3 hu3 hfr3)
      have HV3 : Hid (Upd [ob X] wr w3) := ((Upd.refl _ _).alloc _).trans hu3
      have HU3 : Hid (Upd [] w w3) := HU.out.then HV3.out (by intro b hb; simp at hb; right; exact (HO.out.base hb.symm).1)
      have HO3 : Hid (Own w3 w.heap.size 5 1 X3 (n + 1 + (j + 1)) c3 ((zs ++ [128] ++ List.replicate (j + 1) 0).map (Value.int .u8))) := by
        show Own _ _ _ _ _ _ _ _
        rw [List.replicate_succ', ← List.append_assoc, List.map_append]
        exact hown3
      clear hown3 hu3 hfr3
      go_roundw
      case rel => exact ⟨j + 1, X3, c3, by omega, rfl, HO3, HU3⟩
      case measure => simp; omega
    · obtain rfl : j = P := by omega
      have d1 : (((n : Int) + 1 + j) % 64 != 56) = false := by
        have h2 := HP.out
        unfold padN at h2
        simp
        omega
      go_wp2_with fail
      refine (rbe_any wr ((n : Int) * 8) 8 (by omega) (by omega) (by omega) (by omega)).mono ?_
      rintro e w6 ⟨NA, nc, rfl, hno, hv6⟩
      have HO6 := Lib.hid (HO.out.upd hv6 (by simp))
      have HU6 := Lib.hid (HU.out.trans hv6)
      have HNO := Lib.hid hno
      clear hno hv6 HO HU d1
      go_wp2_with fail
      refine (turned_any NA 8 nc _ w6 (Ints.ofOwn HNO.out) (by omega)).mono ?_
      rintro e w7 ⟨NB, nd, rfl, hno, hv7⟩
      have HO7 := Lib.hid (HO6.out.upd hv7 (by simp))
      have HU7 := Lib.hid (HU6.out.trans hv7)
      have HNQ : Hid (Own w7 w6.heap.size 5 1 NB 8 nd ((leB ((n : Int) * 8) 8).map (Value.int .u8))) := by
        have h := hno
        unfold beB at h
        rw [List.reverse_reverse] at h
        exact h
      clear hno hv7 HO6 HU6 HNO
      go_wp2_with (at_builtin; refine wpList_app rfl rfl el_byte rfl HO7.out rfl HNQ.out.seg (ints_one _ _) (by simp only [maxLen]; omega) (by omega) HU7.out.size ?_; intro X9 c9 w9 hown9 hu9 hfr9)
      have HU9 := Lib.hid (HU7.out.then hu9 (fun b hb => by simp at hb; right; exact (HO7.out.base hb.symm).1))
      have HO9 := Lib.hid hown9
      clear hown9 hu9 hfr9
      rw [HP.out] at HO9 ⊢
      go_ret
      refine ⟨X9, c9, rfl, ?_, HU9.out⟩
      have h := HO9.out
      rw [← List.map_append] at h
      have e : zs ++ [128] ++ List.replicate (padN n) 0 ++ leB ((n : Int) * 8) 8 = padded 1 zs := by
        unfold padded numB
        rw [HL.out, Int.mul_comm]
        rfl
      rw [e] at h
      exact h

set_option maxRecDepth 100000 in
set_option maxHeartbeats 1000000 in
theorem whole0_any (w : World) (kind : Int) (hkd : kind ≠ 1) (A : Option Addr) (n c : Nat) (zs : List Int) (hs : Ints .u8 w A n zs) (hn : n ≤ 1000000000000) :
    Calls Tryd.prog 16 #[.slice A n c, .bool false] w (NewBytes (n + 1 + padN n + 8) (padded kind zs) w) := by
  have HS := Lib.hid hs
  have HL := hs.len
  have HKD := Lib.hid hkd
  clear hkd
  clear hs
  go_enter Tryd.func16, Tryd.ntmps16
  go_upto_region 2 with (at_builtin; refine wpList_app rfl rfl el_byte rfl (Own.empty w w.heap.size _ (Nat.le_refl _)) rfl (Seg.upd HS.out ((Upd.refl [] w).alloc _) (by omega) (by simp)) (ints_one _ _) (by simp only [maxLen]; omega) (by omega) (by simp) ?_; intro X1 c1 w1 hown1 hu1 hfr1; have HO1 := Lib.hid hown1; have HU1 : Hid (Upd [] w w1) := ((Upd.refl [] w).alloc _).then hu1 (by intro b hb; right; simp [ob] at hb; omega); clear hown1 hu1 hfr1; rw [Nat.zero_add, List.nil_append] at *)
  have HS1 := Lib.hid (HS.out.upd HU1.out (by simp))
  clear HS
  have hB1 : w.heap.size ≤ w1.heap.size := HU1.out.size
  go_wp2_with (at_builtin; refine wpList_app rfl rfl el_byte rfl (HO1.out.alloc _) rfl (Seg.one _ _ _) (by intro u hu; simp at hu; subst hu; rfl) (by simp only [maxLen]; omega) (by omega) (by simp; omega) ?_; intro X2 c2 w2 hown2 hu2 hfr2)
  have HV2 : Hid (Upd [ob X1] w1 w2) := ((Upd.refl _ _).alloc _).trans hu2
  have HU2 : Hid (Upd [] w w2) := HU1.out.then HV2.out (by intro b hb; simp at hb; right; exact (HO1.out.base hb.symm).1)
  have HO2 : Hid (Own w2 w.heap.size 5 1 X2 (n + 1) c2 ((zs ++ [128] ++ List.replicate 0 0).map (Value.int .u8))) := by
    show Own _ _ _ _ _ _ _ _
    simpa using hown2
  clear hown2 hu2 hfr2 HV2 hB1
  obtain ⟨P, HP⟩ : ∃ P, Hid (P = padN n) := ⟨_, rfl⟩
  have hpl : P < 64 := by rw [HP.out]; exact (padN_spec n).2
  go_loopw [5] (fun x wr => ∃ (j : Nat) (X : Option Addr) (xc : Nat), j ≤ P ∧ x = .slice X (n + 1 + j) xc ∧ Hid (Own wr w.heap.size 5 1 X (n + 1 + j) xc ((zs ++ [128] ++ List.replicate j 0).map (Value.int .u8))) ∧ Hid (Upd [] w wr)) (fun x _ => match x with | .slice _ m _ => n + 100 - m | _ => 0)
  case atStart => exact ⟨0, X2, c2, by omega, rfl, HO2, HU2⟩
  case round =>
    clear HO2 HU2 HO1 HU1 HS1
    obtain ⟨j, X, xc, hj, rfl, HO, HU⟩ := hrel
    by_cases hlt : j < P
    · have d1 : (((n : Int) + 1 + j) % 64 != 56) = true := by
        have h2 := HP.out
        unfold padN at h2
        simp
        omega
      have hB1 : w.heap.size ≤ wr.heap.size := HU.out.size
      go_wp2_with (at_builtin; refine wpList_app rfl rfl el_byte rfl (HO.out.alloc _) rfl (Seg.one _ _ _) (by intro u hu; simp at hu; subst hu; rfl) (by simp only [maxLen]; omega) (by omega) (by simp; omega) ?_; intro X3 c3 w3 hown3 hu3 hfr3)
      have HV3 : Hid (Upd [ob X] wr w3) := ((Upd.refl _ _).alloc _).trans hu3
      have HU3 : Hid (Upd [] w w3) := HU.out.then HV3.out (by intro b hb; simp at hb; right; exact (HO.out.base hb.symm).1)
      have HO3 : Hid (Own w3 w.heap.size 5 1 X3 (n + 1 + (j + 1)) c3 ((zs ++ [128] ++ List.replicate (j + 1) 0).map (Value.int .u8))) := by
        show Own _ _ _ _ _ _ _ _
        rw [List.replicate_succ', ← List.append_assoc, List.map_append]
        exact hown3
      clear hown3 hu3 hfr3
      go_roundw
      case rel => exact ⟨j + 1, X3, c3, by omega, rfl, HO3, HU3⟩
      case measure => simp; omega
    · obtain rfl : j = P := by omega
      have d1 : (((n : Int) + 1 + j) % 64 != 56) = false := by
        have h2 := HP.out
        unfold padN at h2
        simp
        omega
      go_wp2_with fail
      refine (rbe_any wr ((n : Int) * 8) 8 (by omega) (by omega) (by omega) (by omega)).mono ?_
      rintro e w6 ⟨NA, nc, rfl, hno, hv6⟩
      have HO6 := Lib.hid (HO.out.upd hv6 (by simp))
      have HU6 := Lib.hid (HU.out.trans hv6)
      have HNO := Lib.hid hno
      clear hno hv6 HO HU d1
      go_wp2_with (at_builtin; refine wpList_app rfl rfl el_byte rfl HO6.out rfl HNO.out.seg (ints_one _ _) (by simp only [maxLen]; omega) (by omega) HU6.out.size ?_; intro X9 c9 w9 hown9 hu9 hfr9)
      have HU9 := Lib.hid (HU6.out.then hu9 (fun b hb => by simp at hb; right; exact (HO6.out.base hb.symm).1))
      have HO9 := Lib.hid hown9
      clear hown9 hu9 hfr9
      rw [HP.out] at HO9 ⊢
      go_ret
      refine ⟨X9, c9, rfl, ?_, HU9.out⟩
      have h := HO9.out
      rw [← List.map_append] at h
      have e : zs ++ [128] ++ List.replicate (padN n) 0 ++ beB ((n : Int) * 8) (8 : Int).toNat = padded kind zs := by
        unfold padded numB
        rw [HL.out, Int.mul_comm]
        rw [if_neg HKD.out]; rfl
      rw [e] at h
      exact h

set_option maxRecDepth 100000 in
set_option maxHeartbeats 1000000 in
theorem wordsOf1_any (w : World) (A : Option Addr) (c : Nat) (zs : List Int) (hs : Ints .u8 w A 64 zs) (hz : ∀ z ∈ zs, 0 ≤ z ∧ z ≤ 255) (hnc : 64 ≤ c) :
    Calls Tryd.prog 17 #[.slice A 64 c, .bool true] w (NewWords 16 (wordsK 1 zs) w) := by
  have HS := Lib.hid hs
  have HZ := Lib.hid hz
  clear hs hz
  go_enter Tryd.func17, Tryd.ntmps17
  go_wp2_with fail
  go_loopw [5, 6] (fun x i wr => ∃ (k : Nat) (X : Option Addr) (xc : Nat), k ≤ 16 ∧ i = .int .i64 k ∧ x = .slice X k xc ∧ Hid (Own wr w.heap.size 24 1 X k xc (((wordsK 1 zs).take k).map (Value.int .u32))) ∧ Hid (Upd [] w wr)) (fun _ i _ => 16 - (intOf i).toNat)
  case atStart => exact ⟨0, none, 0, by omega, rfl, rfl, Own.nil _ _ _ _, Upd.refl _ _⟩
  case round =>
    obtain ⟨k, X, xc, hk, rfl, rfl, HO, HU⟩ := hrel
    by_cases hlt : k < 16
    · have HSr := Lib.hid (HS.out.upd HU.out (by simp))
      go_wp2_with fail
      refine (rgetBe_ok A 64 c zs (4 * (k : Int)) 4 wr HSr.out HZ.out (by omega) (by omega) (by omega) (by omega) (by omega)).mono ?_
      rintro e w' ⟨rfl, rfl⟩
      go_wp2_with fail
      refine (rgetLe_ok A 64 c zs (4 * (k : Int)) 4 wr HSr.out HZ.out (by omega) (by omega) (by omega) (by omega) (by omega) (by omega)).mono ?_
      rintro e w5 ⟨rfl, hv5⟩
      have HO5 := Lib.hid (HO.out.upd hv5 (by simp))
      have HU5 := Lib.hid (HU.out.trans hv5)
      clear HO HU hv5 HSr
      obtain ⟨x, HX⟩ : ∃ x, Hid (x = wordK 1 zs k) := ⟨_, rfl⟩
      have HE : Hid (leNum ((zs.drop (4 * (k : Int)).toNat).take (4 : Int).toNat) = x) := by
        show _ = _
        rw [HX.out, show (4 * (k : Int)).toNat = 4 * k from by omega]
        unfold wordK
        rfl
      rw [HE.out]
      have hxb := wordK_bd 1 HZ.out k
      rw [← HX.out] at hxb
      have hx0 := hxb.1
      have hx1 := hxb.2
      have hB1 : w.heap.size ≤ w5.heap.size := HU5.out.size
      clear hxb
      go_wp2_with (at_builtin; refine wpList_app rfl rfl el_u32 rfl (HO5.out.alloc _) rfl (Seg.one _ _ _) (by intro u hu; simp at hu; subst hu; rfl) (by simp only [maxLen]; omega) (by omega) (by simp; omega) ?_; intro X3 c3 w3 hown3 hu3 hfr3)
      have HV3 : Hid (Upd [ob X] w5 w3) := ((Upd.refl _ _).alloc _).trans hu3
      have HU3 : Hid (Upd [] w w3) := HU5.out.then HV3.out (by intro b hb; simp at hb; right; exact (HO5.out.base hb.symm).1)
      have HO3 : Hid (Own w3 w.heap.size 24 1 X3 (k + 1) c3 (((wordsK 1 zs).take (k + 1)).map (Value.int .u32))) := by
        show Own _ _ _ _ _ _ _ _
        rw [wordsK_take _ _ hlt, List.map_append, ← HX.out]
        exact hown3
      clear hown3 hu3 hfr3
      go_roundw
      case rel => exact ⟨k + 1, X3, c3, by omega, by go_num, rfl, HO3, HU3⟩
      case measure => simp [intOf]; omega
    · obtain rfl : k = 16 := by omega
      go_wp2
      go_ret
      refine ⟨X, xc, rfl, ?_, HU.out⟩
      have h := HO.out
      rw [List.take_of_length_le (by rw [wordsK_len]; omega)] at h
      exact h

set_option maxRecDepth 100000 in
set_option maxHeartbeats 1000000 in
theorem wordsOf0_any (w : World) (kind : Int) (hkd : kind ≠ 1) (A : Option Addr) (c : Nat) (zs : List Int) (hs : Ints .u8 w A 64 zs) (hz : ∀ z ∈ zs, 0 ≤ z ∧ z ≤ 255) :
    Calls Tryd.prog 17 #[.slice A 64 c, .bool false] w (NewWords 16 (wordsK kind zs) w) := by
  have HS := Lib.hid hs
  have HZ := Lib.hid hz
  have HKD := Lib.hid hkd
  clear hkd
  clear hs hz
  go_enter Tryd.func17, Tryd.ntmps17
  go_wp2_with fail
  go_loopw [5, 6] (fun x i wr => ∃ (k : Nat) (X : Option Addr) (xc : Nat), k ≤ 16 ∧ i = .int .i64 k ∧ x = .slice X k xc ∧ Hid (Own wr w.heap.size 24 1 X k xc (((wordsK kind zs).take k).map (Value.int .u32))) ∧ Hid (Upd [] w wr)) (fun _ i _ => 16 - (intOf i).toNat)
  case atStart => exact ⟨0, none, 0, by omega, rfl, rfl, Own.nil _ _ _ _, Upd.refl _ _⟩
  case round =>
    obtain ⟨k, X, xc, hk, rfl, rfl, HO, HU⟩ := hrel
    by_cases hlt : k < 16
    · have HSr := Lib.hid (HS.out.upd HU.out (by simp))
      go_wp2_with fail
      refine (rgetBe_ok A 64 c zs (4 * (k : Int)) 4 wr HSr.out HZ.out (by omega) (by omega) (by omega) (by omega) (by omega)).mono ?_
      rintro e w' ⟨rfl, rfl⟩
      obtain ⟨x, HX⟩ : ∃ x, Hid (x = wordK kind zs k) := ⟨_, rfl⟩
      have HE : Hid (beNum ((zs.drop (4 * (k : Int)).toNat).take (4 : Int).toNat) = x) := by
        show _ = _
        rw [HX.out, show (4 * (k : Int)).toNat = 4 * k from by omega]
        unfold wordK
        rw [if_neg HKD.out]; rfl
      rw [HE.out]
      have hxb := wordK_bd kind HZ.out k
      rw [← HX.out] at hxb
      have hx0 := hxb.1
      have hx1 := hxb.2
      have hB1 : w.heap.size ≤ wr.heap.size := HU.out.size
      clear hxb
      go_wp2_with (at_builtin; refine wpList_app rfl rfl el_u32 rfl (HO.out.alloc _) rfl (Seg.one _ _ _) (by intro u hu; simp at hu; subst hu; rfl) (by simp only [maxLen]; omega) (by omega) (by simp; omega) ?_; intro X3 c3 w3 hown3 hu3 hfr3)
      have HV3 : Hid (Upd [ob X] wr w3) := ((Upd.refl _ _).alloc _).trans hu3
      have HU3 : Hid (Upd [] w w3) := HU.out.then HV3.out (by intro b hb; simp at hb; right; exact (HO.out.base hb.symm).1)
      have HO3 : Hid (Own w3 w.heap.size 24 1 X3 (k + 1) c3 (((wordsK kind zs).take (k + 1)).map (Value.int .u32))) := by
        show Own _ _ _ _ _ _ _ _
        rw [wordsK_take _ _ hlt, List.map_append, ← HX.out]
        exact hown3
      clear hown3 hu3 hfr3
      go_roundw
      case rel => exact ⟨k + 1, X3, c3, by omega, by go_num, rfl, HO3, HU3⟩
      case measure => simp [intOf]; omega
    · obtain rfl : k = 16 := by omega
      go_wp2
      go_ret
      refine ⟨X, xc, rfl, ?_, HU.out⟩
      have h := HO.out
      rw [List.take_of_length_le (by rw [wordsK_len]; omega)] at h
      exact h

end Go.Proofs.YthojhmkahjpflaaDoor
