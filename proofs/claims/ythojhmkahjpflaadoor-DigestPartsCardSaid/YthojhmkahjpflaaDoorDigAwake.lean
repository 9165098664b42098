/- The walk of drayagelaw02.awake. -/
import Derived.Test.YthojhmkahjpflaaDoorDigOf
import Derived.Test.YthojhmkahjpflaaDoorDigVal
import Derived.Lib.SlBytesConst
namespace Go.Proofs.YthojhmkahjpflaaDoor
open Go.RowKit Go.Dray

/-- The text of the first four bytes of a sum. -/
theorem four_str {w : World} {B : Nat} {A : Option Addr} {n c : Nat} {zs : List Int} (h : Own w B 5 1 A n c (zs.map (Value.int .u8))) (hn : 4 ≤ n) {s : ByteArray} (hs : strOfNums (zs.take 4) = s) :
    (convert 22 9 (.slice A 4 c)).run Tryd.prog w = .ok (.string s) w := by
  rw [← hs]
  exact ((Ints.ofOwn h).pre hn).str Tryd.underlying22 Tryd.underlying5 Tryd.underlying9 c

/-- A constant's bytes: a new block. -/
theorem Ints.const (w : World) (kd : IntKind) (t : TypeId) (fr : Nat × Nat) (zs : List Int) : Ints kd (w.alloc (.cells (zs.map (Value.int kd)).toArray t fr)) (some ⟨w.heap.size, 0, none⟩) zs.length zs :=
  ⟨by simp, fun _ => rfl, fun k u hu => by
    have hb : (w.alloc (.cells (zs.map (Value.int kd)).toArray t fr)).heap[w.heap.size]? = some (.cells (zs.map (Value.int kd)).toArray t fr) := by
      show (w.heap.push _)[w.heap.size]? = _
      simp
    show (w.alloc _).cell? ⟨w.heap.size, 0 + k, none⟩ = some u
    rw [Nat.zero_add, cell_of_row _ _ _ _ _ _ hb]
    simpa using hu⟩

theorem abc_bd : ∀ z ∈ [97, 98, (99 : Int)], 0 ≤ z ∧ z ≤ 255 := by decide
theorem digits_bd : ∀ z ∈ [49, 50, 51, 52, 53, 54, 55, 56, (57 : Int)], 0 ≤ z ∧ z ≤ 255 := by decide

set_option maxRecDepth 100000 in
set_option maxHeartbeats 400000 in
theorem awake_any (w : World) (hT : Tabs w) : Calls Tryd.prog 7 #[] w fun e w' => e = .returned (.bool true) ∧ Upd [] w w' := by
  have HT := Lib.hid hT
  have kc := fun (w : World) (C : Array Value) (n c : Nat) => Lib.run_convert_bytes_const (P := Tryd.prog) w 22 5 C n c Tryd.underlying22 Tryd.underlying5
  clear hT
  go_enter Tryd.func7, Tryd.ntmps7
  go_wp2_with fail
  have hu0 : Upd [] w (w.alloc (.cells #[.int .u8 97, .int .u8 98, .int .u8 99] 5 (3, 4))) := (Upd.refl _ _).alloc _
  refine (of_ok _ 1 (by unfold IsKind; omega) _ 3 3 [97, 98, 99] (Ints.const w .u8 _ _ [97, 98, 99]) abc_bd (by omega) (HT.out.upd hu0 (by simp)) (by omega)).mono ?_
  rintro e w1 ⟨A1, c1, rfl, ho1, hv1⟩
  have HU1 := Lib.hid (hu0.trans hv1)
  have HO1 := Lib.hid ho1
  clear hu0 hv1 ho1
  go_wp2_with fail
  have hv2 : Upd [] w1 (w1.alloc (.cells #[.int .u8 97, .int .u8 98, .int .u8 99] 5 (3, 4))) := (Upd.refl _ _).alloc _
  refine (of_ok _ 2 (by unfold IsKind; omega) _ 3 3 [97, 98, 99] (Ints.const w1 .u8 _ _ [97, 98, 99]) abc_bd (by omega) ((HT.out.upd HU1.out (by simp)).upd hv2 (by simp)) (by omega)).mono ?_
  rintro e w2 ⟨A2, c2, rfl, ho2, hv⟩
  have HV2 := Lib.hid (hv2.trans hv)
  have HU2 := Lib.hid (HU1.out.trans HV2.out)
  have HO12 := Lib.hid (HO1.out.upd HV2.out (by simp))
  have HO2 := Lib.hid ho2
  clear hv2 hv ho2 HO1 HU1 HV2
  go_wp2_with fail
  have hv3 : Upd [] w2 (w2.alloc (.cells #[.int .u8 97, .int .u8 98, .int .u8 99] 5 (3, 4))) := (Upd.refl _ _).alloc _
  refine (of_ok _ 3 (by unfold IsKind; omega) _ 3 3 [97, 98, 99] (Ints.const w2 .u8 _ _ [97, 98, 99]) abc_bd (by omega) ((HT.out.upd HU2.out (by simp)).upd hv3 (by simp)) (by omega)).mono ?_
  rintro e w3 ⟨A3, c3, rfl, ho3, hv⟩
  have HV3 := Lib.hid (hv3.trans hv)
  have HU3 := Lib.hid (HU2.out.trans HV3.out)
  have HO13 := Lib.hid (HO12.out.upd HV3.out (by simp))
  have HO23 := Lib.hid (HO2.out.upd HV3.out (by simp))
  have HO3 := Lib.hid ho3
  clear hv3 hv ho3 HO12 HO2 HU2 HV3
  have s1 := four_str HO13.out (by decide) (s := ⟨#[144, 1, 80, 152]⟩) (by rw [abc1]; rfl)
  have s2 := four_str HO23.out (by decide) (s := ⟨#[169, 153, 62, 54]⟩) (by rw [abc2]; rfl)
  have s3 := four_str HO3.out (by decide) (s := ⟨#[186, 120, 22, 191]⟩) (by rw [abc3]; rfl)
  have n1 : nwK 1 = 4 := rfl
  have n2 : nwK 2 = 5 := rfl
  have n3 : nwK 3 = 8 := rfl
  have k1 := run_cut_h el_byte A1 16 c1 .i64 4 4 rfl (Nat.le_trans (by decide) HO13.out.le)
  have k2 := run_cut_h el_byte A2 20 c2 .i64 4 4 rfl (Nat.le_trans (by decide) HO23.out.le)
  have k3 := run_cut_h el_byte A3 32 c3 .i64 4 4 rfl (Nat.le_trans (by decide) HO3.out.le)
  have HC : Hid (not32 (crcL 4294967295 [49, 50, 51, 52, 53, 54, 55, 56, 57]) = 3421780262) := abc_crc
  go_wp2_with fail
  refine (crc_any _ 9 9 [49, 50, 51, 52, 53, 54, 55, 56, 57] _ (Ints.const w3 .u8 _ _ [49, 50, 51, 52, 53, 54, 55, 56, 57]) digits_bd (by omega)).mono ?_
  rintro e w' ⟨rfl, rfl⟩
  rw [HC.out]
  clear s1 s2 s3 k1 k2 k3 n1 n2 n3
  go_wp2
  go_ret
  exact ⟨rfl, HU3.out.alloc _⟩

end Go.Proofs.YthojhmkahjpflaaDoor
