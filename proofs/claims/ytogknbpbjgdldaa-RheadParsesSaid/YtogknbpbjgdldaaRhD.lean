/- The walk of rhead.put. -/
import Derived.Test.YtogknbpbjgdldaaRhC
namespace Go.Proofs.Ytogknbpbjgdldaa
open Go.RowKit Go.Dray

/-- Numbers of four bytes each. -/
def be4s (zs : List Int) : List Int := zs.flatMap fun z => beB z 4
theorem be4s_len (zs : List Int) : (be4s zs).length = 4 * zs.length := by
  unfold be4s
  induction zs with
  | nil => rfl
  | cons z zs ih => rw [List.flatMap_cons, List.length_append, ih, beB_len]; simp; omega
theorem be4s_take {zs : List Int} {k : Nat} {z : Int} (h : zs[k]? = some z) : be4s (zs.take (k + 1)) = be4s (zs.take k) ++ beB z 4 := by
  obtain ⟨hk, he⟩ := List.getElem?_eq_some_iff.1 h
  rw [List.take_succ_eq_append_getElem hk, he]
  simp [be4s]

/-- Bytes put behind others. -/
def PutPost (B : Nat) (X : Option Addr) (n : Nat) (ys : List Int) (w : World) (e : Ending) (w' : World) : Prop :=
  ∃ X' c', e = .returned (.slice X' n c') ∧ Own w' B 5 1 X' n c' (ys.map (Value.int .u8)) ∧ Upd [ob X] w w' ∧ Fresh w X X'

theorem fresh_then {w w1 : World} {X X1 X2 : Option Addr} (h1 : Fresh w X X1) (hs : w.heap.size ≤ w1.heap.size) (h2 : Fresh w1 X1 X2) : Fresh w X X2 := fun g hg => by
  rcases h2 g hg with h | h
  · exact h1 g h
  · right; omega
theorem fresh_list {w : World} {X X1 : Option Addr} (h1 : Fresh w X X1) : ∀ b, some b ∈ [ob X1] → some b ∈ [ob X] ∨ w.heap.size ≤ b := fun b hb => by
  simp at hb
  rcases h1 b hb.symm with h | h
  · left; simp [h]
  · right; exact h

set_option maxRecDepth 100000 in
set_option maxHeartbeats 400000 in
theorem put_any (w : World) (B : Nat) (X : Option Addr) (n c : Nat) (bs : List Int) (hX : Own w B 5 1 X n c (bs.map (Value.int .u8))) (hB : B ≤ w.heap.size) (hn : n ≤ 100000000000000)
    (N : Option Addr) (k kc : Nat) (zs : List Int) (hN : Ints .i64 w N k zs) (hz : ∀ z ∈ zs, 0 ≤ z ∧ z ≤ 4294967296) (hk : k ≤ 100) (hne : 0 < k → some (bl N) ∉ [ob X]) :
    Calls Try.prog 18 #[.slice X n c, .slice N k kc] w (PutPost B X (n + 4 * k) (bs ++ be4s zs) w) := by
  have HX := Lib.hid hX
  have HN := Lib.hid hN
  have HZ := Lib.hid hz
  have HNE := Lib.hid hne
  have HL := hN.len
  clear hX hN hz hne
  go_enter Try.func18, Try.ntmps18
  go_wp2
  go_loopw [0, 9] (fun x i wr => ∃ (j : Nat) (Y : Option Addr) (yc : Nat), j ≤ k ∧ i = .int .i64 j ∧ x = .slice Y (n + 4 * j) yc ∧ Hid (Own wr B 5 1 Y (n + 4 * j) yc ((bs ++ be4s (zs.take j)).map (Value.int .u8))) ∧ Hid (Upd [ob X] w wr) ∧ Hid (Fresh w X Y)) (fun _ i _ => k - (intOf i).toNat)
  case atStart => exact ⟨0, X, c, by omega, rfl, rfl, by show Own _ _ _ _ _ _ _ _; simpa [be4s] using HX.out, Upd.refl _ _, fun g hg => Or.inl hg⟩
  case round =>
    obtain ⟨j, Y, yc, hj, rfl, rfl, HO, HU, HF⟩ := hrel
    by_cases hlt : j < k
    · have HNr := Lib.hid (HN.out.upd HU.out HNE.out)
      obtain ⟨z, HZZ, hcell⟩ := HNr.out.int hlt
      have hix := HNr.out.index el_int kc .i64 j hlt
      obtain ⟨hz0, hz1⟩ := HZ.out z (List.mem_of_getElem? HZZ.out)
      go_wp2_with fail
      refine (be_any wr z 4 (by omega) (by omega)).mono ?_
      rintro e w3 ⟨E, ec, rfl, hE, hv3⟩
      have HO3 := Lib.hid (HO.out.upd hv3 (by simp))
      have HU3 := Lib.hid (HU.out.then hv3 (by simp))
      have HE := Lib.hid hE
      have hB3 : B ≤ w3.heap.size := by have h1 := HU3.out.size; omega
      have hs3 : w.heap.size ≤ w3.heap.size := HU3.out.size
      clear hE hv3 HO HU HNr hcell hix
      go_wp2_with (at_builtin; refine wpList_app rfl rfl el_byte rfl HO3.out rfl HE.out.seg (ints_one _ _) (by simp only [maxLen]; omega) (by omega) hB3 ?_; intro Y4 c4 w4 hown4 hu4 hfr4)
      have HO4 : Hid (Own w4 B 5 1 Y4 (n + 4 * (j + 1)) c4 ((bs ++ be4s (zs.take (j + 1))).map (Value.int .u8))) := by
        show Own _ _ _ _ _ _ _ _
        rw [be4s_take HZZ.out, ← List.append_assoc, List.map_append]
        exact hown4
      have HU4 := Lib.hid (HU3.out.then hu4 (fresh_list HF.out))
      have HF4 := Lib.hid (fresh_then HF.out hs3 hfr4)
      clear hown4 hu4 hfr4
      go_roundw
      case rel => exact ⟨j + 1, Y4, c4, by omega, by go_num, rfl, HO4, HU4, HF4⟩
      case measure => simp [intOf]; omega
    · obtain rfl : j = k := by omega
      go_wp2
      go_ret
      refine ⟨Y, yc, rfl, ?_, HU.out, HF.out⟩
      have h := HO.out
      rw [List.take_of_length_le (by rw [HL.out]; omega)] at h
      exact h

end Go.Proofs.Ytogknbpbjgdldaa
