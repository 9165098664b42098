/- The walk of rhead.parseTag. -/
import Derived.Test.YtogknbpbjgdldaaRhH
import Derived.Deep.RegionLaw
namespace Go.Proofs.Ytogknbpbjgdldaa
open Go.RowKit Go.Dray

/-- Texts with noughts behind them. -/
def textsR : List Int → Nat → Option (List ByteArray)
  | _, 0 => some []
  | d, c + 1 => if noughtAt d < d.length then (textsR (d.drop (noughtAt d + 1)) c).map (strOfNums (d.take (noughtAt d)) :: ·) else none
/-- What a tag says, at a place of the data. -/
def sayV (tg ty : Int) (d : List Int) (fr cnt : Nat) : Except Int TagV :=
  if cnt = 0 ∨ (ty = 6 ∧ cnt ≠ 1) ∨ fr % sizeT ty ≠ 0 then .error 3
  else if d.length < fr then .error 2
  else if numT ty = true then
    (if (d.drop fr).length < cnt * sizeT ty then .error 2 else if (numsV (d.drop fr) (sizeT ty) cnt).all (fun z => decide (z ≤ 9223372036854775807)) = true then .ok ⟨tg, ty, numsV (d.drop fr) (sizeT ty) cnt, [], []⟩ else .error 3)
  else if ty = 7 then (if (d.drop fr).length < cnt then .error 2 else .ok ⟨tg, ty, [], [], (d.drop fr).take cnt⟩)
  else match textsR (d.drop fr) cnt with
    | none => .error 2
    | some ss => .ok ⟨tg, ty, [], ss, []⟩
/-- The tag of an index entry. -/
def tagV (b : List Int) (k : Nat) (d : List Int) : Except Int TagV :=
  if num4 b k < 100 ∨ 2147483647 < num4 b k then .error 1 else if num4 b (k + 4) < 1 ∨ 9 < num4 b (k + 4) then .error 9
  else sayV (num4 b k) (num4 b (k + 4)) d (num4 b (k + 8)).toNat (num4 b (k + 12)).toNat
def TagVPost (r : Except Int TagV) (w : World) (e : Ending) (w' : World) : Prop := match r with
  | .error c => e = .returned (noTag c) ∧ Upd [] w w'
  | .ok t => TagPost t w e w'

theorem number_int (A : Option Addr) (n c : Nat) (b : List Int) (x : Int) (k : Nat) (hx : x = k) (w : World) (hs : Ints .u8 w A n b) (hb : ∀ z ∈ b, 0 ≤ z ∧ z ≤ 255) (hnc : n ≤ c) (hn : n ≤ 100000000000000) (hk : k + 4 ≤ n) :
    Calls Try.prog 26 #[.slice A n c, .int .i64 x] w fun e w' => e = .returned (.int .i64 (num4 b k)) ∧ w = w' := by
  subst hx
  exact number_any A n c b k w hs hb hnc hn hk

theorem cut_from {w : World} {A : Option Addr} {n : Nat} {zs : List Int} (h : Ints .u8 w A n zs) {c k : Nat} (hk : k ≤ n) (hc : n ≤ c) : Ints .u8 w (cutA 1 A c k) (n - k) (zs.drop k) := by
  have h1 := h.cut (lo := k) (hi := n) (c := c) hk (Nat.le_refl _) hc
  rw [List.take_of_length_le (by rw [List.length_drop, h.len.out]; omega)] at h1
  exact h1
theorem nums_all {d : List Int} {s cnt : Nat} : (numsV d s cnt).all (fun z => decide (z ≤ 9223372036854775807)) = true ↔ ∀ i, i < cnt → numV d s i ≤ 9223372036854775807 := by
  rw [List.all_eq_true]
  constructor
  · intro h i hi
    have := h (numV d s i) (by unfold numsV tab; exact List.mem_map.2 ⟨i, List.mem_range.2 hi, rfl⟩)
    simpa using this
  · intro h z hz
    unfold numsV tab at hz
    obtain ⟨i, hi, rfl⟩ := List.mem_map.1 hz
    simpa using h i (List.mem_range.1 hi)
/-- Where the first nought stands. -/
theorem index_nought (zs : List Int) (h : ∀ z ∈ zs, 0 ≤ z ∧ z ≤ 255) : Lib.indexByte (Lib.bytesOf zs) 0 = if noughtAt zs < zs.length then (noughtAt zs : Int) else -1 := by
  induction zs with
  | nil => rfl
  | cons z zs ih =>
    have hz := h z (by simp)
    have ih := ih fun y hy => h y (by simp [hy])
    unfold Lib.bytesOf at ih ⊢
    rw [List.map_cons]
    unfold Lib.indexByte
    rw [ih]
    unfold noughtAt
    rw [List.findIdx_cons, List.length_cons]
    generalize List.findIdx (fun x => x == 0) zs = q
    have e0 : (UInt8.ofNat z.toNat).toNat = z.toNat := by
      rw [UInt8.toNat_ofNat']
      omega
    by_cases h0 : z = 0
    · subst h0
      simp
    · have e1 : (UInt8.ofNat z.toNat == 0) = false := by
        have h2 : UInt8.ofNat z.toNat ≠ 0 := fun e => by
          have h3 := congrArg UInt8.toNat e
          rw [e0] at h3
          have h4 : (0 : UInt8).toNat = 0 := rfl
          omega
        simpa using h2
      have e2 : (z == 0) = false := by simpa using h0
      rw [e1, e2]
      by_cases h3 : q < zs.length
      · have h4 : ((q : Int) == -1) = false := by simp
        simp [h3, h4]
      · simp [h3]

theorem indexByte_any (a : Addr) (n c : Nat) (zs : List Int) (w : World) (hs : Ints .u8 w (some a) n zs) (hz : ∀ z ∈ zs, 0 ≤ z ∧ z ≤ 255) :
    Calls Try.prog 39 #[.slice (some a) n c, .int .u8 0] w fun e w' => e = .returned (.int .i64 (if noughtAt zs < zs.length then (noughtAt zs : Int) else -1)) ∧ w = w' := by
  have hl := hs.len.out
  refine (Try.bytes_IndexByte_at a n c zs 0 w hl (fun i hi => ?_)).mono fun e w' ⟨he, hw⟩ => ⟨?_, hw.symm⟩
  · obtain ⟨x, hx, hcell⟩ := hs.int hi
    have hA := Seg.at_ hs (by omega)
    injection hA with hA
    rw [hA, Addr.add_lit]
    rw [hcell]
    simp [List.getD, hx.out]
  · rw [he, ← index_nought zs hz]
    rfl

theorem cut_some {A : Option Addr} {a : Addr} (h : A = some a) (c lo : Nat) : ∃ a', cutA 1 A c lo = some a' := by
  subst h
  unfold cutA
  split
  · exact ⟨_, rfl⟩
  · exact ⟨_, rfl⟩

/-- A slice of the call's own, behind stores into the block of the result. -/
theorem own9 {w w0 w9 : World} {B R : Nat} {e t : TypeId} {A : Option Addr} {n c : Nat} {xs : List Value} {cs : Array Value} (h : Own w B e 1 A n c xs) (hB : w0.heap.size ≤ B) (hv : Upd [some R] w w9) (hr : Blk w R t cs) (hne : e ≠ t) : Own w9 w0.heap.size e 1 A n c xs :=
  (h.monoB hB).upd hv (fun b hb => by simp; intro e; subst e; exact h.neBlk hr hne hb)

set_option maxRecDepth 100000 in
set_option maxHeartbeats 2000000 in
theorem parseTag_any (w : World) (A : Option Addr) (n c : Nat) (b : List Int) (hA : Ints .u8 w A n b) (hb : ∀ z ∈ b, 0 ≤ z ∧ z ≤ 255) (hnc : n ≤ c) (hn : n ≤ 100000000) (k : Nat) (hk : k + 16 ≤ n)
    (D : Option Addr) (m dc : Nat) (d : List Int) (hD : Ints .u8 w D m d) (hd : ∀ z ∈ d, 0 ≤ z ∧ z ≤ 255) (hmc : m ≤ dc) (hm : m ≤ 100000000) (hDs : ∃ a, D = some a) :
    Calls Try.prog 28 #[.slice A n c, .int .i64 k, .slice D m dc] w (TagVPost (tagV b k d) w) := by
  have HA := Lib.hid hA
  have HBB := Lib.hid hb
  have HD := Lib.hid hD
  have HDB := Lib.hid hd
  have HDL := hD.len
  clear hA hb hD hd
  obtain ⟨tg, HTG⟩ : ∃ tg, Hid (tg = num4 b k) := ⟨_, rfl⟩
  obtain ⟨ty, HTY⟩ : ∃ ty, Hid (ty = num4 b (k + 4)) := ⟨_, rfl⟩
  obtain ⟨fr, HFR⟩ : ∃ fr : Nat, Hid ((fr : Int) = num4 b (k + 8)) := ⟨(num4 b (k + 8)).toNat, by have := (num4_bd HBB.out (k + 8)).1; show _ = _; omega⟩
  obtain ⟨cnt, HCN⟩ : ∃ cnt : Nat, Hid ((cnt : Int) = num4 b (k + 12)) := ⟨(num4 b (k + 12)).toNat, by have := (num4_bd HBB.out (k + 12)).1; show _ = _; omega⟩
  have hfrb : fr ≤ 4294967295 := by have h1 := (num4_bd HBB.out (k + 8)).2; have h2 := HFR.out; omega
  have hcnb : cnt ≤ 4294967295 := by have h1 := (num4_bd HBB.out (k + 12)).2; have h2 := HCN.out; omega
  have HTV : Hid (tagV b k d = if tg < 100 ∨ 2147483647 < tg then .error 1 else if ty < 1 ∨ 9 < ty then .error 9 else sayV tg ty d fr cnt) := by
    show _ = _
    unfold tagV
    rw [← HTG.out, ← HTY.out, ← HFR.out, ← HCN.out, Int.toNat_natCast, Int.toNat_natCast]
  go_enter Try.func28, Try.ntmps28
  go_wp2_with fail
  have hv0 : Upd [] w (w.alloc (.cells #[.int .i64 0, .int .i64 0, .slice none 0 0, .slice none 0 0, .slice none 0 0] 40)) := (Upd.refl _ _).alloc _
  have HA0 := Lib.hid (HA.out.upd hv0 (by simp))
  clear hv0
  refine (number_int A n c b (k : Int) k rfl _ HA0.out HBB.out hnc (by omega) (by omega)).mono ?_
  rintro e w' ⟨rfl, rfl⟩
  rw [← HTG.out]
  go_wp2_with fail
  refine (number_int A n c b ((k : Int) + 4) (k + 4) (by omega) _ HA0.out HBB.out hnc (by omega) (by omega)).mono ?_
  rintro e w' ⟨rfl, rfl⟩
  rw [← HTY.out]
  go_upto_region 2 with (fail)
  obtain ⟨R, HRR⟩ : ∃ R, Hid (R = w.heap.size) := ⟨_, rfl⟩
  have HRK : Hid (Blk ((w.alloc (.cells #[.int .i64 0, .int .i64 0, .slice none 0 0, .slice none 0 0, .slice none 0 0] 40)).alloc (.cells #[.int .i64 tg, .int .i64 ty, .slice none 0 0, .slice none 0 0, .slice none 0 0] 40)) w.heap.size 40 #[.int .i64 0, .int .i64 0, .slice none 0 0, .slice none 0 0, .slice none 0 0]) := (Blk.new _ _ _).alloc _
  have HBK : Hid (Blk ((w.alloc (.cells #[.int .i64 0, .int .i64 0, .slice none 0 0, .slice none 0 0, .slice none 0 0] 40)).alloc (.cells #[.int .i64 tg, .int .i64 ty, .slice none 0 0, .slice none 0 0, .slice none 0 0] 40)) (w.heap.size + 1) 40 #[.int .i64 tg, .int .i64 ty, .slice none 0 0, .slice none 0 0, .slice none 0 0]) := by
    have := Blk.new (w.alloc (.cells #[.int .i64 0, .int .i64 0, .slice none 0 0, .slice none 0 0, .slice none 0 0] 40)) 40 #[.int .i64 tg, .int .i64 ty, .slice none 0 0, .slice none 0 0, .slice none 0 0]
    simp at this
    exact this
  have HU1 : Hid (Upd [] w ((w.alloc (.cells #[.int .i64 0, .int .i64 0, .slice none 0 0, .slice none 0 0, .slice none 0 0] 40)).alloc (.cells #[.int .i64 tg, .int .i64 ty, .slice none 0 0, .slice none 0 0, .slice none 0 0] 40))) := ((Upd.refl _ _).alloc _).alloc _
  rw [← HRR.out] at HBK HRK ⊢
  generalize hw1 : World.alloc (w.alloc _) _ = w1 at *
  have HA1 := Lib.hid (HA.out.upd HU1.out (by simp))
  have HD1 := Lib.hid (HD.out.upd HU1.out (by simp))
  clear hw1 HA0
  go_wp2_with fail
  refine (number_int A n c b ((k : Int) + 8) (k + 8) (by omega) _ HA1.out HBB.out hnc (by omega) (by omega)).mono ?_
  rintro e w' ⟨rfl, rfl⟩
  rw [← HFR.out]
  go_wp2_with fail
  refine (number_int A n c b ((k : Int) + 12) (k + 12) (by omega) _ HA1.out HBB.out hnc (by omega) (by omega)).mono ?_
  rintro e w' ⟨rfl, rfl⟩
  rw [← HCN.out]
  have z0 : w1.cell? ⟨R, 0, none⟩ = some (.int .i64 0) := by rw [HRK.out.cell]; rfl
  have z1 : w1.cell? ⟨R, 1, none⟩ = some (.int .i64 0) := by rw [HRK.out.cell]; rfl
  have z2 : w1.cell? ⟨R, 2, none⟩ = some (.slice none 0 0) := by rw [HRK.out.cell]; rfl
  have z3 : w1.cell? ⟨R, 3, none⟩ = some (.slice none 0 0) := by rw [HRK.out.cell]; rfl
  have z4 : w1.cell? ⟨R, 4, none⟩ = some (.slice none 0 0) := by rw [HRK.out.cell]; rfl
  have fz := HRK.out.frozen
  have e0 : w1.cell? ⟨R + 1, 0, none⟩ = some (.int .i64 tg) := by rw [HBK.out.cell]; rfl
  have e1 : w1.cell? ⟨R + 1, 1, none⟩ = some (.int .i64 ty) := by rw [HBK.out.cell]; rfl
  have e2 : w1.cell? ⟨R + 1, 2, none⟩ = some (.slice none 0 0) := by rw [HBK.out.cell]; rfl
  have e3 : w1.cell? ⟨R + 1, 3, none⟩ = some (.slice none 0 0) := by rw [HBK.out.cell]; rfl
  have e4 : w1.cell? ⟨R + 1, 4, none⟩ = some (.slice none 0 0) := by rw [HBK.out.cell]; rfl
  by_cases b0 : tg < 100
  · have d0 : decide (tg < 100) = true := by simpa using b0
    go_wp2
    have HK9 := Lib.hid (blk_set5 (y0 := .int .i64 0) (y1 := .int .i64 0) (y2 := .slice none 0 0) (y3 := .slice none 0 0) (y4 := .slice none 0 0) HRK.out)
    have HU9 := Lib.hid (upd_set5 (g := R) (y0 := .int .i64 0) (y1 := .int .i64 0) (y2 := .slice none 0 0) (y3 := .slice none 0 0) (y4 := .slice none 0 0) HU1.out (by have := HRR.out; omega))
    generalize hw9 : World.setCell _ _ _ = w9 at *
    have y0 : w9.cell? ⟨R, 0, none⟩ = some (.int .i64 0) := by rw [HK9.out.cell]; rfl
    have y1 : w9.cell? ⟨R, 1, none⟩ = some (.int .i64 0) := by rw [HK9.out.cell]; rfl
    have y2 : w9.cell? ⟨R, 2, none⟩ = some (.slice none 0 0) := by rw [HK9.out.cell]; rfl
    have y3 : w9.cell? ⟨R, 3, none⟩ = some (.slice none 0 0) := by rw [HK9.out.cell]; rfl
    have y4 : w9.cell? ⟨R, 4, none⟩ = some (.slice none 0 0) := by rw [HK9.out.cell]; rfl
    have HV : Hid (tagV b k d = .error 1) := by
      show _ = _
      rw [HTV.out]
      rw [if_pos (Or.inl b0)]
    rw [HV.out]
    exact bodyPost_ret (v := noTag 1) (by simp [results, Try.results28, go_sem, noTag, y0, y1, y2, y3, y4]) rfl ⟨rfl, HU9.out⟩
  · have d0 : decide (tg < 100) = false := by simpa using b0
    by_cases b1 : 2147483647 < tg
    · have d1 : decide (2147483647 < tg) = true := by simpa using b1
      go_wp2
      have HK9 := Lib.hid (blk_set5 (y0 := .int .i64 0) (y1 := .int .i64 0) (y2 := .slice none 0 0) (y3 := .slice none 0 0) (y4 := .slice none 0 0) HRK.out)
      have HU9 := Lib.hid (upd_set5 (g := R) (y0 := .int .i64 0) (y1 := .int .i64 0) (y2 := .slice none 0 0) (y3 := .slice none 0 0) (y4 := .slice none 0 0) HU1.out (by have := HRR.out; omega))
      generalize hw9 : World.setCell _ _ _ = w9 at *
      have y0 : w9.cell? ⟨R, 0, none⟩ = some (.int .i64 0) := by rw [HK9.out.cell]; rfl
      have y1 : w9.cell? ⟨R, 1, none⟩ = some (.int .i64 0) := by rw [HK9.out.cell]; rfl
      have y2 : w9.cell? ⟨R, 2, none⟩ = some (.slice none 0 0) := by rw [HK9.out.cell]; rfl
      have y3 : w9.cell? ⟨R, 3, none⟩ = some (.slice none 0 0) := by rw [HK9.out.cell]; rfl
      have y4 : w9.cell? ⟨R, 4, none⟩ = some (.slice none 0 0) := by rw [HK9.out.cell]; rfl
      have HV : Hid (tagV b k d = .error 1) := by
        show _ = _
        rw [HTV.out]
        rw [if_pos (Or.inr b1)]
      rw [HV.out]
      exact bodyPost_ret (v := noTag 1) (by simp [results, Try.results28, go_sem, noTag, y0, y1, y2, y3, y4]) rfl ⟨rfl, HU9.out⟩
    · have d1 : decide (2147483647 < tg) = false := by simpa using b1
      have HT1 : Hid (tagV b k d = if ty < 1 ∨ 9 < ty then .error 9 else sayV tg ty d fr cnt) := by
        show _ = _
        rw [HTV.out, if_neg (by omega)]
      by_cases b2 : ty < 1
      · have d2 : decide (ty < 1) = true := by simpa using b2
        go_wp2
        have HK9 := Lib.hid (blk_set5 (y0 := .int .i64 0) (y1 := .int .i64 0) (y2 := .slice none 0 0) (y3 := .slice none 0 0) (y4 := .slice none 0 0) HRK.out)
        have HU9 := Lib.hid (upd_set5 (g := R) (y0 := .int .i64 0) (y1 := .int .i64 0) (y2 := .slice none 0 0) (y3 := .slice none 0 0) (y4 := .slice none 0 0) HU1.out (by have := HRR.out; omega))
        generalize hw9 : World.setCell _ _ _ = w9 at *
        have y0 : w9.cell? ⟨R, 0, none⟩ = some (.int .i64 0) := by rw [HK9.out.cell]; rfl
        have y1 : w9.cell? ⟨R, 1, none⟩ = some (.int .i64 0) := by rw [HK9.out.cell]; rfl
        have y2 : w9.cell? ⟨R, 2, none⟩ = some (.slice none 0 0) := by rw [HK9.out.cell]; rfl
        have y3 : w9.cell? ⟨R, 3, none⟩ = some (.slice none 0 0) := by rw [HK9.out.cell]; rfl
        have y4 : w9.cell? ⟨R, 4, none⟩ = some (.slice none 0 0) := by rw [HK9.out.cell]; rfl
        have HV : Hid (tagV b k d = .error 9) := by
          show _ = _
          rw [HT1.out, if_pos (Or.inl b2)]
        rw [HV.out]
        exact bodyPost_ret (v := noTag 9) (by simp [results, Try.results28, go_sem, noTag, y0, y1, y2, y3, y4]) rfl ⟨rfl, HU9.out⟩
      · have d2 : decide (ty < 1) = false := by simpa using b2
        by_cases b3 : 9 < ty
        · have d3 : decide (9 < ty) = true := by simpa using b3
          go_wp2
          have HK9 := Lib.hid (blk_set5 (y0 := .int .i64 0) (y1 := .int .i64 0) (y2 := .slice none 0 0) (y3 := .slice none 0 0) (y4 := .slice none 0 0) HRK.out)
          have HU9 := Lib.hid (upd_set5 (g := R) (y0 := .int .i64 0) (y1 := .int .i64 0) (y2 := .slice none 0 0) (y3 := .slice none 0 0) (y4 := .slice none 0 0) HU1.out (by have := HRR.out; omega))
          generalize hw9 : World.setCell _ _ _ = w9 at *
          have y0 : w9.cell? ⟨R, 0, none⟩ = some (.int .i64 0) := by rw [HK9.out.cell]; rfl
          have y1 : w9.cell? ⟨R, 1, none⟩ = some (.int .i64 0) := by rw [HK9.out.cell]; rfl
          have y2 : w9.cell? ⟨R, 2, none⟩ = some (.slice none 0 0) := by rw [HK9.out.cell]; rfl
          have y3 : w9.cell? ⟨R, 3, none⟩ = some (.slice none 0 0) := by rw [HK9.out.cell]; rfl
          have y4 : w9.cell? ⟨R, 4, none⟩ = some (.slice none 0 0) := by rw [HK9.out.cell]; rfl
          have HV : Hid (tagV b k d = .error 9) := by
            show _ = _
            rw [HT1.out, if_pos (Or.inr b3)]
          rw [HV.out]
          exact bodyPost_ret (v := noTag 9) (by simp [results, Try.results28, go_sem, noTag, y0, y1, y2, y3, y4]) rfl ⟨rfl, HU9.out⟩
        · have d3 : decide (9 < ty) = false := by simpa using b3
          have HT2 : Hid (tagV b k d = sayV tg ty d fr cnt) := by
            show _ = _
            rw [HT1.out, if_neg (by omega)]
          clear HTV HT1
          obtain ⟨s, HS⟩ : ∃ s, Hid (s = sizeT ty) := ⟨_, rfl⟩
          have hsb := sizeT_bd ty
          rw [← HS.out] at hsb
          have hsz : (sizeT ty : Int) = (s : Int) := by rw [HS.out]
          by_cases b4 : cnt = 0
          · have d4 : ((cnt : Int) == 0) = true := by simp [b4]
            have E4 := Lib.hid b4
            clear b4
            go_wp2
            have HK9 := Lib.hid (blk_set5 (y0 := .int .i64 0) (y1 := .int .i64 0) (y2 := .slice none 0 0) (y3 := .slice none 0 0) (y4 := .slice none 0 0) HRK.out)
            have HU9 := Lib.hid (upd_set5 (g := R) (y0 := .int .i64 0) (y1 := .int .i64 0) (y2 := .slice none 0 0) (y3 := .slice none 0 0) (y4 := .slice none 0 0) HU1.out (by have := HRR.out; omega))
            generalize hw9 : World.setCell _ _ _ = w9 at *
            have y0 : w9.cell? ⟨R, 0, none⟩ = some (.int .i64 0) := by rw [HK9.out.cell]; rfl
            have y1 : w9.cell? ⟨R, 1, none⟩ = some (.int .i64 0) := by rw [HK9.out.cell]; rfl
            have y2 : w9.cell? ⟨R, 2, none⟩ = some (.slice none 0 0) := by rw [HK9.out.cell]; rfl
            have y3 : w9.cell? ⟨R, 3, none⟩ = some (.slice none 0 0) := by rw [HK9.out.cell]; rfl
            have y4 : w9.cell? ⟨R, 4, none⟩ = some (.slice none 0 0) := by rw [HK9.out.cell]; rfl
            have HV : Hid (tagV b k d = .error 3) := by
              show _ = _
              rw [HT2.out]
              unfold sayV
              rw [if_pos (Or.inl E4.out)]
            rw [HV.out]
            exact bodyPost_ret (v := noTag 3) (by simp [results, Try.results28, go_sem, noTag, y0, y1, y2, y3, y4]) rfl ⟨rfl, HU9.out⟩
          · have d4 : ((cnt : Int) == 0) = false := by simp; omega
            by_cases b5 : ty = 6
            · have d5 : (ty == 6) = true := by simp [b5]
              have E5 := Lib.hid b5
              clear b5
              by_cases b6 : cnt = 1
              · have d6 : ((cnt : Int) != 1) = false := by simp [b6]
                have E6 := Lib.hid b6
                have HX6 : Hid (¬ (ty = 6 ∧ cnt ≠ 1)) := fun h => h.2 E6.out
                clear b6
                by_cases b7 : fr % s = 0
                · have d7 : ((fr : Int) % s != 0) = false := by rw [show ((fr : Int) % s) = ((fr % s : Nat) : Int) by rw [Int.natCast_emod], b7]; rfl
                  have E7 := Lib.hid b7
                  have M0 : Hid (fr % sizeT ty = 0) := by rw [← HS.out]; exact E7
                  clear b7
                  go_wp2_with fail
                  refine (size_any ty w1).mono ?_
                  rintro e w' ⟨rfl, rfl⟩
                  rw [hsz]
                  by_cases b8 : m < fr
                  · have d8 : decide (m < fr) = true := by simpa using b8
                    go_wp2
                    have HK9 := Lib.hid (blk_set5 (y0 := .int .i64 0) (y1 := .int .i64 0) (y2 := .slice none 0 0) (y3 := .slice none 0 0) (y4 := .slice none 0 0) HRK.out)
                    have HU9 := Lib.hid (upd_set5 (g := R) (y0 := .int .i64 0) (y1 := .int .i64 0) (y2 := .slice none 0 0) (y3 := .slice none 0 0) (y4 := .slice none 0 0) HU1.out (by have := HRR.out; omega))
                    generalize hw9 : World.setCell _ _ _ = w9 at *
                    have y0 : w9.cell? ⟨R, 0, none⟩ = some (.int .i64 0) := by rw [HK9.out.cell]; rfl
                    have y1 : w9.cell? ⟨R, 1, none⟩ = some (.int .i64 0) := by rw [HK9.out.cell]; rfl
                    have y2 : w9.cell? ⟨R, 2, none⟩ = some (.slice none 0 0) := by rw [HK9.out.cell]; rfl
                    have y3 : w9.cell? ⟨R, 3, none⟩ = some (.slice none 0 0) := by rw [HK9.out.cell]; rfl
                    have y4 : w9.cell? ⟨R, 4, none⟩ = some (.slice none 0 0) := by rw [HK9.out.cell]; rfl
                    have HV : Hid (tagV b k d = .error 2) := by
                      show _ = _
                      rw [HT2.out]
                      unfold sayV
                      rw [if_neg (by rintro (h | h | h); exact b4 h; exact HX6.out h; exact h M0.out)]
                      rw [if_pos (by rw [HDL.out]; exact b8)]
                    rw [HV.out]
                    exact bodyPost_ret (v := noTag 2) (by simp [results, Try.results28, go_sem, noTag, y0, y1, y2, y3, y4]) rfl ⟨rfl, HU9.out⟩
                  · have d8 : decide (m < fr) = false := by simpa using b8
                    have hcut := run_cut_l el_byte D m dc .i64 (fr : Int) fr rfl (by omega)
                    go_wp2_with fail
                    clear hcut
                    refine (isNumbers_any ty w1).mono ?_
                    rintro e w' ⟨rfl, rfl⟩
                    obtain ⟨E, HEE⟩ : ∃ E, Hid (E = cutA 1 D dc fr) := ⟨_, rfl⟩
                    obtain ⟨m2, HM2⟩ : ∃ m2, Hid (m2 = m - fr) := ⟨_, rfl⟩
                    obtain ⟨dc2, HDC2⟩ : ∃ dc2, Hid (dc2 = dc - fr) := ⟨_, rfl⟩
                    obtain ⟨d2, HDD⟩ : ∃ d2, Hid (d2 = d.drop fr) := ⟨_, rfl⟩
                    rw [← HEE.out, ← HM2.out, ← HDC2.out]
                    have HD2 : Hid (Ints .u8 w1 E m2 d2) := by rw [HEE.out, HM2.out, HDD.out]; exact cut_from HD1.out (by omega) hmc
                    have HDB2 : Hid (∀ z ∈ d2, 0 ≤ z ∧ z ≤ 255) := by rw [HDD.out]; exact fun z hz => HDB.out z (List.mem_of_mem_drop hz)
                    have HDL2 := HD2.out.len
                    have hm2 : m2 ≤ dc2 := by have h1 := HM2.out; have h2 := HDC2.out; omega
                    have hm2b : m2 ≤ m := by have h1 := HM2.out; omega
                    cases hnum : numT ty with
                    | true =>
                      have HNUM := Lib.hid hnum
                      clear hnum
                      by_cases b9 : m2 < cnt * s
                      · go_wp2_with fail
                        refine (parseNumbers_short w1 tg ty E m2 dc2 cnt hcnb (by rw [← HS.out]; exact b9)).mono ?_
                        rintro e w5 ⟨rfl, hv5⟩
                        unfold noTag
                        have HRK5 := Lib.hid (HRK.out.upd hv5 (by simp))
                        have HU5 := Lib.hid (HU1.out.trans hv5)
                        clear hv5
                        clear z0 z1 z2 z3 z4 fz e0 e1 e2 e3 e4
                        have z0 : w5.cell? ⟨R, 0, none⟩ = some (.int .i64 0) := by rw [HRK5.out.cell]; rfl
                        have z1 : w5.cell? ⟨R, 1, none⟩ = some (.int .i64 0) := by rw [HRK5.out.cell]; rfl
                        have z2 : w5.cell? ⟨R, 2, none⟩ = some (.slice none 0 0) := by rw [HRK5.out.cell]; rfl
                        have z3 : w5.cell? ⟨R, 3, none⟩ = some (.slice none 0 0) := by rw [HRK5.out.cell]; rfl
                        have z4 : w5.cell? ⟨R, 4, none⟩ = some (.slice none 0 0) := by rw [HRK5.out.cell]; rfl
                        have fz := HRK5.out.frozen
                        go_wp2
                        have HK9 := Lib.hid (blk_set5 (y0 := .int .i64 0) (y1 := .int .i64 0) (y2 := .slice none 0 0) (y3 := .slice none 0 0) (y4 := .slice none 0 0) HRK5.out)
                        have HU9 := Lib.hid (upd_set5 (g := R) (y0 := .int .i64 0) (y1 := .int .i64 0) (y2 := .slice none 0 0) (y3 := .slice none 0 0) (y4 := .slice none 0 0) HU5.out (by have := HRR.out; omega))
                        generalize hw9 : World.setCell _ _ _ = w9 at *
                        have y0 : w9.cell? ⟨R, 0, none⟩ = some (.int .i64 0) := by rw [HK9.out.cell]; rfl
                        have y1 : w9.cell? ⟨R, 1, none⟩ = some (.int .i64 0) := by rw [HK9.out.cell]; rfl
                        have y2 : w9.cell? ⟨R, 2, none⟩ = some (.slice none 0 0) := by rw [HK9.out.cell]; rfl
                        have y3 : w9.cell? ⟨R, 3, none⟩ = some (.slice none 0 0) := by rw [HK9.out.cell]; rfl
                        have y4 : w9.cell? ⟨R, 4, none⟩ = some (.slice none 0 0) := by rw [HK9.out.cell]; rfl
                        have HV : Hid (tagV b k d = .error 2) := by
                          show _ = _
                          rw [HT2.out]
                          unfold sayV
                          rw [if_neg (by rintro (h | h | h); exact b4 h; exact HX6.out h; exact h M0.out)]
                          rw [if_neg (by rw [HDL.out]; omega)]
                          rw [if_pos HNUM.out, if_pos (by rw [← HDD.out, HDL2.out, ← HS.out]; exact b9)]
                        rw [HV.out]
                        exact bodyPost_ret (v := noTag 2) (by simp [results, Try.results28, go_sem, noTag, y0, y1, y2, y3, y4]) rfl ⟨rfl, HU9.out⟩
                      · go_wp2_with fail
                        refine (parseNumbers_any w1 tg ty E m2 dc2 d2 HD2.out HDB2.out hm2 cnt (by omega) (by rw [← HS.out]; omega)).mono ?_
                        rintro e w5 h5
                        rw [← HS.out] at h5
                        rcases h5 with ⟨hall, ⟨IA, ii, ic, TA, nn, tc, BA, mm, bc⟩, rfl, hO, hv5⟩ | ⟨hex, rfl, hv5⟩
                        · unfold tagRes
                          have HRK5 := Lib.hid (HRK.out.upd hv5 (by simp))
                          have HU5 := Lib.hid (HU1.out.trans hv5)
                          have HO5 := Lib.hid hO
                          have HV : Hid (tagV b k d = .ok ⟨tg, ty, numsV d2 s cnt, [], []⟩) := by
                            show _ = _
                            rw [HT2.out]
                            unfold sayV
                            rw [if_neg (by rintro (h | h | h); exact b4 h; exact HX6.out h; exact h M0.out)]
                            rw [if_neg (by rw [HDL.out]; omega)]
                            rw [if_pos HNUM.out, if_neg (by rw [← HDD.out, HDL2.out, ← HS.out]; omega), ← HDD.out, ← HS.out, if_pos (nums_all.2 hall)]
                          clear hv5 hO hall
                          clear z0 z1 z2 z3 z4 fz e0 e1 e2 e3 e4
                          have z0 : w5.cell? ⟨R, 0, none⟩ = some (.int .i64 0) := by rw [HRK5.out.cell]; rfl
                          have z1 : w5.cell? ⟨R, 1, none⟩ = some (.int .i64 0) := by rw [HRK5.out.cell]; rfl
                          have z2 : w5.cell? ⟨R, 2, none⟩ = some (.slice none 0 0) := by rw [HRK5.out.cell]; rfl
                          have z3 : w5.cell? ⟨R, 3, none⟩ = some (.slice none 0 0) := by rw [HRK5.out.cell]; rfl
                          have z4 : w5.cell? ⟨R, 4, none⟩ = some (.slice none 0 0) := by rw [HRK5.out.cell]; rfl
                          have fz := HRK5.out.frozen
                          go_wp2
                          have HK9 := Lib.hid (blk_set5 (y0 := .int .i64 tg) (y1 := .int .i64 ty) (y2 := .slice IA ii ic) (y3 := .slice TA nn tc) (y4 := .slice BA mm bc) HRK5.out)
                          have HU9 := Lib.hid (upd_set5 (g := R) (y0 := .int .i64 tg) (y1 := .int .i64 ty) (y2 := .slice IA ii ic) (y3 := .slice TA nn tc) (y4 := .slice BA mm bc) HU5.out (by have := HRR.out; omega))
                          have HV9 := Lib.hid (upd5 (w := w5) (g := R) (y0 := .int .i64 tg) (y1 := .int .i64 ty) (y2 := .slice IA ii ic) (y3 := .slice TA nn tc) (y4 := .slice BA mm bc))
                          generalize hw9 : World.setCell _ _ _ = w9 at *
                          have y0 : w9.cell? ⟨R, 0, none⟩ = some (.int .i64 tg) := by rw [HK9.out.cell]; rfl
                          have y1 : w9.cell? ⟨R, 1, none⟩ = some (.int .i64 ty) := by rw [HK9.out.cell]; rfl
                          have y2 : w9.cell? ⟨R, 2, none⟩ = some (.slice IA ii ic) := by rw [HK9.out.cell]; rfl
                          have y3 : w9.cell? ⟨R, 3, none⟩ = some (.slice TA nn tc) := by rw [HK9.out.cell]; rfl
                          have y4 : w9.cell? ⟨R, 4, none⟩ = some (.slice BA mm bc) := by rw [HK9.out.cell]; rfl
                          rw [HV.out]
                          exact bodyPost_ret (v := tagRes ⟨IA, ii, ic, TA, nn, tc, BA, mm, bc⟩ ⟨tg, ty, numsV d2 s cnt, [], []⟩ 0) (by simp [results, Try.results28, go_sem, tagRes, y0, y1, y2, y3, y4]) rfl ⟨⟨IA, ii, ic, TA, nn, tc, BA, mm, bc⟩, rfl, ⟨own9 HO5.out.ints HU1.out.size HV9.out HRK5.out (by decide), own9 HO5.out.texts HU1.out.size HV9.out HRK5.out (by decide), own9 HO5.out.bytes HU1.out.size HV9.out HRK5.out (by decide), HO5.out.ib, HO5.out.bb⟩, HU9.out⟩
                        · unfold noTag
                          have HRK5 := Lib.hid (HRK.out.upd hv5 (by simp))
                          have HU5 := Lib.hid (HU1.out.trans hv5)
                          have HEX := Lib.hid hex
                          clear hv5 hex
                          clear z0 z1 z2 z3 z4 fz e0 e1 e2 e3 e4
                          have z0 : w5.cell? ⟨R, 0, none⟩ = some (.int .i64 0) := by rw [HRK5.out.cell]; rfl
                          have z1 : w5.cell? ⟨R, 1, none⟩ = some (.int .i64 0) := by rw [HRK5.out.cell]; rfl
                          have z2 : w5.cell? ⟨R, 2, none⟩ = some (.slice none 0 0) := by rw [HRK5.out.cell]; rfl
                          have z3 : w5.cell? ⟨R, 3, none⟩ = some (.slice none 0 0) := by rw [HRK5.out.cell]; rfl
                          have z4 : w5.cell? ⟨R, 4, none⟩ = some (.slice none 0 0) := by rw [HRK5.out.cell]; rfl
                          have fz := HRK5.out.frozen
                          go_wp2
                          have HK9 := Lib.hid (blk_set5 (y0 := .int .i64 0) (y1 := .int .i64 0) (y2 := .slice none 0 0) (y3 := .slice none 0 0) (y4 := .slice none 0 0) HRK5.out)
                          have HU9 := Lib.hid (upd_set5 (g := R) (y0 := .int .i64 0) (y1 := .int .i64 0) (y2 := .slice none 0 0) (y3 := .slice none 0 0) (y4 := .slice none 0 0) HU5.out (by have := HRR.out; omega))
                          generalize hw9 : World.setCell _ _ _ = w9 at *
                          have y0 : w9.cell? ⟨R, 0, none⟩ = some (.int .i64 0) := by rw [HK9.out.cell]; rfl
                          have y1 : w9.cell? ⟨R, 1, none⟩ = some (.int .i64 0) := by rw [HK9.out.cell]; rfl
                          have y2 : w9.cell? ⟨R, 2, none⟩ = some (.slice none 0 0) := by rw [HK9.out.cell]; rfl
                          have y3 : w9.cell? ⟨R, 3, none⟩ = some (.slice none 0 0) := by rw [HK9.out.cell]; rfl
                          have y4 : w9.cell? ⟨R, 4, none⟩ = some (.slice none 0 0) := by rw [HK9.out.cell]; rfl
                          have HV : Hid (tagV b k d = .error 3) := by
                            show _ = _
                            rw [HT2.out]
                            unfold sayV
                            rw [if_neg (by rintro (h | h | h); exact b4 h; exact HX6.out h; exact h M0.out)]
                            rw [if_neg (by rw [HDL.out]; omega)]
                            rw [if_pos HNUM.out, if_neg (by rw [← HDD.out, HDL2.out, ← HS.out]; omega), ← HDD.out, ← HS.out, if_neg (fun h => by obtain ⟨i, hi, hx⟩ := HEX.out; have := nums_all.1 h i hi; omega)]
                          rw [HV.out]
                          exact bodyPost_ret (v := noTag 3) (by simp [results, Try.results28, go_sem, noTag, y0, y1, y2, y3, y4]) rfl ⟨rfl, HU9.out⟩
                    | false =>
                      have HNUM := Lib.hid hnum
                      clear hnum
                      by_cases b10 : ty = 7
                      · have d10 : (ty == 7) = true := by simp [b10]
                        have E10 := Lib.hid b10
                        clear b10
                        by_cases b9 : m2 < cnt
                        · have d9 : decide (m2 < cnt) = true := by simpa using b9
                          go_wp2
                          have HK9 := Lib.hid (blk_set5 (y0 := .int .i64 0) (y1 := .int .i64 0) (y2 := .slice none 0 0) (y3 := .slice none 0 0) (y4 := .slice none 0 0) HRK.out)
                          have HU9 := Lib.hid (upd_set5 (g := R) (y0 := .int .i64 0) (y1 := .int .i64 0) (y2 := .slice none 0 0) (y3 := .slice none 0 0) (y4 := .slice none 0 0) HU1.out (by have := HRR.out; omega))
                          generalize hw9 : World.setCell _ _ _ = w9 at *
                          have y0 : w9.cell? ⟨R, 0, none⟩ = some (.int .i64 0) := by rw [HK9.out.cell]; rfl
                          have y1 : w9.cell? ⟨R, 1, none⟩ = some (.int .i64 0) := by rw [HK9.out.cell]; rfl
                          have y2 : w9.cell? ⟨R, 2, none⟩ = some (.slice none 0 0) := by rw [HK9.out.cell]; rfl
                          have y3 : w9.cell? ⟨R, 3, none⟩ = some (.slice none 0 0) := by rw [HK9.out.cell]; rfl
                          have y4 : w9.cell? ⟨R, 4, none⟩ = some (.slice none 0 0) := by rw [HK9.out.cell]; rfl
                          have HV : Hid (tagV b k d = .error 2) := by
                            show _ = _
                            rw [HT2.out]
                            unfold sayV
                            rw [if_neg (by rintro (h | h | h); exact b4 h; exact HX6.out h; exact h M0.out)]
                            rw [if_neg (by rw [HDL.out]; omega)]
                            rw [HNUM.out, if_neg (by decide), if_pos E10.out, if_pos (by rw [← HDD.out, HDL2.out]; exact b9)]
                          rw [HV.out]
                          exact bodyPost_ret (v := noTag 2) (by simp [results, Try.results28, go_sem, noTag, y0, y1, y2, y3, y4]) rfl ⟨rfl, HU9.out⟩
                        · have d9 : decide (m2 < cnt) = false := by simpa using b9
                          have hcut2 := run_cut_h el_byte E m2 dc2 .i64 (cnt : Int) cnt rfl (by omega)
                          have HSG : Hid (Ints .u8 w1.drew E cnt (d2.take cnt)) := (HD2.out.pre (by omega)).drewN 1
                          have HBW : Hid (w.heap.size ≤ w1.drew.heap.size) := HU1.out.size
                          go_wp2_with fail
                          go_region_law (refine step_app rfl (s := .tmp 94) (x := .tmp 97) rfl el_byte (by rfl) (Own.nil w1.drew w.heap.size _ _) (by rfl) HSG.out (ints_one _ _) (by simp only [maxLen]; omega) (by omega) HBW.out ?_; intro X3 c3 w3 hown3 hu3 hfr3; have HO3 := Lib.hid hown3; have HV3 : Hid (Upd [] w1 w3) := ((Upd.refl _ _).drew).then hu3 (by simp [ob]); have HBK3 := Lib.hid (HBK.out.upd HV3.out (by simp)); have HRK3 := Lib.hid (HRK.out.upd HV3.out (by simp)); clear hown3 hu3 hfr3; have g4 : w3.cell? ⟨R + 1, 4, none⟩ = some (.slice none 0 0) := (by rw [HBK3.out.cell]; rfl); have gf := HBK3.out.frozen 4)
                          have HO4 : Hid (Own (w3.setCell ⟨R + 1, 4, none⟩ (.slice X3 cnt c3)) w.heap.size 5 1 X3 cnt c3 ((d2.take cnt).map (Value.int .u8))) := by
                            have h := HO3.out
                            rw [Nat.zero_add, List.nil_append] at h
                            exact h.far (h.neBlk HBK3.out (by decide)) _
                          have HBK4 := Lib.hid (HBK3.out.set 4 (.slice X3 cnt c3))
                          have HRK4 := Lib.hid (HRK3.out.far (p := ⟨R + 1, 4, none⟩) (by simp) (.slice X3 cnt c3))
                          have HU4 := Lib.hid ((HU1.out.trans HV3.out).put (b := R + 1) (o := 4) (by have := HRR.out; omega) (.slice X3 cnt c3))
                          have HV : Hid (tagV b k d = .ok ⟨tg, ty, [], [], d2.take cnt⟩) := by
                            show _ = _
                            rw [HT2.out]
                            unfold sayV
                            rw [if_neg (by rintro (h | h | h); exact b4 h; exact HX6.out h; exact h M0.out)]
                            rw [if_neg (by rw [HDL.out]; omega)]
                            rw [HNUM.out, if_neg (by decide), if_pos E10.out, if_neg (by rw [← HDD.out, HDL2.out]; exact b9), ← HDD.out]
                          generalize hw4 : w3.setCell _ _ = w4 at *
                          clear hw4 g4 gf HO3 HV3 HBK3 HRK3 hcut2
                          clear z0 z1 z2 z3 z4 fz e0 e1 e2 e3 e4
                          have z0 : w4.cell? ⟨R, 0, none⟩ = some (.int .i64 0) := by rw [HRK4.out.cell]; rfl
                          have z1 : w4.cell? ⟨R, 1, none⟩ = some (.int .i64 0) := by rw [HRK4.out.cell]; rfl
                          have z2 : w4.cell? ⟨R, 2, none⟩ = some (.slice none 0 0) := by rw [HRK4.out.cell]; rfl
                          have z3 : w4.cell? ⟨R, 3, none⟩ = some (.slice none 0 0) := by rw [HRK4.out.cell]; rfl
                          have z4 : w4.cell? ⟨R, 4, none⟩ = some (.slice none 0 0) := by rw [HRK4.out.cell]; rfl
                          have fz := HRK4.out.frozen
                          have e0 : w4.cell? ⟨R + 1, 0, none⟩ = some (.int .i64 tg) := by rw [HBK4.out.cell]; rfl
                          have e1 : w4.cell? ⟨R + 1, 1, none⟩ = some (.int .i64 ty) := by rw [HBK4.out.cell]; rfl
                          have e2 : w4.cell? ⟨R + 1, 2, none⟩ = some (.slice none 0 0) := by rw [HBK4.out.cell]; rfl
                          have e3 : w4.cell? ⟨R + 1, 3, none⟩ = some (.slice none 0 0) := by rw [HBK4.out.cell]; rfl
                          have e4 : w4.cell? ⟨R + 1, 4, none⟩ = some (.slice X3 cnt c3) := by rw [HBK4.out.cell]; rfl
                          go_wp2
                          have HK9 := Lib.hid (blk_set5 (y0 := .int .i64 tg) (y1 := .int .i64 ty) (y2 := .slice none 0 0) (y3 := .slice none 0 0) (y4 := .slice X3 cnt c3) HRK4.out)
                          have HU9 := Lib.hid (upd_set5 (g := R) (y0 := .int .i64 tg) (y1 := .int .i64 ty) (y2 := .slice none 0 0) (y3 := .slice none 0 0) (y4 := .slice X3 cnt c3) HU4.out (by have := HRR.out; omega))
                          have HV9 := Lib.hid (upd5 (w := w4) (g := R) (y0 := .int .i64 tg) (y1 := .int .i64 ty) (y2 := .slice none 0 0) (y3 := .slice none 0 0) (y4 := .slice X3 cnt c3))
                          generalize hw9 : World.setCell _ _ _ = w9 at *
                          have y0 : w9.cell? ⟨R, 0, none⟩ = some (.int .i64 tg) := by rw [HK9.out.cell]; rfl
                          have y1 : w9.cell? ⟨R, 1, none⟩ = some (.int .i64 ty) := by rw [HK9.out.cell]; rfl
                          have y2 : w9.cell? ⟨R, 2, none⟩ = some (.slice none 0 0) := by rw [HK9.out.cell]; rfl
                          have y3 : w9.cell? ⟨R, 3, none⟩ = some (.slice none 0 0) := by rw [HK9.out.cell]; rfl
                          have y4 : w9.cell? ⟨R, 4, none⟩ = some (.slice X3 cnt c3) := by rw [HK9.out.cell]; rfl
                          rw [HV.out]
                          exact bodyPost_ret (v := tagRes ⟨none, 0, 0, none, 0, 0, X3, cnt, c3⟩ ⟨tg, ty, [], [], d2.take cnt⟩ 0) (by simp [results, Try.results28, go_sem, tagRes, y0, y1, y2, y3, y4]) rfl ⟨⟨none, 0, 0, none, 0, 0, X3, cnt, c3⟩, rfl, ⟨Own.nil _ _ _ _, Own.nil _ _ _ _, own9 HO4.out (Nat.le_refl _) HV9.out HRK4.out (by decide), (by simp), fun z hz => HDB2.out z (List.mem_of_mem_take hz)⟩, HU9.out⟩
                      · have d10 : (ty == 7) = false := by simpa using b10
                        have E10 := Lib.hid b10
                        clear b10
                        obtain ⟨aE, HAE⟩ : ∃ a, Hid (E = some a) := by
                          obtain ⟨a0, h0⟩ := hDs
                          obtain ⟨a', ha'⟩ := cut_some h0 dc fr
                          exact ⟨a', by rw [HEE.out]; exact ha'⟩
                        have HDW : Hid (Ints .u8 w (some aE) m2 d2) := by rw [← HAE.out, HEE.out, HM2.out, HDD.out]; exact cut_from HD.out (by omega) hmc
                        rw [HAE.out]
                        go_wp2_with fail
                        go_loopw [2, 102] (fun x i wr => ∃ (j q qc : Nat) (F : Addr) (rest : List Int) (ss : List ByteArray) (TA : Option Addr) (tc : Nat), j ≤ cnt ∧ i = .int .i64 j ∧ x = .slice (some F) q qc ∧ q ≤ qc ∧ q ≤ m ∧ Hid (Ints .u8 w (some F) q rest) ∧ Hid (∀ z ∈ rest, 0 ≤ z ∧ z ≤ 255) ∧ Hid (Blk wr (R + 1) 40 #[.int .i64 tg, .int .i64 ty, .slice none 0 0, .slice TA j tc, .slice none 0 0]) ∧ Hid (Blk wr R 40 #[.int .i64 0, .int .i64 0, .slice none 0 0, .slice none 0 0, .slice none 0 0]) ∧ Hid (Own wr w.heap.size 9 1 TA j tc (ss.map Value.string)) ∧ Hid (textsR d2 cnt = (textsR rest (cnt - j)).map (ss ++ ·)) ∧ Hid (Upd [] w wr)) (fun _ i _ => cnt - (intOf i).toNat)
                        case atStart => exact ⟨0, m2, dc2, aE, d2, [], none, 0, by omega, rfl, rfl, hm2, hm2b, HDW, HDB2, HBK, HRK, Own.nil _ _ _ _, by show _ = _; simp, HU1⟩
                        case round =>
                          clear z0 z1 z2 z3 z4 fz e0 e1 e2 e3 e4
                          obtain ⟨j, q, qc, F, rest, ss, TA, tc, hj, rfl, rfl, hqc, hqm, HF, HFB, HBK, HRK, HO, HTR, HU⟩ := hrel
                          have HFr := Lib.hid (HF.out.upd HU.out (by simp))
                          have HFL := HF.out.len
                          by_cases hlt : j < cnt
                          · have HST : Hid (cnt - j = (cnt - (j + 1)) + 1) := by show _ = _; omega
                            by_cases hno : noughtAt rest < rest.length
                            · obtain ⟨v, HVV⟩ : ∃ v, Hid (v = noughtAt rest) := ⟨_, rfl⟩
                              have hvq : v < q := by have h1 := HVV.out; have h2 := HFL.out; omega
                              have HIF : Hid ((if noughtAt rest < rest.length then (noughtAt rest : Int) else -1) = (v : Int)) := by show _ = _; rw [if_pos hno, HVV.out]
                              go_wp2_with fail
                              refine (indexByte_any F q qc rest wr HFr.out HFB.out).mono ?_
                              rintro e w' ⟨rfl, rfl⟩
                              rw [HIF.out]
                              obtain ⟨S, HSS⟩ : ∃ S, Hid (S = strOfNums (rest.take v)) := ⟨_, rfl⟩
                              have hcut3 := run_cut_h el_byte (some F) q qc .i64 (v : Int) v rfl (by omega)
                              have hstr : (convert 25 9 (.slice (some F) v qc)).run Try.prog wr.drew = .ok (.string S) wr.drew := by
                                rw [HSS.out]
                                exact ((HFr.out.pre (k := v) (by omega)).drewN 1).str Try.underlying25 Try.underlying5 Try.underlying9 qc
                              have e3 : wr.cell? ⟨R + 1, 3, none⟩ = some (.slice TA j tc) := by rw [HBK.out.cell]; rfl
                              have hRl := HBK.out.lt
                              have HSEG := Lib.hid (show Seg (wr.alloc (.cells #[.string S] 9)).drew 1 (some ⟨wr.heap.size, 0, none⟩) 1 [.string S] from (Seg.one wr (.string S) 9).drewN 1)
                              have HOA := Lib.hid (show Own (wr.alloc (.cells #[.string S] 9)).drew w.heap.size 9 1 TA j tc (ss.map Value.string) from (HO.out.alloc _).drew)
                              have HBA := Lib.hid (show w.heap.size ≤ (wr.alloc (.cells #[.string S] 9)).drew.heap.size from Nat.le_trans HU.out.size (by show _ ≤ (wr.heap.push _).size; simp))
                              have hjb : j ≤ 4294967295 := by omega
                              go_wp2_with fail
                              go_region_law (refine step_app rfl (s := .tmp 110) (x := .tmp 115) rfl el_str (by rfl) HOA.out (by rfl) HSEG.out (by intro u hu; simp at hu; subst hu; rfl) (by simp only [maxLen]; omega) (by omega) HBA.out ?_; intro X3 c3 w3 hown3 hu3 hfr3; have HO3 := Lib.hid hown3; have HV3 : Hid (Upd [ob TA] wr w3) := (((Upd.refl _ _).alloc _).drew).trans hu3; have HBK3 := Lib.hid (HBK.out.upd HV3.out (by simp; exact fun h => HO.out.neBlk HBK.out (by decide) h.symm)); have HRK3 := Lib.hid (HRK.out.upd HV3.out (by simp; exact fun h => HO.out.neBlk HRK.out (by decide) h.symm)); clear hown3 hu3 hfr3; have g3 : w3.cell? ⟨R + 1, 3, none⟩ = some (.slice TA j tc) := (by rw [HBK3.out.cell]; rfl); have gf := HBK3.out.frozen 3)
                              all_goals
                                have HO4 : Hid (Own (w3.setCell ⟨R + 1, 3, none⟩ (.slice X3 (j + 1) c3)) w.heap.size 9 1 X3 (j + 1) c3 ((ss ++ [S]).map Value.string)) := by
                                  have h := HO3.out
                                  rw [List.map_append]
                                  exact h.far (h.neBlk HBK3.out (by decide)) _
                                have HBK4 := Lib.hid (HBK3.out.set 3 (.slice X3 (j + 1) c3))
                                have HRK4 := Lib.hid (HRK3.out.far (p := ⟨R + 1, 3, none⟩) (by simp) (.slice X3 (j + 1) c3))
                                have HU4 := Lib.hid ((HU.out.then HV3.out (fun b hb => by simp at hb; right; exact (HO.out.base hb.symm).1)).put (b := R + 1) (o := 3) (by have := HRR.out; omega) (.slice X3 (j + 1) c3))
                                have HF4 := Lib.hid (cut_from HF.out (k := v + 1) (by omega) hqc)
                                obtain ⟨F', hF'⟩ := cut_some (A := some F) rfl qc (v + 1)
                                have hcut4 := run_cut_l el_byte (some F) q qc .i64 ((v : Int) + 1) (v + 1) (by omega) (by omega)
                                rw [hF'] at hcut4 HF4
                                generalize hw4 : w3.setCell _ _ = w4 at *
                                clear hw4 g3 gf HO3 HV3 HBK3 HRK3 hcut3 hstr e3 hRl HSEG HOA HBA hF' HFr
                                go_wp2
                                go_roundw
                                case rel =>
                                  refine ⟨j + 1, q - (v + 1), qc - (v + 1), F', rest.drop (v + 1), ss ++ [S], X3, c3, by omega, by go_num, rfl, by omega, by omega, HF4, fun z hz => HFB.out z (List.mem_of_mem_drop hz), HBK4, HRK4, HO4, ?_, HU4⟩
                                  show _ = _
                                  rw [HTR.out, HST.out]
                                  conv => lhs; unfold textsR
                                  rw [if_pos hno, ← HVV.out, ← HSS.out, Option.map_map]
                                  congr 1
                                  funext l
                                  simp
                                case measure => simp [intOf]; omega
                            · have HIF : Hid ((if noughtAt rest < rest.length then (noughtAt rest : Int) else -1) = -1) := by show _ = _; rw [if_neg hno]
                              go_wp2_with fail
                              refine (indexByte_any F q qc rest wr HFr.out HFB.out).mono ?_
                              rintro e w' ⟨rfl, rfl⟩
                              rw [HIF.out]
                              have z0 : wr.cell? ⟨R, 0, none⟩ = some (.int .i64 0) := by rw [HRK.out.cell]; rfl
                              have z1 : wr.cell? ⟨R, 1, none⟩ = some (.int .i64 0) := by rw [HRK.out.cell]; rfl
                              have z2 : wr.cell? ⟨R, 2, none⟩ = some (.slice none 0 0) := by rw [HRK.out.cell]; rfl
                              have z3 : wr.cell? ⟨R, 3, none⟩ = some (.slice none 0 0) := by rw [HRK.out.cell]; rfl
                              have z4 : wr.cell? ⟨R, 4, none⟩ = some (.slice none 0 0) := by rw [HRK.out.cell]; rfl
                              have fz := HRK.out.frozen
                              go_wp2
                              have HK9 := Lib.hid (blk_set5 (y0 := .int .i64 0) (y1 := .int .i64 0) (y2 := .slice none 0 0) (y3 := .slice none 0 0) (y4 := .slice none 0 0) HRK.out)
                              have HU9 := Lib.hid (upd_set5 (g := R) (y0 := .int .i64 0) (y1 := .int .i64 0) (y2 := .slice none 0 0) (y3 := .slice none 0 0) (y4 := .slice none 0 0) HU.out (by have := HRR.out; omega))
                              generalize hw9 : World.setCell _ _ _ = w9 at *
                              have y0 : w9.cell? ⟨R, 0, none⟩ = some (.int .i64 0) := by rw [HK9.out.cell]; rfl
                              have y1 : w9.cell? ⟨R, 1, none⟩ = some (.int .i64 0) := by rw [HK9.out.cell]; rfl
                              have y2 : w9.cell? ⟨R, 2, none⟩ = some (.slice none 0 0) := by rw [HK9.out.cell]; rfl
                              have y3 : w9.cell? ⟨R, 3, none⟩ = some (.slice none 0 0) := by rw [HK9.out.cell]; rfl
                              have y4 : w9.cell? ⟨R, 4, none⟩ = some (.slice none 0 0) := by rw [HK9.out.cell]; rfl
                              have HV : Hid (tagV b k d = .error 2) := by
                                show _ = _
                                rw [HT2.out]
                                unfold sayV
                                rw [if_neg (by rintro (h | h | h); exact b4 h; exact HX6.out h; exact h M0.out)]
                                rw [if_neg (by rw [HDL.out]; omega)]
                                rw [HNUM.out, if_neg (by decide), if_neg E10.out, ← HDD.out, HTR.out, HST.out]
                                unfold textsR
                                rw [if_neg hno]
                                rfl
                              rw [HV.out]
                              exact bodyPost_ret (v := noTag 2) (by simp [results, Try.results28, go_sem, noTag, y0, y1, y2, y3, y4]) rfl ⟨rfl, HU9.out⟩
                          · obtain rfl : j = cnt := by omega
                            have HSE : Hid (textsR d2 j = some ss) := by
                              show _ = _
                              rw [HTR.out, Nat.sub_self]
                              unfold textsR
                              simp
                            have HV : Hid (tagV b k d = .ok ⟨tg, ty, [], ss, []⟩) := by
                              show _ = _
                              rw [HT2.out]
                              unfold sayV
                              rw [if_neg (by rintro (h | h | h); exact b4 h; exact HX6.out h; exact h M0.out)]
                              rw [if_neg (by rw [HDL.out]; omega)]
                              rw [HNUM.out, if_neg (by decide), if_neg E10.out, ← HDD.out, HSE.out]
                            have z0 : wr.cell? ⟨R, 0, none⟩ = some (.int .i64 0) := by rw [HRK.out.cell]; rfl
                            have z1 : wr.cell? ⟨R, 1, none⟩ = some (.int .i64 0) := by rw [HRK.out.cell]; rfl
                            have z2 : wr.cell? ⟨R, 2, none⟩ = some (.slice none 0 0) := by rw [HRK.out.cell]; rfl
                            have z3 : wr.cell? ⟨R, 3, none⟩ = some (.slice none 0 0) := by rw [HRK.out.cell]; rfl
                            have z4 : wr.cell? ⟨R, 4, none⟩ = some (.slice none 0 0) := by rw [HRK.out.cell]; rfl
                            have fz := HRK.out.frozen
                            have e0 : wr.cell? ⟨R + 1, 0, none⟩ = some (.int .i64 tg) := by rw [HBK.out.cell]; rfl
                            have e1 : wr.cell? ⟨R + 1, 1, none⟩ = some (.int .i64 ty) := by rw [HBK.out.cell]; rfl
                            have e2 : wr.cell? ⟨R + 1, 2, none⟩ = some (.slice none 0 0) := by rw [HBK.out.cell]; rfl
                            have e3 : wr.cell? ⟨R + 1, 3, none⟩ = some (.slice TA j tc) := by rw [HBK.out.cell]; rfl
                            have e4 : wr.cell? ⟨R + 1, 4, none⟩ = some (.slice none 0 0) := by rw [HBK.out.cell]; rfl
                            go_wp2
                            have HK9 := Lib.hid (blk_set5 (y0 := .int .i64 tg) (y1 := .int .i64 ty) (y2 := .slice none 0 0) (y3 := .slice TA j tc) (y4 := .slice none 0 0) HRK.out)
                            have HU9 := Lib.hid (upd_set5 (g := R) (y0 := .int .i64 tg) (y1 := .int .i64 ty) (y2 := .slice none 0 0) (y3 := .slice TA j tc) (y4 := .slice none 0 0) HU.out (by have := HRR.out; omega))
                            have HV9 := Lib.hid (upd5 (w := wr) (g := R) (y0 := .int .i64 tg) (y1 := .int .i64 ty) (y2 := .slice none 0 0) (y3 := .slice TA j tc) (y4 := .slice none 0 0))
                            generalize hw9 : World.setCell _ _ _ = w9 at *
                            have y0 : w9.cell? ⟨R, 0, none⟩ = some (.int .i64 tg) := by rw [HK9.out.cell]; rfl
                            have y1 : w9.cell? ⟨R, 1, none⟩ = some (.int .i64 ty) := by rw [HK9.out.cell]; rfl
                            have y2 : w9.cell? ⟨R, 2, none⟩ = some (.slice none 0 0) := by rw [HK9.out.cell]; rfl
                            have y3 : w9.cell? ⟨R, 3, none⟩ = some (.slice TA j tc) := by rw [HK9.out.cell]; rfl
                            have y4 : w9.cell? ⟨R, 4, none⟩ = some (.slice none 0 0) := by rw [HK9.out.cell]; rfl
                            rw [HV.out]
                            exact bodyPost_ret (v := tagRes ⟨none, 0, 0, TA, j, tc, none, 0, 0⟩ ⟨tg, ty, [], ss, []⟩ 0) (by simp [results, Try.results28, go_sem, tagRes, y0, y1, y2, y3, y4]) rfl ⟨⟨none, 0, 0, TA, j, tc, none, 0, 0⟩, rfl, ⟨Own.nil _ _ _ _, own9 HO.out (Nat.le_refl _) HV9.out HRK.out (by decide), Own.nil _ _ _ _, (by simp), (by simp)⟩, HU9.out⟩
                · have d7 : ((fr : Int) % s != 0) = true := by rw [show ((fr : Int) % s) = ((fr % s : Nat) : Int) by rw [Int.natCast_emod]]; exact nat_ne_b b7
                  go_wp2_with fail
                  refine (size_any ty w1).mono ?_
                  rintro e w' ⟨rfl, rfl⟩
                  rw [hsz]
                  go_wp2
                  have HK9 := Lib.hid (blk_set5 (y0 := .int .i64 0) (y1 := .int .i64 0) (y2 := .slice none 0 0) (y3 := .slice none 0 0) (y4 := .slice none 0 0) HRK.out)
                  have HU9 := Lib.hid (upd_set5 (g := R) (y0 := .int .i64 0) (y1 := .int .i64 0) (y2 := .slice none 0 0) (y3 := .slice none 0 0) (y4 := .slice none 0 0) HU1.out (by have := HRR.out; omega))
                  generalize hw9 : World.setCell _ _ _ = w9 at *
                  have y0 : w9.cell? ⟨R, 0, none⟩ = some (.int .i64 0) := by rw [HK9.out.cell]; rfl
                  have y1 : w9.cell? ⟨R, 1, none⟩ = some (.int .i64 0) := by rw [HK9.out.cell]; rfl
                  have y2 : w9.cell? ⟨R, 2, none⟩ = some (.slice none 0 0) := by rw [HK9.out.cell]; rfl
                  have y3 : w9.cell? ⟨R, 3, none⟩ = some (.slice none 0 0) := by rw [HK9.out.cell]; rfl
                  have y4 : w9.cell? ⟨R, 4, none⟩ = some (.slice none 0 0) := by rw [HK9.out.cell]; rfl
                  have HV : Hid (tagV b k d = .error 3) := by
                    show _ = _
                    rw [HT2.out]
                    unfold sayV
                    rw [if_pos (Or.inr (Or.inr (by rw [← HS.out]; exact b7)))]
                  rw [HV.out]
                  exact bodyPost_ret (v := noTag 3) (by simp [results, Try.results28, go_sem, noTag, y0, y1, y2, y3, y4]) rfl ⟨rfl, HU9.out⟩
              · have d6 : ((cnt : Int) != 1) = true := by simp; omega
                go_wp2
                have HK9 := Lib.hid (blk_set5 (y0 := .int .i64 0) (y1 := .int .i64 0) (y2 := .slice none 0 0) (y3 := .slice none 0 0) (y4 := .slice none 0 0) HRK.out)
                have HU9 := Lib.hid (upd_set5 (g := R) (y0 := .int .i64 0) (y1 := .int .i64 0) (y2 := .slice none 0 0) (y3 := .slice none 0 0) (y4 := .slice none 0 0) HU1.out (by have := HRR.out; omega))
                generalize hw9 : World.setCell _ _ _ = w9 at *
                have y0 : w9.cell? ⟨R, 0, none⟩ = some (.int .i64 0) := by rw [HK9.out.cell]; rfl
                have y1 : w9.cell? ⟨R, 1, none⟩ = some (.int .i64 0) := by rw [HK9.out.cell]; rfl
                have y2 : w9.cell? ⟨R, 2, none⟩ = some (.slice none 0 0) := by rw [HK9.out.cell]; rfl
                have y3 : w9.cell? ⟨R, 3, none⟩ = some (.slice none 0 0) := by rw [HK9.out.cell]; rfl
                have y4 : w9.cell? ⟨R, 4, none⟩ = some (.slice none 0 0) := by rw [HK9.out.cell]; rfl
                have HV : Hid (tagV b k d = .error 3) := by
                  show _ = _
                  rw [HT2.out]
                  unfold sayV
                  rw [if_pos (Or.inr (Or.inl ⟨E5.out, b6⟩))]
                rw [HV.out]
                exact bodyPost_ret (v := noTag 3) (by simp [results, Try.results28, go_sem, noTag, y0, y1, y2, y3, y4]) rfl ⟨rfl, HU9.out⟩
            · have d5 : (ty == 6) = false := by simpa using b5
              have E5 := Lib.hid b5
              have HX6 : Hid (¬ (ty = 6 ∧ cnt ≠ 1)) := fun h => E5.out h.1
              clear b5
              by_cases b7 : fr % s = 0
              · have d7 : ((fr : Int) % s != 0) = false := by rw [show ((fr : Int) % s) = ((fr % s : Nat) : Int) by rw [Int.natCast_emod], b7]; rfl
                have E7 := Lib.hid b7
                have M0 : Hid (fr % sizeT ty = 0) := by rw [← HS.out]; exact E7
                clear b7
                go_wp2_with fail
                refine (size_any ty w1).mono ?_
                rintro e w' ⟨rfl, rfl⟩
                rw [hsz]
                by_cases b8 : m < fr
                · have d8 : decide (m < fr) = true := by simpa using b8
                  go_wp2
                  have HK9 := Lib.hid (blk_set5 (y0 := .int .i64 0) (y1 := .int .i64 0) (y2 := .slice none 0 0) (y3 := .slice none 0 0) (y4 := .slice none 0 0) HRK.out)
                  have HU9 := Lib.hid (upd_set5 (g := R) (y0 := .int .i64 0) (y1 := .int .i64 0) (y2 := .slice none 0 0) (y3 := .slice none 0 0) (y4 := .slice none 0 0) HU1.out (by have := HRR.out; omega))
                  generalize hw9 : World.setCell _ _ _ = w9 at *
                  have y0 : w9.cell? ⟨R, 0, none⟩ = some (.int .i64 0) := by rw [HK9.out.cell]; rfl
                  have y1 : w9.cell? ⟨R, 1, none⟩ = some (.int .i64 0) := by rw [HK9.out.cell]; rfl
                  have y2 : w9.cell? ⟨R, 2, none⟩ = some (.slice none 0 0) := by rw [HK9.out.cell]; rfl
                  have y3 : w9.cell? ⟨R, 3, none⟩ = some (.slice none 0 0) := by rw [HK9.out.cell]; rfl
                  have y4 : w9.cell? ⟨R, 4, none⟩ = some (.slice none 0 0) := by rw [HK9.out.cell]; rfl
                  have HV : Hid (tagV b k d = .error 2) := by
                    show _ = _
                    rw [HT2.out]
                    unfold sayV
                    rw [if_neg (by rintro (h | h | h); exact b4 h; exact HX6.out h; exact h M0.out)]
                    rw [if_pos (by rw [HDL.out]; exact b8)]
                  rw [HV.out]
                  exact bodyPost_ret (v := noTag 2) (by simp [results, Try.results28, go_sem, noTag, y0, y1, y2, y3, y4]) rfl ⟨rfl, HU9.out⟩
                · have d8 : decide (m < fr) = false := by simpa using b8
                  have hcut := run_cut_l el_byte D m dc .i64 (fr : Int) fr rfl (by omega)
                  go_wp2_with fail
                  clear hcut
                  refine (isNumbers_any ty w1).mono ?_
                  rintro e w' ⟨rfl, rfl⟩
                  obtain ⟨E, HEE⟩ : ∃ E, Hid (E = cutA 1 D dc fr) := ⟨_, rfl⟩
                  obtain ⟨m2, HM2⟩ : ∃ m2, Hid (m2 = m - fr) := ⟨_, rfl⟩
                  obtain ⟨dc2, HDC2⟩ : ∃ dc2, Hid (dc2 = dc - fr) := ⟨_, rfl⟩
                  obtain ⟨d2, HDD⟩ : ∃ d2, Hid (d2 = d.drop fr) := ⟨_, rfl⟩
                  rw [← HEE.out, ← HM2.out, ← HDC2.out]
                  have HD2 : Hid (Ints .u8 w1 E m2 d2) := by rw [HEE.out, HM2.out, HDD.out]; exact cut_from HD1.out (by omega) hmc
                  have HDB2 : Hid (∀ z ∈ d2, 0 ≤ z ∧ z ≤ 255) := by rw [HDD.out]; exact fun z hz => HDB.out z (List.mem_of_mem_drop hz)
                  have HDL2 := HD2.out.len
                  have hm2 : m2 ≤ dc2 := by have h1 := HM2.out; have h2 := HDC2.out; omega
                  have hm2b : m2 ≤ m := by have h1 := HM2.out; omega
                  cases hnum : numT ty with
                  | true =>
                    have HNUM := Lib.hid hnum
                    clear hnum
                    by_cases b9 : m2 < cnt * s
                    · go_wp2_with fail
                      refine (parseNumbers_short w1 tg ty E m2 dc2 cnt hcnb (by rw [← HS.out]; exact b9)).mono ?_
                      rintro e w5 ⟨rfl, hv5⟩
                      unfold noTag
                      have HRK5 := Lib.hid (HRK.out.upd hv5 (by simp))
                      have HU5 := Lib.hid (HU1.out.trans hv5)
                      clear hv5
                      clear z0 z1 z2 z3 z4 fz e0 e1 e2 e3 e4
                      have z0 : w5.cell? ⟨R, 0, none⟩ = some (.int .i64 0) := by rw [HRK5.out.cell]; rfl
                      have z1 : w5.cell? ⟨R, 1, none⟩ = some (.int .i64 0) := by rw [HRK5.out.cell]; rfl
                      have z2 : w5.cell? ⟨R, 2, none⟩ = some (.slice none 0 0) := by rw [HRK5.out.cell]; rfl
                      have z3 : w5.cell? ⟨R, 3, none⟩ = some (.slice none 0 0) := by rw [HRK5.out.cell]; rfl
                      have z4 : w5.cell? ⟨R, 4, none⟩ = some (.slice none 0 0) := by rw [HRK5.out.cell]; rfl
                      have fz := HRK5.out.frozen
                      go_wp2
                      have HK9 := Lib.hid (blk_set5 (y0 := .int .i64 0) (y1 := .int .i64 0) (y2 := .slice none 0 0) (y3 := .slice none 0 0) (y4 := .slice none 0 0) HRK5.out)
                      have HU9 := Lib.hid (upd_set5 (g := R) (y0 := .int .i64 0) (y1 := .int .i64 0) (y2 := .slice none 0 0) (y3 := .slice none 0 0) (y4 := .slice none 0 0) HU5.out (by have := HRR.out; omega))
                      generalize hw9 : World.setCell _ _ _ = w9 at *
                      have y0 : w9.cell? ⟨R, 0, none⟩ = some (.int .i64 0) := by rw [HK9.out.cell]; rfl
                      have y1 : w9.cell? ⟨R, 1, none⟩ = some (.int .i64 0) := by rw [HK9.out.cell]; rfl
                      have y2 : w9.cell? ⟨R, 2, none⟩ = some (.slice none 0 0) := by rw [HK9.out.cell]; rfl
                      have y3 : w9.cell? ⟨R, 3, none⟩ = some (.slice none 0 0) := by rw [HK9.out.cell]; rfl
                      have y4 : w9.cell? ⟨R, 4, none⟩ = some (.slice none 0 0) := by rw [HK9.out.cell]; rfl
                      have HV : Hid (tagV b k d = .error 2) := by
                        show _ = _
                        rw [HT2.out]
                        unfold sayV
                        rw [if_neg (by rintro (h | h | h); exact b4 h; exact HX6.out h; exact h M0.out)]
                        rw [if_neg (by rw [HDL.out]; omega)]
                        rw [if_pos HNUM.out, if_pos (by rw [← HDD.out, HDL2.out, ← HS.out]; exact b9)]
                      rw [HV.out]
                      exact bodyPost_ret (v := noTag 2) (by simp [results, Try.results28, go_sem, noTag, y0, y1, y2, y3, y4]) rfl ⟨rfl, HU9.out⟩
                    · go_wp2_with fail
                      refine (parseNumbers_any w1 tg ty E m2 dc2 d2 HD2.out HDB2.out hm2 cnt (by omega) (by rw [← HS.out]; omega)).mono ?_
                      rintro e w5 h5
                      rw [← HS.out] at h5
                      rcases h5 with ⟨hall, ⟨IA, ii, ic, TA, nn, tc, BA, mm, bc⟩, rfl, hO, hv5⟩ | ⟨hex, rfl, hv5⟩
                      · unfold tagRes
                        have HRK5 := Lib.hid (HRK.out.upd hv5 (by simp))
                        have HU5 := Lib.hid (HU1.out.trans hv5)
                        have HO5 := Lib.hid hO
                        have HV : Hid (tagV b k d = .ok ⟨tg, ty, numsV d2 s cnt, [], []⟩) := by
                          show _ = _
                          rw [HT2.out]
                          unfold sayV
                          rw [if_neg (by rintro (h | h | h); exact b4 h; exact HX6.out h; exact h M0.out)]
                          rw [if_neg (by rw [HDL.out]; omega)]
                          rw [if_pos HNUM.out, if_neg (by rw [← HDD.out, HDL2.out, ← HS.out]; omega), ← HDD.out, ← HS.out, if_pos (nums_all.2 hall)]
                        clear hv5 hO hall
                        clear z0 z1 z2 z3 z4 fz e0 e1 e2 e3 e4
                        have z0 : w5.cell? ⟨R, 0, none⟩ = some (.int .i64 0) := by rw [HRK5.out.cell]; rfl
                        have z1 : w5.cell? ⟨R, 1, none⟩ = some (.int .i64 0) := by rw [HRK5.out.cell]; rfl
                        have z2 : w5.cell? ⟨R, 2, none⟩ = some (.slice none 0 0) := by rw [HRK5.out.cell]; rfl
                        have z3 : w5.cell? ⟨R, 3, none⟩ = some (.slice none 0 0) := by rw [HRK5.out.cell]; rfl
                        have z4 : w5.cell? ⟨R, 4, none⟩ = some (.slice none 0 0) := by rw [HRK5.out.cell]; rfl
                        have fz := HRK5.out.frozen
                        go_wp2
                        have HK9 := Lib.hid (blk_set5 (y0 := .int .i64 tg) (y1 := .int .i64 ty) (y2 := .slice IA ii ic) (y3 := .slice TA nn tc) (y4 := .slice BA mm bc) HRK5.out)
                        have HU9 := Lib.hid (upd_set5 (g := R) (y0 := .int .i64 tg) (y1 := .int .i64 ty) (y2 := .slice IA ii ic) (y3 := .slice TA nn tc) (y4 := .slice BA mm bc) HU5.out (by have := HRR.out; omega))
                        have HV9 := Lib.hid (upd5 (w := w5) (g := R) (y0 := .int .i64 tg) (y1 := .int .i64 ty) (y2 := .slice IA ii ic) (y3 := .slice TA nn tc) (y4 := .slice BA mm bc))
                        generalize hw9 : World.setCell _ _ _ = w9 at *
                        have y0 : w9.cell? ⟨R, 0, none⟩ = some (.int .i64 tg) := by rw [HK9.out.cell]; rfl
                        have y1 : w9.cell? ⟨R, 1, none⟩ = some (.int .i64 ty) := by rw [HK9.out.cell]; rfl
                        have y2 : w9.cell? ⟨R, 2, none⟩ = some (.slice IA ii ic) := by rw [HK9.out.cell]; rfl
                        have y3 : w9.cell? ⟨R, 3, none⟩ = some (.slice TA nn tc) := by rw [HK9.out.cell]; rfl
                        have y4 : w9.cell? ⟨R, 4, none⟩ = some (.slice BA mm bc) := by rw [HK9.out.cell]; rfl
                        rw [HV.out]
                        exact bodyPost_ret (v := tagRes ⟨IA, ii, ic, TA, nn, tc, BA, mm, bc⟩ ⟨tg, ty, numsV d2 s cnt, [], []⟩ 0) (by simp [results, Try.results28, go_sem, tagRes, y0, y1, y2, y3, y4]) rfl ⟨⟨IA, ii, ic, TA, nn, tc, BA, mm, bc⟩, rfl, ⟨own9 HO5.out.ints HU1.out.size HV9.out HRK5.out (by decide), own9 HO5.out.texts HU1.out.size HV9.out HRK5.out (by decide), own9 HO5.out.bytes HU1.out.size HV9.out HRK5.out (by decide), HO5.out.ib, HO5.out.bb⟩, HU9.out⟩
                      · unfold noTag
                        have HRK5 := Lib.hid (HRK.out.upd hv5 (by simp))
                        have HU5 := Lib.hid (HU1.out.trans hv5)
                        have HEX := Lib.hid hex
                        clear hv5 hex
                        clear z0 z1 z2 z3 z4 fz e0 e1 e2 e3 e4
                        have z0 : w5.cell? ⟨R, 0, none⟩ = some (.int .i64 0) := by rw [HRK5.out.cell]; rfl
                        have z1 : w5.cell? ⟨R, 1, none⟩ = some (.int .i64 0) := by rw [HRK5.out.cell]; rfl
                        have z2 : w5.cell? ⟨R, 2, none⟩ = some (.slice none 0 0) := by rw [HRK5.out.cell]; rfl
                        have z3 : w5.cell? ⟨R, 3, none⟩ = some (.slice none 0 0) := by rw [HRK5.out.cell]; rfl
                        have z4 : w5.cell? ⟨R, 4, none⟩ = some (.slice none 0 0) := by rw [HRK5.out.cell]; rfl
                        have fz := HRK5.out.frozen
                        go_wp2
                        have HK9 := Lib.hid (blk_set5 (y0 := .int .i64 0) (y1 := .int .i64 0) (y2 := .slice none 0 0) (y3 := .slice none 0 0) (y4 := .slice none 0 0) HRK5.out)
                        have HU9 := Lib.hid (upd_set5 (g := R) (y0 := .int .i64 0) (y1 := .int .i64 0) (y2 := .slice none 0 0) (y3 := .slice none 0 0) (y4 := .slice none 0 0) HU5.out (by have := HRR.out; omega))
                        generalize hw9 : World.setCell _ _ _ = w9 at *
                        have y0 : w9.cell? ⟨R, 0, none⟩ = some (.int .i64 0) := by rw [HK9.out.cell]; rfl
                        have y1 : w9.cell? ⟨R, 1, none⟩ = some (.int .i64 0) := by rw [HK9.out.cell]; rfl
                        have y2 : w9.cell? ⟨R, 2, none⟩ = some (.slice none 0 0) := by rw [HK9.out.cell]; rfl
                        have y3 : w9.cell? ⟨R, 3, none⟩ = some (.slice none 0 0) := by rw [HK9.out.cell]; rfl
                        have y4 : w9.cell? ⟨R, 4, none⟩ = some (.slice none 0 0) := by rw [HK9.out.cell]; rfl
                        have HV : Hid (tagV b k d = .error 3) := by
                          show _ = _
                          rw [HT2.out]
                          unfold sayV
                          rw [if_neg (by rintro (h | h | h); exact b4 h; exact HX6.out h; exact h M0.out)]
                          rw [if_neg (by rw [HDL.out]; omega)]
                          rw [if_pos HNUM.out, if_neg (by rw [← HDD.out, HDL2.out, ← HS.out]; omega), ← HDD.out, ← HS.out, if_neg (fun h => by obtain ⟨i, hi, hx⟩ := HEX.out; have := nums_all.1 h i hi; omega)]
                        rw [HV.out]
                        exact bodyPost_ret (v := noTag 3) (by simp [results, Try.results28, go_sem, noTag, y0, y1, y2, y3, y4]) rfl ⟨rfl, HU9.out⟩
                  | false =>
                    have HNUM := Lib.hid hnum
                    clear hnum
                    by_cases b10 : ty = 7
                    · have d10 : (ty == 7) = true := by simp [b10]
                      have E10 := Lib.hid b10
                      clear b10
                      by_cases b9 : m2 < cnt
                      · have d9 : decide (m2 < cnt) = true := by simpa using b9
                        go_wp2
                        have HK9 := Lib.hid (blk_set5 (y0 := .int .i64 0) (y1 := .int .i64 0) (y2 := .slice none 0 0) (y3 := .slice none 0 0) (y4 := .slice none 0 0) HRK.out)
                        have HU9 := Lib.hid (upd_set5 (g := R) (y0 := .int .i64 0) (y1 := .int .i64 0) (y2 := .slice none 0 0) (y3 := .slice none 0 0) (y4 := .slice none 0 0) HU1.out (by have := HRR.out; omega))
                        generalize hw9 : World.setCell _ _ _ = w9 at *
                        have y0 : w9.cell? ⟨R, 0, none⟩ = some (.int .i64 0) := by rw [HK9.out.cell]; rfl
                        have y1 : w9.cell? ⟨R, 1, none⟩ = some (.int .i64 0) := by rw [HK9.out.cell]; rfl
                        have y2 : w9.cell? ⟨R, 2, none⟩ = some (.slice none 0 0) := by rw [HK9.out.cell]; rfl
                        have y3 : w9.cell? ⟨R, 3, none⟩ = some (.slice none 0 0) := by rw [HK9.out.cell]; rfl
                        have y4 : w9.cell? ⟨R, 4, none⟩ = some (.slice none 0 0) := by rw [HK9.out.cell]; rfl
                        have HV : Hid (tagV b k d = .error 2) := by
                          show _ = _
                          rw [HT2.out]
                          unfold sayV
                          rw [if_neg (by rintro (h | h | h); exact b4 h; exact HX6.out h; exact h M0.out)]
                          rw [if_neg (by rw [HDL.out]; omega)]
                          rw [HNUM.out, if_neg (by decide), if_pos E10.out, if_pos (by rw [← HDD.out, HDL2.out]; exact b9)]
                        rw [HV.out]
                        exact bodyPost_ret (v := noTag 2) (by simp [results, Try.results28, go_sem, noTag, y0, y1, y2, y3, y4]) rfl ⟨rfl, HU9.out⟩
                      · have d9 : decide (m2 < cnt) = false := by simpa using b9
                        have hcut2 := run_cut_h el_byte E m2 dc2 .i64 (cnt : Int) cnt rfl (by omega)
                        have HSG : Hid (Ints .u8 w1.drew E cnt (d2.take cnt)) := (HD2.out.pre (by omega)).drewN 1
                        have HBW : Hid (w.heap.size ≤ w1.drew.heap.size) := HU1.out.size
                        go_wp2_with fail
                        go_region_law (refine step_app rfl (s := .tmp 94) (x := .tmp 97) rfl el_byte (by rfl) (Own.nil w1.drew w.heap.size _ _) (by rfl) HSG.out (ints_one _ _) (by simp only [maxLen]; omega) (by omega) HBW.out ?_; intro X3 c3 w3 hown3 hu3 hfr3; have HO3 := Lib.hid hown3; have HV3 : Hid (Upd [] w1 w3) := ((Upd.refl _ _).drew).then hu3 (by simp [ob]); have HBK3 := Lib.hid (HBK.out.upd HV3.out (by simp)); have HRK3 := Lib.hid (HRK.out.upd HV3.out (by simp)); clear hown3 hu3 hfr3; have g4 : w3.cell? ⟨R + 1, 4, none⟩ = some (.slice none 0 0) := (by rw [HBK3.out.cell]; rfl); have gf := HBK3.out.frozen 4)
                        have HO4 : Hid (Own (w3.setCell ⟨R + 1, 4, none⟩ (.slice X3 cnt c3)) w.heap.size 5 1 X3 cnt c3 ((d2.take cnt).map (Value.int .u8))) := by
                          have h := HO3.out
                          rw [Nat.zero_add, List.nil_append] at h
                          exact h.far (h.neBlk HBK3.out (by decide)) _
                        have HBK4 := Lib.hid (HBK3.out.set 4 (.slice X3 cnt c3))
                        have HRK4 := Lib.hid (HRK3.out.far (p := ⟨R + 1, 4, none⟩) (by simp) (.slice X3 cnt c3))
                        have HU4 := Lib.hid ((HU1.out.trans HV3.out).put (b := R + 1) (o := 4) (by have := HRR.out; omega) (.slice X3 cnt c3))
                        have HV : Hid (tagV b k d = .ok ⟨tg, ty, [], [], d2.take cnt⟩) := by
                          show _ = _
                          rw [HT2.out]
                          unfold sayV
                          rw [if_neg (by rintro (h | h | h); exact b4 h; exact HX6.out h; exact h M0.out)]
                          rw [if_neg (by rw [HDL.out]; omega)]
                          rw [HNUM.out, if_neg (by decide), if_pos E10.out, if_neg (by rw [← HDD.out, HDL2.out]; exact b9), ← HDD.out]
                        generalize hw4 : w3.setCell _ _ = w4 at *
                        clear hw4 g4 gf HO3 HV3 HBK3 HRK3 hcut2
                        clear z0 z1 z2 z3 z4 fz e0 e1 e2 e3 e4
                        have z0 : w4.cell? ⟨R, 0, none⟩ = some (.int .i64 0) := by rw [HRK4.out.cell]; rfl
                        have z1 : w4.cell? ⟨R, 1, none⟩ = some (.int .i64 0) := by rw [HRK4.out.cell]; rfl
                        have z2 : w4.cell? ⟨R, 2, none⟩ = some (.slice none 0 0) := by rw [HRK4.out.cell]; rfl
                        have z3 : w4.cell? ⟨R, 3, none⟩ = some (.slice none 0 0) := by rw [HRK4.out.cell]; rfl
                        have z4 : w4.cell? ⟨R, 4, none⟩ = some (.slice none 0 0) := by rw [HRK4.out.cell]; rfl
                        have fz := HRK4.out.frozen
                        have e0 : w4.cell? ⟨R + 1, 0, none⟩ = some (.int .i64 tg) := by rw [HBK4.out.cell]; rfl
                        have e1 : w4.cell? ⟨R + 1, 1, none⟩ = some (.int .i64 ty) := by rw [HBK4.out.cell]; rfl
                        have e2 : w4.cell? ⟨R + 1, 2, none⟩ = some (.slice none 0 0) := by rw [HBK4.out.cell]; rfl
                        have e3 : w4.cell? ⟨R + 1, 3, none⟩ = some (.slice none 0 0) := by rw [HBK4.out.cell]; rfl
                        have e4 : w4.cell? ⟨R + 1, 4, none⟩ = some (.slice X3 cnt c3) := by rw [HBK4.out.cell]; rfl
                        go_wp2
                        have HK9 := Lib.hid (blk_set5 (y0 := .int .i64 tg) (y1 := .int .i64 ty) (y2 := .slice none 0 0) (y3 := .slice none 0 0) (y4 := .slice X3 cnt c3) HRK4.out)
                        have HU9 := Lib.hid (upd_set5 (g := R) (y0 := .int .i64 tg) (y1 := .int .i64 ty) (y2 := .slice none 0 0) (y3 := .slice none 0 0) (y4 := .slice X3 cnt c3) HU4.out (by have := HRR.out; omega))
                        have HV9 := Lib.hid (upd5 (w := w4) (g := R) (y0 := .int .i64 tg) (y1 := .int .i64 ty) (y2 := .slice none 0 0) (y3 := .slice none 0 0) (y4 := .slice X3 cnt c3))
                        generalize hw9 : World.setCell _ _ _ = w9 at *
                        have y0 : w9.cell? ⟨R, 0, none⟩ = some (.int .i64 tg) := by rw [HK9.out.cell]; rfl
                        have y1 : w9.cell? ⟨R, 1, none⟩ = some (.int .i64 ty) := by rw [HK9.out.cell]; rfl
                        have y2 : w9.cell? ⟨R, 2, none⟩ = some (.slice none 0 0) := by rw [HK9.out.cell]; rfl
                        have y3 : w9.cell? ⟨R, 3, none⟩ = some (.slice none 0 0) := by rw [HK9.out.cell]; rfl
                        have y4 : w9.cell? ⟨R, 4, none⟩ = some (.slice X3 cnt c3) := by rw [HK9.out.cell]; rfl
                        rw [HV.out]
                        exact bodyPost_ret (v := tagRes ⟨none, 0, 0, none, 0, 0, X3, cnt, c3⟩ ⟨tg, ty, [], [], d2.take cnt⟩ 0) (by simp [results, Try.results28, go_sem, tagRes, y0, y1, y2, y3, y4]) rfl ⟨⟨none, 0, 0, none, 0, 0, X3, cnt, c3⟩, rfl, ⟨Own.nil _ _ _ _, Own.nil _ _ _ _, own9 HO4.out (Nat.le_refl _) HV9.out HRK4.out (by decide), (by simp), fun z hz => HDB2.out z (List.mem_of_mem_take hz)⟩, HU9.out⟩
                    · have d10 : (ty == 7) = false := by simpa using b10
                      have E10 := Lib.hid b10
                      clear b10
                      obtain ⟨aE, HAE⟩ : ∃ a, Hid (E = some a) := by
                        obtain ⟨a0, h0⟩ := hDs
                        obtain ⟨a', ha'⟩ := cut_some h0 dc fr
                        exact ⟨a', by rw [HEE.out]; exact ha'⟩
                      have HDW : Hid (Ints .u8 w (some aE) m2 d2) := by rw [← HAE.out, HEE.out, HM2.out, HDD.out]; exact cut_from HD.out (by omega) hmc
                      rw [HAE.out]
                      go_wp2_with fail
                      go_loopw [2, 102] (fun x i wr => ∃ (j q qc : Nat) (F : Addr) (rest : List Int) (ss : List ByteArray) (TA : Option Addr) (tc : Nat), j ≤ cnt ∧ i = .int .i64 j ∧ x = .slice (some F) q qc ∧ q ≤ qc ∧ q ≤ m ∧ Hid (Ints .u8 w (some F) q rest) ∧ Hid (∀ z ∈ rest, 0 ≤ z ∧ z ≤ 255) ∧ Hid (Blk wr (R + 1) 40 #[.int .i64 tg, .int .i64 ty, .slice none 0 0, .slice TA j tc, .slice none 0 0]) ∧ Hid (Blk wr R 40 #[.int .i64 0, .int .i64 0, .slice none 0 0, .slice none 0 0, .slice none 0 0]) ∧ Hid (Own wr w.heap.size 9 1 TA j tc (ss.map Value.string)) ∧ Hid (textsR d2 cnt = (textsR rest (cnt - j)).map (ss ++ ·)) ∧ Hid (Upd [] w wr)) (fun _ i _ => cnt - (intOf i).toNat)
                      case atStart => exact ⟨0, m2, dc2, aE, d2, [], none, 0, by omega, rfl, rfl, hm2, hm2b, HDW, HDB2, HBK, HRK, Own.nil _ _ _ _, by show _ = _; simp, HU1⟩
                      case round =>
                        clear z0 z1 z2 z3 z4 fz e0 e1 e2 e3 e4
                        obtain ⟨j, q, qc, F, rest, ss, TA, tc, hj, rfl, rfl, hqc, hqm, HF, HFB, HBK, HRK, HO, HTR, HU⟩ := hrel
                        have HFr := Lib.hid (HF.out.upd HU.out (by simp))
                        have HFL := HF.out.len
                        by_cases hlt : j < cnt
                        · have HST : Hid (cnt - j = (cnt - (j + 1)) + 1) := by show _ = _; omega
                          by_cases hno : noughtAt rest < rest.length
                          · obtain ⟨v, HVV⟩ : ∃ v, Hid (v = noughtAt rest) := ⟨_, rfl⟩
                            have hvq : v < q := by have h1 := HVV.out; have h2 := HFL.out; omega
                            have HIF : Hid ((if noughtAt rest < rest.length then (noughtAt rest : Int) else -1) = (v : Int)) := by show _ = _; rw [if_pos hno, HVV.out]
                            go_wp2_with fail
                            refine (indexByte_any F q qc rest wr HFr.out HFB.out).mono ?_
                            rintro e w' ⟨rfl, rfl⟩
                            rw [HIF.out]
                            obtain ⟨S, HSS⟩ : ∃ S, Hid (S = strOfNums (rest.take v)) := ⟨_, rfl⟩
                            have hcut3 := run_cut_h el_byte (some F) q qc .i64 (v : Int) v rfl (by omega)
                            have hstr : (convert 25 9 (.slice (some F) v qc)).run Try.prog wr.drew = .ok (.string S) wr.drew := by
                              rw [HSS.out]
                              exact ((HFr.out.pre (k := v) (by omega)).drewN 1).str Try.underlying25 Try.underlying5 Try.underlying9 qc
                            have e3 : wr.cell? ⟨R + 1, 3, none⟩ = some (.slice TA j tc) := by rw [HBK.out.cell]; rfl
                            have hRl := HBK.out.lt
                            have HSEG := Lib.hid (show Seg (wr.alloc (.cells #[.string S] 9)).drew 1 (some ⟨wr.heap.size, 0, none⟩) 1 [.string S] from (Seg.one wr (.string S) 9).drewN 1)
                            have HOA := Lib.hid (show Own (wr.alloc (.cells #[.string S] 9)).drew w.heap.size 9 1 TA j tc (ss.map Value.string) from (HO.out.alloc _).drew)
                            have HBA := Lib.hid (show w.heap.size ≤ (wr.alloc (.cells #[.string S] 9)).drew.heap.size from Nat.le_trans HU.out.size (by show _ ≤ (wr.heap.push _).size; simp))
                            have hjb : j ≤ 4294967295 := by omega
                            go_wp2_with fail
                            go_region_law (refine step_app rfl (s := .tmp 110) (x := .tmp 115) rfl el_str (by rfl) HOA.out (by rfl) HSEG.out (by intro u hu; simp at hu; subst hu; rfl) (by simp only [maxLen]; omega) (by omega) HBA.out ?_; intro X3 c3 w3 hown3 hu3 hfr3; have HO3 := Lib.hid hown3; have HV3 : Hid (Upd [ob TA] wr w3) := (((Upd.refl _ _).alloc _).drew).trans hu3; have HBK3 := Lib.hid (HBK.out.upd HV3.out (by simp; exact fun h => HO.out.neBlk HBK.out (by decide) h.symm)); have HRK3 := Lib.hid (HRK.out.upd HV3.out (by simp; exact fun h => HO.out.neBlk HRK.out (by decide) h.symm)); clear hown3 hu3 hfr3; have g3 : w3.cell? ⟨R + 1, 3, none⟩ = some (.slice TA j tc) := (by rw [HBK3.out.cell]; rfl); have gf := HBK3.out.frozen 3)
                            all_goals
                              have HO4 : Hid (Own (w3.setCell ⟨R + 1, 3, none⟩ (.slice X3 (j + 1) c3)) w.heap.size 9 1 X3 (j + 1) c3 ((ss ++ [S]).map Value.string)) := by
                                have h := HO3.out
                                rw [List.map_append]
                                exact h.far (h.neBlk HBK3.out (by decide)) _
                              have HBK4 := Lib.hid (HBK3.out.set 3 (.slice X3 (j + 1) c3))
                              have HRK4 := Lib.hid (HRK3.out.far (p := ⟨R + 1, 3, none⟩) (by simp) (.slice X3 (j + 1) c3))
                              have HU4 := Lib.hid ((HU.out.then HV3.out (fun b hb => by simp at hb; right; exact (HO.out.base hb.symm).1)).put (b := R + 1) (o := 3) (by have := HRR.out; omega) (.slice X3 (j + 1) c3))
                              have HF4 := Lib.hid (cut_from HF.out (k := v + 1) (by omega) hqc)
                              obtain ⟨F', hF'⟩ := cut_some (A := some F) rfl qc (v + 1)
                              have hcut4 := run_cut_l el_byte (some F) q qc .i64 ((v : Int) + 1) (v + 1) (by omega) (by omega)
                              rw [hF'] at hcut4 HF4
                              generalize hw4 : w3.setCell _ _ = w4 at *
                              clear hw4 g3 gf HO3 HV3 HBK3 HRK3 hcut3 hstr e3 hRl HSEG HOA HBA hF' HFr
                              go_wp2
                              go_roundw
                              case rel =>
                                refine ⟨j + 1, q - (v + 1), qc - (v + 1), F', rest.drop (v + 1), ss ++ [S], X3, c3, by omega, by go_num, rfl, by omega, by omega, HF4, fun z hz => HFB.out z (List.mem_of_mem_drop hz), HBK4, HRK4, HO4, ?_, HU4⟩
                                show _ = _
                                rw [HTR.out, HST.out]
                                conv => lhs; unfold textsR
                                rw [if_pos hno, ← HVV.out, ← HSS.out, Option.map_map]
                                congr 1
                                funext l
                                simp
                              case measure => simp [intOf]; omega
                          · have HIF : Hid ((if noughtAt rest < rest.length then (noughtAt rest : Int) else -1) = -1) := by show _ = _; rw [if_neg hno]
                            go_wp2_with fail
                            refine (indexByte_any F q qc rest wr HFr.out HFB.out).mono ?_
                            rintro e w' ⟨rfl, rfl⟩
                            rw [HIF.out]
                            have z0 : wr.cell? ⟨R, 0, none⟩ = some (.int .i64 0) := by rw [HRK.out.cell]; rfl
                            have z1 : wr.cell? ⟨R, 1, none⟩ = some (.int .i64 0) := by rw [HRK.out.cell]; rfl
                            have z2 : wr.cell? ⟨R, 2, none⟩ = some (.slice none 0 0) := by rw [HRK.out.cell]; rfl
                            have z3 : wr.cell? ⟨R, 3, none⟩ = some (.slice none 0 0) := by rw [HRK.out.cell]; rfl
                            have z4 : wr.cell? ⟨R, 4, none⟩ = some (.slice none 0 0) := by rw [HRK.out.cell]; rfl
                            have fz := HRK.out.frozen
                            go_wp2
                            have HK9 := Lib.hid (blk_set5 (y0 := .int .i64 0) (y1 := .int .i64 0) (y2 := .slice none 0 0) (y3 := .slice none 0 0) (y4 := .slice none 0 0) HRK.out)
                            have HU9 := Lib.hid (upd_set5 (g := R) (y0 := .int .i64 0) (y1 := .int .i64 0) (y2 := .slice none 0 0) (y3 := .slice none 0 0) (y4 := .slice none 0 0) HU.out (by have := HRR.out; omega))
                            generalize hw9 : World.setCell _ _ _ = w9 at *
                            have y0 : w9.cell? ⟨R, 0, none⟩ = some (.int .i64 0) := by rw [HK9.out.cell]; rfl
                            have y1 : w9.cell? ⟨R, 1, none⟩ = some (.int .i64 0) := by rw [HK9.out.cell]; rfl
                            have y2 : w9.cell? ⟨R, 2, none⟩ = some (.slice none 0 0) := by rw [HK9.out.cell]; rfl
                            have y3 : w9.cell? ⟨R, 3, none⟩ = some (.slice none 0 0) := by rw [HK9.out.cell]; rfl
                            have y4 : w9.cell? ⟨R, 4, none⟩ = some (.slice none 0 0) := by rw [HK9.out.cell]; rfl
                            have HV : Hid (tagV b k d = .error 2) := by
                              show _ = _
                              rw [HT2.out]
                              unfold sayV
                              rw [if_neg (by rintro (h | h | h); exact b4 h; exact HX6.out h; exact h M0.out)]
                              rw [if_neg (by rw [HDL.out]; omega)]
                              rw [HNUM.out, if_neg (by decide), if_neg E10.out, ← HDD.out, HTR.out, HST.out]
                              unfold textsR
                              rw [if_neg hno]
                              rfl
                            rw [HV.out]
                            exact bodyPost_ret (v := noTag 2) (by simp [results, Try.results28, go_sem, noTag, y0, y1, y2, y3, y4]) rfl ⟨rfl, HU9.out⟩
                        · obtain rfl : j = cnt := by omega
                          have HSE : Hid (textsR d2 j = some ss) := by
                            show _ = _
                            rw [HTR.out, Nat.sub_self]
                            unfold textsR
                            simp
                          have HV : Hid (tagV b k d = .ok ⟨tg, ty, [], ss, []⟩) := by
                            show _ = _
                            rw [HT2.out]
                            unfold sayV
                            rw [if_neg (by rintro (h | h | h); exact b4 h; exact HX6.out h; exact h M0.out)]
                            rw [if_neg (by rw [HDL.out]; omega)]
                            rw [HNUM.out, if_neg (by decide), if_neg E10.out, ← HDD.out, HSE.out]
                          have z0 : wr.cell? ⟨R, 0, none⟩ = some (.int .i64 0) := by rw [HRK.out.cell]; rfl
                          have z1 : wr.cell? ⟨R, 1, none⟩ = some (.int .i64 0) := by rw [HRK.out.cell]; rfl
                          have z2 : wr.cell? ⟨R, 2, none⟩ = some (.slice none 0 0) := by rw [HRK.out.cell]; rfl
                          have z3 : wr.cell? ⟨R, 3, none⟩ = some (.slice none 0 0) := by rw [HRK.out.cell]; rfl
                          have z4 : wr.cell? ⟨R, 4, none⟩ = some (.slice none 0 0) := by rw [HRK.out.cell]; rfl
                          have fz := HRK.out.frozen
                          have e0 : wr.cell? ⟨R + 1, 0, none⟩ = some (.int .i64 tg) := by rw [HBK.out.cell]; rfl
                          have e1 : wr.cell? ⟨R + 1, 1, none⟩ = some (.int .i64 ty) := by rw [HBK.out.cell]; rfl
                          have e2 : wr.cell? ⟨R + 1, 2, none⟩ = some (.slice none 0 0) := by rw [HBK.out.cell]; rfl
                          have e3 : wr.cell? ⟨R + 1, 3, none⟩ = some (.slice TA j tc) := by rw [HBK.out.cell]; rfl
                          have e4 : wr.cell? ⟨R + 1, 4, none⟩ = some (.slice none 0 0) := by rw [HBK.out.cell]; rfl
                          go_wp2
                          have HK9 := Lib.hid (blk_set5 (y0 := .int .i64 tg) (y1 := .int .i64 ty) (y2 := .slice none 0 0) (y3 := .slice TA j tc) (y4 := .slice none 0 0) HRK.out)
                          have HU9 := Lib.hid (upd_set5 (g := R) (y0 := .int .i64 tg) (y1 := .int .i64 ty) (y2 := .slice none 0 0) (y3 := .slice TA j tc) (y4 := .slice none 0 0) HU.out (by have := HRR.out; omega))
                          have HV9 := Lib.hid (upd5 (w := wr) (g := R) (y0 := .int .i64 tg) (y1 := .int .i64 ty) (y2 := .slice none 0 0) (y3 := .slice TA j tc) (y4 := .slice none 0 0))
                          generalize hw9 : World.setCell _ _ _ = w9 at *
                          have y0 : w9.cell? ⟨R, 0, none⟩ = some (.int .i64 tg) := by rw [HK9.out.cell]; rfl
                          have y1 : w9.cell? ⟨R, 1, none⟩ = some (.int .i64 ty) := by rw [HK9.out.cell]; rfl
                          have y2 : w9.cell? ⟨R, 2, none⟩ = some (.slice none 0 0) := by rw [HK9.out.cell]; rfl
                          have y3 : w9.cell? ⟨R, 3, none⟩ = some (.slice TA j tc) := by rw [HK9.out.cell]; rfl
                          have y4 : w9.cell? ⟨R, 4, none⟩ = some (.slice none 0 0) := by rw [HK9.out.cell]; rfl
                          rw [HV.out]
                          exact bodyPost_ret (v := tagRes ⟨none, 0, 0, TA, j, tc, none, 0, 0⟩ ⟨tg, ty, [], ss, []⟩ 0) (by simp [results, Try.results28, go_sem, tagRes, y0, y1, y2, y3, y4]) rfl ⟨⟨none, 0, 0, TA, j, tc, none, 0, 0⟩, rfl, ⟨Own.nil _ _ _ _, own9 HO.out (Nat.le_refl _) HV9.out HRK.out (by decide), Own.nil _ _ _ _, (by simp), (by simp)⟩, HU9.out⟩
              · have d7 : ((fr : Int) % s != 0) = true := by rw [show ((fr : Int) % s) = ((fr % s : Nat) : Int) by rw [Int.natCast_emod]]; exact nat_ne_b b7
                go_wp2_with fail
                refine (size_any ty w1).mono ?_
                rintro e w' ⟨rfl, rfl⟩
                rw [hsz]
                go_wp2
                have HK9 := Lib.hid (blk_set5 (y0 := .int .i64 0) (y1 := .int .i64 0) (y2 := .slice none 0 0) (y3 := .slice none 0 0) (y4 := .slice none 0 0) HRK.out)
                have HU9 := Lib.hid (upd_set5 (g := R) (y0 := .int .i64 0) (y1 := .int .i64 0) (y2 := .slice none 0 0) (y3 := .slice none 0 0) (y4 := .slice none 0 0) HU1.out (by have := HRR.out; omega))
                generalize hw9 : World.setCell _ _ _ = w9 at *
                have y0 : w9.cell? ⟨R, 0, none⟩ = some (.int .i64 0) := by rw [HK9.out.cell]; rfl
                have y1 : w9.cell? ⟨R, 1, none⟩ = some (.int .i64 0) := by rw [HK9.out.cell]; rfl
                have y2 : w9.cell? ⟨R, 2, none⟩ = some (.slice none 0 0) := by rw [HK9.out.cell]; rfl
                have y3 : w9.cell? ⟨R, 3, none⟩ = some (.slice none 0 0) := by rw [HK9.out.cell]; rfl
                have y4 : w9.cell? ⟨R, 4, none⟩ = some (.slice none 0 0) := by rw [HK9.out.cell]; rfl
                have HV : Hid (tagV b k d = .error 3) := by
                  show _ = _
                  rw [HT2.out]
                  unfold sayV
                  rw [if_pos (Or.inr (Or.inr (by rw [← HS.out]; exact b7)))]
                rw [HV.out]
                exact bodyPost_ret (v := noTag 3) (by simp [results, Try.results28, go_sem, noTag, y0, y1, y2, y3, y4]) rfl ⟨rfl, HU9.out⟩

end Go.Proofs.Ytogknbpbjgdldaa
