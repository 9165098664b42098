/- The walk of rhead.parseNumbers. -/
import Derived.Test.YtogknbpbjgdldaaRhG
namespace Go.Proofs.Ytogknbpbjgdldaa
open Go.RowKit Go.Dray

def zTag : Array Value := #[.int .i64 0, .int .i64 0, .slice none 0 0, .slice none 0 0, .slice none 0 0]
theorem zero_tag : ∀ w : World, (zeroValue 40).run Try.prog w = .ok (.agg #[.int .i64 0, .int .i64 0, .slice none 0 0, .slice none 0 0, .slice none 0 0]) w := fun _ => by kernel_rfl

/-- Five cells stored. -/
theorem blk_set5 {w : World} {g : Nat} {t : TypeId} {x0 x1 x2 x3 x4 y0 y1 y2 y3 y4 : Value} (h : Blk w g t #[x0, x1, x2, x3, x4]) : Blk (((((w.setCell ⟨g, 0, none⟩ y0).setCell ⟨g, 1, none⟩ y1).setCell ⟨g, 2, none⟩ y2).setCell ⟨g, 3, none⟩ y3).setCell ⟨g, 4, none⟩ y4) g t #[y0, y1, y2, y3, y4] :=
  ((((h.set 0 y0).set 1 y1).set 2 y2).set 3 y3).set 4 y4
theorem upd_set5 {L : List (Option Nat)} {w0 w : World} {g : Nat} {y0 y1 y2 y3 y4 : Value} (h : Upd L w0 w) (hg : w0.heap.size ≤ g) : Upd L w0 (((((w.setCell ⟨g, 0, none⟩ y0).setCell ⟨g, 1, none⟩ y1).setCell ⟨g, 2, none⟩ y2).setCell ⟨g, 3, none⟩ y3).setCell ⟨g, 4, none⟩ y4) :=
  ((((h.put hg _).put hg _).put hg _).put hg _).put hg _

theorem upd5 {w : World} {g : Nat} {y0 y1 y2 y3 y4 : Value} : Upd [some g] w (((((w.setCell ⟨g, 0, none⟩ y0).setCell ⟨g, 1, none⟩ y1).setCell ⟨g, 2, none⟩ y2).setCell ⟨g, 3, none⟩ y3).setCell ⟨g, 4, none⟩ y4) :=
  (((((Upd.refl [some g] w).putIn (by simp) _).putIn (by simp) _).putIn (by simp) _).putIn (by simp) _).putIn (by simp) _

/-- What parseNumbers hands back. -/
def NumPost (tg ty : Int) (d : List Int) (s cnt : Nat) (w : World) (e : Ending) (w' : World) : Prop :=
  ((∀ i, i < cnt → numV d s i ≤ 9223372036854775807) ∧ TagPost ⟨tg, ty, numsV d s cnt, [], []⟩ w e w') ∨ ((∃ i, i < cnt ∧ 9223372036854775807 < numV d s i) ∧ e = .returned (noTag 3) ∧ Upd [] w w')

set_option maxRecDepth 100000 in
set_option maxHeartbeats 400000 in
theorem parseNumbers_short (w : World) (tg ty : Int) (D : Option Addr) (n c : Nat) (cnt : Nat) (hc : cnt ≤ 4294967295) (hs : n < cnt * sizeT ty) :
    Calls Try.prog 38 #[.agg #[.int .i64 tg, .int .i64 ty, .slice none 0 0, .slice none 0 0, .slice none 0 0], .slice D n c, .int .i64 cnt] w (RetU (noTag 2) w) := by
  obtain ⟨s, HS⟩ : ∃ s, Hid (s = sizeT ty) := ⟨_, rfl⟩
  have hsb := sizeT_bd ty
  rw [← HS.out] at hsb hs
  have hsz : (sizeT ty : Int) = (s : Int) := by rw [HS.out]
  obtain ⟨q, HQ⟩ : ∃ q, Hid (q = cnt * s) := ⟨_, rfl⟩
  rw [← HQ.out] at hs
  have hq : q ≤ 34359738360 := by
    rw [HQ.out]
    have := Nat.mul_le_mul hc hsb.2
    omega
  have HW : Hid (wrap64 ((cnt : Int) * s) = (q : Int)) := by
    show _ = _
    rw [← Int.natCast_mul, ← HQ.out]
    exact IntWalk.wrap64_in _ (by omega)
  have d1 : decide (n < q) = true := by simpa using hs
  go_enter Try.func38, Try.ntmps38
  go_wp2_with fail
  refine (size_any ty _).mono ?_
  rintro e w' ⟨rfl, rfl⟩
  rw [hsz]
  have hw := HW.out
  go_wp2
  exact bodyPost_ret (v := noTag 2) (by simp [results, Try.results38, go_sem, noTag]) rfl ⟨rfl, ((Upd.refl _ _).alloc _).alloc _⟩

set_option maxRecDepth 100000 in
set_option maxHeartbeats 1000000 in
theorem parseNumbers_any (w : World) (tg ty : Int) (D : Option Addr) (n c : Nat) (d : List Int) (hD : Ints .u8 w D n d) (hb : ∀ z ∈ d, 0 ≤ z ∧ z ≤ 255) (hnc : n ≤ c) (cnt : Nat) (hn : n ≤ 100000000000) (hs : cnt * sizeT ty ≤ n) :
    Calls Try.prog 38 #[.agg #[.int .i64 tg, .int .i64 ty, .slice none 0 0, .slice none 0 0, .slice none 0 0], .slice D n c, .int .i64 cnt] w (NumPost tg ty d (sizeT ty) cnt w) := by
  have HD := Lib.hid hD
  have HBB := Lib.hid hb
  obtain ⟨s, HS⟩ : ∃ s, Hid (s = sizeT ty) := ⟨_, rfl⟩
  have hsb := sizeT_bd ty
  rw [← HS.out] at hsb hs
  rw [← HS.out]
  have hsz : (sizeT ty : Int) = (s : Int) := by rw [HS.out]
  obtain ⟨q, HQ⟩ : ∃ q, Hid (q = cnt * s) := ⟨_, rfl⟩
  rw [← HQ.out] at hs
  have hcq : cnt ≤ q := by rw [HQ.out]; exact Nat.le_mul_of_pos_right _ (by omega)
  have HW : Hid (wrap64 ((cnt : Int) * s) = (q : Int)) := by
    show _ = _
    rw [← Int.natCast_mul, ← HQ.out]
    exact IntWalk.wrap64_in _ (by omega)
  have d1 : decide (n < q) = false := by simpa using hs
  clear hD hb
  go_enter Try.func38, Try.ntmps38
  go_wp2_with fail
  refine (size_any ty _).mono ?_
  rintro e w' ⟨rfl, rfl⟩
  rw [hsz]
  have hw := HW.out
  go_wp2_with fail
  clear hw
  obtain ⟨B, HB⟩ : ∃ B, Hid (B = w.heap.size) := ⟨_, rfl⟩
  have HBK : Hid (Blk ((w.alloc (.cells #[.int .i64 tg, .int .i64 ty, .slice none 0 0, .slice none 0 0, .slice none 0 0] 40)).alloc (.cells #[.int .i64 0, .int .i64 0, .slice none 0 0, .slice none 0 0, .slice none 0 0] 40)) w.heap.size 40 #[.int .i64 tg, .int .i64 ty, .slice none 0 0, .slice none 0 0, .slice none 0 0]) := (Blk.new _ _ _).alloc _
  have HRK : Hid (Blk ((w.alloc (.cells #[.int .i64 tg, .int .i64 ty, .slice none 0 0, .slice none 0 0, .slice none 0 0] 40)).alloc (.cells #[.int .i64 0, .int .i64 0, .slice none 0 0, .slice none 0 0, .slice none 0 0] 40)) (w.heap.size + 1) 40 #[.int .i64 0, .int .i64 0, .slice none 0 0, .slice none 0 0, .slice none 0 0]) := by
    have := Blk.new (w.alloc (.cells #[.int .i64 tg, .int .i64 ty, .slice none 0 0, .slice none 0 0, .slice none 0 0] 40)) 40 #[.int .i64 0, .int .i64 0, .slice none 0 0, .slice none 0 0, .slice none 0 0]
    simp at this
    exact this
  have HU1 : Hid (Upd [] w ((w.alloc (.cells #[.int .i64 tg, .int .i64 ty, .slice none 0 0, .slice none 0 0, .slice none 0 0] 40)).alloc (.cells #[.int .i64 0, .int .i64 0, .slice none 0 0, .slice none 0 0, .slice none 0 0] 40))) := ((Upd.refl _ _).alloc _).alloc _
  rw [← HB.out] at HBK HRK ⊢
  generalize hw1 : World.alloc (w.alloc _) _ = w1 at *
  clear hw1
  go_loopw [23] (fun i wr => ∃ (j : Nat) (IA : Option Addr) (ic : Nat), j ≤ cnt ∧ i = .int .i64 j ∧ Hid (Blk wr B 40 #[.int .i64 tg, .int .i64 ty, .slice IA j ic, .slice none 0 0, .slice none 0 0]) ∧ Hid (Blk wr (B + 1) 40 #[.int .i64 0, .int .i64 0, .slice none 0 0, .slice none 0 0, .slice none 0 0]) ∧ Hid (Own wr w.heap.size 3 1 IA j ic (((numsV d s cnt).take j).map (Value.int .i64))) ∧ Hid (Upd [] w wr) ∧ Hid (∀ i, i < j → numV d s i ≤ 9223372036854775807)) (fun i _ => cnt - (intOf i).toNat)
  case atStart => exact ⟨0, none, 0, by omega, rfl, HBK, HRK, Own.nil _ _ _ _, HU1, fun i hi => by omega⟩
  case round =>
    clear HBK HRK HU1
    obtain ⟨j, IA, ic, hj, rfl, HBK, HRK, HO, HU, HOK⟩ := hrel
    by_cases hlt : j < cnt
    · have HDr := Lib.hid (HD.out.upd HU.out (by simp))
      obtain ⟨a, HA⟩ : ∃ a, Hid (a = j * s) := ⟨_, rfl⟩
      have has : a + s ≤ q := by
        have h1 : (j + 1) * s ≤ cnt * s := Nat.mul_le_mul_right s hlt
        rw [Nat.succ_mul] at h1
        have h2 := HA.out
        have h3 := HQ.out
        omega
      have HWA : Hid (wrap64 ((j : Int) * s) = (a : Int)) := by
        show _ = _
        rw [← Int.natCast_mul, ← HA.out]
        exact IntWalk.wrap64_in _ (by omega)
      have hw := HWA.out
      go_wp2_with fail
      clear hw
      refine (getBe_ok D n c d a s wr HDr.out HBB.out hnc (by omega) (by omega) (by omega) (by omega) (by omega)).mono ?_
      rintro e w' ⟨rfl, rfl⟩
      obtain ⟨x, HX⟩ : ∃ x, Hid (x = numV d s j) := ⟨_, rfl⟩
      have HE : Hid (beNum ((d.drop (a : Int).toNat).take (s : Int).toNat) = x) := by
        show _ = _
        rw [HX.out, Int.toNat_natCast, Int.toNat_natCast, HA.out]
        rfl
      rw [HE.out]
      have hxb := numV_nonneg HBB.out s j hsb.2
      rw [← HX.out] at hxb
      have hx0 := hxb.1
      have hx1 := hxb.2
      have e2 : wr.cell? ⟨B, 2, none⟩ = some (.slice IA j ic) := by rw [HBK.out.cell]; rfl
      have f2 := HBK.out.frozen 2
      by_cases hbig : 9223372036854775807 < x
      · have d2 : decide (9223372036854775807 < x) = true := by simpa using hbig
        have z0 : wr.cell? ⟨B + 1, 0, none⟩ = some (.int .i64 0) := by rw [HRK.out.cell]; rfl
        have z1 : wr.cell? ⟨B + 1, 1, none⟩ = some (.int .i64 0) := by rw [HRK.out.cell]; rfl
        have z2 : wr.cell? ⟨B + 1, 2, none⟩ = some (.slice none 0 0) := by rw [HRK.out.cell]; rfl
        have z3 : wr.cell? ⟨B + 1, 3, none⟩ = some (.slice none 0 0) := by rw [HRK.out.cell]; rfl
        have z4 : wr.cell? ⟨B + 1, 4, none⟩ = some (.slice none 0 0) := by rw [HRK.out.cell]; rfl
        have fz := HRK.out.frozen
        go_wp2
        have HK9 := Lib.hid (blk_set5 (y0 := .int .i64 0) (y1 := .int .i64 0) (y2 := .slice none 0 0) (y3 := .slice none 0 0) (y4 := .slice none 0 0) HRK.out)
        have HU9 := Lib.hid (upd_set5 (g := B + 1) (y0 := .int .i64 0) (y1 := .int .i64 0) (y2 := .slice none 0 0) (y3 := .slice none 0 0) (y4 := .slice none 0 0) HU.out (by have := HB.out; omega))
        generalize hw9 : World.setCell _ _ _ = w9 at *
        have y0 : w9.cell? ⟨B + 1, 0, none⟩ = some (.int .i64 0) := by rw [HK9.out.cell]; rfl
        have y1 : w9.cell? ⟨B + 1, 1, none⟩ = some (.int .i64 0) := by rw [HK9.out.cell]; rfl
        have y2 : w9.cell? ⟨B + 1, 2, none⟩ = some (.slice none 0 0) := by rw [HK9.out.cell]; rfl
        have y3 : w9.cell? ⟨B + 1, 3, none⟩ = some (.slice none 0 0) := by rw [HK9.out.cell]; rfl
        have y4 : w9.cell? ⟨B + 1, 4, none⟩ = some (.slice none 0 0) := by rw [HK9.out.cell]; rfl
        exact bodyPost_ret (v := noTag 3) (by simp [results, Try.results38, go_sem, noTag, y0, y1, y2, y3, y4]) rfl (Or.inr ⟨⟨j, hlt, by rw [← HX.out]; exact hbig⟩, rfl, HU9.out⟩)
      · have d2 : decide (9223372036854775807 < x) = false := by simpa using hbig
        have hB1 : w.heap.size ≤ wr.heap.size := HU.out.size
        have hbl := HBK.out.lt
        go_wp2_with (at_builtin; refine wpList_app rfl rfl el_int rfl (HO.out.alloc _) rfl (Seg.one _ _ _) (by intro u hu; simp at hu; subst hu; rfl) (by simp only [maxLen]; omega) (by omega) (by simp; omega) ?_; intro I3 c3 w3 hown3 hu3 hfr3; have HV3 : Hid (Upd [ob IA] wr w3) := ((Upd.refl _ _).alloc _).trans hu3; have HO3 := Lib.hid hown3; have HBK3 := Lib.hid (HBK.out.upd HV3.out (by simp; exact fun h => HO.out.neBlk HBK.out (by decide) h.symm)); have HRK3 := Lib.hid (HRK.out.upd HV3.out (by simp; exact fun h => HO.out.neBlk HRK.out (by decide) h.symm)); clear hown3 hu3 hfr3 e2 f2; have e2 : w3.cell? ⟨B, 2, none⟩ = some (.slice IA j ic) := (by rw [HBK3.out.cell]; rfl); have f2 := HBK3.out.frozen 2)
        have HU3 : Hid (Upd [] w w3) := HU.out.then HV3.out (fun b hb => by simp at hb; right; exact (HO.out.base hb.symm).1)
        have HO4 : Hid (Own (w3.setCell ⟨B, 2, none⟩ (.slice I3 (j + 1) c3)) w.heap.size 3 1 I3 (j + 1) c3 (((numsV d s cnt).take (j + 1)).map (Value.int .i64))) := by
          rw [numsV_take _ _ _ hlt, List.map_append, ← HX.out]
          exact HO3.out.far (HO3.out.neBlk HBK3.out (by decide)) _
        have HBK4 := Lib.hid (HBK3.out.set 2 (.slice I3 (j + 1) c3))
        have HRK4 := Lib.hid (HRK3.out.far (p := ⟨B, 2, none⟩) (by simp) (.slice I3 (j + 1) c3))
        have HU4 := Lib.hid (HU3.out.put (b := B) (o := 2) (by have := HB.out; omega) (.slice I3 (j + 1) c3))
        clear HO HBK HRK HU HV3 HO3 HBK3 HRK3 HU3
        go_roundw
        case rel =>
          refine ⟨j + 1, I3, c3, by omega, by go_num, HBK4, HRK4, HO4, HU4, fun i hi => ?_⟩
          rcases Nat.lt_or_ge i j with h | h
          · exact HOK.out i h
          · obtain rfl : i = j := by omega
            rw [← HX.out]
            omega
        case measure => simp [intOf]; omega
    · obtain rfl : j = cnt := by omega
      have e0 : wr.cell? ⟨B, 0, none⟩ = some (.int .i64 tg) := by rw [HBK.out.cell]; rfl
      have e1 : wr.cell? ⟨B, 1, none⟩ = some (.int .i64 ty) := by rw [HBK.out.cell]; rfl
      have e2 : wr.cell? ⟨B, 2, none⟩ = some (.slice IA j ic) := by rw [HBK.out.cell]; rfl
      have e3 : wr.cell? ⟨B, 3, none⟩ = some (.slice none 0 0) := by rw [HBK.out.cell]; rfl
      have e4 : wr.cell? ⟨B, 4, none⟩ = some (.slice none 0 0) := by rw [HBK.out.cell]; rfl
      have z0 : wr.cell? ⟨B + 1, 0, none⟩ = some (.int .i64 0) := by rw [HRK.out.cell]; rfl
      have z1 : wr.cell? ⟨B + 1, 1, none⟩ = some (.int .i64 0) := by rw [HRK.out.cell]; rfl
      have z2 : wr.cell? ⟨B + 1, 2, none⟩ = some (.slice none 0 0) := by rw [HRK.out.cell]; rfl
      have z3 : wr.cell? ⟨B + 1, 3, none⟩ = some (.slice none 0 0) := by rw [HRK.out.cell]; rfl
      have z4 : wr.cell? ⟨B + 1, 4, none⟩ = some (.slice none 0 0) := by rw [HRK.out.cell]; rfl
      have fz := HRK.out.frozen
      go_wp2
      have HK9 := Lib.hid (blk_set5 (y0 := .int .i64 tg) (y1 := .int .i64 ty) (y2 := .slice IA j ic) (y3 := .slice none 0 0) (y4 := .slice none 0 0) HRK.out)
      have HU9 := Lib.hid (upd_set5 (g := B + 1) (y0 := .int .i64 tg) (y1 := .int .i64 ty) (y2 := .slice IA j ic) (y3 := .slice none 0 0) (y4 := .slice none 0 0) HU.out (by have := HB.out; omega))
      have HV9 := Lib.hid (upd5 (w := wr) (g := B + 1) (y0 := .int .i64 tg) (y1 := .int .i64 ty) (y2 := .slice IA j ic) (y3 := .slice none 0 0) (y4 := .slice none 0 0))
      generalize hw9 : World.setCell _ _ _ = w9 at *
      have y0 : w9.cell? ⟨B + 1, 0, none⟩ = some (.int .i64 tg) := by rw [HK9.out.cell]; rfl
      have y1 : w9.cell? ⟨B + 1, 1, none⟩ = some (.int .i64 ty) := by rw [HK9.out.cell]; rfl
      have y2 : w9.cell? ⟨B + 1, 2, none⟩ = some (.slice IA j ic) := by rw [HK9.out.cell]; rfl
      have y3 : w9.cell? ⟨B + 1, 3, none⟩ = some (.slice none 0 0) := by rw [HK9.out.cell]; rfl
      have y4 : w9.cell? ⟨B + 1, 4, none⟩ = some (.slice none 0 0) := by rw [HK9.out.cell]; rfl
      have HO9 : Hid (Own w9 w.heap.size 3 1 IA j ic ((numsV d s j).map (Value.int .i64))) := by
        have h := HO.out
        rw [List.take_of_length_le (by unfold numsV; rw [tab_len]; exact Nat.le_refl _)] at h
        exact h.upd HV9.out (fun b hb => by simp; intro e; subst e; exact h.neBlk HRK.out (by decide) hb)
      refine bodyPost_ret (v := tagRes ⟨IA, j, ic, none, 0, 0, none, 0, 0⟩ ⟨tg, ty, numsV d s j, [], []⟩ 0) (by simp [results, Try.results38, go_sem, tagRes, y0, y1, y2, y3, y4]) rfl (Or.inl ⟨HOK.out, ⟨IA, j, ic, none, 0, 0, none, 0, 0⟩, rfl, ⟨HO9.out, Own.nil _ _ _ _, Own.nil _ _ _ _, fun z hz => ?_, by simp⟩, HU9.out⟩)
      unfold numsV tab at hz
      obtain ⟨i, hi, rfl⟩ := List.mem_map.1 hz
      have h1 := HOK.out i (List.mem_range.1 hi)
      have h2 := (numV_nonneg HBB.out s i hsb.2).1
      omega

end Go.Proofs.Ytogknbpbjgdldaa
