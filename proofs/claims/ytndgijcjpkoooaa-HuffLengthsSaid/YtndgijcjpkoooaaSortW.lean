/- The walks of cmp.Compare, of huff.Lengths' closure, and of the parts of slices.SortStableFunc at that closure: swapRange, rotate, insertionSort. -/
import Derived.Test.YtndgijcjpkoooaaElems
import Derived.Test.YtndgijcjpkoooaaLenQ
import Derived.BigRegion
namespace Go.Proofs.Ytndgijcjpkoooaa
open Go.RowKit Go.Dray

def cmpI (a b : Int) : Int := if a < b then -1 else if b < a then 1 else 0
theorem cmpI_neg (a b : Int) : (cmpI a b < 0) = (a < b) := by
  unfold cmpI
  by_cases h : a < b
  · simp [h]
  · by_cases h2 : b < a
    · simp [h, h2]
    · simp [h, h2]

set_option maxHeartbeats 400000 in
theorem isNaN_any (x : Int) (w : World) : Calls Try.prog 43 #[.int .i64 x] w fun e w' => e = .returned (.bool false) ∧ w = w' := by
  have h : (x != x) = false := by simp
  go_enter Try.func43, Try.ntmps43
  go_wp2
  go_ret
  exact ⟨rfl, rfl⟩

set_option maxHeartbeats 400000 in
theorem compare_any (x y : Int) (w : World) : Calls Try.prog 40 #[.int .i64 x, .int .i64 y] w fun e w' => e = .returned (.int .i64 (cmpI x y)) ∧ w = w' := by
  by_cases h : x < y
  · have HE : Hid (cmpI x y = -1) := by simp [Hid, cmpI, h]
    go_enter Try.func40, Try.ntmps40
    go_wp2_with (first
      | (go_at_call 43; refine (isNaN_any x _).mono ?_; rintro e w' ⟨rfl, rfl⟩)
      | (go_at_call 43; refine (isNaN_any y _).mono ?_; rintro e w' ⟨rfl, rfl⟩))
    go_ret
    exact ⟨by rw [HE.out]; rfl, rfl⟩
  · by_cases h2 : y < x
    · have HE : Hid (cmpI x y = 1) := by simp [Hid, cmpI, h, h2]
      have h3 : y ≤ x := by omega
      go_enter Try.func40, Try.ntmps40
      go_wp2_with (first
        | (go_at_call 43; refine (isNaN_any x _).mono ?_; rintro e w' ⟨rfl, rfl⟩)
        | (go_at_call 43; refine (isNaN_any y _).mono ?_; rintro e w' ⟨rfl, rfl⟩))
      go_ret
      exact ⟨by rw [HE.out]; rfl, rfl⟩
    · have HE : Hid (cmpI x y = 0) := by simp [Hid, cmpI, h, h2]
      have h3 : y ≤ x := by omega
      have h4 : x ≤ y := by omega
      go_enter Try.func40, Try.ntmps40
      go_wp2_with (first
        | (go_at_call 43; refine (isNaN_any x _).mono ?_; rintro e w' ⟨rfl, rfl⟩)
        | (go_at_call 43; refine (isNaN_any y _).mono ?_; rintro e w' ⟨rfl, rfl⟩))
      go_ret
      exact ⟨by rw [HE.out]; rfl, rfl⟩

theorem getD_of2 {zs : List Int} {i : Nat} {x : Int} (h : zs[i]? = some x) : zs.getD i 0 = x := by simp [List.getD, h]

/-- The counts that the closure has captured: in a box. -/
def Cmps (w : World) (bx : Nat) (CA : Option Addr) (cn cc : Nat) (zs : List Int) : Prop := w.cell? ⟨bx, 0, none⟩ = some (.slice CA cn cc) ∧ Ints .i64 w CA cn zs
theorem Cmps.drewN {w : World} {bx : Nat} {CA : Option Addr} {cn cc : Nat} {zs : List Int} (h : Cmps w bx CA cn cc zs) (q : Nat) : Cmps (w.drewN q) bx CA cn cc zs := ⟨h.1, h.2.drewN q⟩
theorem Cmps.upd {w w' : World} {bx : Nat} {CA : Option Addr} {cn cc : Nat} {zs : List Int} {L : List (Option Nat)} (h : Cmps w bx CA cn cc zs) (hu : Upd L w w') (h1 : some bx ∉ L) (h2 : 0 < cn → some (bl CA) ∉ L) : Cmps w' bx CA cn cc zs := ⟨hu.cell h.1 h1, h.2.upd hu h2⟩



set_option maxHeartbeats 400000 in
theorem closure_any {w : World} {bx : Nat} {CA : Option Addr} {cn cc : Nat} {zs : List Int} (h : Cmps w bx CA cn cc zs) (x y : Int) (hx : 0 ≤ x ∧ x < cn) (hy : 0 ≤ y ∧ y < cn) :
    Calls Try.prog 39 #[.int .i64 x, .int .i64 y, .pointer (some ⟨bx, 0, none⟩)] w fun e w' => e = .returned (.int .i64 (cmpI (keyOf zs x) (keyOf zs y))) ∧ ∃ q, w' = w.drewN q := by
  obtain ⟨hc, hi⟩ := h
  obtain ⟨x, rfl⟩ := Int.eq_ofNat_of_zero_le hx.1
  obtain ⟨y, rfl⟩ := Int.eq_ofNat_of_zero_le hy.1
  obtain ⟨u, HU, cx⟩ := hi.int (i := x) (by omega)
  obtain ⟨v, HV, cy⟩ := hi.int (i := y) (by omega)
  have ix := hi.index el_int cc .i64 x (by omega)
  have iy := hi.index el_int cc .i64 y (by omega)
  have HX : Hid (keyOf zs x = u) := by unfold keyOf; exact getD_of2 HU.out
  have HY : Hid (keyOf zs y = v) := by unfold keyOf; exact getD_of2 HV.out
  clear hi HU HV
  go_enter Try.func39, Try.ntmps39
  go_wp2
  go_quiet (first | (go_at_call 40; refine quietL (compare_any u v _)))
  go_wp2
  go_ret
  exact ⟨by rw [HX.out, HY.out]; rfl, _, rfl⟩

/-- What is said of memory while the row d is sorted. -/
structure SS (w0 wr : World) (B : Nat) (A : Option Addr) (n c bx : Nat) (CA : Option Addr) (cn cc : Nat) (zs : List Int) (d : Nat → Int) : Prop where
  own : Own wr B 3 1 A n c ((tab n d).map (Value.int .i64))
  cmp : Cmps wr bx CA cn cc zs
  upd : Upd [ob A] w0 wr
  far : ob A ≠ some bx
  far2 : 0 < cn → ob A ≠ some (bl CA)
  good : ∀ k, k < n → 0 ≤ d k ∧ d k < cn

section
variable {w0 wr : World} {B : Nat} {A : Option Addr} {n c bx : Nat} {CA : Option Addr} {cn cc : Nat} {zs : List Int} {d : Nat → Int}
theorem SS.drewN (h : SS w0 wr B A n c bx CA cn cc zs d) (q : Nat) : SS w0 (wr.drewN q) B A n c bx CA cn cc zs d :=
  ⟨h.own.drewN q, h.cmp.drewN q, h.upd.drewN q, h.far, h.far2, h.good⟩
theorem SS.drew (h : SS w0 wr B A n c bx CA cn cc zs d) : SS w0 wr.drew B A n c bx CA cn cc zs d := h.drewN 1
theorem SS.put (h : SS w0 wr B A n c bx CA cn cc zs d) {i : Nat} (hi : i < n) (v : Int) (hv : 0 ≤ v ∧ v < cn) : SS w0 (wr.setCell ⟨bl A, ofs A + i, none⟩ (.int .i64 v)) B A n c bx CA cn cc zs (fun k => if k = i then v else d k) := by
  have hob := h.own.obl (by omega)
  have hu : Upd [ob A] wr (wr.setCell ⟨bl A, ofs A + i, none⟩ (.int .i64 v)) := (Upd.refl _ wr).setCell (p := ⟨bl A, ofs A + i, none⟩) (Or.inl (by simp [hob])) _
  refine ⟨?_, h.cmp.upd hu (by simp; exact fun e => h.far e.symm) (fun hp => by simp; exact fun e => h.far2 hp e.symm), h.upd.trans hu, h.far, h.far2, fun k hk => ?_⟩
  · have := h.own.set (k := i) (by omega) (.int .i64 v)
    rw [← List.map_set, tab_set] at this
    exact this
  · show 0 ≤ (if k = i then v else d k) ∧ (if k = i then v else d k) < cn
    split
    · exact hv
    · exact h.good k hk
theorem SS.swap (h : SS w0 wr B A n c bx CA cn cc zs d) {i j : Nat} (hi : i < n) (hj : j < n) : SS w0 ((wr.setCell ⟨bl A, ofs A + i, none⟩ (.int .i64 (d j))).setCell ⟨bl A, ofs A + j, none⟩ (.int .i64 (d i))) B A n c bx CA cn cc zs (sw d i j) := by
  have := (h.put hi (d j) (h.good j hj)).put hj (d i) (h.good i hi)
  have e : (fun k => if k = j then d i else if k = i then d j else d k) = sw d i j := by
    funext k
    unfold sw
    by_cases h1 : k = i
    · by_cases h2 : k = j
      · rw [if_pos h2, if_pos h1, ← h1, ← h2]
      · rw [if_neg h2, if_pos h1, if_pos h1]
    · by_cases h2 : k = j
      · rw [if_pos h2, if_neg h1, if_pos h2]
      · rw [if_neg h2, if_neg h1, if_neg h1, if_neg h2]
  rw [e] at this
  exact this
theorem SS.cell (h : SS w0 wr B A n c bx CA cn cc zs d) {i : Nat} (hi : i < n) : wr.cell? ⟨bl A, ofs A + i, none⟩ = some (.int .i64 (d i)) := (Ints.ofOwn h.own).cell (tab_get d hi)
theorem SS.index (h : SS w0 wr B A n c bx CA cn cc zs d) {i : Nat} (hi : i < n) (v : Int) (hv : v = i) : ∀ W : World, (Instr.indexAt 22 (.slice A n c) (.int .i64 v)).run Try.prog W = .ok (.pointer (some ⟨bl A, ofs A + i, none⟩)) W := (Ints.ofOwn h.own).indexI el_int c .i64 v i hv hi
theorem SS.fz (h : SS w0 wr B A n c bx CA cn cc zs d) {i : Nat} (hi : i < n) : wr.frozen? ⟨bl A, ofs A + i, none⟩ = false := h.own.frozen (by omega) i
/-- The second place behind the first one's store. -/
theorem SS.cell2 (h : SS w0 wr B A n c bx CA cn cc zs d) {i j : Nat} (hi : i < n) (hj : j < n) (v : Int) : ∃ u, (wr.setCell ⟨bl A, ofs A + i, none⟩ (.int .i64 v)).cell? ⟨bl A, ofs A + j, none⟩ = some u := by
  by_cases e : i = j
  · subst e; exact ⟨_, World.cell?_setCell_same _ _ _ (h.cell hi)⟩
  · exact ⟨_, (World.cell?_setCell_other _ _ _ _ (by intro e'; simp only [Addr.mk.injEq] at e'; omega)).trans (h.cell hj)⟩
end

/-- What a part of the sort leaves. -/
def SPost (w0 : World) (B : Nat) (A : Option Addr) (n c bx : Nat) (CA : Option Addr) (cn cc : Nat) (zs : List Int) (Q : (Nat → Int) → Prop) (e : Ending) (w' : World) : Prop :=
  ∃ d', e = .returned (.tuple #[]) ∧ SS w0 w' B A n c bx CA cn cc zs d' ∧ Q d'

set_option maxHeartbeats 1000000 in
theorem swapRange_any {w0 w : World} {B : Nat} {A : Option Addr} {n c bx : Nat} {CA : Option Addr} {cn cc : Nat} {zs : List Int} {d : Nat → Int} (h : SS w0 w B A n c bx CA cn cc zs d) (a b m : Nat) (ha : a + m ≤ b) (hb : b + m ≤ n) (hn : n ≤ 1000) (fv : Value) :
    Calls Try.prog 47 #[.slice A n c, .int .i64 a, .int .i64 b, .int .i64 m, fv] w (SPost w0 B A n c bx CA cn cc zs fun d' => d' = swr a b m d) := by
  have HS := Lib.hid h
  clear h
  go_enter Try.func47, Try.ntmps47
  go_wp2
  go_loopw [10] (fun v wr => ∃ i : Nat, i ≤ m ∧ v = .int .i64 i ∧ Hid (SS w0 wr B A n c bx CA cn cc zs (swr a b i d))) (fun v _ => m - (intOf v).toNat)
  case atStart => exact ⟨0, by omega, rfl, by rw [swr_zero]; exact HS⟩
  case round =>
    clear HS
    obtain ⟨i, hi, rfl, HI⟩ := hrel
    by_cases hlt : i < m
    · obtain ⟨dk, hdk⟩ : ∃ dk, dk = swr a b i d := ⟨_, rfl⟩
      rw [← hdk] at HI
      have HDK := Lib.hid hdk
      clear hdk
      have c1 := HI.out.cell (i := a + i) (by omega)
      have c2 := HI.out.cell (i := b + i) (by omega)
      have f1 := HI.out.fz (i := a + i) (by omega)
      have f2 := HI.out.fz (i := b + i) (by omega)
      have i1 := HI.out.index (i := a + i) (by omega) ((a : Int) + i) (by omega)
      have i2 := HI.out.index (i := b + i) (by omega) ((b : Int) + i) (by omega)
      obtain ⟨u3, c3⟩ := HI.out.cell2 (i := a + i) (j := b + i) (by omega) (by omega) (dk (b + i))
      have hsw := Lib.hid (HI.out.swap (i := a + i) (j := b + i) (by omega) (by omega)).drew
      obtain ⟨x, hx⟩ : ∃ x, x = dk (a + i) := ⟨_, rfl⟩
      obtain ⟨y, hy⟩ : ∃ y, y = dk (b + i) := ⟨_, rfl⟩
      rw [← hx] at c1 hsw
      rw [← hy] at c2 c3 hsw
      obtain ⟨p, hp⟩ : ∃ p, p = ofs A + (a + i) := ⟨_, rfl⟩
      obtain ⟨q, hq⟩ : ∃ q, q = ofs A + (b + i) := ⟨_, rfl⟩
      rw [← hp] at c1 f1 i1 c3 hsw
      rw [← hq] at c2 f2 i2 c3 hsw
      clear hx hy hp hq HI
      go_wp2
      go_region
      clear c1 c2 c3 f1 f2 i1 i2
      generalize ((wr.setCell ⟨bl A, p, none⟩ (.int .i64 y)).setCell ⟨bl A, q, none⟩ (.int .i64 x)).drew = w3 at hsw ⊢
      go_wp2
      go_roundw
      case rel => exact ⟨i + 1, by omega, by go_num, by rw [← swr_succ (by omega), ← HDK.out]; exact hsw⟩
      case measure => simp [intOf]; omega
    · obtain rfl : i = m := by omega
      go_wp2
      go_end0
      exact ⟨_, rfl, HI.out, rfl⟩

end Go.Proofs.Ytndgijcjpkoooaa
