/- The walks of slices.Grow, slices.Concat, slices.Repeat at int, and of math/bits.Mul by one. -/
import Derived.Test.YtolcdlopgbgilaaDoorElems
import Derived.Lib.AppendZerosOnto
import Derived.Lib.Hide
import Derived.StillTailTactics
import Derived.Laws.CopyRow
namespace Go.Proofs.YtolcdlopgbgilaaDoor
open Go.RowKit Go.Dray

def GrowPost (e0 : TypeId) (n : Nat) (w : World) (e : Ending) (w' : World) : Prop := ∃ A G, e = .returned (.slice A 0 G) ∧ n ≤ G ∧ Own w' w.heap.size e0 1 A 0 G [] ∧ Upd [] w w'

set_option maxHeartbeats 1000000 in
theorem growI_nil (n : Nat) (w : World) (hn : n ≤ 100000000) :
    Calls Tryd.prog 96 #[.slice none 0 0, .int .i64 n] w (GrowPost 3 n w) := by
  rcases Nat.eq_zero_or_pos n with h0 | h0
  · subst h0
    go_enter Tryd.func96, Tryd.ntmps96
    go_wp2
    go_ret
    exact ⟨none, 0, rfl, Nat.le_refl _, Own.nil _ _ _ _, Upd.refl _ _⟩
  · obtain ⟨i, hi, hz, hs, hb⟩ := info_get el_int
    have hcap := grownCap_ge w n 0 3
    have hmax := grownCap_le_maxLen w n 0 3 (by simp only [maxLen]; omega)
    have hr : ∀ ty, (Builtin.append_ #[61, 3] ty #[.slice none 0 0, .int .i64 n]).run Tryd.prog w = .ok (.slice (some ⟨w.heap.size, 0, none⟩) n (grownCap w n 0 3)) (w.drew.alloc (.cells (Builtin.zeroCells #[Value.int .i64 0] n ++ Builtin.zeroCells #[Value.int .i64 0] (grownCap w n 0 3 - n)) 3)) := fun ty => by
      have h := Lib.run_append_grow_zeros (P := Tryd.prog) w 61 3 ty 3 i (.int .i64 0) .i64 .i64 el_int.under Tryd.underlying3 hi hz none 0 0 [] (run_firstCells_none w.drew i.size 0 0 0) n h0 (by rw [hs]; omega) (by omega) (by omega) (by rw [hb]; omega) (by
        rw [hb]
        exact growslice_fits (by omega) (by omega))
      simpa [Value.cells] using h
    obtain ⟨G, hG⟩ : ∃ G, G = grownCap w n 0 3 := ⟨_, rfl⟩
    rw [← hG] at hcap hmax hr
    have hsz : (Builtin.zeroCells #[Value.int .i64 0] n ++ Builtin.zeroCells #[Value.int .i64 0] (G - n)).size = G := by
      simp [Builtin.zeroCells]
      omega
    obtain ⟨cs, hcs⟩ : ∃ cs, cs = Builtin.zeroCells #[Value.int .i64 0] n ++ Builtin.zeroCells #[Value.int .i64 0] (G - n) := ⟨_, rfl⟩
    rw [← hcs] at hr hsz
    have HR := Lib.hid hr
    have HCS := Lib.hid hsz
    clear hi hz hs hb hG hcs hr hsz
    have hw0 : (0 : Int) < n := by omega
    go_enter Tryd.func96, Tryd.ntmps96
    go_wp2_with (at_builtin; refine Lib.wpList_append_run _ rfl _ _ _ _ rfl _ _ rfl rfl _ _ (HR.out _) ?_)
    go_ret
    refine ⟨some ⟨w.heap.size, 0, none⟩, G, rfl, hcap, ?_, ((Upd.refl [] w).drew.alloc _)⟩
    exact Own.mk rfl (Nat.zero_le _) hmax rfl (Nat.le_refl _) (Blk.new w.drew 3 cs) (by rw [HCS.out]; omega) (by simp)

/-- Slices of ints, as Concat takes them. -/
structure Pt where
  A : Option Addr
  n : Nat
  c : Nat
  zs : List Int
def ptV (x : Pt) : Value := .slice x.A x.n x.c
theorem el_rowsI : El Tryd.prog 140 61 (.slice none 0 0) 1 24 := ⟨Tryd.underlying140, by kernel_rfl, rfl, by omega⟩
def sizes (l : List Pt) : Nat := (l.map (·.n)).sum
def allZ (l : List Pt) : List Int := l.flatMap (·.zs)
theorem sizes_snoc {l : List Pt} {i : Nat} {x : Pt} (h : l[i]? = some x) : sizes (l.take (i + 1)) = sizes (l.take i) + x.n := by
  have hk : i < l.length := (List.getElem?_eq_some_iff.1 h).1
  have hx : l[i] = x := (List.getElem?_eq_some_iff.1 h).2
  unfold sizes
  rw [List.take_succ_eq_append_getElem hk, hx, List.map_append, List.sum_append]
  simp
theorem allZ_snoc {l : List Pt} {i : Nat} {x : Pt} (h : l[i]? = some x) : allZ (l.take (i + 1)) = allZ (l.take i) ++ x.zs := by
  have hk : i < l.length := (List.getElem?_eq_some_iff.1 h).1
  have hx : l[i] = x := (List.getElem?_eq_some_iff.1 h).2
  unfold allZ
  rw [List.take_succ_eq_append_getElem hk, hx, List.flatMap_append]
  simp
theorem sizes_le (l : List Pt) (i : Nat) : sizes (l.take i) ≤ sizes l := by
  have e : sizes l = sizes (l.take i) + sizes (l.drop i) := by
    unfold sizes
    rw [← List.sum_append, ← List.map_append, List.take_append_drop]
  omega

def ConcPost (l : List Pt) (w : World) (e : Ending) (w' : World) : Prop := ∃ A c, e = .returned (.slice A (sizes l) c) ∧ Own w' w.heap.size 3 1 A (sizes l) c ((allZ l).map (Value.int .i64)) ∧ Upd [] w w'

set_option maxRecDepth 100000 in
set_option maxHeartbeats 2000000 in
theorem concatI_any (PA : Option Addr) (k pc : Nat) (l : List Pt) (w : World) (hp : Seg w 1 PA k (l.map ptV)) (hz : ∀ x ∈ l, Ints .i64 w x.A x.n x.zs) (hs : sizes l ≤ 10000000) (hk : k ≤ 1000) :
    Calls Tryd.prog 69 #[.slice PA k pc] w (ConcPost l w) := by
  have HP := Lib.hid hp
  have HZ := Lib.hid hz
  have HL : Hid (l.length = k) := by have := hp.len; rw [List.length_map] at this; show _ = _; omega
  clear hp hz
  go_enter Tryd.func69, Tryd.ntmps69
  go_wp2
  go_loop [3, 11] (fun s i => ∃ j : Nat, j ≤ k ∧ i = .int .i64 j ∧ s = .int .i64 (sizes (l.take j) : Nat)) (fun _ i => k - (intOf i).toNat)
  case atStart => exact ⟨0, by omega, rfl, rfl⟩
  case round =>
    obtain ⟨j, hj, rfl, rfl⟩ := hrel
    have hsl := sizes_le l j
    obtain ⟨S, hS⟩ : ∃ S, S = sizes (l.take j) := ⟨_, rfl⟩
    rw [← hS] at hsl ⊢
    have HS := Lib.hid hS
    clear hS
    by_cases hlt : j < k
    · obtain ⟨x, hx⟩ : ∃ x, l[j]? = some x := ⟨_, List.getElem?_eq_getElem (by rw [HL.out]; exact hlt)⟩
      have HX := Lib.hid hx
      have hc := HP.out.cell j (ptV x) (by rw [List.getElem?_map, hx]; rfl)
      unfold ptV at hc
      have hix := run_index el_rowsI HP.out.at_ pc .i64 j hlt
      rw [Nat.mul_one] at hix
      have hs1 := sizes_le l (j + 1)
      rw [sizes_snoc hx, ← HS.out] at hs1
      clear hx
      go_wp2
      go_round
      case rel => exact ⟨j + 1, by omega, by go_num, by rw [sizes_snoc HX.out, ← HS.out]; go_num⟩
      case measure => simp [intOf]; omega
    · obtain rfl : j = k := by omega
      have HSE : Hid (S = sizes l) := by show _ = _; rw [HS.out, List.take_of_length_le (by rw [HL.out]; omega)]
      go_wp2_with fail
      refine (growI_nil S w (by omega)).mono ?_
      rintro e w1 ⟨G0, gc, rfl, hgc, hown1, hv1⟩
      have HO1 := Lib.hid hown1
      have HV1 := Lib.hid hv1
      clear hown1 hv1
      go_wp2
      go_loopw [6, 27] (fun v i wr => ∃ (t xn : Nat) (X : Option Addr) (xc : Nat), t ≤ j ∧ i = .int .i64 t ∧ v = .slice X xn xc ∧ Hid (xn = sizes (l.take t)) ∧ Hid (Own wr w.heap.size 3 1 X xn xc ((allZ (l.take t)).map (Value.int .i64)) ∧ Upd [] w wr)) (fun _ i _ => j - (intOf i).toNat)
      case atStart => exact ⟨0, 0, G0, gc, by omega, rfl, rfl, rfl, ⟨HO1.out, HV1.out⟩⟩
      case round =>
        clear HO1 HV1
        obtain ⟨t, xn, X, xc, ht, rfl, rfl, HXN, HO⟩ := hrel
        by_cases htk : t < j
        · obtain ⟨x, hx⟩ : ∃ x, l[t]? = some x := ⟨_, List.getElem?_eq_getElem (by rw [HL.out]; exact htk)⟩
          have HX := Lib.hid hx
          have hpr := HP.out.upd HO.out.2 (by omega) (by simp)
          have hc := hpr.cell t (ptV x) (by rw [List.getElem?_map, hx]; rfl)
          unfold ptV at hc
          have hix := run_index el_rowsI HP.out.at_ pc .i64 t htk
          rw [Nat.mul_one] at hix
          have hxi := (HZ.out x (List.mem_of_getElem? hx)).upd HO.out.2 (by simp)
          have hs1 := sizes_le l (t + 1)
          rw [sizes_snoc hx, ← HXN.out] at hs1
          have hO := HO.out.1
          have hsz := HO.out.2.size
          obtain ⟨xA, xnn, xcc, xzs⟩ := x
          simp only at hc hxi hs1
          clear hx hpr
          go_wp2_with (at_builtin; refine wpList_app rfl rfl el_int rfl hO rfl hxi (ints_one _ _) (by simp only [maxLen]; omega) (by omega) hsz ?_; intro X3 c3 w3 hown3 hu3 hfr3)
          go_roundw
          case rel =>
            refine ⟨t + 1, xn + xnn, X3, c3, by omega, by go_num, rfl, ?_, ?_, ?_⟩
            · show _ = _; rw [sizes_snoc HX.out, ← HXN.out]
            · rw [allZ_snoc HX.out, List.map_append]; exact hown3
            · exact HO.out.2.then hu3 (fun b hb => by simp at hb; have := (hO.base hb.symm).1; right; omega)
          case measure => simp [intOf]; omega
        · obtain rfl : t = j := by omega
          have e1 : l.take t = l := List.take_of_length_le (by rw [HL.out]; omega)
          rw [e1] at HXN HO
          go_wp2
          go_ret
          refine ⟨X, xc, ?_, ?_, HO.out.2⟩
          · rw [← HXN.out]; rfl
          · rw [← HXN.out]; exact HO.out.1

end Go.Proofs.YtolcdlopgbgilaaDoor
