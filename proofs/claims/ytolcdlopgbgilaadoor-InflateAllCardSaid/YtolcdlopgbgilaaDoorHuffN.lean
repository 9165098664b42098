/- The walks of the reference's Row, head and Next. -/
import Derived.Test.YtolcdlopgbgilaaDoorHuffT
import Derived.StillTailTactics
namespace Go.Proofs.YtolcdlopgbgilaaDoor
open Go.RowKit Go.Dray

set_option maxHeartbeats 400000 in
theorem rrow_any (w : World) (v m : Int) (h0 : 0 ≤ m) (hm : m ≤ 15) :
    Calls Tryd.prog 113 #[.int .i64 v, .int .i64 m] w (NewInts m.toNat ((rowBits v m.toNat).map b2i) w) := by
  obtain ⟨n, rfl⟩ := Int.eq_ofNat_of_zero_le h0
  rw [Int.toNat_natCast]
  go_enter Tryd.func113, Tryd.ntmps113
  go_wp2
  go_loopw [5, 6] (fun x i wr => ∃ j : Nat, j ≤ n ∧ i = .int .i64 ((n : Int) - 1 - j) ∧ ∃ X cc, x = .slice X j cc ∧ Own wr w.heap.size 3 1 X j cc ((tab j fun t => b2i (low (v / 2 ^ (n - 1 - t)))).map (Value.int .i64)) ∧ Upd [] w wr) (fun _ i _ => (intOf i + 1).toNat)
  case atStart => exact ⟨0, by omega, by go_num, none, 0, rfl, Own.nil _ _ _ _, Upd.refl _ _⟩
  case round =>
    obtain ⟨j, hj, rfl, X, cc, rfl, hown, hu⟩ := hrel
    by_cases hlt : j < n
    · have hB : w.heap.size ≤ wr.heap.size := hu.size
      have hbit : bits BinOp.and IntKind.i64 (v / 2 ^ (n - 1 - j)) 1 = b2i (low (v / 2 ^ (n - 1 - j))) := by rw [and_one_i64, b2i_low]
      go_wp2_with (at_builtin; refine wpList_app rfl rfl el_int rfl (hown.alloc _) rfl (Seg.one _ _ _) (by simp [Value.oneCell']) (by simp only [maxLen]; omega) (by omega) (by simp; omega) ?_; intro X3 c3 w3 hown3 hu3 hfr3)
      go_roundw
      case rel =>
        refine ⟨j + 1, by omega, by go_num, X3, c3, rfl, ?_, (hu.alloc _).then hu3 (fun b hb => by simp at hb; have := (hown.base hb.symm).1; right; omega)⟩
        rw [tab_succ, List.map_append]
        exact hown3
      case measure => simp [intOf]; omega
    · obtain rfl : j = n := by omega
      go_wp2
      go_ret
      refine ⟨X, cc, rfl, ?_, hu⟩
      unfold rowBits
      rw [tab_map]
      exact hown

def isHead (a b : List Bool) : Bool := decide (a <+: b)

theorem b2i_inj {a b : Bool} (h : b2i a = b2i b) : a = b := by cases a <;> cases b <;> simp_all [b2i]

/-- head reads alone. -/
def HeadPost (a b : List Bool) (w : World) (e : Ending) (w' : World) : Prop := e = .returned (.bool (isHead a b)) ∧ ∃ q, w' = w.drewN q

theorem head_no {a b : List Bool} {k : Nat} {x y : Int} (ha : (a.map b2i)[k]? = some x) (hb : (b.map b2i)[k]? = some y) (h : x ≠ y) : isHead a b = false := by
  have : ¬ a <+: b := by
    rintro ⟨t, rfl⟩
    have hk : k < a.length := by have := (List.getElem?_eq_some_iff.1 ha).1; simpa using this
    rw [List.map_append, List.getElem?_append_left (by simpa using hk), ha] at hb
    injection hb with hb
    exact h hb
  simp [isHead, this]

theorem head_yes {a b : List Bool} (hl : a.length ≤ b.length) (h : ∀ i, i < a.length → (a.map b2i)[i]? = (b.map b2i)[i]?) : isHead a b = true := by
  have : a <+: b := by
    refine ⟨b.drop a.length, ?_⟩
    have e : a = b.take a.length := by
      apply List.ext_getElem (by rw [List.length_take]; omega)
      intro i h1 h2
      have h3 := h i h1
      rw [List.getElem?_map, List.getElem?_map, List.getElem?_eq_getElem h1, List.getElem?_eq_getElem (by omega)] at h3
      simp at h3
      rw [List.getElem_take]
      exact b2i_inj h3
    rw [e, List.length_take, Nat.min_eq_left hl, List.take_append_drop]
  simp [isHead, this]

set_option maxHeartbeats 400000 in
theorem rhead_any (A B : Option Addr) (n m c d : Nat) (a b : List Bool) (w : World) (ha : Ints .i64 w A n (a.map b2i)) (hb : Ints .i64 w B m (b.map b2i)) (hn : n ≤ 1000000000) :
    Calls Tryd.prog 114 #[.slice A n c, .slice B m d] w (HeadPost a b w) := by
  have HA : Hid (a.length = n) := by have := ha.len.out; rw [List.length_map] at this; exact this
  have HB : Hid (b.length = m) := by have := hb.len.out; rw [List.length_map] at this; exact this
  by_cases hlen : m < n
  · have HE : Hid (isHead a b = false) := by
      have : ¬ a <+: b := fun h => by have := h.length_le; rw [HA.out, HB.out] at this; omega
      simp [Hid, isHead, this]
    go_enter Tryd.func114, Tryd.ntmps114
    go_wp2
    go_ret
    exact ⟨by rw [HE.out]; rfl, 0, rfl⟩
  · have hlen2 : n ≤ m := by omega
    go_enter Tryd.func114, Tryd.ntmps114
    go_wp2
    go_loopw [5] (fun i wr => ∃ k : Nat, k ≤ n ∧ i = .int .i64 k ∧ Hid (∀ i, i < k → (a.map b2i)[i]? = (b.map b2i)[i]?) ∧ ∃ q, wr = w.drewN q) (fun i _ => n - (intOf i).toNat)
    case atStart => exact ⟨0, by omega, rfl, fun i h => by omega, 0, rfl⟩
    case round =>
      obtain ⟨k, hk, rfl, HI, q, rfl⟩ := hrel
      by_cases hlt : k < n
      · obtain ⟨x, HX, cx⟩ := ha.int hlt
        obtain ⟨y, HY, cy⟩ := hb.int (show k < m by omega)
        have ix := ha.index el_int c .i64 k hlt
        have iy := hb.index el_int d .i64 k (by omega)
        clear ha hb
        by_cases hxy : x = y
        · subst hxy
          go_wp2
          go_quiet (fail)
          go_wp2
          go_roundw
          case rel =>
            refine ⟨k + 1, by omega, by go_num, fun i hi => ?_, _, rfl⟩
            by_cases e : i = k
            · subst e; rw [HX.out, HY.out]
            · exact HI.out i (by omega)
          case measure => simp [intOf]; omega
        · have hne : (x != y) = true := by simp [hxy]
          have HNE := Lib.hid hxy
          clear hxy
          go_wp2
          go_quiet (fail)
          go_wp2
          go_ret
          exact ⟨by rw [head_no HX.out HY.out HNE.out]; rfl, _, World.drewN_drewN _ _ _⟩
      · obtain rfl : k = n := by omega
        go_wp2
        go_ret
        refine ⟨by rw [head_yes (by rw [HA.out, HB.out]; omega) (by rw [HA.out]; exact HI.out)]; rfl, q, rfl⟩

end Go.Proofs.YtolcdlopgbgilaaDoor
