/- The walk of New. -/
import Derived.Test.YthojhmkahjpflaaDoorDigF
import Derived.Laws.Tables
import Derived.Deep.Cut
namespace Go.Proofs.YthojhmkahjpflaaDoor
open Go.RowKit Go.Dray

/-- The cells of an empty hash. -/
def hz (kind size : Int) : Array Value := hcs kind (List.replicate 8 0) (List.replicate 64 0) size
theorem hz_zero : ∀ w : World, (zeroValue 50).run Tryd.prog w = .ok (.agg (hz 0 0)) w := (zero_of_info (P := Tryd.prog) (t := 50) (v := .agg (hz 0 0)) (n := 74) (by kernel_rfl)).1
theorem st_zero : ∀ w : World, (zeroValue 47).run Tryd.prog w = .ok (.agg #[.int .u32 0, .int .u32 0, .int .u32 0, .int .u32 0, .int .u32 0, .int .u32 0, .int .u32 0, .int .u32 0]) w := (zero_of_info (P := Tryd.prog) (t := 47) (v := .agg #[.int .u32 0, .int .u32 0, .int .u32 0, .int .u32 0, .int .u32 0, .int .u32 0, .int .u32 0, .int .u32 0]) (n := 8) (by kernel_rfl)).1
theorem hz_ne : (hz 0 0 = #[]) = False := eq_false (by intro h; have := congrArg Array.size h; exact absurd this (by decide))
theorem hz_kind (k : Int) : (hz 0 0).setIfInBounds 0 (.int .i64 k) = hz k 0 := rfl
theorem hz_size (k n : Int) : (hz k 0).setIfInBounds 73 (.int .u64 n) = hz k n := rfl

/-- A new hash, empty. -/
def NewPost (kind : Int) (w : World) (e : Ending) (w' : World) : Prop := e = .returned (.tuple #[.pointer (some ⟨w.heap.size, 0, none⟩), .int .i64 0]) ∧ HashIs w' w.heap.size kind [] (List.replicate 64 0) ∧ Upd [] w w'

theorem zeros_bd : ∀ z ∈ List.replicate 64 (0 : Int), 0 ≤ z ∧ z ≤ 255 := by
  intro z hz
  rw [List.mem_replicate] at hz
  omega

set_option maxRecDepth 100000 in
set_option maxHeartbeats 400000 in
theorem new1 (w : World) : Calls Tryd.prog 13 #[.int .i64 1] w (NewPost 1 w) := by
  have h1 := hz_zero
  have h2 := st_zero
  have h3 := hz_ne
  have h4 := hz_kind
  go_enter Tryd.func13, Tryd.ntmps13
  go_upto_region 2 with (fail)
  have HH : Hid (HashAt (w.alloc (.cells (hz 1 0) 50)) w.heap.size 1 [0, 0, 0, 0, 0, 0, 0, 0] (List.replicate 64 0) 0) := ⟨Blk.new _ _ _, rfl, rfl⟩
  have HU : Hid (Upd [] w (w.alloc (.cells (hz 1 0) 50))) := (Upd.refl _ _).alloc _
  obtain ⟨g, HG⟩ : ∃ g, Hid (g = w.heap.size) := ⟨_, rfl⟩
  rw [← HG.out] at HH ⊢
  generalize hw1 : w.alloc _ = w1 at *
  clear hw1 h1 h3 h4
  have c0 : w1.cell? ⟨g, 1, none⟩ = some (.int .u32 0) := HH.out.state (i := 0) rfl
  have c1 : w1.cell? ⟨g, 2, none⟩ = some (.int .u32 0) := HH.out.state (i := 1) rfl
  have c2 : w1.cell? ⟨g, 3, none⟩ = some (.int .u32 0) := HH.out.state (i := 2) rfl
  have c3 : w1.cell? ⟨g, 4, none⟩ = some (.int .u32 0) := HH.out.state (i := 3) rfl
  have c4 : w1.cell? ⟨g, 5, none⟩ = some (.int .u32 0) := HH.out.state (i := 4) rfl
  have c5 : w1.cell? ⟨g, 6, none⟩ = some (.int .u32 0) := HH.out.state (i := 5) rfl
  have c6 : w1.cell? ⟨g, 7, none⟩ = some (.int .u32 0) := HH.out.state (i := 6) rfl
  have c7 : w1.cell? ⟨g, 8, none⟩ = some (.int .u32 0) := HH.out.state (i := 7) rfl
  have fz := HH.out.blk.frozen
  go_wp2
  go_ret2
  refine ⟨by rw [HG.out]; rfl, ⟨?_, rfl, zeros_bd⟩, ?_⟩
  · rw [← HG.out]
    exact hash_set8 HH.out
  · have hg := HG.out
    exact (((((((((HU.out.put (by omega) _).put (by omega) _).put (by omega) _).put (by omega) _).put (by omega) _).put (by omega) _).put (by omega) _).put (by omega) _))

set_option maxRecDepth 100000 in
set_option maxHeartbeats 400000 in
theorem new2 (w : World) : Calls Tryd.prog 13 #[.int .i64 2] w (NewPost 2 w) := by
  have h1 := hz_zero
  have h2 := st_zero
  have h3 := hz_ne
  have h4 := hz_kind
  go_enter Tryd.func13, Tryd.ntmps13
  go_upto_region 2 with (fail)
  have HH : Hid (HashAt (w.alloc (.cells (hz 2 0) 50)) w.heap.size 2 [0, 0, 0, 0, 0, 0, 0, 0] (List.replicate 64 0) 0) := ⟨Blk.new _ _ _, rfl, rfl⟩
  have HU : Hid (Upd [] w (w.alloc (.cells (hz 2 0) 50))) := (Upd.refl _ _).alloc _
  obtain ⟨g, HG⟩ : ∃ g, Hid (g = w.heap.size) := ⟨_, rfl⟩
  rw [← HG.out] at HH ⊢
  generalize hw1 : w.alloc _ = w1 at *
  clear hw1 h1 h3 h4
  have c0 : w1.cell? ⟨g, 1, none⟩ = some (.int .u32 0) := HH.out.state (i := 0) rfl
  have c1 : w1.cell? ⟨g, 2, none⟩ = some (.int .u32 0) := HH.out.state (i := 1) rfl
  have c2 : w1.cell? ⟨g, 3, none⟩ = some (.int .u32 0) := HH.out.state (i := 2) rfl
  have c3 : w1.cell? ⟨g, 4, none⟩ = some (.int .u32 0) := HH.out.state (i := 3) rfl
  have c4 : w1.cell? ⟨g, 5, none⟩ = some (.int .u32 0) := HH.out.state (i := 4) rfl
  have c5 : w1.cell? ⟨g, 6, none⟩ = some (.int .u32 0) := HH.out.state (i := 5) rfl
  have c6 : w1.cell? ⟨g, 7, none⟩ = some (.int .u32 0) := HH.out.state (i := 6) rfl
  have c7 : w1.cell? ⟨g, 8, none⟩ = some (.int .u32 0) := HH.out.state (i := 7) rfl
  have fz := HH.out.blk.frozen
  go_wp2
  go_ret2
  refine ⟨by rw [HG.out]; rfl, ⟨?_, rfl, zeros_bd⟩, ?_⟩
  · rw [← HG.out]
    exact hash_set8 HH.out
  · have hg := HG.out
    exact (((((((((HU.out.put (by omega) _).put (by omega) _).put (by omega) _).put (by omega) _).put (by omega) _).put (by omega) _).put (by omega) _).put (by omega) _))

set_option maxRecDepth 100000 in
set_option maxHeartbeats 400000 in
theorem new3 (w : World) : Calls Tryd.prog 13 #[.int .i64 3] w (NewPost 3 w) := by
  have h1 := hz_zero
  have h2 := st_zero
  have h3 := hz_ne
  have h4 := hz_kind
  go_enter Tryd.func13, Tryd.ntmps13
  go_upto_region 2 with (fail)
  have HH : Hid (HashAt (w.alloc (.cells (hz 3 0) 50)) w.heap.size 3 [0, 0, 0, 0, 0, 0, 0, 0] (List.replicate 64 0) 0) := ⟨Blk.new _ _ _, rfl, rfl⟩
  have HU : Hid (Upd [] w (w.alloc (.cells (hz 3 0) 50))) := (Upd.refl _ _).alloc _
  obtain ⟨g, HG⟩ : ∃ g, Hid (g = w.heap.size) := ⟨_, rfl⟩
  rw [← HG.out] at HH ⊢
  generalize hw1 : w.alloc _ = w1 at *
  clear hw1 h1 h3 h4
  have c0 : w1.cell? ⟨g, 1, none⟩ = some (.int .u32 0) := HH.out.state (i := 0) rfl
  have c1 : w1.cell? ⟨g, 2, none⟩ = some (.int .u32 0) := HH.out.state (i := 1) rfl
  have c2 : w1.cell? ⟨g, 3, none⟩ = some (.int .u32 0) := HH.out.state (i := 2) rfl
  have c3 : w1.cell? ⟨g, 4, none⟩ = some (.int .u32 0) := HH.out.state (i := 3) rfl
  have c4 : w1.cell? ⟨g, 5, none⟩ = some (.int .u32 0) := HH.out.state (i := 4) rfl
  have c5 : w1.cell? ⟨g, 6, none⟩ = some (.int .u32 0) := HH.out.state (i := 5) rfl
  have c6 : w1.cell? ⟨g, 7, none⟩ = some (.int .u32 0) := HH.out.state (i := 6) rfl
  have c7 : w1.cell? ⟨g, 8, none⟩ = some (.int .u32 0) := HH.out.state (i := 7) rfl
  have fz := HH.out.blk.frozen
  go_wp2
  go_ret2
  refine ⟨by rw [HG.out]; rfl, ⟨?_, rfl, zeros_bd⟩, ?_⟩
  · rw [← HG.out]
    exact hash_set8 HH.out
  · have hg := HG.out
    exact (((((((((HU.out.put (by omega) _).put (by omega) _).put (by omega) _).put (by omega) _).put (by omega) _).put (by omega) _).put (by omega) _).put (by omega) _))

set_option maxRecDepth 100000 in
set_option maxHeartbeats 400000 in
theorem new_bad (w : World) (kind : Int) (hk : ¬ IsKind kind) : Calls Tryd.prog 13 #[.int .i64 kind] w fun e w' => e = .returned (.tuple #[.pointer none, .int .i64 9]) ∧ Upd [] w w' := by
  have h1 := hz_zero
  have h3 := hz_ne
  have h4 := hz_kind
  have d1 : (kind == 1) = false := by simp; intro h; exact hk (Or.inl h)
  have d2 : (kind == 2) = false := by simp; intro h; exact hk (Or.inr (Or.inl h))
  have d3 : (kind == 3) = false := by simp; intro h; exact hk (Or.inr (Or.inr h))
  clear hk
  go_enter Tryd.func13, Tryd.ntmps13
  go_wp2
  go_ret2
  exact ⟨rfl, (Upd.refl _ _).alloc _⟩

theorem new_any (w : World) (kind : Int) (hk : IsKind kind) : Calls Tryd.prog 13 #[.int .i64 kind] w (NewPost kind w) := by
  rcases hk with rfl | rfl | rfl
  · exact new1 w
  · exact new2 w
  · exact new3 w

end Go.Proofs.YthojhmkahjpflaaDoor
