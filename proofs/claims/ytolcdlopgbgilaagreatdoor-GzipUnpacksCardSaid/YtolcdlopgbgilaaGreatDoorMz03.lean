/- Merged by wip/tools/merge.py: HuffR Trie. -/
import Derived.Test.YtolcdlopgbgilaaGreatDoorMz01
import Derived.Test.YtolcdlopgbgilaaGreatDoorMz02

/-! Text HuffR. -/
namespace Go.Proofs.YtolcdlopgbgilaaGreatDoor
open Go.RowKit Go.Dray

/-- A reader at block g, of bytes zs, behind 'at' bits. -/
def Rd (w : World) (B g : Nat) (A : Option Addr) (n c : Nat) (zs : List Int) (p : Nat) : Prop :=
  Blk w g 119 #[.slice A n c, .int .i64 p] ∧ Own w B 5 1 A n c (zs.map (Value.int .u8))

theorem Rd.upd {w w' : World} {B g : Nat} {A : Option Addr} {n c : Nat} {zs : List Int} {p : Nat} {L : List (Option Nat)} (h : Rd w B g A n c zs p) (hu : Upd L w w') (hg : some g ∉ L) (hA : ∀ k, ob A = some k → some k ∉ L) : Rd w' B g A n c zs p :=
  ⟨h.1.upd hu hg, h.2.upd hu hA⟩
theorem Rd.drewN {w : World} {B g : Nat} {A : Option Addr} {n c : Nat} {zs : List Int} {p : Nat} (h : Rd w B g A n c zs p) (q : Nat) : Rd (w.drewN q) B g A n c zs p := h
theorem Rd.move {w : World} {B g : Nat} {A : Option Addr} {n c : Nat} {zs : List Int} {p : Nat} (h : Rd w B g A n c zs p) (q : Nat) : Rd (w.setCell ⟨g, 1, none⟩ (.int .i64 q)) B g A n c zs q :=
  ⟨h.1.set 1 _, h.2.far (h.2.neBlk h.1 (by decide)) _⟩

/-- NewReader hands back a reader of the same bytes. -/
def NewReaderPost (n : Nat) (zs : List Int) (w : World) (e : Ending) (w' : World) : Prop :=
  ∃ g A c, e = .returned (.pointer (some ⟨g, 0, none⟩)) ∧ w.heap.size ≤ g ∧ Rd w' w.heap.size g A n c zs 0 ∧ Upd [] w w'

set_option maxHeartbeats 400000 in
theorem newReader_any (A : Option Addr) (n c : Nat) (zs : List Int) (w : World) (hs : Ints .u8 w A n zs) (hn : n ≤ 100000000000000) :
    Calls Tryz.prog 37 #[.slice A n c] w (NewReaderPost n zs w) := by
  go_enter Tryz.func37, Tryz.ntmps37
  go_wp2_with (go_at_call 67; refine (clone_any A n c zs w hs hn).mono ?_; rintro e w1 ⟨A1, c1, rfl, hown1, hu1⟩)
  go_ret
  exact ⟨w1.heap.size, A1, c1, rfl, hu1.size, ⟨Blk.new _ _ _, hown1.alloc _⟩, hu1.alloc _⟩

set_option maxHeartbeats 400000 in
theorem at_any {w : World} {B g : Nat} {A : Option Addr} {n c : Nat} {zs : List Int} {p : Nat} (h : Rd w B g A n c zs p) :
    Calls Tryz.prog 40 #[.pointer (some ⟨g, 0, none⟩)] w fun e w' => e = .returned (.int .i64 p) ∧ w = w' := by
  have hc1 := h.1.cell 1
  simp at hc1
  clear h
  go_enter Tryz.func40, Tryz.ntmps40
  go_wp2
  go_ret
  exact ⟨rfl, rfl⟩

/-- What reading leaves. -/
def RdPost (w : World) (B g : Nat) (A : Option Addr) (n c : Nat) (zs : List Int) (p : Nat) (v : Value) (e : Ending) (w' : World) : Prop :=
  e = .returned v ∧ Rd w' B g A n c zs p ∧ Upd [some g] w w'

def alignUp (p : Nat) : Nat := (p + 7) / 8 * 8

set_option maxHeartbeats 400000 in
theorem align_any {w : World} {B g : Nat} {A : Option Addr} {n c : Nat} {zs : List Int} {p : Nat} (h : Rd w B g A n c zs p) (hp : p ≤ 1000000000000000) :
    Calls Tryz.prog 95 #[.pointer (some ⟨g, 0, none⟩)] w (RdPost w B g A n c zs (alignUp p) (.tuple #[])) := by
  have hc1 := h.1.cell 1
  have hf1 := h.1.frozen 1
  simp at hc1
  have HR := Lib.hid h
  clear h
  go_enter Tryz.func95, Tryz.ntmps95
  go_wp2
  go_end0
  refine ⟨rfl, ?_, (Upd.refl _ w).putIn (by simp) _⟩
  exact HR.out.move (alignUp p)

set_option maxHeartbeats 400000 in
theorem take_no {w : World} {B g : Nat} {A : Option Addr} {n c : Nat} {zs : List Int} {p : Nat} (m : Int) (h : Rd w B g A n c zs p) (hp : p ≤ 8 * n) (hn : n ≤ 100000000000000) (hm : m < 0 ∨ 24 < m ∨ (8 : Int) * n - p < m) :
    Calls Tryz.prog 38 #[.pointer (some ⟨g, 0, none⟩), .int .i64 m] w (RdPost w B g A n c zs p (.tuple #[.int .i64 0, .bool false])) := by
  have hc0 := h.1.cell 0
  have hc1 := h.1.cell 1
  simp at hc0 hc1
  have HR := Lib.hid h
  clear h
  by_cases h1 : m < 0
  · have d1 : decide (m < 0) = true := by simpa using h1
    clear h1 hm
    go_enter Tryz.func38, Tryz.ntmps38
    go_wp2
    go_quiet (fail)
    go_wp2
    go_ret2
    exact ⟨rfl, HR.out.drewN _, (Upd.refl _ w).drewN _⟩
  · have d1 : decide (m < 0) = false := by simpa using h1
    by_cases h2 : 24 < m
    · have d2 : decide (24 < m) = true := by simpa using h2
      clear h1 hm h2
      go_enter Tryz.func38, Tryz.ntmps38
      go_wp2
      go_quiet (fail)
      go_wp2
      go_ret2
      exact ⟨rfl, HR.out.drewN _, (Upd.refl _ w).drewN _⟩
    · have d2 : decide (24 < m) = false := by simpa using h2
      have h3 : (8 : Int) * n - p < m := by omega
      have d3 : decide ((8 : Int) * n - p < m) = true := by simpa using h3
      clear h1 hm h2
      go_enter Tryz.func38, Tryz.ntmps38
      go_wp2
      go_quiet (fail)
      go_wp2
      go_ret2
      exact ⟨rfl, HR.out.drewN _, (Upd.refl _ w).drewN _⟩

set_option maxHeartbeats 400000 in
theorem take_ok {w : World} {B g : Nat} {A : Option Addr} {n c : Nat} {zs : List Int} {p : Nat} (m : Nat) (h : Rd w B g A n c zs p) (hn : n ≤ 100000000000000) (hm : m ≤ 24) (hmn : p + m ≤ 8 * n) (hz : ∀ z ∈ zs, 0 ≤ z ∧ z ≤ 255) :
    Calls Tryz.prog 38 #[.pointer (some ⟨g, 0, none⟩), .int .i64 m] w (RdPost w B g A n c zs (p + m) (.tuple #[.int .i64 (num (((bitsOf zs).drop p).take m)), .bool true])) := by
  have hc0 := h.1.cell 0
  have hc1 := h.1.cell 1
  simp at hc0 hc1
  have HR := Lib.hid h
  have HZ := Lib.hid hz
  clear h hz
  have d1 : decide ((m : Int) < 0) = false := by simp
  have d2 : decide (24 < (m : Int)) = false := by simp; omega
  have d3 : decide ((8 : Int) * n - p < m) = false := by simp; omega
  go_enter Tryz.func38, Tryz.ntmps38
  go_wp2
  go_quiet (fail)
  go_wp2
  generalize hw0 : w.drewN _ = w0
  have HR0 : Hid (Rd w0 B g A n c zs p) := by rw [← hw0]; exact HR.out.drewN _
  have hu0 : Upd [some g] w w0 := by rw [← hw0]; exact (Upd.refl _ w).drewN _
  clear hw0 hc0 hc1 HR d1 d2 d3
  go_loopw [6, 30] (fun v i wr => ∃ k : Nat, k ≤ m ∧ i = .int .i64 k ∧ v = .int .i64 (num (((bitsOf zs).drop p).take k)) ∧ Rd wr B g A n c zs (p + k) ∧ Upd [some g] w wr) (fun _ i _ => m - (intOf i).toNat)
  case atStart => exact ⟨0, by omega, rfl, by simp [num], HR0.out, hu0⟩
  case round =>
    obtain ⟨k, hk, rfl, rfl, HR1, hu1⟩ := hrel
    by_cases hlt : k < m
    · have hc0 := HR1.1.cell 0
      have hc1 := HR1.1.cell 1
      have hf1 := HR1.1.frozen 1
      simp at hc0 hc1
      obtain ⟨z, HX, hcell⟩ := (Ints.ofOwn HR1.2).int (i := (p + k) / 8) (by omega)
      have hix := (Ints.ofOwn HR1.2).indexI el_byte c .i64 (((p : Int) + k) / 8) ((p + k) / 8) (by omega) (by omega)
      clear HR0 hu0
      go_wp2
      go_region
      rw [take_step HZ.out (by omega) HX.out]
      have hw1 : Rd wr.drew B g A n c zs (p + k) := HR1.drewN 1
      have hu2 : Upd [some g] w wr.drew := hu1.drew
      generalize wr.drew = w1 at hw1 hu2 ⊢
      clear HR1 hu1 hc0 hc1 hf1 hcell hix
      have hc1 := hw1.1.cell 1
      have hf1 := hw1.1.frozen 1
      simp at hc1
      go_wp2
      go_roundw
      case rel =>
        refine ⟨k + 1, by omega, by go_num, rfl, ?_, hu2.putIn (by simp) _⟩
        have := hw1.move (p + (k + 1))
        rw [show ((p + (k + 1) : Nat) : Int) = (p : Int) + k + 1 from by omega] at this
        exact this
      case measure => simp [intOf]; omega
    · obtain rfl : k = m := by omega
      go_wp2
      go_ret2
      exact ⟨rfl, HR1, hu1⟩

/-- What Bytes hands back where it can: the bytes, new. -/
def RbPost (w : World) (B g : Nat) (A : Option Addr) (n c : Nat) (zs : List Int) (p : Nat) (m : Nat) (ys : List Int) (e : Ending) (w' : World) : Prop :=
  ∃ D d, e = .returned (.tuple #[.slice D m d, .bool true]) ∧ Own w' w.heap.size 5 1 D m d (ys.map (Value.int .u8)) ∧ Rd w' B g A n c zs p ∧ Upd [some g] w w'

set_option maxHeartbeats 400000 in
theorem rbytes_no {w : World} {B g : Nat} {A : Option Addr} {n c : Nat} {zs : List Int} {p : Nat} (m : Int) (h : Rd w B g A n c zs p) (hp : p ≤ 8 * n) (hn : n ≤ 100000000000000) (hm : m < 0 ∨ (n : Int) - (alignUp p / 8 : Nat) < m) :
    Calls Tryz.prog 96 #[.pointer (some ⟨g, 0, none⟩), .int .i64 m] w (RdPost w B g A n c zs (alignUp p) (.tuple #[.slice none 0 0, .bool false])) := by
  have HR := Lib.hid h
  clear h
  obtain ⟨f, hf⟩ : ∃ f : Nat, f = alignUp p / 8 := ⟨_, rfl⟩
  rw [← hf] at hm
  have hal : alignUp p = 8 * f := by rw [hf]; unfold alignUp; omega
  have hfn : f ≤ n := by rw [hf]; unfold alignUp; omega
  have HAL := Lib.hid hal
  clear hf hal
  by_cases h1 : m < 0
  all_goals
    first
    | (have d1 : decide (m < 0) = true := by simpa using h1)
    | (have d1 : decide (m < 0) = false := by simpa using h1)
  · clear h1 hm
    go_enter Tryz.func96, Tryz.ntmps96
    go_wp2_with (go_at_call 95; refine (align_any HR.out (by omega)).mono ?_; rintro e w1 ⟨rfl, hr1, hu1⟩; have hc0 := hr1.1.cell 0; have hc1 := hr1.1.cell 1; rw [HAL.out] at hc1; simp at hc0 hc1)
    go_ret2
    exact ⟨rfl, hr1, hu1⟩
  · have h2 : (n : Int) - f < m := by omega
    have d2 : decide ((n : Int) - f < m) = true := by simpa using h2
    clear h1 hm
    go_enter Tryz.func96, Tryz.ntmps96
    go_wp2_with (go_at_call 95; refine (align_any HR.out (by omega)).mono ?_; rintro e w1 ⟨rfl, hr1, hu1⟩; have hc0 := hr1.1.cell 0; have hc1 := hr1.1.cell 1; rw [HAL.out] at hc1; simp at hc0 hc1)
    go_ret2
    exact ⟨rfl, hr1, hu1⟩

set_option maxHeartbeats 400000 in
theorem rbytes_ok {w : World} {B g : Nat} {A : Option Addr} {n c : Nat} {zs : List Int} {p : Nat} (m : Nat) (h : Rd w B g A n c zs p) (hp : p ≤ 8 * n) (hn : n ≤ 100000000000000) (f : Nat) (hf : alignUp p = 8 * f) (hm : f + m ≤ n) :
    Calls Tryz.prog 96 #[.pointer (some ⟨g, 0, none⟩), .int .i64 m] w (RbPost w B g A n c zs (8 * (f + m)) m ((zs.drop f).take m)) := by
  have HR := Lib.hid h
  have HAL := Lib.hid hf
  clear h hf
  have d1 : decide ((m : Int) < 0) = false := by simp
  have d2 : decide ((n : Int) - f < m) = false := by simp; omega
  have hcut := run_cut_lh el_byte A n c .i64 .i64 (f : Int) ((f : Int) + m) f (f + m) rfl (by omega) (by omega) (by have := HR.out.2.le; omega)
  rw [Nat.add_sub_cancel_left] at hcut
  go_enter Tryz.func96, Tryz.ntmps96
  go_wp2_with (go_at_call 95; refine (align_any HR.out (by omega)).mono ?_; rintro e w1 ⟨rfl, hr1, hu1⟩; have hc0 := hr1.1.cell 0; have hc1 := hr1.1.cell 1; have hf1 := hr1.1.frozen 1; rw [HAL.out] at hc1; simp at hc0 hc1)
  have hr2 := hr1.move (8 * (f + m))
  rw [show ((8 * (f + m) : Nat) : Int) = 8 * ((f : Int) + m) from by omega] at hr2
  have hu2 : Upd [some g] w (w1.setCell ⟨g, 1, none⟩ (.int .i64 (8 * ((f : Int) + m)))) := hu1.putIn (by simp) _
  generalize w1.setCell ⟨g, 1, none⟩ (.int .i64 (8 * ((f : Int) + m))) = w2 at hr2 hu2 ⊢
  have hct := (Ints.ofOwn hr2.2).cut (lo := f) (hi := f + m) (c := c) (by omega) (by omega) hr2.2.le
  rw [Nat.add_sub_cancel_left] at hct
  refine (clone_any _ _ _ _ _ hct (by omega)).mono ?_
  rintro e w3 ⟨D, d, rfl, hown3, hu3⟩
  go_wp2
  go_ret2
  exact ⟨D, d, rfl, hown3.monoB hu2.size, hr2.upd hu3 (by simp) (by simp), hu2.then hu3 (by simp)⟩

/-- The first N bits of bytes, as numbers. -/
def bitsI (zs : List Int) (N : Nat) : List Int := tab N fun t => b2i (low (zs.getD (t / 8) 0 / 2 ^ (t % 8)))
theorem bitsI_all (zs : List Int) : bitsI zs (8 * zs.length) = (bitsOf zs).map b2i := by unfold bitsI bitsOf; rw [tab_map]

/-- A new slice of integers. -/
def NewInts (n : Nat) (ys : List Int) (w : World) (e : Ending) (w' : World) : Prop :=
  ∃ A c, e = .returned (.slice A n c) ∧ Own w' w.heap.size 3 1 A n c (ys.map (Value.int .i64)) ∧ Upd [] w w'

set_option maxHeartbeats 1000000 in
theorem rbits_any (A : Option Addr) (n c : Nat) (zs : List Int) (w : World) (hs : Ints .u8 w A n zs) (hz : ∀ z ∈ zs, 0 ≤ z ∧ z ≤ 255) (hn : n ≤ 1000000000000) :
    Calls Tryz.prog 43 #[.slice A n c] w (NewInts (8 * n) ((bitsOf zs).map b2i) w) := by
  have HZ := Lib.hid hz
  have HL := hs.len
  clear hz
  go_enter Tryz.func43, Tryz.ntmps43
  go_wp2
  go_loopw [3, 4] (fun v i wr => ∃ k : Nat, k ≤ n ∧ i = .int .i64 k ∧ ∃ X cc, v = .slice X (8 * k) cc ∧ Own wr w.heap.size 3 1 X (8 * k) cc ((bitsI zs (8 * k)).map (Value.int .i64)) ∧ Upd [] w wr) (fun _ i _ => n - (intOf i).toNat)
  case atStart => exact ⟨0, Nat.zero_le _, rfl, none, 0, rfl, Own.nil _ _ _ _, Upd.refl _ _⟩
  case round =>
    obtain ⟨k, hk, rfl, X, cc, rfl, hown, hu⟩ := hrel
    by_cases hlt : k < n
    · have hsr : Ints .u8 wr A n zs := hs.upd hu (by simp)
      obtain ⟨z, HX, hcell⟩ := hsr.int hlt
      have hix := hsr.index el_byte c .i64 k hlt
      obtain ⟨hz0, hz1⟩ := HZ.out z (List.mem_of_getElem? HX.out)
      clear hsr
      go_wp2
      obtain ⟨wo, rfl⟩ : ∃ wo : World, wo = wr := ⟨_, rfl⟩
      go_loopw [3, 5, 6] (fun v x i wr => ∃ j : Nat, j ≤ 8 ∧ i = .int .i64 j ∧ x = .int .i64 (z / 2 ^ j) ∧ ∃ X cc, v = .slice X (8 * k + j) cc ∧ Own wr w.heap.size 3 1 X (8 * k + j) cc ((bitsI zs (8 * k + j)).map (Value.int .i64)) ∧ Upd [] w wr) (fun _ _ i _ => 8 - (intOf i).toNat)
      case atStart => exact ⟨0, by omega, rfl, by simp, X, cc, rfl, hown, hu⟩
      case round =>
        obtain ⟨j, hj, rfl, rfl, X2, cc2, rfl, hown2, hu2⟩ := hrel
        have hq : 0 ≤ z / 2 ^ j ∧ z / 2 ^ j ≤ 255 := ⟨Int.ediv_nonneg hz0 (Int.pow_nonneg (by decide)), by have := Int.ediv_le_self (2 ^ j) hz0; omega⟩
        have hB : w.heap.size ≤ wr.heap.size := hu2.size
        clear hown hu hcell hix
        obtain ⟨y, HY⟩ : ∃ y, Hid (y = z / 2 ^ j) := ⟨_, rfl⟩
        rw [← HY.out] at hq ⊢
        by_cases hj8 : j < 8
        · go_wp2_with (at_builtin; refine wpList_app rfl rfl el_int rfl (hown2.alloc _) rfl (Seg.one _ _ _) (by simp [Value.oneCell']) (by simp only [maxLen]; omega) (by omega) (by simp; omega) ?_; intro X3 c3 w3 hown3 hu3 hfr3)
          go_roundw
          case rel =>
            refine ⟨j + 1, by omega, by go_num, ?_, X3, c3, rfl, ?_, ?_⟩
            · rw [HY.out, Int.pow_succ, ← Int.ediv_ediv_of_nonneg (Int.pow_nonneg (by decide))]
            · rw [show 8 * k + (j + 1) = 8 * k + j + 1 from by omega, bitsI, tab_succ, List.map_append]
              have e : b2i (low (zs.getD ((8 * k + j) / 8) 0 / 2 ^ ((8 * k + j) % 8))) = y % 2 := by
                rw [show (8 * k + j) / 8 = k from by omega, show (8 * k + j) % 8 = j from by omega, b2i_low, HY.out]
                simp [List.getD, HX.out]
              rw [e]
              exact hown3
            · exact (hu2.alloc _).then hu3 (fun b hb => by simp at hb; have := (hown2.base hb.symm).1; right; omega)
          case measure => simp [intOf]; omega
        · obtain rfl : j = 8 := by omega
          go_wp2
          go_roundw
          case rel => exact ⟨k + 1, by omega, by go_num, X2, cc2, by rw [show 8 * (k + 1) = 8 * k + 8 from by omega], by rw [show 8 * (k + 1) = 8 * k + 8 from by omega]; exact hown2, hu2⟩
          case measure => simp [intOf]; omega
    · obtain rfl : k = n := by omega
      go_wp2
      go_ret
      refine ⟨X, cc, rfl, ?_, hu⟩
      rw [← bitsI_all, HL.out]
      exact hown

set_option maxHeartbeats 400000 in
theorem rnumber_any (A : Option Addr) (n c : Nat) (bs : List Bool) (w : World) (hs : Ints .i64 w A n (bs.map b2i)) (hn : n ≤ 60) :
    Calls Tryz.prog 74 #[.slice A n c] w fun e w' => e = .returned (.int .i64 (num bs)) ∧ w = w' := by
  have HL : Hid (bs.length = n) := by have := hs.len.out; rw [List.length_map] at this; exact this
  go_enter Tryz.func74, Tryz.ntmps74
  go_wp2
  go_loop [3, 4] (fun x i => ∃ k : Nat, k ≤ n ∧ i = .int .i64 ((k : Int) - 1) ∧ x = .int .i64 (num (bs.drop k))) (fun _ i => (intOf i + 1).toNat)
  case atStart => exact ⟨n, by omega, rfl, by rw [List.drop_of_length_le (by rw [HL.out]; omega)]; rfl⟩
  case round =>
    obtain ⟨k, hk, rfl, rfl⟩ := hrel
    have hnb := num_lt (bs.drop k)
    have hn0 := num_nonneg (bs.drop k)
    have hnb2 : num (bs.drop k) ≤ 1152921504606846976 := by
      have h1 : (bs.drop k).length ≤ 60 := by rw [List.length_drop, HL.out]; omega
      have h2 := Nat.pow_le_pow_right (n := 2) (by omega) h1
      have e : ((2 ^ (bs.drop k).length : Nat) : Int) = (2 : Int) ^ (bs.drop k).length := by simp
      rw [← e] at hnb
      omega
    clear hnb
    by_cases h : 1 ≤ k
    · obtain ⟨x, HX, hcell⟩ := hs.int (i := k - 1) (by omega)
      have hix := hs.indexI el_int c .i64 ((k : Int) - 1) (k - 1) (by omega) (by omega)
      have hlt : k - 1 < bs.length := by rw [HL.out]; omega
      have hxb : x = b2i bs[k - 1] := by
        have := HX.out
        rw [List.getElem?_map, List.getElem?_eq_getElem hlt] at this
        simp at this
        exact this.symm
      have hxx := b2i_bd bs[k - 1]
      rw [← hxb] at hxx
      have HXB := Lib.hid hxb
      clear hxb hs
      go_wp2
      go_round
      case rel =>
        refine ⟨k - 1, by omega, by go_num, ?_⟩
        have e : bs.drop (k - 1) = bs[k - 1] :: bs.drop k := by
          rw [List.drop_eq_getElem_cons hlt, show k - 1 + 1 = k from by omega]
        rw [e, num, ← HXB.out]
        go_num
      case measure => simp [intOf]; omega
    · obtain rfl : k = 0 := by omega
      go_wp2
      go_ret
      exact ⟨rfl, rfl⟩

end Go.Proofs.YtolcdlopgbgilaaGreatDoor

/-! Text Trie. -/
namespace Go.Dray
open Go.RowKit

/-- The place of a path among paths; 0: there is none (the root's own place). -/
def idx0 (P : List (List Bool)) (q : List Bool) : Nat := if q ∈ P then P.idxOf q else 0

/-- Paths as they come: the root first, no path twice. -/
structure Paths (P : List (List Bool)) : Prop where
  root : P[0]? = some []
  nodup : P.Nodup

theorem Paths.pos {P : List (List Bool)} (h : Paths P) : 0 < P.length := (List.getElem?_eq_some_iff.1 h.root).1

theorem idxOf_get {P : List (List Bool)} (hn : P.Nodup) {i : Nat} {q : List Bool} (h : P[i]? = some q) : P.idxOf q = i := by
  obtain ⟨hi, he⟩ := List.getElem?_eq_some_iff.1 h
  subst he
  exact hn.idxOf_getElem i hi

theorem get_idxOf {P : List (List Bool)} {q : List Bool} (h : q ∈ P) : P[P.idxOf q]? = some q := by
  have hi := List.idxOf_lt_length_of_mem h
  rw [List.getElem?_eq_getElem hi, List.getElem_idxOf hi]

/-- A path that is no root is among the paths just where its place is not 0. -/
theorem idx0_zero {P : List (List Bool)} (hp : Paths P) {q : List Bool} (hq : q ≠ []) : idx0 P q = 0 ↔ q ∉ P := by
  unfold idx0
  constructor
  · intro h hm
    rw [if_pos hm] at h
    have := get_idxOf hm
    rw [h, hp.root] at this
    injection this with this
    exact hq this.symm
  · intro h
    rw [if_neg h]

theorem idx0_get {P : List (List Bool)} {q : List Bool} (h : q ∈ P) : P[idx0 P q]? = some q := by
  unfold idx0
  rw [if_pos h]
  exact get_idxOf h

theorem idx0_lt {P : List (List Bool)} (hp : Paths P) (q : List Bool) : idx0 P q < P.length := by
  unfold idx0
  split
  · rename_i h; exact List.idxOf_lt_length_of_mem h
  · exact hp.pos

/-- One path more, at the end. -/
theorem Paths.snoc {P : List (List Bool)} (h : Paths P) {q : List Bool} (hq : q ∉ P) : Paths (P ++ [q]) :=
  ⟨by rw [List.getElem?_append_left h.pos]; exact h.root, by rw [List.nodup_append]; exact ⟨h.nodup, by simp, by intro a ha b hb; simp at hb; subst hb; rintro rfl; exact hq ha⟩⟩

theorem idx0_snoc {P : List (List Bool)} {q r : List Bool} (hq : q ∉ P) : idx0 (P ++ [q]) r = if r = q then P.length else idx0 P r := by
  unfold idx0
  by_cases h : r = q
  · subst h
    rw [if_pos rfl, if_pos (by simp), List.idxOf_append, if_neg hq]
    simp
  · rw [if_neg h]
    by_cases hm : r ∈ P
    · rw [if_pos (by simp [hm]), if_pos hm, List.idxOf_append, if_pos hm]
    · rw [if_neg (by simp [hm, h]), if_neg hm]

/-- The kid of the i-th path behind a bit. -/
def kid (P : List (List Bool)) (i : Nat) (b : Bool) : Nat := idx0 P (P.getD i [] ++ [b])

theorem kid_snoc {P : List (List Bool)} (hp : Paths P) {i : Nat} {b : Bool} (hi : i < P.length) (hk : kid P i b = 0) (j : Nat) (c : Bool) (hj : j < P.length) :
    kid (P ++ [P.getD i [] ++ [b]]) j c = if j = i ∧ c = b then P.length else kid P j c := by
  have hne : P.getD i [] ++ [b] ≠ [] := by simp
  have hq : P.getD i [] ++ [b] ∉ P := (idx0_zero hp hne).1 hk
  unfold kid
  have e : (P ++ [P.getD i [] ++ [b]]).getD j [] = P.getD j [] := by
    simp [List.getD, List.getElem?_append_left hj]
  rw [e, idx0_snoc hq]
  by_cases h : j = i ∧ c = b
  · rw [if_pos h, if_pos (by rw [h.1, h.2])]
  · rw [if_neg h, if_neg]
    intro he
    obtain ⟨h1, h2⟩ := List.append_inj' he rfl
    have h3 : j = i := by
      have a := idxOf_get hp.nodup (i := j) (q := P.getD j []) (by simp [List.getD, List.getElem?_eq_getElem hj])
      have b := idxOf_get hp.nodup (i := i) (q := P.getD i []) (by simp [List.getD, List.getElem?_eq_getElem hi])
      rw [h1] at a
      omega
    exact h ⟨h3, by simpa using h2⟩

theorem kid_new {P : List (List Bool)} (hp : Paths P) {i : Nat} {b : Bool} (hk : kid P i b = 0) (hcl : ∀ q c, q ++ [c] ∈ P → q ∈ P) (c : Bool) :
    kid (P ++ [P.getD i [] ++ [b]]) P.length c = 0 := by
  have hne : P.getD i [] ++ [b] ≠ [] := by simp
  have hq : P.getD i [] ++ [b] ∉ P := (idx0_zero hp hne).1 hk
  unfold kid
  have e : (P ++ [P.getD i [] ++ [b]]).getD P.length [] = P.getD i [] ++ [b] := by simp [List.getD]
  rw [e, idx0_zero (hp.snoc hq) (by simp)]
  intro h
  rw [List.mem_append] at h
  rcases h with h | h
  · exact hq (hcl _ _ h)
  · simp at h

/-- A bit as a place. -/
def b2n (b : Bool) : Nat := if b then 1 else 0
theorem b2n_le (b : Bool) : b2n b ≤ 1 := by cases b <;> simp [b2n]
theorem b2n_i (b : Bool) : ((b2n b : Nat) : Int) = b2i b := by cases b <;> rfl

/-- A node's cells: its two kids, whether a row ends there, the symbol. -/
def cellAt (P : List (List Bool)) (F : List Bool → Option Nat) (i j : Nat) : Value :=
  if j = 0 then .int .i64 (kid P i false) else if j = 1 then .int .i64 (kid P i true) else if j = 2 then .bool (F (P.getD i [])).isSome else .int .i64 ((F (P.getD i [])).getD 0 : Nat)
def trieCells (P : List (List Bool)) (F : List Bool → Option Nat) : List Value := tab (4 * P.length) fun t => cellAt P F (t / 4) (t % 4)

theorem trie_len (P : List (List Bool)) (F : List Bool → Option Nat) : (trieCells P F).length = P.length * 4 := by rw [trieCells, tab_len]; omega
theorem trie_get (P : List (List Bool)) (F : List Bool → Option Nat) {i j : Nat} (hi : i < P.length) (hj : j < 4) : (trieCells P F)[i * 4 + j]? = some (cellAt P F i j) := by
  unfold trieCells
  rw [tab_get _ (by omega), show (i * 4 + j) / 4 = i from by omega, show (i * 4 + j) % 4 = j from by omega]
theorem cell_kid (P : List (List Bool)) (F : List Bool → Option Nat) (i : Nat) (b : Bool) : cellAt P F i (b2n b) = .int .i64 (kid P i b) := by cases b <;> simp [cellAt, b2n]
theorem cell_leaf (P : List (List Bool)) (F : List Bool → Option Nat) (i : Nat) : cellAt P F i 2 = .bool (F (P.getD i [])).isSome := rfl
theorem cell_sym (P : List (List Bool)) (F : List Bool → Option Nat) (i : Nat) : cellAt P F i 3 = .int .i64 ((F (P.getD i [])).getD 0 : Nat) := rfl

def zeroNode : List Value := [.int .i64 0, .int .i64 0, .bool false, .int .i64 0]

theorem trie_one (F : List Bool → Option Nat) (h : F [] = none) : trieCells [[]] F = zeroNode := by
  have hk : ∀ b, kid [[]] 0 b = 0 := fun b => by simp [kid, idx0]
  have e : trieCells [[]] F = [cellAt [[]] F 0 0, cellAt [[]] F 0 1, cellAt [[]] F 0 2, cellAt [[]] F 0 3] := rfl
  rw [e]
  simp [cellAt, hk, h, zeroNode]

/-- A kid is made: the parent's cell is written, an empty node put behind. -/
theorem trie_grow {P : List (List Bool)} {F : List Bool → Option Nat} (hp : Paths P) (hcl : ∀ q c, q ++ [c] ∈ P → q ∈ P) {i : Nat} {b : Bool} (hi : i < P.length) (hk : kid P i b = 0) (hF : F (P.getD i [] ++ [b]) = none) :
    (trieCells P F).set (i * 4 + b2n b) (.int .i64 P.length) ++ zeroNode = trieCells (P ++ [P.getD i [] ++ [b]]) F := by
  have hb := b2n_le b
  have hcell : ∀ j c, j < P.length → c < 4 → cellAt (P ++ [P.getD i [] ++ [b]]) F j c = if j = i ∧ c = b2n b then .int .i64 P.length else cellAt P F j c := by
    intro j c hj hc
    have e : (P ++ [P.getD i [] ++ [b]]).getD j [] = P.getD j [] := by simp [List.getD, List.getElem?_append_left hj]
    have h0 := kid_snoc hp hi hk j false hj
    have h1 := kid_snoc hp hi hk j true hj
    unfold cellAt
    rw [h0, h1, e]
    match c, hc with
    | 0, _ => cases b <;> simp [b2n] <;> split <;> simp_all
    | 1, _ => cases b <;> simp [b2n] <;> split <;> simp_all
    | 2, _ => rw [if_neg (show ¬ (j = i ∧ 2 = b2n b) by omega)]; simp
    | 3, _ => rw [if_neg (show ¬ (j = i ∧ 3 = b2n b) by omega)]; simp
  apply List.ext_getElem?
  intro t
  rcases Nat.lt_or_ge t (P.length * 4) with ht | ht
  · rw [List.getElem?_append_left (by rw [List.length_set, trie_len]; exact ht)]
    unfold trieCells
    rw [tab_set, tab_get _ (by omega), tab_get _ (by simp; omega), hcell _ _ (by omega) (by omega)]
    congr 1
    by_cases h : t = i * 4 + b2n b
    · rw [if_pos h, if_pos (by omega)]
    · rw [if_neg h, if_neg (by omega)]
  · rw [List.getElem?_append_right (by rw [List.length_set, trie_len]; exact ht), List.length_set, trie_len]
    have hkn := kid_new hp hk hcl
    have en : (P ++ [P.getD i [] ++ [b]]).getD P.length [] = P.getD i [] ++ [b] := by simp [List.getD]
    have hnew : ∀ c, c < 4 → some (cellAt (P ++ [P.getD i [] ++ [b]]) F P.length c) = zeroNode[c]? := by
      intro c hc
      unfold cellAt
      rw [hkn, hkn, en, hF]
      match c, hc with
      | 0, _ | 1, _ | 2, _ | 3, _ => rfl
    rcases Nat.lt_or_ge t (P.length * 4 + 4) with ht2 | ht2
    · unfold trieCells
      rw [tab_get _ (by simp; omega), show t / 4 = P.length from by omega, hnew _ (by omega)]
      congr 1
      omega
    · rw [List.getElem?_eq_none (by simp [zeroNode]; omega), List.getElem?_eq_none (by rw [trie_len]; simp; omega)]

/-- A row ends at the i-th node. -/
theorem trie_leaf {P : List (List Bool)} {F G : List Bool → Option Nat} (hp : Paths P) {i s : Nat} (hi : i < P.length) (hG : ∀ q, G q = if q = P.getD i [] then some s else F q) :
    ((trieCells P F).set (i * 4 + 2) (.bool true)).set (i * 4 + 3) (.int .i64 s) = trieCells P G := by
  unfold trieCells
  rw [tab_set, tab_set]
  refine tab_congr fun t ht => ?_
  have hinj : ∀ j, j < P.length → (P.getD j [] = P.getD i [] ↔ j = i) := fun j hj => ⟨fun h => by
    have a := idxOf_get hp.nodup (i := j) (q := P.getD j []) (by simp [List.getD, List.getElem?_eq_getElem hj])
    have b := idxOf_get hp.nodup (i := i) (q := P.getD i []) (by simp [List.getD, List.getElem?_eq_getElem hi])
    rw [h] at a
    omega, fun h => by rw [h]⟩
  have hd : t % 4 < 4 := by omega
  have hq : t / 4 < P.length := by omega
  have et : t = t / 4 * 4 + t % 4 := by omega
  generalize t / 4 = j at hq et
  generalize t % 4 = c at hd et
  subst et
  unfold cellAt
  rw [hG]
  by_cases hj : j = i
  · subst hj
    match c, hd with
    | 0, _ => simp
    | 1, _ => simp
    | 2, _ => simp
    | 3, _ => simp
  · rw [if_neg (by omega), if_neg (by omega), if_neg (fun h => hj ((hinj j hq).1 h))]

end Go.Dray
