/- Merged by wip/tools/merge.py: InfH Kraft InfI DefP. -/
import Derived.Test.YtolcdlopgbgilaaDoorMc04
import Derived.Test.YtolcdlopgbgilaaDoorMc05
import Derived.Test.YtolcdlopgbgilaaDoorMc07

/-! Text InfH. -/
namespace Go.Dray
open Go.RowKit
theorem Upd.row {L : List (Option Nat)} {w w' : World} (h : Upd L w w') {g : Nat} (hp : some g ∈ L ∨ w.heap.size ≤ g) (cs : Array Value) : Upd L w (w'.setRow g cs) :=
  ⟨h.os, h.tape, h.output, by have := h.size; simp [World.setRow]; omega, fun k hk hn => by
    have hne : k ≠ g := fun e => by subst e; rcases hp with h1 | h1; exact hn h1; omega
    rw [← h.block k hk hn]
    simp [World.setRow, Array.getElem?_modify, hne.symm]⟩
theorem Blk.row {w : World} {g : Nat} {t : TypeId} {cs : Array Value} (h : Blk w g t cs) (new : Array Value) : Blk (w.setRow g new) g t new := setRow_heap w g cs new t _ h
end Go.Dray
namespace Go.Proofs.YtolcdlopgbgilaaDoor
open Go.RowKit Go.Dray

set_option maxHeartbeats 1000000 in
theorem mul64_one (y : Nat) (hy : y < 4294967296) (hb : bits BinOp.and IntKind.u64 (y : Int) 4294967295 = y) (w : World) :
    Calls Tryd.prog 116 #[.int .u64 1, .int .u64 y] w fun e w' => e = .returned (.tuple #[.int .u64 0, .int .u64 y]) ∧ w = w' := by
  have h1 : bits BinOp.and IntKind.u64 1 4294967295 = 1 := by decide
  have h0 : bits BinOp.and IntKind.u64 0 4294967295 = 0 := by decide
  have hq : (y : Int) / 4294967296 = 0 := by omega
  go_enter Tryd.func116, Tryd.ntmps116
  go_wp2
  go_ret2
  exact ⟨rfl, rfl⟩

set_option maxHeartbeats 1000000 in
theorem mul_one (y : Nat) (hy : y < 4294967296) (hb : bits BinOp.and IntKind.u64 (y : Int) 4294967295 = y) (w : World) :
    Calls Tryd.prog 97 #[.int .u64 1, .int .u64 y] w fun e w' => e = .returned (.tuple #[.int .u64 0, .int .u64 y]) ∧ w = w' := by
  go_enter Tryd.func97, Tryd.ntmps97
  go_wp2_with (go_at_call 116; refine (mul64_one y hy hb _).mono ?_; rintro e w' ⟨rfl, rfl⟩)
  go_ret2
  exact ⟨rfl, rfl⟩

/-- n times v, the rest nought. -/
def repV (N n : Nat) (v : Int) : List Value := List.replicate n (.int .i64 v) ++ List.replicate (N - n) (.int .i64 0)
theorem repV_put (N n m : Nat) (v : Int) (h : n + m ≤ N) : (repV N n v).take n ++ List.replicate m (.int .i64 v) ++ (repV N n v).drop (n + m) = repV N (n + m) v := by
  unfold repV
  rw [List.take_left' (by simp), List.drop_append, List.drop_of_length_le (by simp), List.nil_append, List.length_replicate, List.drop_replicate, ← List.replicate_append_replicate, show N - n - (n + m - n) = N - (n + m) from by omega]

theorem repV_len (N n : Nat) (v : Int) (h : n ≤ N) : (repV N n v).length = N := by unfold repV; simp; omega
theorem rep_copy0 {w1 : World} {B : Nat} {A1 X : Option Addr} {N xc : Nat} {v : Int} (hown : Own w1 B 3 1 A1 N N (List.replicate N (.int .i64 0))) (hx : Ints .i64 w1 X 1 [v]) (h1 : 1 ≤ N) :
    ∃ w2 g, A1 = some ⟨g, 0, none⟩ ∧ (∀ ty, (Builtin.copy_ #[61, 61] ty #[.slice A1 N N, .slice X 1 xc]).run Tryd.prog w1 = .ok (.int .i64 1) w2) ∧ Blk w2 g 3 (repV N 1 v).toArray ∧ B ≤ g ∧ ∀ w0 : World, Upd [] w0 w1 → w0.heap.size ≤ B → Upd [] w0 w2 := by
  rcases hown.cases.2.2.2 with ⟨_, h0, _⟩ | ⟨g, cur, rfl, hB, hb, hs, ht⟩
  · omega
  · have hA := Seg.at_ hx (by omega)
    have hc := Seg.cell hx 0 (.int .i64 v) rfl
    have hcur : cur.toList = List.replicate N (.int .i64 0) := by rw [← ht, List.take_of_length_le (by simp; omega)]
    have hr := fun ty => run_copy_row (P := Tryd.prog) w1 61 61 ty 3 g 0 N N ⟨bl X, ofs X, none⟩ 1 xc cur _ [.int .i64 v] el_int.under (by kernel_rfl) hb (by simp [Nat.min_def]; omega)
      (fun j u hu => by
        match j, hu with
        | 0, hu => simp at hu; subst hu; rw [Addr.add_lit]; exact hc) (by simp; omega) (by simp [Value.oneCell'])
    refine ⟨_, g, rfl, fun ty => by rw [hA]; exact hr ty, ?_, hB, fun w0 hu hw => hu.row (Or.inr (by omega)) _⟩
    have := hb.row (cur.toList.take 0 ++ [Value.int .i64 v] ++ cur.toList.drop (0 + [Value.int .i64 v].length)).toArray
    rw [hcur] at this ⊢
    have e : List.take 0 (List.replicate N (Value.int .i64 0)) ++ [.int .i64 v] ++ List.drop (0 + [Value.int .i64 v].length) (List.replicate N (Value.int .i64 0)) = repV N 1 v := by
      unfold repV
      rw [List.take_zero, List.nil_append, List.drop_replicate]
      rfl
    rw [e] at this ⊢
    exact this
theorem rep_copy {w1 : World} {g N n : Nat} {v : Int} (hb : Blk w1 g 3 (repV N n v).toArray) (hn : n < N) :
    ∃ w2, (∀ ty, (Builtin.copy_ #[61, 61] ty #[.slice (some ⟨g, n, none⟩) (N - n) (N - n), .slice (some ⟨g, 0, none⟩) n N]).run Tryd.prog w1 = .ok (.int .i64 (min n (N - n) : Nat)) w2) ∧ Blk w2 g 3 (repV N (n + min n (N - n)) v).toArray ∧ ∀ w0 : World, Upd [] w0 w1 → w0.heap.size ≤ g → Upd [] w0 w2 := by
  have hl := repV_len N n v (by omega)
  have hr := fun ty => run_copy_row (P := Tryd.prog) w1 61 61 ty 3 g n (N - n) (N - n) ⟨g, 0, none⟩ n N (repV N n v).toArray _ (List.replicate (min n (N - n)) (.int .i64 v)) el_int.under (by kernel_rfl) hb (by rw [List.length_replicate])
    (fun j u hu => by
      have hj : j < min n (N - n) := by have := (List.getElem?_eq_some_iff.1 hu).1; simpa using this
      rw [Addr.add_lit, hb.cell, Nat.zero_add]
      rw [List.getElem?_replicate, if_pos hj] at hu
      rw [List.getElem?_toArray]
      unfold repV
      rw [List.getElem?_append_left (by simp; omega), List.getElem?_replicate, if_pos (by omega)]
      exact hu) (by simp [hl]; omega) (by intro u hu; rw [List.mem_replicate] at hu; rw [hu.2]; rfl)
  refine ⟨_, fun ty => (hr ty).trans (by rw [List.length_replicate]; rfl), ?_, fun w0 hu hw => hu.row (Or.inr hw) _⟩
  have := hb.row ((repV N n v).take n ++ List.replicate (min n (N - n)) (Value.int .i64 v) ++ (repV N n v).drop (n + min n (N - n))).toArray
  rw [repV_put N n (min n (N - n)) v (by omega)] at this
  have e : (repV N n v).toArray.toList.take n ++ List.replicate (min n (N - n)) (Value.int .i64 v) ++ (repV N n v).toArray.toList.drop (n + min n (N - n)) = repV N (n + min n (N - n)) v := repV_put N n (min n (N - n)) v (by omega)
  rw [e]
  exact this

def NewRep (N : Nat) (v : Int) (w : World) (e : Ending) (w' : World) : Prop := ∃ A c, e = .returned (.slice A N c) ∧ Own w' w.heap.size 3 1 A N c ((List.replicate N v).map (Value.int .i64)) ∧ Upd [] w w'

set_option maxRecDepth 100000 in
set_option maxHeartbeats 2000000 in
theorem repeatI_any (X : Option Addr) (xc : Nat) (v : Int) (N : Nat) (w : World) (hx : Ints .i64 w X 1 [v]) (h1 : 1 ≤ N) (hN : N ≤ 1000) (hb : bits BinOp.and IntKind.u64 (N : Int) 4294967295 = N) :
    Calls Tryd.prog 70 #[.slice X 1 xc, .int .i64 N] w (NewRep N v w) := by
  have HX := Lib.hid hx
  clear hx
  go_enter Tryd.func70, Tryd.ntmps70
  have dA : decide ((N : Int) < 0) = false := by simp
  have dB : decide ((9223372036854775807 : Int) < N) = false := by simp; omega
  go_wp2_with fail
  refine (mul_one N (by omega) hb w).mono ?_
  rintro e w0 ⟨rfl, rfl⟩
  go_wp2_with (at_make; refine wpList_mk rfl rfl w.heap.size el_int N rfl rfl rfl rfl rfl (by omega) (by simp only [maxLen]; omega) (Nat.le_refl _) ?_; intro A1 w1 hown1 hu1 hob1; obtain ⟨w2, g, hA1, hr2, hb2, hg2, hu2⟩ := rep_copy0 (xc := xc) hown1 (HX.out.upd hu1 (by simp)) h1; subst hA1; have HB2 := Lib.hid hb2; have HU2 := Lib.hid (hu2 w hu1 (Nat.le_refl _)); clear hown1 hu1 hob1 hb2 hu2)
  clear hr2
  go_loopw [8] (fun x wr => ∃ n : Nat, 1 ≤ n ∧ n ≤ N ∧ x = .int .i64 n ∧ Hid (Blk wr g 3 (repV N n v).toArray) ∧ Hid (Upd [] w wr)) (fun x _ => N - (intOf x).toNat)
  case atStart => exact ⟨1, by omega, h1, rfl, HB2, HU2⟩
  case round =>
    clear HB2 HU2
    obtain ⟨n, hn1, hnN, rfl, HB, HU⟩ := hrel
    by_cases hlt : n < N
    · have cut1 := run_cut_l el_int (some ⟨g, 0, none⟩) N N .i64 (n : Int) n rfl hnN
      have cut2 := run_cut_h el_int (some ⟨g, 0, none⟩) N N .i64 (n : Int) n rfl hnN
      have eA : cutA 1 (some ⟨g, 0, none⟩) N n = some ⟨g, n, none⟩ := by unfold cutA; rw [if_neg (by omega)]; simp [Addr.add_lit]
      rw [eA] at cut1
      clear eA
      go_wp2
      refine wp_region_lag1 7 (by kernel_rfl) rfl rfl (by kernel_rfl) (by kernel_rfl) (by kernel_rfl) (by kernel_rfl) (fun _ _ _ _ h => h) ?_
      simp only [List.take_succ_cons, List.take_zero, List.drop_succ_cons, List.drop_zero]
      repeat still_step
      refine wpStill_nil ?_
      have HB4 : Hid (Blk wr.drew g 3 (repV N n v).toArray) := HB.out.drew
      have HU4 : Hid (Upd [] w wr.drew) := HU.out.drew
      generalize wr.drew = w4 at HB4 HU4 ⊢
      obtain ⟨w5, hr5, hb5, hu5⟩ := rep_copy HB4.out hlt
      have HB5 := Lib.hid hb5
      have HU5 := Lib.hid (hu5 w HU4.out hg2)
      obtain ⟨m, hm⟩ : ∃ m, m = min n (N - n) := ⟨_, rfl⟩
      rw [← hm] at hr5 HB5
      have hm1 : 1 ≤ m := by omega
      have hm2 : n + m ≤ N := by omega
      clear hb5 hu5 hm cut1 cut2 HB4 HU4
      go_wp2
      go_roundw
      case rel => exact ⟨n + m, by omega, hm2, by go_num, HB5, HU5⟩
      case measure => simp [intOf]; omega
    · obtain rfl : n = N := by omega
      go_wp2
      go_ret
      refine ⟨some ⟨g, 0, none⟩, n, rfl, ?_, HU.out⟩
      refine Own.mk (by simp) (Nat.le_refl _) (by simp only [maxLen]; omega) rfl hg2 HB.out (by simp [repV_len n n v (Nat.le_refl _)]) ?_
      rw [List.take_of_length_le (by simp [repV_len n n v (Nat.le_refl _)]), List.map_replicate]
      unfold repV
      simp

def FixPost (w : World) (e : Ending) (w' : World) : Prop := ∃ LA lc DA dc, e = .returned (.tuple #[.slice LA 288 lc, .slice DA 32 dc]) ∧ Ints .i64 w' LA 288 fixedL ∧ Ints .i64 w' DA 32 fixedD ∧ Upd [] w w'

theorem seg4 (w : World) (a b c d : Value) (t : TypeId) : Seg (w.alloc (.cells #[a, b, c, d] t)) 1 (some ⟨w.heap.size, 0, none⟩) 4 [a, b, c, d] :=
  ⟨rfl, fun _ => rfl, fun k u hu => by
    have hb := Blk.new w t #[a, b, c, d]
    show (w.alloc _).cell? ⟨w.heap.size, 0 + k, none⟩ = _
    rw [Nat.zero_add, hb.cell]
    simpa using hu⟩

set_option maxRecDepth 100000 in
set_option maxHeartbeats 2000000 in
theorem fixed_any (w : World) : Calls Tryd.prog 57 #[] w (FixPost w) := by
  go_enter Tryd.func57, Tryd.ntmps57
  go_wp2_with fail
  refine (repeatI_any _ 1 8 144 _ (Seg.one w _ _) (by omega) (by omega) (by decide)).mono ?_
  rintro e w1 ⟨R1, c1, rfl, ho1, hv1⟩
  have hu1 : Upd [] w w1 := ((Upd.refl [] w).alloc _).trans hv1
  have hi1 := Ints.ofOwn ho1
  clear ho1 hv1
  go_wp2_with fail
  refine (repeatI_any _ 1 9 112 _ (Seg.one w1 _ _) (by omega) (by omega) (by decide)).mono ?_
  rintro e w2 ⟨R2, c2, rfl, ho2, hv2⟩
  have hu2 : Upd [] w1 w2 := ((Upd.refl [] w1).alloc _).trans hv2
  have hi2 := Ints.ofOwn ho2
  clear ho2 hv2
  have hi1' := hi1.upd hu2 (by simp)
  clear hi1
  have hi1 := hi1'
  clear hi1'
  go_wp2_with fail
  refine (repeatI_any _ 1 7 24 _ (Seg.one w2 _ _) (by omega) (by omega) (by decide)).mono ?_
  rintro e w3 ⟨R3, c3, rfl, ho3, hv3⟩
  have hu3 : Upd [] w2 w3 := ((Upd.refl [] w2).alloc _).trans hv3
  have hi3 := Ints.ofOwn ho3
  clear ho3 hv3
  have hi1' := hi1.upd hu3 (by simp)
  clear hi1
  have hi1 := hi1'
  clear hi1'
  have hi2' := hi2.upd hu3 (by simp)
  clear hi2
  have hi2 := hi2'
  clear hi2'
  go_wp2_with fail
  refine (repeatI_any _ 1 8 8 _ (Seg.one w3 _ _) (by omega) (by omega) (by decide)).mono ?_
  rintro e w4 ⟨R4, c4, rfl, ho4, hv4⟩
  have hu4 : Upd [] w3 w4 := ((Upd.refl [] w3).alloc _).trans hv4
  have hi4 := Ints.ofOwn ho4
  clear ho4 hv4
  have hi1' := hi1.upd hu4 (by simp)
  clear hi1
  have hi1 := hi1'
  clear hi1'
  have hi2' := hi2.upd hu4 (by simp)
  clear hi2
  have hi2 := hi2'
  clear hi2'
  have hi3' := hi3.upd hu4 (by simp)
  clear hi3
  have hi3 := hi3'
  clear hi3'
  have hul : Upd [] w4 (w4.alloc (.cells #[.slice R1 144 c1, .slice R2 112 c2, .slice R3 24 c3, .slice R4 8 c4] 61)) := (Upd.refl [] w4).alloc _
  go_wp2_with fail
  refine (concatI_any _ 4 4 [⟨R1, 144, c1, List.replicate 144 8⟩, ⟨R2, 112, c2, List.replicate 112 9⟩, ⟨R3, 24, c3, List.replicate 24 7⟩, ⟨R4, 8, c4, List.replicate 8 8⟩] _ (seg4 w4 _ _ _ _ _) ?_ (by show 288 ≤ 10000000; omega) (by omega)).mono ?_
  · intro x hx
    simp only [List.mem_cons, List.not_mem_nil, or_false] at hx
    rcases hx with rfl | rfl | rfl | rfl
    · exact hi1.upd hul (by simp)
    · exact hi2.upd hul (by simp)
    · exact hi3.upd hul (by simp)
    · exact hi4.upd hul (by simp)
  rintro e w5 ⟨LA, lc, rfl, hL, hv5⟩
  have hu5 : Upd [] w w5 := (((hu1.trans hu2).trans hu3).trans hu4).trans (hul.trans hv5)
  have eS : sizes [⟨R1, 144, c1, List.replicate 144 8⟩, ⟨R2, 112, c2, List.replicate 112 9⟩, ⟨R3, 24, c3, List.replicate 24 7⟩, ⟨R4, 8, c4, List.replicate 8 8⟩] = 288 := rfl
  have eZ : allZ [⟨R1, 144, c1, List.replicate 144 8⟩, ⟨R2, 112, c2, List.replicate 112 9⟩, ⟨R3, 24, c3, List.replicate 24 7⟩, ⟨R4, 8, c4, List.replicate 8 8⟩] = fixedL := by
    unfold allZ fixedL
    simp only [List.flatMap_cons, List.flatMap_nil, List.append_nil, List.append_assoc]
  rw [eS, eZ] at hL
  rw [eS]
  have HL := Lib.hid (Ints.ofOwn hL)
  clear hL eS eZ hi1 hi2 hi3 hi4 hul hv5
  go_wp2_with fail
  refine (repeatI_any _ 1 5 32 _ (Seg.one w5 _ _) (by omega) (by omega) (by decide)).mono ?_
  rintro e w6 ⟨DA, dc, rfl, hD, hv6⟩
  have hu6 : Upd [] w5 w6 := ((Upd.refl [] w5).alloc _).trans hv6
  go_wp2
  go_ret2
  exact ⟨LA, lc, DA, dc, rfl, HL.out.upd hu6 (by simp), Ints.ofOwn hD, hu5.trans hu6⟩

end Go.Proofs.YtolcdlopgbgilaaDoor

/-! Text Kraft. -/
namespace Go.Proofs.YtolcdlopgbgilaaDoor
open Go.RowKit Go.Dray

theorem emod_twice (v a : Int) (ha : 0 < a) : v % (a * 2) = v % a + a * (v / a % 2) := by
  have h1 : a * (v / a) + v % a = v := Int.mul_ediv_add_emod v a
  have h2 : 2 * (v / a / 2) + v / a % 2 = v / a := Int.mul_ediv_add_emod (v / a) 2
  have hr0 := Int.emod_nonneg v (show a ≠ 0 by omega)
  have hr1 := Int.emod_lt_of_pos v ha
  have e : v = (v % a + a * (v / a % 2)) + (a * 2) * (v / a / 2) := by
    rw [Int.mul_assoc, Int.add_assoc, ← Int.mul_add, Int.add_comm (v / a % 2), h2]
    omega
  rw [e, Int.add_mul_emod_self_left, ← e]
  refine Int.emod_eq_of_lt ?_ ?_
  · rcases (show v / a % 2 = 0 ∨ v / a % 2 = 1 by omega) with h | h <;> rw [h] <;> omega
  · rcases (show v / a % 2 = 0 ∨ v / a % 2 = 1 by omega) with h | h <;> rw [h] <;> omega

theorem digits_num (v : Int) (n : Nat) : num (digits v n) = v % 2 ^ n := by
  induction n with
  | zero => simp [digits, tab, num, Int.emod_one]
  | succ n ih =>
    have hl : (digits v n).length = n := tab_len _ _
    have e : digits v (n + 1) = digits v n ++ [low (v / 2 ^ n)] := tab_succ n _
    rw [e, num_snoc, ih, hl, b2i_low, Int.pow_succ]
    have h1 : v % (2 ^ n * 2) = v % 2 ^ n + 2 ^ n * (v / 2 ^ n % 2) := emod_twice v (2 ^ n) (Int.pow_pos (by decide))
    rw [h1, Int.mul_comm (v / 2 ^ n % 2)]

theorem rowBits_rev (v : Int) (n : Nat) : (rowBits v n).reverse = digits v n := by
  unfold rowBits digits tab
  rw [← List.map_reverse]
  apply List.ext_getElem (by simp)
  intro i h1 h2
  simp at h1 h2
  simp only [List.getElem_map, List.getElem_reverse, List.getElem_range, List.length_range]
  congr 3
  omega

theorem rowBits_num (v : Int) (n : Nat) (h0 : 0 ≤ v) (h : v < 2 ^ n) : num (rowBits v n).reverse = v := by
  rw [rowBits_rev, digits_num, Int.emod_eq_of_lt h0 h]

/-- The first bits of a row are a row of a smaller number. -/
theorem rowBits_take (v : Int) (n m : Nat) (h : m ≤ n) : (rowBits v n).take m = rowBits (v / 2 ^ (n - m)) m := by
  apply List.ext_getElem (by simp [rowBits, tab_len]; omega)
  intro i h1 h2
  have hi : i < m := by simp [rowBits, tab_len] at h2; exact h2
  rw [List.getElem_take]
  simp only [rowBits, tab, List.getElem_map, List.getElem_range]
  rw [Int.ediv_ediv_of_nonneg (Int.pow_nonneg (by decide)), ← Int.pow_add]
  congr 3
  omega

theorem cnt_mono (zs : List Int) (n : Int) {i j : Nat} (h : i ≤ j) : cnt zs n i ≤ cnt zs n j := by
  unfold cnt
  have : zs.take i = (zs.take j).take i := by rw [List.take_take, Nat.min_eq_left h]
  rw [this]
  exact (List.take_sublist i (zs.take j)).countP_le

/-- The share of the rows of length at most n. -/
def share (zs : List Int) (n : Nat) : Int := (zs.map fun z : Int => if 0 < z ∧ z ≤ (n : Int) then wt z else 0).sum

theorem share_le {zs : List Int} (hb : ∀ z ∈ zs, 0 ≤ z ∧ z ≤ 15) (n : Nat) : share zs n ≤ wsum zs := by
  unfold share wsum
  induction zs with
  | nil => simp
  | cons z zs ih =>
    have h1 := wt_bd z (hb z (by simp)).1
    have h2 := ih fun y hy => hb y (by simp [hy])
    simp only [List.map_cons, List.sum_cons]
    split <;> omega

theorem share_succ (zs : List Int) (n : Nat) (hn : n + 1 ≤ 15) : share zs (n + 1) = share zs n + cnt zs (n + 1 : Nat) zs.length * 2 ^ (15 - (n + 1)) := by
  have hc : cnt zs (n + 1 : Nat) zs.length = zs.countP (· == ((n + 1 : Nat) : Int)) := by unfold cnt; rw [List.take_length]
  rw [hc]
  unfold share
  clear hc
  induction zs with
  | nil => simp
  | cons z zs ih =>
    simp only [List.map_cons, List.sum_cons, List.countP_cons, ih]
    by_cases h : z = ((n + 1 : Nat) : Int)
    · have e : wt z = 2 ^ (15 - (n + 1)) := by
        rw [wt_pos z (by omega), h]
        congr 1
        omega
      have hz : (z == ((n + 1 : Nat) : Int)) = true := by simp [h]
      rw [if_pos (by omega), if_neg (by omega), e, hz]
      simp only [if_true]
      generalize List.countP (fun x => x == ((n + 1 : Nat) : Int)) zs = q
      rw [show ((q + 1 : Nat) : Int) = (q : Int) + 1 from by omega, Int.add_mul, Int.one_mul]
      omega
    · have hz : (z == ((n + 1 : Nat) : Int)) = false := by simp; omega
      rw [hz]
      by_cases h2 : 0 < z ∧ z ≤ (n : Int)
      · rw [if_pos (by omega), if_pos h2]; simp; omega
      · rw [if_neg (by omega), if_neg h2]; simp

theorem rowAt_share (zs : List Int) (n : Nat) (hn : n ≤ 15) : rowAt zs n * 2 ^ (15 - n) = share zs n := by
  induction n with
  | zero =>
    have : share zs 0 = 0 := by
      unfold share
      induction zs with
      | nil => simp
      | cons z zs ih => simp only [List.map_cons, List.sum_cons, ih]; rw [if_neg (by omega)]; rfl
    rw [this]
    simp [rowAt]
  | succ n ih =>
    rw [share_succ zs n hn, ← ih (by omega), rowAt, Int.add_mul]
    have e : (2 : Int) ^ (15 - n) = 2 * 2 ^ (15 - (n + 1)) := by
      rw [show 15 - n = (15 - (n + 1)) + 1 from by omega, Int.pow_succ, Int.mul_comm]
    rw [e, ← Int.mul_assoc, Int.mul_comm 2 (rowAt zs n)]

theorem rowAt_le {zs : List Int} (h : chk zs = 0) (n : Nat) (hn : n ≤ 15) : rowAt zs n ≤ 2 ^ n := by
  obtain ⟨_, hb, hw⟩ := chk_zero h
  have h1 := rowAt_share zs n hn
  have h2 := share_le hb n
  have hp : (0 : Int) < 2 ^ (15 - n) := Int.pow_pos (by decide)
  have e : (2 : Int) ^ n * 2 ^ (15 - n) = 32768 := by rw [← Int.pow_add, show n + (15 - n) = 15 from by omega]; rfl
  rcases Int.lt_or_le (2 ^ n) (rowAt zs n) with h3 | h3
  · have := Int.mul_lt_mul_of_pos_right h3 hp
    omega
  · exact h3

theorem rowAt_nonneg (zs : List Int) (n : Nat) : 0 ≤ rowAt zs n := by
  induction n with
  | zero => simp [rowAt]
  | succ n ih => rw [rowAt]; omega
theorem rowAt_grow (zs : List Int) (n m : Nat) : rowAt zs n * 2 ^ m ≤ rowAt zs (n + m) := by
  induction m with
  | zero => simp
  | succ m ih =>
    rw [Int.pow_succ, ← Int.mul_assoc, show n + (m + 1) = (n + m) + 1 from by omega, rowAt]
    omega

theorem getD_mem {zs : List Int} {t : Nat} (ht : t < zs.length) : zs[t]? = some (zs.getD t 0) := by
  rw [List.getElem?_eq_getElem ht]
  simp [List.getD, ht]

theorem codeOf_lt {zs : List Int} {t : Nat} (ht : t < zs.length) {l : Nat} (hl : zs.getD t 0 = l) (hp : 0 < l) : 0 ≤ codeOf zs t ∧ codeOf zs t < rowAt zs l := by
  have h0 := rowAt_nonneg zs (l - 1)
  have hc := cnt_succ (getD_mem ht) (zs.getD t 0)
  rw [if_pos rfl] at hc
  have hm := cnt_mono zs (zs.getD t 0) (show t + 1 ≤ zs.length by omega)
  unfold codeOf
  rw [if_neg (by omega), hl, Int.toNat_natCast]
  rw [hl] at hc hm
  have e : rowAt zs l = 2 * rowAt zs (l - 1) + cnt zs l zs.length := by
    match l, hp with
    | l + 1, _ => rw [rowAt]; rfl
  omega

/-- A row that begins with another one is that one. -/
theorem rowOf_apart {zs : List Int} (h : chk zs = 0) {s t : Nat} (hs : s < zs.length) (ht : t < zs.length) (ps : 0 < zs.getD s 0) (pt : 0 < zs.getD t 0) (hpre : rowOf zs t <+: rowOf zs s) : t = s := by
  obtain ⟨_, hb, _⟩ := chk_zero h
  have bs := hb _ (List.mem_of_getElem? (getD_mem hs))
  have bt := hb _ (List.mem_of_getElem? (getD_mem ht))
  obtain ⟨ls, els⟩ := Int.eq_ofNat_of_zero_le bs.1
  obtain ⟨lt, elt⟩ := Int.eq_ofNat_of_zero_le bt.1
  have cs := codeOf_lt hs els (by omega)
  have ct := codeOf_lt ht elt (by omega)
  have rs := rowAt_le h ls (by omega)
  have rt := rowAt_le h lt (by omega)
  have hlen := hpre.length_le
  rw [rowOf_len, rowOf_len, els, elt, Int.toNat_natCast, Int.toNat_natCast] at hlen
  have e1 : rowOf zs t = (rowOf zs s).take lt := by
    have h1 := List.prefix_iff_eq_take.1 hpre
    rw [rowOf_len, elt, Int.toNat_natCast] at h1
    exact h1
  unfold rowOf at e1
  rw [els, elt, Int.toNat_natCast, Int.toNat_natCast, rowBits_take _ _ _ hlen] at e1
  have hp : (0 : Int) < 2 ^ (ls - lt) := Int.pow_pos (by decide)
  have hq0 : 0 ≤ codeOf zs s / 2 ^ (ls - lt) := Int.ediv_nonneg cs.1 (by omega)
  have hq1 : codeOf zs s / 2 ^ (ls - lt) < 2 ^ lt := by
    apply Int.ediv_lt_of_lt_mul hp
    rw [← Int.pow_add, show lt + (ls - lt) = ls from by omega]
    omega
  have e2 : codeOf zs t = codeOf zs s / 2 ^ (ls - lt) := by
    have a := rowBits_num (codeOf zs t) lt ct.1 (by omega)
    have b := rowBits_num (codeOf zs s / 2 ^ (ls - lt)) lt hq0 hq1
    rw [e1, b] at a
    exact a.symm
  rcases Nat.lt_or_ge lt ls with hlt | hge
  · have h3 : rowAt zs lt * 2 ^ (ls - lt) ≤ codeOf zs s := by
      have h4 := rowAt_grow zs lt (ls - 1 - lt)
      rw [show lt + (ls - 1 - lt) = ls - 1 from by omega] at h4
      have e3 : (2 : Int) ^ (ls - lt) = 2 ^ (ls - 1 - lt) * 2 := by rw [show ls - lt = (ls - 1 - lt) + 1 from by omega, Int.pow_succ]
      unfold codeOf
      rw [if_neg (by omega), els, Int.toNat_natCast, e3, ← Int.mul_assoc]
      omega
    have h5 : rowAt zs lt ≤ codeOf zs s / 2 ^ (ls - lt) := (Int.le_ediv_iff_mul_le hp).2 h3
    omega
  · obtain rfl : ls = lt := by omega
    rw [Nat.sub_self, Int.pow_zero, Int.ediv_one] at e2
    rcases Nat.lt_trichotomy s t with hst | hst | hst
    · have hm := cnt_mono zs (ls : Int) (show s + 1 ≤ t by omega)
      have hc := cnt_succ (getD_mem hs) (ls : Int)
      rw [els, if_pos rfl] at hc
      unfold codeOf at e2
      rw [els, elt, if_neg (by omega)] at e2
      omega
    · exact hst.symm
    · have hm := cnt_mono zs (ls : Int) (show t + 1 ≤ s by omega)
      have hc := cnt_succ (getD_mem ht) (ls : Int)
      rw [elt, if_pos rfl] at hc
      unfold codeOf at e2
      rw [els, elt, if_neg (by omega)] at e2
      omega

theorem leafF_none {zs : List Int} {s : Nat} {q : List Bool} : leafF zs s q = none ↔ ∀ t, t < s → 0 < zs.getD t 0 → rowOf zs t ≠ q := by
  induction s with
  | zero => simp [leafF]
  | succ s ih =>
    rw [leafF]
    constructor
    · intro h t ht hp he
      split at h
      · cases h
      · rename_i hc
        by_cases e : t = s
        · subst e; exact hc ⟨hp, he⟩
        · exact ih.1 h t (by omega) hp he
    · intro h
      rw [if_neg (fun hc => h s (by omega) hc.1 hc.2)]
      exact ih.2 fun t ht => h t (by omega)

theorem leafF_row {zs : List Int} (h : chk zs = 0) {t : Nat} (ht : t < zs.length) (hp : 0 < zs.getD t 0) : leafF zs zs.length (rowOf zs t) = some t := by
  cases hF : leafF zs zs.length (rowOf zs t) with
  | none => exact absurd rfl (leafF_none.1 hF t ht hp)
  | some u =>
    obtain ⟨h1, h2, h3⟩ := leafF_in hF
    rw [rowOf_apart h ht h1 hp h2 (by rw [h3]; exact List.prefix_refl _)]

end Go.Proofs.YtolcdlopgbgilaaDoor

/-! Text InfI. -/
namespace Go.Dray
open Go.RowKit
theorem run_cut_hm {P : Program} {t e : TypeId} {z : Value} {sz bytes : Nat} (el : El P t e z sz bytes) (A : Option Addr) (n c : Nat) (kh km : IntKind) (ih im : Int) (hi m : Nat) (e2 : ih = hi) (e3 : im = m) (h1 : hi ≤ m) (h2 : m ≤ c) :
    ∀ W : World, (Instr.sliceAt t (.slice A n c) none (some (.int kh ih)) (some (.int km im))).run P W = .ok (.slice A hi m) W := by
  intro W
  subst e2 e3
  obtain ⟨i, hi, hz, hs, hb⟩ := info_parts el.info
  have he : P.elem t = e := by simp [Program.elem, el.under]
  have ht : P.underlying t = some (.slice (P.elem t)) := by rw [he]; exact el.under
  rw [run_sliceAt_slice (h := ht), run_slice_hm (ht := ht) (h0 := by omega) (h2 := by omega) (h3 := by omega)]
  have ha : ∀ a : Addr, a.add 0 = a := fun a => by simp [Addr.add]
  cases A <;> simp [he, sizeOf, typeInfo, hi, sliced, ha]
end Go.Dray
namespace Go.Proofs.YtolcdlopgbgilaaDoor
open Go.RowKit Go.Dray

theorem fixedL_chk : chk fixedL = 0 := by decide +kernel
theorem fixedD_chk : chk fixedD = 0 := by decide +kernel

set_option maxRecDepth 100000 in
set_option maxHeartbeats 4000000 in
theorem block_any {w : World} {B u g : Nat} {RA : Option Addr} {rn rc : Nat} {ys : List Int} {most p : Nat} {OA : Option Addr} {on oc : Nat} {o : List Int} (h : USt w B u g RA rn rc ys most p OA on oc o) (ho : OSt w B u g) (F : Nat) (hF : 8 * rn - p < F) :
    Calls Tryd.prog 25 #[.pointer (some ⟨u, 0, none⟩)] w (GoPost w B u g RA rn rc ys most p OA o (blockPr F)) := by
  have HU := Lib.hid h
  have HO := Lib.hid ho
  have hc0 := h.blk.cell 0
  simp at hc0
  clear h ho
  go_enter Tryd.func25, Tryd.ntmps25
  go_wp2_with fail
  refine (take_any HU.out 2 (by omega)).mono ?_
  rintro e w1 (⟨hl1, rfl, hr1, hv1⟩ | ⟨hl1, rfl, hr1, hv1⟩)
  · have hnb := num_bd ((bitsOf ys).drop p) 2 2 (Nat.le_refl _)
    obtain ⟨v, hv⟩ : ∃ v, v = num (((bitsOf ys).drop p).take 2) := ⟨_, rfl⟩
    rw [← hv] at hnb ⊢
    have HR : Hid (∀ k, run (bitsOf ys) most (blockPr F k) p o = run (bitsOf ys) most (if v = 0 then storedPr k else if v = 1 then symPr fixedL fixedD F k else if v = 2 then lensPr F fun lits dists => symPr lits dists F k else .fail 3) (p + 2) o) := fun k => by
      unfold blockPr
      rw [run_take_ok (by rw [HU.out.bits]; exact hl1), ← hv]
    have HU1 := Lib.hid (HU.out.read hr1 hv1 hl1)
    have HV1 := Lib.hid hv1
    have HO1 := Lib.hid (HO.out.upd hv1 (by intro b hb; simp at hb; rw [hb]; exact HO.out.gb))
    have hv4 : v = 0 ∨ v = 1 ∨ v = 2 ∨ v = 3 := by omega
    have HR0 : Hid (v = 0 → ∀ k, run (bitsOf ys) most (blockPr F k) p o = run (bitsOf ys) most (storedPr k) (p + 2) o) := fun h k => by rw [HR.out, if_pos h]
    have HR1 : Hid (v = 1 → ∀ k, run (bitsOf ys) most (blockPr F k) p o = run (bitsOf ys) most (symPr fixedL fixedD F k) (p + 2) o) := fun h k => by rw [HR.out, if_neg (by omega), if_pos h]
    have HR2 : Hid (v = 2 → ∀ k, run (bitsOf ys) most (blockPr F k) p o = run (bitsOf ys) most (lensPr F fun lits dists => symPr lits dists F k) (p + 2) o) := fun h k => by rw [HR.out, if_neg (by omega), if_neg (by omega), if_pos h]
    have HR3 : Hid (v = 3 → ∀ k, run (bitsOf ys) most (blockPr F k) p o = .err 3) := fun h k => by rw [HR.out, if_neg (by omega), if_neg (by omega), if_neg (by omega), run]
    clear hv hnb hr1 hv1 hc0 HR
    rcases hv4 with rfl | rfl | rfl | rfl
    · have HS := Lib.hid (HR0.out rfl)
      clear HR0 HR1 HR2 HR3
      go_wp2_with fail
      refine (stored_any HU1.out).mono ?_
      rintro e w2 ⟨err, p2, OA2, on2, oc2, o2, rfl, hu2, hv2, hf2, hres⟩
      go_wp2
      go_ret
      refine ⟨err, p2, OA2, on2, oc2, o2, rfl, hu2, HV1.out.one.trans hv2, fun x hx => ?_, ?_⟩
      · rcases hf2 x hx with h3 | h3
        · exact Or.inl h3
        · right; have := HV1.out.size; omega
      · rcases hres with ⟨he, hrun⟩ | ⟨he, hp2, hrun⟩
        · exact Or.inl ⟨he, fun k => by rw [HS.out]; exact hrun k⟩
        · exact Or.inr ⟨he, by omega, fun k => by rw [HS.out]; exact hrun k⟩
    · have HS := Lib.hid (HR1.out rfl)
      clear HR0 HR1 HR2 HR3
      go_wp2_with fail
      refine (fixed_any w1).mono ?_
      rintro e w2 ⟨LA, lc, DA, dc, rfl, hL, hD, hv2⟩
      have HU2 := Lib.hid (HU1.out.grow hv2)
      have HV2 : Hid (Upd [some g] w w2) := HV1.out.trans (hv2.mono (by simp))
      have HL := Lib.hid hL
      have HD := Lib.hid hD
      clear hL hD hv2
      go_wp2_with fail
      refine (symbols_any HU2.out LA DA 288 lc 32 dc fixedL fixedD HL.out HD.out fixedL_chk fixedD_chk F (by omega)).mono ?_
      rintro e w3 ⟨err, p2, OA2, on2, oc2, o2, rfl, hu2, hv2, hf2, hres⟩
      go_wp2
      go_ret
      refine ⟨err, p2, OA2, on2, oc2, o2, rfl, hu2, HV2.out.one.trans hv2, fun x hx => ?_, ?_⟩
      · rcases hf2 x hx with h3 | h3
        · exact Or.inl h3
        · right; have := HV2.out.size; omega
      · rcases hres with ⟨he, hrun⟩ | ⟨he, hp2, hrun⟩
        · exact Or.inl ⟨he, fun k => by rw [HS.out]; exact hrun k⟩
        · exact Or.inr ⟨he, by omega, fun k => by rw [HS.out]; exact hrun k⟩
    · have HS := Lib.hid (HR2.out rfl)
      clear HR0 HR1 HR2 HR3
      go_wp2_with fail
      refine (lengths4_any HU1.out HO1.out F (by omega)).mono ?_
      rintro e w2 ⟨err, p2, LA, ln, lc, DA, dn, dc, rfl, hu2, hv2, ⟨he, hrun⟩ | ⟨rfl, hp2, lz, dz, hL, hD, kl, kd, hrun⟩⟩
      · have hd1 : (err != 0) = true := by simp [he]
        go_wp2
        go_ret
        exact ⟨err, p2, OA, on, oc, o, rfl, hu2, (HV1.out.trans hv2).one, fun x hx => Or.inl hx, Or.inl ⟨he, fun k => by rw [HS.out]; exact hrun (fun lits dists => symPr lits dists F k)⟩⟩
      · have HU2 := Lib.hid hu2
        have HV2 : Hid (Upd [some g] w w2) := HV1.out.trans hv2
        have HL := Lib.hid hL
        have HD := Lib.hid hD
        have HKL := Lib.hid kl
        have HKD := Lib.hid kd
        have HR2 : Hid (∀ k, run (bitsOf ys) most (blockPr F k) p o = run (bitsOf ys) most (symPr lz dz F k) p2 o) := fun k => by rw [HS.out]; exact hrun (fun lits dists => symPr lits dists F k)
        clear hL hD hv2 hu2 kl kd hrun
        go_wp2_with fail
        refine (symbols_any HU2.out LA DA ln lc dn dc lz dz HL.out HD.out HKL.out HKD.out F (by omega)).mono ?_
        rintro e w3 ⟨err, p3, OA2, on2, oc2, o2, rfl, hu3, hv3, hf3, hres⟩
        go_wp2
        go_ret
        refine ⟨err, p3, OA2, on2, oc2, o2, rfl, hu3, HV2.out.one.trans hv3, fun x hx => ?_, ?_⟩
        · rcases hf3 x hx with h3 | h3
          · exact Or.inl h3
          · right; have := HV2.out.size; omega
        · rcases hres with ⟨he, hrun⟩ | ⟨he, hp3, hrun⟩
          · exact Or.inl ⟨he, fun k => by rw [HR2.out]; exact hrun k⟩
          · exact Or.inr ⟨he, by omega, fun k => by rw [HR2.out]; exact hrun k⟩
    · have HS := Lib.hid (HR3.out rfl)
      clear HR0 HR1 HR2 HR3
      go_wp2
      go_ret
      exact ⟨3, p + 2, OA, on, oc, o, rfl, HU1.out, HV1.out.one, fun x hx => Or.inl hx, Or.inl ⟨by decide, HS.out⟩⟩
  · go_wp2
    go_ret
    exact ⟨2, p, OA, on, oc, o, rfl, HU.out.read hr1 hv1 HU.out.pos, hv1.one, fun x hx => Or.inl hx, Or.inl ⟨by decide, fun k => by unfold blockPr; rw [run_take_no (by rw [HU.out.bits]; exact hl1)]⟩⟩

end Go.Proofs.YtolcdlopgbgilaaDoor

/-! Text DefP. -/
namespace Go.Proofs.YtolcdlopgbgilaaDoor
open Go.RowKit Go.Dray

/-- A piece: a byte and 0, or a run's size and how far back it is. -/
abbrev Piece := Int × Int
def grow1 (o : List Int) (x : Piece) : List Int := if x.2 = 0 then o ++ [x.1] else o ++ cp o x.2.toNat x.1.toNat
def expand (ps : List Piece) (o : List Int) : List Int := ps.foldl grow1 o
def PieceOk (o : List Int) (x : Piece) : Prop := (x.2 = 0 ∧ 0 ≤ x.1 ∧ x.1 ≤ 255) ∨ (3 ≤ x.1 ∧ x.1 ≤ 258 ∧ 1 ≤ x.2 ∧ x.2 ≤ 32768 ∧ x.2 ≤ o.length)
def PiecesOk : List Piece → List Int → Prop
  | [], _ => True
  | x :: ps, o => PieceOk o x ∧ PiecesOk ps (grow1 o x)
theorem expand_nil (o : List Int) : expand [] o = o := rfl
theorem expand_cons (x : Piece) (ps : List Piece) (o : List Int) : expand (x :: ps) o = expand ps (grow1 o x) := rfl
theorem expand_snoc (ps : List Piece) (x : Piece) (o : List Int) : expand (ps ++ [x]) o = grow1 (expand ps o) x := by simp [expand]
theorem PiecesOk.snoc {ps : List Piece} {x : Piece} : ∀ {o : List Int}, PiecesOk ps o → PieceOk (expand ps o) x → PiecesOk (ps ++ [x]) o := by
  induction ps with
  | nil => intro o _ h; exact ⟨h, trivial⟩
  | cons y ps ih => intro o h h2; exact ⟨h.1, ih h.2 h2⟩
theorem grow1_len {o : List Int} {x : Piece} : o.length ≤ (grow1 o x).length := by
  unfold grow1
  split <;> rw [List.length_append] <;> omega
theorem expand_len (ps : List Piece) : ∀ o : List Int, o.length ≤ (expand ps o).length := by
  induction ps with
  | nil => intro o; exact Nat.le_refl _
  | cons x ps ih => intro o; exact Nat.le_trans grow1_len (ih _)

/-- The symbol of a run's size, the number behind it, and of how many bits. -/
def lsym (size : Int) : Int × Int × Nat :=
  if size = 258 then (285, 0, 0) else if size - 3 < 8 then (257 + (size - 3), 0, 0) else
    let k := (size - 3).toNat.log2 - 2
    (257 + 4 * ((k : Int) + 1) + (size - 3) / 2 ^ k - 4, (size - 3) % 2 ^ k, k)
def dsym (back : Int) : Int × Int × Nat :=
  if back - 1 < 4 then (back - 1, 0, 0) else
    let k := (back - 1).toNat.log2 - 1
    (2 * ((k : Int) + 1) + (back - 1) / 2 ^ k - 2, (back - 1) % 2 ^ k, k)

/-- What a size's symbol must say. -/
def lsymB (size : Int) : Bool :=
  let x := lsym size
  let i := x.1 - 257
  decide (0 ≤ i) && decide (i ≤ 28) && decide (0 ≤ x.2.1) && decide (x.2.1 < 2 ^ x.2.2) && decide (x.2.2 ≤ 5) &&
    (if i < 8 then decide (x.2.2 = 0) && decide (3 + i = size) else if i = 28 then decide (x.2.2 = 0) && decide (size = 258) else decide (x.2.2 = (i / 4 - 1).toNat) && decide (3 + (4 + i % 4) * 2 ^ (i / 4 - 1).toNat + x.2.1 = size))
theorem lsym_all : (List.range 256).all (fun n => lsymB ((n : Int) + 3)) = true := by decide +kernel
theorem lsym_ok {size : Int} (h1 : 3 ≤ size) (h2 : size ≤ 258) : lsymB size = true := by
  have h := List.all_eq_true.1 lsym_all (size - 3).toNat (by rw [List.mem_range]; omega)
  rw [show (((size - 3).toNat : Nat) : Int) + 3 = size from by omega] at h
  exact h
theorem lsym_bd {size : Int} (h1 : 3 ≤ size) (h2 : size ≤ 258) : 257 ≤ (lsym size).1 ∧ (lsym size).1 ≤ 285 ∧ 0 ≤ (lsym size).2.1 ∧ (lsym size).2.1 < 2 ^ (lsym size).2.2 ∧ (lsym size).2.2 ≤ 5 := by
  have h := lsym_ok h1 h2
  simp only [lsymB, Bool.and_eq_true, decide_eq_true_eq] at h
  obtain ⟨⟨⟨⟨⟨a, b⟩, c⟩, d⟩, e⟩, f⟩ := h
  exact ⟨by omega, by omega, c, d, e⟩

theorem log2_of {v k : Nat} (h1 : 2 ^ k ≤ v) (h2 : v < 2 ^ (k + 1)) : v.log2 = k := by
  have h0 : v ≠ 0 := by have := Nat.two_pow_pos k; omega
  have a := (Nat.le_log2 h0 (k := k)).2 h1
  have b := (Nat.log2_lt h0 (k := k + 1)).2 h2
  omega
/-- What a distance's symbol must say. -/
structure DsymOk (back : Int) : Prop where
  lo : 0 ≤ (dsym back).1
  hi : (dsym back).1 ≤ 29
  m0 : 0 ≤ (dsym back).2.1
  m1 : (dsym back).2.1 < 2 ^ (dsym back).2.2
  n13 : (dsym back).2.2 ≤ 13
  small : (dsym back).1 < 4 → (dsym back).2.2 = 0 ∧ 1 + (dsym back).1 = back
  big : 4 ≤ (dsym back).1 → (dsym back).2.2 = ((dsym back).1 / 2 - 1).toNat ∧ 1 + (2 + (dsym back).1 % 2) * 2 ^ ((dsym back).1 / 2 - 1).toNat + (dsym back).2.1 = back
theorem dsym_ok {back : Int} (h1 : 1 ≤ back) (h2 : back ≤ 32768) : DsymOk back := by
  by_cases h4 : back - 1 < 4
  · have e : dsym back = (back - 1, 0, 0) := by unfold dsym; rw [if_pos h4]
    constructor <;> rw [e] <;> (try simp only []) <;> (try omega)
    · intro _; constructor <;> first | trivial | omega
  · obtain ⟨v, hv⟩ : ∃ v : Nat, (v : Int) = back - 1 := ⟨(back - 1).toNat, by omega⟩
    obtain ⟨k, hk1, hk2, hk13⟩ : ∃ k : Nat, 2 ^ (k + 1) ≤ v ∧ v < 2 ^ (k + 2) ∧ (1 ≤ k ∧ k ≤ 13) := by
      have h0 : v ≠ 0 := by omega
      have a : 2 ≤ v.log2 := (Nat.le_log2 h0 (k := 2)).2 (by omega)
      have b : v.log2 < 15 := (Nat.log2_lt h0 (k := 15)).2 (by omega)
      refine ⟨v.log2 - 1, ?_, ?_, by omega, by omega⟩
      · rw [show v.log2 - 1 + 1 = v.log2 from by omega]; exact Nat.log2_self_le h0
      · rw [show v.log2 - 1 + 2 = v.log2 + 1 from by omega]; exact Nat.lt_log2_self
    have hlog : v.log2 = k + 1 := log2_of hk1 hk2
    have e : dsym back = (2 * ((k : Int) + 1) + (v : Int) / 2 ^ k - 2, (v : Int) % 2 ^ k, k) := by
      unfold dsym
      rw [if_neg h4, ← hv, Int.toNat_natCast, hlog]
      rfl
    have hq : (v : Int) / 2 ^ k = 2 ∨ (v : Int) / 2 ^ k = 3 := by
      have hp := Nat.two_pow_pos k
      have e1 : (2 : Nat) ^ (k + 1) = 2 ^ k * 2 := Nat.pow_succ ..
      have e2 : (2 : Nat) ^ (k + 2) = 2 ^ k * 4 := by rw [Nat.pow_add]
      have a : 2 ≤ v / 2 ^ k := (Nat.le_div_iff_mul_le hp).2 (by omega)
      have b : v / 2 ^ k < 4 := Nat.div_lt_of_lt_mul (by omega)
      have c : (v : Int) / 2 ^ k = ((v / 2 ^ k : Nat) : Int) := by simp
      omega
    have hp : (0 : Int) < 2 ^ k := Int.pow_pos (by decide)
    have hm0 := Int.emod_nonneg (v : Int) (Int.ne_of_gt hp)
    have hm1 := Int.emod_lt_of_pos (v : Int) hp
    have hd := Int.mul_ediv_add_emod (v : Int) (2 ^ k)
    constructor <;> rw [e] <;> (try simp only [])
    · omega
    · omega
    · exact hm0
    · exact hm1
    · omega
    · intro h; omega
    · intro _
      have e1 : ((2 * ((k : Int) + 1) + (v : Int) / 2 ^ k - 2) / 2 - 1).toNat = k := by rcases hq with h | h <;> rw [h] <;> omega
      rw [e1]
      refine ⟨rfl, ?_⟩
      rcases hq with h | h
      · rw [h] at hd ⊢
        rw [show (2 * ((k : Int) + 1) + 2 - 2) % 2 = 0 from by omega, show (2 : Int) + 0 = 2 from rfl, Int.mul_comm]
        omega
      · rw [h] at hd ⊢
        rw [show (2 * ((k : Int) + 1) + 3 - 2) % 2 = 1 from by omega, show (2 : Int) + 1 = 3 from rfl, Int.mul_comm 3]
        omega

/-- A symbol that has a row. -/
def Has (zs : List Int) (t : Nat) : Prop := t < zs.length ∧ 0 < zs.getD t 0

theorem next_row' {zs : List Int} (h : chk zs = 0) {t : Nat} (ht : Has zs t) (rest : List Bool) : NextIs zs (rowOf zs t ++ rest) (rowOf zs t).length t 0 := by
  obtain ⟨ht, hp⟩ := ht
  have hl := rowOf_len zs t
  refine ⟨by rw [List.length_append]; omega, fun j h1 h2 => ?_, Or.inr (Or.inr ⟨rfl, by omega, t, rfl, ?_⟩)⟩
  · rw [goesOn, List.take_append_of_le_length (by omega)]
    refine ⟨Or.inr ⟨t, ht, hp, List.take_prefix _ _⟩, leafF_none.2 fun u hu hup he => ?_⟩
    have e := rowOf_apart h ht hu hp hup (by rw [he]; exact List.take_prefix _ _)
    subst e
    have := congrArg List.length he
    rw [List.length_take] at this
    omega
  · rw [List.take_left']
    · exact leafF_row h ht hp
    · rfl

/-- The bits from p on begin with X. -/
def Beg (bs : List Bool) (p : Nat) (X : List Bool) : Prop := ∃ Y, bs.drop p = X ++ Y
theorem Beg.app {bs : List Bool} {p : Nat} {X Z : List Bool} (h : Beg bs p (X ++ Z)) : Beg bs p X ∧ Beg bs (p + X.length) Z := by
  obtain ⟨Y, hY⟩ := h
  refine ⟨⟨Z ++ Y, by rw [hY, List.append_assoc]⟩, ⟨Y, ?_⟩⟩
  rw [← List.drop_drop, hY, List.append_assoc, List.drop_left']
  rfl
theorem Beg.len {bs : List Bool} {p : Nat} {X : List Bool} (h : Beg bs p X) (hp : p ≤ bs.length) : p + X.length ≤ bs.length := by
  obtain ⟨Y, hY⟩ := h
  have := congrArg List.length hY
  rw [List.length_drop, List.length_append] at this
  omega

theorem run_next_row {bs : List Bool} {most p : Nat} {o : List Int} {zs : List Int} {k : Int → Pr} (h : chk zs = 0) {t : Nat} (ht : Has zs t) (hb : Beg bs p (rowOf zs t)) : run bs most (.next zs k) p o = run bs most (k t) (p + (rowOf zs t).length) o := by
  obtain ⟨Y, hY⟩ := hb
  have hn := nextF_eq (next_row' h ht Y)
  rw [run, hY, hn]
  exact if_pos rfl
theorem digits_len (v : Int) (n : Nat) : (digits v n).length = n := tab_len _ _
theorem run_take_dig {bs : List Bool} {most p : Nat} {o : List Int} {k : Int → Pr} {v : Int} {n : Nat} (h0 : 0 ≤ v) (h1 : v < 2 ^ n) (hp : p ≤ bs.length) (hb : Beg bs p (digits v n)) : run bs most (.take n k) p o = run bs most (k v) (p + n) o := by
  have hl := hb.len hp
  rw [digits_len] at hl
  obtain ⟨Y, hY⟩ := hb
  rw [run, if_pos hl, hY, List.take_left' (digits_len v n), digits_num, Int.emod_eq_of_lt h0 h1]

theorem run_len {bs : List Bool} {most p : Nat} {o : List Int} {k : Int → Pr} {size : Int} (h1 : 3 ≤ size) (h2 : size ≤ 258) (hp : p ≤ bs.length) (hb : Beg bs p (digits (lsym size).2.1 (lsym size).2.2)) :
    run bs most (lenPr ((lsym size).1 - 257) k) p o = run bs most (k size) (p + (lsym size).2.2) o := by
  have h := lsym_ok h1 h2
  simp only [lsymB, Bool.and_eq_true, decide_eq_true_eq] at h
  obtain ⟨⟨⟨⟨⟨a, b⟩, c⟩, d⟩, e⟩, f⟩ := h
  generalize lsym size = x at *
  unfold lenPr
  by_cases h8 : x.1 - 257 < 8
  · rw [if_pos h8] at f ⊢
    simp only [Bool.and_eq_true, decide_eq_true_eq] at f
    rw [f.1, f.2]
    rfl
  · rw [if_neg h8] at f ⊢
    by_cases h28 : x.1 - 257 = 28
    · rw [if_pos h28] at f ⊢
      simp only [Bool.and_eq_true, decide_eq_true_eq] at f
      rw [f.1, ← f.2]
      rfl
    · rw [if_neg h28] at f ⊢
      simp only [Bool.and_eq_true, decide_eq_true_eq] at f
      obtain ⟨f1, f2⟩ := f
      rw [← f1] at f2 ⊢
      rw [run_take_dig c d hp hb, f2]
theorem run_dist {bs : List Bool} {most p : Nat} {o : List Int} {k : Int → Pr} {back : Int} (h1 : 1 ≤ back) (h2 : back ≤ 32768) (hp : p ≤ bs.length) (hb : Beg bs p (digits (dsym back).2.1 (dsym back).2.2)) :
    run bs most (distPr (dsym back).1 k) p o = run bs most (k back) (p + (dsym back).2.2) o := by
  have h := dsym_ok h1 h2
  unfold distPr
  by_cases h4 : (dsym back).1 < 4
  · rw [if_pos h4, (h.small h4).1, (h.small h4).2]
    rfl
  · have hb2 := h.big (by omega)
    rw [if_neg h4, ← hb2.1]
    rw [run_take_dig h.m0 h.m1 hp hb]
    rw [← hb2.1] at hb2
    rw [hb2.2]

def pieceBits (lz dz : List Int) (x : Piece) : List Bool :=
  if x.2 = 0 then rowOf lz x.1.toNat else
    rowOf lz (lsym x.1).1.toNat ++ (digits (lsym x.1).2.1 (lsym x.1).2.2 ++ (rowOf dz (dsym x.2).1.toNat ++ digits (dsym x.2).2.1 (dsym x.2).2.2))
def piecesBits (lz dz : List Int) (ps : List Piece) : List Bool := ps.flatMap (pieceBits lz dz)
def blockBits (lz dz : List Int) (ps : List Piece) : List Bool := piecesBits lz dz ps ++ rowOf lz 256
theorem piecesBits_snoc (lz dz : List Int) (ps : List Piece) (x : Piece) : piecesBits lz dz (ps ++ [x]) = piecesBits lz dz ps ++ pieceBits lz dz x := by simp [piecesBits]
def PieceHas (lz dz : List Int) (x : Piece) : Prop := if x.2 = 0 then Has lz x.1.toNat else Has lz (lsym x.1).1.toNat ∧ Has dz (dsym x.2).1.toNat

theorem sym_back {bs : List Bool} {most : Nat} {lz dz : List Int} {k : Pr} (hl : chk lz = 0) (hd : chk dz = 0) (h256 : Has lz 256) (ps : List Piece) :
    ∀ (o : List Int) (p f : Nat), p ≤ bs.length → (∀ x ∈ ps, PieceHas lz dz x) → PiecesOk ps o → Beg bs p (blockBits lz dz ps) → ps.length < f → (expand ps o).length ≤ most →
      run bs most (symPr lz dz f k) p o = run bs most k (p + (blockBits lz dz ps).length) (expand ps o) := by
  induction ps with
  | nil =>
    intro o p f hp _ _ hb hf _
    obtain ⟨f, rfl⟩ : ∃ f', f = f' + 1 := ⟨f - 1, by simp at hf; omega⟩
    rw [symPr, run_next_row hl h256 hb, if_pos (show ((256 : Nat) : Int) = 256 from rfl)]
    rfl
  | cons x ps ih =>
    intro o p f hp hh hok hb hf hm
    obtain ⟨f, rfl⟩ : ∃ f', f = f' + 1 := ⟨f - 1, by simp at hf; omega⟩
    have hx := hh x (by simp)
    have hrest : ∀ y ∈ ps, PieceHas lz dz y := fun y hy => hh y (by simp [hy])
    have e0 : blockBits lz dz (x :: ps) = pieceBits lz dz x ++ blockBits lz dz ps := by simp [blockBits, piecesBits]
    rw [e0] at hb ⊢
    obtain ⟨hb1, hb2⟩ := hb.app
    have hlen1 := hb1.len hp
    rw [expand_cons] at hm ⊢
    have hgm : (grow1 o x).length ≤ most := Nat.le_trans (expand_len ps _) hm
    have hgo := ih (grow1 o x) (p + (pieceBits lz dz x).length) f hlen1 hrest hok.2 hb2 (by simp at hf; omega) hm
    rw [List.length_append, ← Nat.add_assoc, ← hgo]
    rcases hok.1 with ⟨h0, h1, h2⟩ | ⟨h1, h2, h3, h4, h5⟩
    · have eb : pieceBits lz dz x = rowOf lz x.1.toNat := by unfold pieceBits; rw [if_pos h0]
      have eg : grow1 o x = o ++ [x.1] := by unfold grow1; rw [if_pos h0]
      unfold PieceHas at hx
      rw [if_pos h0] at hx
      rw [eb] at hb1 ⊢
      rw [eg] at hgm ⊢
      rw [symPr, run_next_row hl hx hb1, if_neg (by omega), if_neg (by omega)]
      rw [run, if_pos (by rw [List.length_append] at hgm; exact hgm), show ((x.1.toNat : Nat) : Int) = x.1 from by omega]
    · have hn0 : ¬ x.2 = 0 := by omega
      have eb : pieceBits lz dz x = rowOf lz (lsym x.1).1.toNat ++ (digits (lsym x.1).2.1 (lsym x.1).2.2 ++ (rowOf dz (dsym x.2).1.toNat ++ digits (dsym x.2).2.1 (dsym x.2).2.2)) := by unfold pieceBits; rw [if_neg hn0]
      have eg : grow1 o x = o ++ cp o x.2.toNat x.1.toNat := by unfold grow1; rw [if_neg hn0]
      unfold PieceHas at hx
      rw [if_neg hn0] at hx
      have hls := lsym_bd h1 h2
      have hds := dsym_ok h3 h4
      rw [eb] at hb1 ⊢
      obtain ⟨c1, c2⟩ := hb1.app
      have l1 := c1.len hp
      obtain ⟨c2, c3⟩ := c2.app
      have l2 := c2.len l1
      rw [digits_len] at c3 l2
      obtain ⟨c3, c4⟩ := c3.app
      have l3 := c3.len l2
      rw [eg] at hgm ⊢
      rw [symPr, run_next_row hl hx.1 c1, show (((lsym x.1).1.toNat : Nat) : Int) = (lsym x.1).1 from by omega, if_neg (by omega), if_pos (by omega)]
      unfold againPr
      rw [if_neg (by omega), run_len h1 h2 l1 c2, run_next_row hd hx.2 c3, show (((dsym x.2).1.toNat : Nat) : Int) = (dsym x.2).1 from by have := hds.lo; omega, if_neg (by have := hds.hi; omega)]
      rw [run_dist h3 h4 l3 c4, run, if_neg (by omega), run, cp_len, if_pos (by rw [List.length_append, cp_len] at hgm; exact hgm)]
      simp only [List.length_append, digits_len, Nat.add_assoc]

end Go.Proofs.YtolcdlopgbgilaaDoor
