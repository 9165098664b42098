/- Merged by wip/tools/merge.py: InfH HuffN Kraft HuffM InfI. -/
import Derived.StillTailTactics
import Derived.Test.YtolcdlopgbgilaaGreatDoorMz04
import Derived.Test.YtolcdlopgbgilaaGreatDoorMz05
import Derived.Test.YtolcdlopgbgilaaGreatDoorMz07

/-! Text InfH. -/
namespace Go.Dray
open Go.RowKit
theorem Upd.row {L : List (Option Nat)} {w w' : World} (h : Upd L w w') {g : Nat} (hp : some g ∈ L ∨ w.heap.size ≤ g) (cs : Array Value) : Upd L w (w'.setRow g cs) :=
  ⟨h.os, h.tape, h.output, by have := h.size; simp [World.setRow]; omega, fun k hk hn => by
    have hne : k ≠ g := fun e => by subst e; rcases hp with h1 | h1; exact hn h1; omega
    rw [← h.block k hk hn]
    simp [World.setRow, Array.getElem?_modify, hne.symm]⟩
theorem Blk.row {w : World} {g : Nat} {t : TypeId} {cs : Array Value} (h : Blk w g t cs) (new : Array Value) : Blk (w.setRow g new) g t new := setRow_heap w g cs new t _ h
end Go.Dray
namespace Go.Proofs.YtolcdlopgbgilaaGreatDoor
open Go.RowKit Go.Dray

set_option maxHeartbeats 1000000 in
theorem mul64_one (y : Nat) (hy : y < 4294967296) (hb : bits BinOp.and IntKind.u64 (y : Int) 4294967295 = y) (w : World) :
    Calls Tryz.prog 110 #[.int .u64 1, .int .u64 y] w fun e w' => e = .returned (.tuple #[.int .u64 0, .int .u64 y]) ∧ w = w' := by
  have h1 : bits BinOp.and IntKind.u64 1 4294967295 = 1 := by decide
  have h0 : bits BinOp.and IntKind.u64 0 4294967295 = 0 := by decide
  have hq : (y : Int) / 4294967296 = 0 := by omega
  go_enter Tryz.func110, Tryz.ntmps110
  go_wp2
  go_ret2
  exact ⟨rfl, rfl⟩

set_option maxHeartbeats 1000000 in
theorem mul_one (y : Nat) (hy : y < 4294967296) (hb : bits BinOp.and IntKind.u64 (y : Int) 4294967295 = y) (w : World) :
    Calls Tryz.prog 86 #[.int .u64 1, .int .u64 y] w fun e w' => e = .returned (.tuple #[.int .u64 0, .int .u64 y]) ∧ w = w' := by
  go_enter Tryz.func86, Tryz.ntmps86
  go_wp2_with (go_at_call 110; refine (mul64_one y hy hb _).mono ?_; rintro e w' ⟨rfl, rfl⟩)
  go_ret2
  exact ⟨rfl, rfl⟩

/-- n times v, the rest nought. -/
def repV (N n : Nat) (v : Int) : List Value := List.replicate n (.int .i64 v) ++ List.replicate (N - n) (.int .i64 0)
theorem repV_put (N n m : Nat) (v : Int) (h : n + m ≤ N) : (repV N n v).take n ++ List.replicate m (.int .i64 v) ++ (repV N n v).drop (n + m) = repV N (n + m) v := by
  unfold repV
  rw [List.take_left' (by simp), List.drop_append, List.drop_of_length_le (by simp), List.nil_append, List.length_replicate, List.drop_replicate, ← List.replicate_append_replicate, show N - n - (n + m - n) = N - (n + m) from by omega]

theorem repV_len (N n : Nat) (v : Int) (h : n ≤ N) : (repV N n v).length = N := by unfold repV; simp; omega
theorem rep_copy0 {w1 : World} {B : Nat} {A1 X : Option Addr} {N xc : Nat} {v : Int} (hown : Own w1 B 3 1 A1 N N (List.replicate N (.int .i64 0))) (hx : Ints .i64 w1 X 1 [v]) (h1 : 1 ≤ N) :
    ∃ w2 g, A1 = some ⟨g, 0, none⟩ ∧ (∀ ty, (Builtin.copy_ #[64, 64] ty #[.slice A1 N N, .slice X 1 xc]).run Tryz.prog w1 = .ok (.int .i64 1) w2) ∧ Blk w2 g 3 (repV N 1 v).toArray ∧ B ≤ g ∧ ∀ w0 : World, Upd [] w0 w1 → w0.heap.size ≤ B → Upd [] w0 w2 := by
  rcases hown.cases.2.2.2 with ⟨_, h0, _⟩ | ⟨g, cur, rfl, hB, hb, hs, ht⟩
  · omega
  · have hA := Seg.at_ hx (by omega)
    have hc := Seg.cell hx 0 (.int .i64 v) rfl
    have hcur : cur.toList = List.replicate N (.int .i64 0) := by rw [← ht, List.take_of_length_le (by simp; omega)]
    have hr := fun ty => run_copy_row (P := Tryz.prog) w1 64 64 ty 3 g 0 N N ⟨bl X, ofs X, none⟩ 1 xc cur _ [.int .i64 v] el_int.under (by kernel_rfl) hb (by simp [Nat.min_def]; omega)
      (fun j u hu => by
        match j, hu with
        | 0, hu => simp at hu; subst hu; rw [Addr.add_lit]; exact hc) (by simp; omega) (by simp [Value.oneCell'])
    refine ⟨_, g, rfl, fun ty => by rw [hA]; exact hr ty, ?_, hB, fun w0 hu hw => hu.row (Or.inr (by omega)) _⟩
    have := hb.row (cur.toList.take 0 ++ [Value.int .i64 v] ++ cur.toList.drop (0 + [Value.int .i64 v].length)).toArray
    rw [hcur] at this ⊢
    have e : List.take 0 (List.replicate N (Value.int .i64 0)) ++ [.int .i64 v] ++ List.drop (0 + [Value.int .i64 v].length) (List.replicate N (Value.int .i64 0)) = repV N 1 v := by
      unfold repV
      rw [List.take_zero, List.nil_append, List.drop_replicate]
      rfl
    rw [e] at this ⊢
    exact this
theorem rep_copy {w1 : World} {g N n : Nat} {v : Int} (hb : Blk w1 g 3 (repV N n v).toArray) (hn : n < N) :
    ∃ w2, (∀ ty, (Builtin.copy_ #[64, 64] ty #[.slice (some ⟨g, n, none⟩) (N - n) (N - n), .slice (some ⟨g, 0, none⟩) n N]).run Tryz.prog w1 = .ok (.int .i64 (min n (N - n) : Nat)) w2) ∧ Blk w2 g 3 (repV N (n + min n (N - n)) v).toArray ∧ ∀ w0 : World, Upd [] w0 w1 → w0.heap.size ≤ g → Upd [] w0 w2 := by
  have hl := repV_len N n v (by omega)
  have hr := fun ty => run_copy_row (P := Tryz.prog) w1 64 64 ty 3 g n (N - n) (N - n) ⟨g, 0, none⟩ n N (repV N n v).toArray _ (List.replicate (min n (N - n)) (.int .i64 v)) el_int.under (by kernel_rfl) hb (by rw [List.length_replicate])
    (fun j u hu => by
      have hj : j < min n (N - n) := by have := (List.getElem?_eq_some_iff.1 hu).1; simpa using this
      rw [Addr.add_lit, hb.cell, Nat.zero_add]
      rw [List.getElem?_replicate, if_pos hj] at hu
      rw [List.getElem?_toArray]
      unfold repV
      rw [List.getElem?_append_left (by simp; omega), List.getElem?_replicate, if_pos (by omega)]
      exact hu) (by simp [hl]; omega) (by intro u hu; rw [List.mem_replicate] at hu; rw [hu.2]; rfl)
  refine ⟨_, fun ty => (hr ty).trans (by rw [List.length_replicate]; rfl), ?_, fun w0 hu hw => hu.row (Or.inr hw) _⟩
  have := hb.row ((repV N n v).take n ++ List.replicate (min n (N - n)) (Value.int .i64 v) ++ (repV N n v).drop (n + min n (N - n))).toArray
  rw [repV_put N n (min n (N - n)) v (by omega)] at this
  have e : (repV N n v).toArray.toList.take n ++ List.replicate (min n (N - n)) (Value.int .i64 v) ++ (repV N n v).toArray.toList.drop (n + min n (N - n)) = repV N (n + min n (N - n)) v := repV_put N n (min n (N - n)) v (by omega)
  rw [e]
  exact this

def NewRep (N : Nat) (v : Int) (w : World) (e : Ending) (w' : World) : Prop := ∃ A c, e = .returned (.slice A N c) ∧ Own w' w.heap.size 3 1 A N c ((List.replicate N v).map (Value.int .i64)) ∧ Upd [] w w'

set_option maxRecDepth 100000 in
set_option maxHeartbeats 2000000 in
theorem repeatI_any (X : Option Addr) (xc : Nat) (v : Int) (N : Nat) (w : World) (hx : Ints .i64 w X 1 [v]) (h1 : 1 ≤ N) (hN : N ≤ 1000) (hb : bits BinOp.and IntKind.u64 (N : Int) 4294967295 = N) :
    Calls Tryz.prog 57 #[.slice X 1 xc, .int .i64 N] w (NewRep N v w) := by
  have HX := Lib.hid hx
  clear hx
  go_enter Tryz.func57, Tryz.ntmps57
  have dA : decide ((N : Int) < 0) = false := by simp
  have dB : decide ((9223372036854775807 : Int) < N) = false := by simp; omega
  go_wp2_with fail
  refine (mul_one N (by omega) hb w).mono ?_
  rintro e w0 ⟨rfl, rfl⟩
  go_wp2_with (at_make; refine wpList_mk rfl rfl w.heap.size el_int N rfl rfl rfl rfl rfl (by omega) (by simp only [maxLen]; omega) (Nat.le_refl _) ?_; intro A1 w1 hown1 hu1 hob1; obtain ⟨w2, g, hA1, hr2, hb2, hg2, hu2⟩ := rep_copy0 (xc := xc) hown1 (HX.out.upd hu1 (by simp)) h1; subst hA1; have HB2 := Lib.hid hb2; have HU2 := Lib.hid (hu2 w hu1 (Nat.le_refl _)); clear hown1 hu1 hob1 hb2 hu2)
  clear hr2
  go_loopw [8] (fun x wr => ∃ n : Nat, 1 ≤ n ∧ n ≤ N ∧ x = .int .i64 n ∧ Hid (Blk wr g 3 (repV N n v).toArray) ∧ Hid (Upd [] w wr)) (fun x _ => N - (intOf x).toNat)
  case atStart => exact ⟨1, by omega, h1, rfl, HB2, HU2⟩
  case round =>
    clear HB2 HU2
    obtain ⟨n, hn1, hnN, rfl, HB, HU⟩ := hrel
    by_cases hlt : n < N
    · have cut1 := run_cut_l el_int (some ⟨g, 0, none⟩) N N .i64 (n : Int) n rfl hnN
      have cut2 := run_cut_h el_int (some ⟨g, 0, none⟩) N N .i64 (n : Int) n rfl hnN
      have eA : cutA 1 (some ⟨g, 0, none⟩) N n = some ⟨g, n, none⟩ := by unfold cutA; rw [if_neg (by omega)]; simp [Addr.add_lit]
      rw [eA] at cut1
      clear eA
      go_wp2
      refine wp_region_lag1 7 (by kernel_rfl) rfl rfl (by kernel_rfl) (by kernel_rfl) (by kernel_rfl) (by kernel_rfl) (fun _ _ _ _ h => h) ?_
      simp only [List.take_succ_cons, List.take_zero, List.drop_succ_cons, List.drop_zero]
      repeat still_step
      refine wpStill_nil ?_
      have HB4 : Hid (Blk wr.drew g 3 (repV N n v).toArray) := HB.out.drew
      have HU4 : Hid (Upd [] w wr.drew) := HU.out.drew
      generalize wr.drew = w4 at HB4 HU4 ⊢
      obtain ⟨w5, hr5, hb5, hu5⟩ := rep_copy HB4.out hlt
      have HB5 := Lib.hid hb5
      have HU5 := Lib.hid (hu5 w HU4.out hg2)
      obtain ⟨m, hm⟩ : ∃ m, m = min n (N - n) := ⟨_, rfl⟩
      rw [← hm] at hr5 HB5
      have hm1 : 1 ≤ m := by omega
      have hm2 : n + m ≤ N := by omega
      clear hb5 hu5 hm cut1 cut2 HB4 HU4
      go_wp2
      go_roundw
      case rel => exact ⟨n + m, by omega, hm2, by go_num, HB5, HU5⟩
      case measure => simp [intOf]; omega
    · obtain rfl : n = N := by omega
      go_wp2
      go_ret
      refine ⟨some ⟨g, 0, none⟩, n, rfl, ?_, HU.out⟩
      refine Own.mk (by simp) (Nat.le_refl _) (by simp only [maxLen]; omega) rfl hg2 HB.out (by simp [repV_len n n v (Nat.le_refl _)]) ?_
      rw [List.take_of_length_le (by simp [repV_len n n v (Nat.le_refl _)]), List.map_replicate]
      unfold repV
      simp

def FixPost (w : World) (e : Ending) (w' : World) : Prop := ∃ LA lc DA dc, e = .returned (.tuple #[.slice LA 288 lc, .slice DA 32 dc]) ∧ Ints .i64 w' LA 288 fixedL ∧ Ints .i64 w' DA 32 fixedD ∧ Upd [] w w'

theorem seg4 (w : World) (a b c d : Value) (t : TypeId) : Seg (w.alloc (.cells #[a, b, c, d] t)) 1 (some ⟨w.heap.size, 0, none⟩) 4 [a, b, c, d] :=
  ⟨rfl, fun _ => rfl, fun k u hu => by
    have hb := Blk.new w t #[a, b, c, d]
    show (w.alloc _).cell? ⟨w.heap.size, 0 + k, none⟩ = _
    rw [Nat.zero_add, hb.cell]
    simpa using hu⟩

set_option maxRecDepth 100000 in
set_option maxHeartbeats 2000000 in
theorem fixed_any (w : World) : Calls Tryz.prog 72 #[] w (FixPost w) := by
  go_enter Tryz.func72, Tryz.ntmps72
  go_wp2_with fail
  refine (repeatI_any _ 1 8 144 _ (Seg.one w _ _) (by omega) (by omega) (by decide)).mono ?_
  rintro e w1 ⟨R1, c1, rfl, ho1, hv1⟩
  have hu1 : Upd [] w w1 := ((Upd.refl [] w).alloc _).trans hv1
  have hi1 := Ints.ofOwn ho1
  clear ho1 hv1
  go_wp2_with fail
  refine (repeatI_any _ 1 9 112 _ (Seg.one w1 _ _) (by omega) (by omega) (by decide)).mono ?_
  rintro e w2 ⟨R2, c2, rfl, ho2, hv2⟩
  have hu2 : Upd [] w1 w2 := ((Upd.refl [] w1).alloc _).trans hv2
  have hi2 := Ints.ofOwn ho2
  clear ho2 hv2
  have hi1' := hi1.upd hu2 (by simp)
  clear hi1
  have hi1 := hi1'
  clear hi1'
  go_wp2_with fail
  refine (repeatI_any _ 1 7 24 _ (Seg.one w2 _ _) (by omega) (by omega) (by decide)).mono ?_
  rintro e w3 ⟨R3, c3, rfl, ho3, hv3⟩
  have hu3 : Upd [] w2 w3 := ((Upd.refl [] w2).alloc _).trans hv3
  have hi3 := Ints.ofOwn ho3
  clear ho3 hv3
  have hi1' := hi1.upd hu3 (by simp)
  clear hi1
  have hi1 := hi1'
  clear hi1'
  have hi2' := hi2.upd hu3 (by simp)
  clear hi2
  have hi2 := hi2'
  clear hi2'
  go_wp2_with fail
  refine (repeatI_any _ 1 8 8 _ (Seg.one w3 _ _) (by omega) (by omega) (by decide)).mono ?_
  rintro e w4 ⟨R4, c4, rfl, ho4, hv4⟩
  have hu4 : Upd [] w3 w4 := ((Upd.refl [] w3).alloc _).trans hv4
  have hi4 := Ints.ofOwn ho4
  clear ho4 hv4
  have hi1' := hi1.upd hu4 (by simp)
  clear hi1
  have hi1 := hi1'
  clear hi1'
  have hi2' := hi2.upd hu4 (by simp)
  clear hi2
  have hi2 := hi2'
  clear hi2'
  have hi3' := hi3.upd hu4 (by simp)
  clear hi3
  have hi3 := hi3'
  clear hi3'
  have hul : Upd [] w4 (w4.alloc (.cells #[.slice R1 144 c1, .slice R2 112 c2, .slice R3 24 c3, .slice R4 8 c4] 64)) := (Upd.refl [] w4).alloc _
  go_wp2_with fail
  refine (concatI_any _ 4 4 [⟨R1, 144, c1, List.replicate 144 8⟩, ⟨R2, 112, c2, List.replicate 112 9⟩, ⟨R3, 24, c3, List.replicate 24 7⟩, ⟨R4, 8, c4, List.replicate 8 8⟩] _ (seg4 w4 _ _ _ _ _) ?_ (by show 288 ≤ 10000000; omega) (by omega)).mono ?_
  · intro x hx
    simp only [List.mem_cons, List.not_mem_nil, or_false] at hx
    rcases hx with rfl | rfl | rfl | rfl
    · exact hi1.upd hul (by simp)
    · exact hi2.upd hul (by simp)
    · exact hi3.upd hul (by simp)
    · exact hi4.upd hul (by simp)
  rintro e w5 ⟨LA, lc, rfl, hL, hv5⟩
  have hu5 : Upd [] w w5 := (((hu1.trans hu2).trans hu3).trans hu4).trans (hul.trans hv5)
  have eS : sizes [⟨R1, 144, c1, List.replicate 144 8⟩, ⟨R2, 112, c2, List.replicate 112 9⟩, ⟨R3, 24, c3, List.replicate 24 7⟩, ⟨R4, 8, c4, List.replicate 8 8⟩] = 288 := rfl
  have eZ : allZ [⟨R1, 144, c1, List.replicate 144 8⟩, ⟨R2, 112, c2, List.replicate 112 9⟩, ⟨R3, 24, c3, List.replicate 24 7⟩, ⟨R4, 8, c4, List.replicate 8 8⟩] = fixedL := by
    unfold allZ fixedL
    simp only [List.flatMap_cons, List.flatMap_nil, List.append_nil, List.append_assoc]
  rw [eS, eZ] at hL
  rw [eS]
  have HL := Lib.hid (Ints.ofOwn hL)
  clear hL eS eZ hi1 hi2 hi3 hi4 hul hv5
  go_wp2_with fail
  refine (repeatI_any _ 1 5 32 _ (Seg.one w5 _ _) (by omega) (by omega) (by decide)).mono ?_
  rintro e w6 ⟨DA, dc, rfl, hD, hv6⟩
  have hu6 : Upd [] w5 w6 := ((Upd.refl [] w5).alloc _).trans hv6
  go_wp2
  go_ret2
  exact ⟨LA, lc, DA, dc, rfl, HL.out.upd hu6 (by simp), Ints.ofOwn hD, hu5.trans hu6⟩

end Go.Proofs.YtolcdlopgbgilaaGreatDoor

/-! Text HuffN. -/
namespace Go.Proofs.YtolcdlopgbgilaaGreatDoor
open Go.RowKit Go.Dray

set_option maxHeartbeats 400000 in
theorem rrow_any (w : World) (v m : Int) (h0 : 0 ≤ m) (hm : m ≤ 15) :
    Calls Tryz.prog 119 #[.int .i64 v, .int .i64 m] w (NewInts m.toNat ((rowBits v m.toNat).map b2i) w) := by
  obtain ⟨n, rfl⟩ := Int.eq_ofNat_of_zero_le h0
  rw [Int.toNat_natCast]
  go_enter Tryz.func119, Tryz.ntmps119
  go_wp2
  go_loopw [5, 6] (fun x i wr => ∃ j : Nat, j ≤ n ∧ i = .int .i64 ((n : Int) - 1 - j) ∧ ∃ X cc, x = .slice X j cc ∧ Own wr w.heap.size 3 1 X j cc ((tab j fun t => b2i (low (v / 2 ^ (n - 1 - t)))).map (Value.int .i64)) ∧ Upd [] w wr) (fun _ i _ => (intOf i + 1).toNat)
  case atStart => exact ⟨0, by omega, by go_num, none, 0, rfl, Own.nil _ _ _ _, Upd.refl _ _⟩
  case round =>
    obtain ⟨j, hj, rfl, X, cc, rfl, hown, hu⟩ := hrel
    by_cases hlt : j < n
    · have hB : w.heap.size ≤ wr.heap.size := hu.size
      have hbit : bits BinOp.and IntKind.i64 (v / 2 ^ (n - 1 - j)) 1 = b2i (low (v / 2 ^ (n - 1 - j))) := by rw [and_one_i64, b2i_low]
      go_wp2_with (at_builtin; refine wpList_app rfl rfl el_int rfl (hown.alloc _) rfl (Seg.one _ _ _) (by simp [Value.oneCell']) (by simp only [maxLen]; omega) (by omega) (by simp; omega) ?_; intro X3 c3 w3 hown3 hu3 hfr3)
      go_roundw
      case rel =>
        refine ⟨j + 1, by omega, by go_num, X3, c3, rfl, ?_, (hu.alloc _).then hu3 (fun b hb => by simp at hb; have := (hown.base hb.symm).1; right; omega)⟩
        rw [tab_succ, List.map_append]
        exact hown3
      case measure => simp [intOf]; omega
    · obtain rfl : j = n := by omega
      go_wp2
      go_ret
      refine ⟨X, cc, rfl, ?_, hu⟩
      unfold rowBits
      rw [tab_map]
      exact hown

def isHead (a b : List Bool) : Bool := decide (a <+: b)

theorem b2i_inj {a b : Bool} (h : b2i a = b2i b) : a = b := by cases a <;> cases b <;> simp_all [b2i]

/-- head reads alone. -/
def HeadPost (a b : List Bool) (w : World) (e : Ending) (w' : World) : Prop := e = .returned (.bool (isHead a b)) ∧ ∃ q, w' = w.drewN q

theorem head_no {a b : List Bool} {k : Nat} {x y : Int} (ha : (a.map b2i)[k]? = some x) (hb : (b.map b2i)[k]? = some y) (h : x ≠ y) : isHead a b = false := by
  have : ¬ a <+: b := by
    rintro ⟨t, rfl⟩
    have hk : k < a.length := by have := (List.getElem?_eq_some_iff.1 ha).1; simpa using this
    rw [List.map_append, List.getElem?_append_left (by simpa using hk), ha] at hb
    injection hb with hb
    exact h hb
  simp [isHead, this]

theorem head_yes {a b : List Bool} (hl : a.length ≤ b.length) (h : ∀ i, i < a.length → (a.map b2i)[i]? = (b.map b2i)[i]?) : isHead a b = true := by
  have : a <+: b := by
    refine ⟨b.drop a.length, ?_⟩
    have e : a = b.take a.length := by
      apply List.ext_getElem (by rw [List.length_take]; omega)
      intro i h1 h2
      have h3 := h i h1
      rw [List.getElem?_map, List.getElem?_map, List.getElem?_eq_getElem h1, List.getElem?_eq_getElem (by omega)] at h3
      simp at h3
      rw [List.getElem_take]
      exact b2i_inj h3
    rw [e, List.length_take, Nat.min_eq_left hl, List.take_append_drop]
  simp [isHead, this]

set_option maxHeartbeats 400000 in
theorem rhead_any (A B : Option Addr) (n m c d : Nat) (a b : List Bool) (w : World) (ha : Ints .i64 w A n (a.map b2i)) (hb : Ints .i64 w B m (b.map b2i)) (hn : n ≤ 1000000000) :
    Calls Tryz.prog 120 #[.slice A n c, .slice B m d] w (HeadPost a b w) := by
  have HA : Hid (a.length = n) := by have := ha.len.out; rw [List.length_map] at this; exact this
  have HB : Hid (b.length = m) := by have := hb.len.out; rw [List.length_map] at this; exact this
  by_cases hlen : m < n
  · have HE : Hid (isHead a b = false) := by
      have : ¬ a <+: b := fun h => by have := h.length_le; rw [HA.out, HB.out] at this; omega
      simp [Hid, isHead, this]
    go_enter Tryz.func120, Tryz.ntmps120
    go_wp2
    go_ret
    exact ⟨by rw [HE.out]; rfl, 0, rfl⟩
  · have hlen2 : n ≤ m := by omega
    go_enter Tryz.func120, Tryz.ntmps120
    go_wp2
    go_loopw [5] (fun i wr => ∃ k : Nat, k ≤ n ∧ i = .int .i64 k ∧ Hid (∀ i, i < k → (a.map b2i)[i]? = (b.map b2i)[i]?) ∧ ∃ q, wr = w.drewN q) (fun i _ => n - (intOf i).toNat)
    case atStart => exact ⟨0, by omega, rfl, fun i h => by omega, 0, rfl⟩
    case round =>
      obtain ⟨k, hk, rfl, HI, q, rfl⟩ := hrel
      by_cases hlt : k < n
      · obtain ⟨x, HX, cx⟩ := ha.int hlt
        obtain ⟨y, HY, cy⟩ := hb.int (show k < m by omega)
        have ix := ha.index el_int c .i64 k hlt
        have iy := hb.index el_int d .i64 k (by omega)
        clear ha hb
        by_cases hxy : x = y
        · subst hxy
          go_wp2
          go_quiet (fail)
          go_wp2
          go_roundw
          case rel =>
            refine ⟨k + 1, by omega, by go_num, fun i hi => ?_, _, rfl⟩
            by_cases e : i = k
            · subst e; rw [HX.out, HY.out]
            · exact HI.out i (by omega)
          case measure => simp [intOf]; omega
        · have hne : (x != y) = true := by simp [hxy]
          have HNE := Lib.hid hxy
          clear hxy
          go_wp2
          go_quiet (fail)
          go_wp2
          go_ret
          exact ⟨by rw [head_no HX.out HY.out HNE.out]; rfl, _, World.drewN_drewN _ _ _⟩
      · obtain rfl : k = n := by omega
        go_wp2
        go_ret
        refine ⟨by rw [head_yes (by rw [HA.out, HB.out]; omega) (by rw [HA.out]; exact HI.out)]; rfl, q, rfl⟩

end Go.Proofs.YtolcdlopgbgilaaGreatDoor

/-! Text Kraft. -/
namespace Go.Proofs.YtolcdlopgbgilaaGreatDoor
open Go.RowKit Go.Dray

theorem emod_twice (v a : Int) (ha : 0 < a) : v % (a * 2) = v % a + a * (v / a % 2) := by
  have h1 : a * (v / a) + v % a = v := Int.mul_ediv_add_emod v a
  have h2 : 2 * (v / a / 2) + v / a % 2 = v / a := Int.mul_ediv_add_emod (v / a) 2
  have hr0 := Int.emod_nonneg v (show a ≠ 0 by omega)
  have hr1 := Int.emod_lt_of_pos v ha
  have e : v = (v % a + a * (v / a % 2)) + (a * 2) * (v / a / 2) := by
    rw [Int.mul_assoc, Int.add_assoc, ← Int.mul_add, Int.add_comm (v / a % 2), h2]
    omega
  rw [e, Int.add_mul_emod_self_left, ← e]
  refine Int.emod_eq_of_lt ?_ ?_
  · rcases (show v / a % 2 = 0 ∨ v / a % 2 = 1 by omega) with h | h <;> rw [h] <;> omega
  · rcases (show v / a % 2 = 0 ∨ v / a % 2 = 1 by omega) with h | h <;> rw [h] <;> omega

theorem digits_num (v : Int) (n : Nat) : num (digits v n) = v % 2 ^ n := by
  induction n with
  | zero => simp [digits, tab, num, Int.emod_one]
  | succ n ih =>
    have hl : (digits v n).length = n := tab_len _ _
    have e : digits v (n + 1) = digits v n ++ [low (v / 2 ^ n)] := tab_succ n _
    rw [e, num_snoc, ih, hl, b2i_low, Int.pow_succ]
    have h1 : v % (2 ^ n * 2) = v % 2 ^ n + 2 ^ n * (v / 2 ^ n % 2) := emod_twice v (2 ^ n) (Int.pow_pos (by decide))
    rw [h1, Int.mul_comm (v / 2 ^ n % 2)]

theorem rowBits_rev (v : Int) (n : Nat) : (rowBits v n).reverse = digits v n := by
  unfold rowBits digits tab
  rw [← List.map_reverse]
  apply List.ext_getElem (by simp)
  intro i h1 h2
  simp at h1 h2
  simp only [List.getElem_map, List.getElem_reverse, List.getElem_range, List.length_range]
  congr 3
  omega

theorem rowBits_num (v : Int) (n : Nat) (h0 : 0 ≤ v) (h : v < 2 ^ n) : num (rowBits v n).reverse = v := by
  rw [rowBits_rev, digits_num, Int.emod_eq_of_lt h0 h]

/-- The first bits of a row are a row of a smaller number. -/
theorem rowBits_take (v : Int) (n m : Nat) (h : m ≤ n) : (rowBits v n).take m = rowBits (v / 2 ^ (n - m)) m := by
  apply List.ext_getElem (by simp [rowBits, tab_len]; omega)
  intro i h1 h2
  have hi : i < m := by simp [rowBits, tab_len] at h2; exact h2
  rw [List.getElem_take]
  simp only [rowBits, tab, List.getElem_map, List.getElem_range]
  rw [Int.ediv_ediv_of_nonneg (Int.pow_nonneg (by decide)), ← Int.pow_add]
  congr 3
  omega

theorem cnt_mono (zs : List Int) (n : Int) {i j : Nat} (h : i ≤ j) : cnt zs n i ≤ cnt zs n j := by
  unfold cnt
  have : zs.take i = (zs.take j).take i := by rw [List.take_take, Nat.min_eq_left h]
  rw [this]
  exact (List.take_sublist i (zs.take j)).countP_le

/-- The share of the rows of length at most n. -/
def share (zs : List Int) (n : Nat) : Int := (zs.map fun z : Int => if 0 < z ∧ z ≤ (n : Int) then wt z else 0).sum

theorem share_le {zs : List Int} (hb : ∀ z ∈ zs, 0 ≤ z ∧ z ≤ 15) (n : Nat) : share zs n ≤ wsum zs := by
  unfold share wsum
  induction zs with
  | nil => simp
  | cons z zs ih =>
    have h1 := wt_bd z (hb z (by simp)).1
    have h2 := ih fun y hy => hb y (by simp [hy])
    simp only [List.map_cons, List.sum_cons]
    split <;> omega

theorem share_succ (zs : List Int) (n : Nat) (hn : n + 1 ≤ 15) : share zs (n + 1) = share zs n + cnt zs (n + 1 : Nat) zs.length * 2 ^ (15 - (n + 1)) := by
  have hc : cnt zs (n + 1 : Nat) zs.length = zs.countP (· == ((n + 1 : Nat) : Int)) := by unfold cnt; rw [List.take_length]
  rw [hc]
  unfold share
  clear hc
  induction zs with
  | nil => simp
  | cons z zs ih =>
    simp only [List.map_cons, List.sum_cons, List.countP_cons, ih]
    by_cases h : z = ((n + 1 : Nat) : Int)
    · have e : wt z = 2 ^ (15 - (n + 1)) := by
        rw [wt_pos z (by omega), h]
        congr 1
        omega
      have hz : (z == ((n + 1 : Nat) : Int)) = true := by simp [h]
      rw [if_pos (by omega), if_neg (by omega), e, hz]
      simp only [if_true]
      generalize List.countP (fun x => x == ((n + 1 : Nat) : Int)) zs = q
      rw [show ((q + 1 : Nat) : Int) = (q : Int) + 1 from by omega, Int.add_mul, Int.one_mul]
      omega
    · have hz : (z == ((n + 1 : Nat) : Int)) = false := by simp; omega
      rw [hz]
      by_cases h2 : 0 < z ∧ z ≤ (n : Int)
      · rw [if_pos (by omega), if_pos h2]; simp; omega
      · rw [if_neg (by omega), if_neg h2]; simp

theorem rowAt_share (zs : List Int) (n : Nat) (hn : n ≤ 15) : rowAt zs n * 2 ^ (15 - n) = share zs n := by
  induction n with
  | zero =>
    have : share zs 0 = 0 := by
      unfold share
      induction zs with
      | nil => simp
      | cons z zs ih => simp only [List.map_cons, List.sum_cons, ih]; rw [if_neg (by omega)]; rfl
    rw [this]
    simp [rowAt]
  | succ n ih =>
    rw [share_succ zs n hn, ← ih (by omega), rowAt, Int.add_mul]
    have e : (2 : Int) ^ (15 - n) = 2 * 2 ^ (15 - (n + 1)) := by
      rw [show 15 - n = (15 - (n + 1)) + 1 from by omega, Int.pow_succ, Int.mul_comm]
    rw [e, ← Int.mul_assoc, Int.mul_comm 2 (rowAt zs n)]

theorem rowAt_le {zs : List Int} (h : chk zs = 0) (n : Nat) (hn : n ≤ 15) : rowAt zs n ≤ 2 ^ n := by
  obtain ⟨_, hb, hw⟩ := chk_zero h
  have h1 := rowAt_share zs n hn
  have h2 := share_le hb n
  have hp : (0 : Int) < 2 ^ (15 - n) := Int.pow_pos (by decide)
  have e : (2 : Int) ^ n * 2 ^ (15 - n) = 32768 := by rw [← Int.pow_add, show n + (15 - n) = 15 from by omega]; rfl
  rcases Int.lt_or_le (2 ^ n) (rowAt zs n) with h3 | h3
  · have := Int.mul_lt_mul_of_pos_right h3 hp
    omega
  · exact h3

theorem rowAt_nonneg (zs : List Int) (n : Nat) : 0 ≤ rowAt zs n := by
  induction n with
  | zero => simp [rowAt]
  | succ n ih => rw [rowAt]; omega
theorem rowAt_grow (zs : List Int) (n m : Nat) : rowAt zs n * 2 ^ m ≤ rowAt zs (n + m) := by
  induction m with
  | zero => simp
  | succ m ih =>
    rw [Int.pow_succ, ← Int.mul_assoc, show n + (m + 1) = (n + m) + 1 from by omega, rowAt]
    omega

theorem getD_mem {zs : List Int} {t : Nat} (ht : t < zs.length) : zs[t]? = some (zs.getD t 0) := by
  rw [List.getElem?_eq_getElem ht]
  simp [List.getD, ht]

theorem codeOf_lt {zs : List Int} {t : Nat} (ht : t < zs.length) {l : Nat} (hl : zs.getD t 0 = l) (hp : 0 < l) : 0 ≤ codeOf zs t ∧ codeOf zs t < rowAt zs l := by
  have h0 := rowAt_nonneg zs (l - 1)
  have hc := cnt_succ (getD_mem ht) (zs.getD t 0)
  rw [if_pos rfl] at hc
  have hm := cnt_mono zs (zs.getD t 0) (show t + 1 ≤ zs.length by omega)
  unfold codeOf
  rw [if_neg (by omega), hl, Int.toNat_natCast]
  rw [hl] at hc hm
  have e : rowAt zs l = 2 * rowAt zs (l - 1) + cnt zs l zs.length := by
    match l, hp with
    | l + 1, _ => rw [rowAt]; rfl
  omega

/-- A row that begins with another one is that one. -/
theorem rowOf_apart {zs : List Int} (h : chk zs = 0) {s t : Nat} (hs : s < zs.length) (ht : t < zs.length) (ps : 0 < zs.getD s 0) (pt : 0 < zs.getD t 0) (hpre : rowOf zs t <+: rowOf zs s) : t = s := by
  obtain ⟨_, hb, _⟩ := chk_zero h
  have bs := hb _ (List.mem_of_getElem? (getD_mem hs))
  have bt := hb _ (List.mem_of_getElem? (getD_mem ht))
  obtain ⟨ls, els⟩ := Int.eq_ofNat_of_zero_le bs.1
  obtain ⟨lt, elt⟩ := Int.eq_ofNat_of_zero_le bt.1
  have cs := codeOf_lt hs els (by omega)
  have ct := codeOf_lt ht elt (by omega)
  have rs := rowAt_le h ls (by omega)
  have rt := rowAt_le h lt (by omega)
  have hlen := hpre.length_le
  rw [rowOf_len, rowOf_len, els, elt, Int.toNat_natCast, Int.toNat_natCast] at hlen
  have e1 : rowOf zs t = (rowOf zs s).take lt := by
    have h1 := List.prefix_iff_eq_take.1 hpre
    rw [rowOf_len, elt, Int.toNat_natCast] at h1
    exact h1
  unfold rowOf at e1
  rw [els, elt, Int.toNat_natCast, Int.toNat_natCast, rowBits_take _ _ _ hlen] at e1
  have hp : (0 : Int) < 2 ^ (ls - lt) := Int.pow_pos (by decide)
  have hq0 : 0 ≤ codeOf zs s / 2 ^ (ls - lt) := Int.ediv_nonneg cs.1 (by omega)
  have hq1 : codeOf zs s / 2 ^ (ls - lt) < 2 ^ lt := by
    apply Int.ediv_lt_of_lt_mul hp
    rw [← Int.pow_add, show lt + (ls - lt) = ls from by omega]
    omega
  have e2 : codeOf zs t = codeOf zs s / 2 ^ (ls - lt) := by
    have a := rowBits_num (codeOf zs t) lt ct.1 (by omega)
    have b := rowBits_num (codeOf zs s / 2 ^ (ls - lt)) lt hq0 hq1
    rw [e1, b] at a
    exact a.symm
  rcases Nat.lt_or_ge lt ls with hlt | hge
  · have h3 : rowAt zs lt * 2 ^ (ls - lt) ≤ codeOf zs s := by
      have h4 := rowAt_grow zs lt (ls - 1 - lt)
      rw [show lt + (ls - 1 - lt) = ls - 1 from by omega] at h4
      have e3 : (2 : Int) ^ (ls - lt) = 2 ^ (ls - 1 - lt) * 2 := by rw [show ls - lt = (ls - 1 - lt) + 1 from by omega, Int.pow_succ]
      unfold codeOf
      rw [if_neg (by omega), els, Int.toNat_natCast, e3, ← Int.mul_assoc]
      omega
    have h5 : rowAt zs lt ≤ codeOf zs s / 2 ^ (ls - lt) := (Int.le_ediv_iff_mul_le hp).2 h3
    omega
  · obtain rfl : ls = lt := by omega
    rw [Nat.sub_self, Int.pow_zero, Int.ediv_one] at e2
    rcases Nat.lt_trichotomy s t with hst | hst | hst
    · have hm := cnt_mono zs (ls : Int) (show s + 1 ≤ t by omega)
      have hc := cnt_succ (getD_mem hs) (ls : Int)
      rw [els, if_pos rfl] at hc
      unfold codeOf at e2
      rw [els, elt, if_neg (by omega)] at e2
      omega
    · exact hst.symm
    · have hm := cnt_mono zs (ls : Int) (show t + 1 ≤ s by omega)
      have hc := cnt_succ (getD_mem ht) (ls : Int)
      rw [elt, if_pos rfl] at hc
      unfold codeOf at e2
      rw [els, elt, if_neg (by omega)] at e2
      omega

theorem leafF_none {zs : List Int} {s : Nat} {q : List Bool} : leafF zs s q = none ↔ ∀ t, t < s → 0 < zs.getD t 0 → rowOf zs t ≠ q := by
  induction s with
  | zero => simp [leafF]
  | succ s ih =>
    rw [leafF]
    constructor
    · intro h t ht hp he
      split at h
      · cases h
      · rename_i hc
        by_cases e : t = s
        · subst e; exact hc ⟨hp, he⟩
        · exact ih.1 h t (by omega) hp he
    · intro h
      rw [if_neg (fun hc => h s (by omega) hc.1 hc.2)]
      exact ih.2 fun t ht => h t (by omega)

theorem leafF_row {zs : List Int} (h : chk zs = 0) {t : Nat} (ht : t < zs.length) (hp : 0 < zs.getD t 0) : leafF zs zs.length (rowOf zs t) = some t := by
  cases hF : leafF zs zs.length (rowOf zs t) with
  | none => exact absurd rfl (leafF_none.1 hF t ht hp)
  | some u =>
    obtain ⟨h1, h2, h3⟩ := leafF_in hF
    rw [rowOf_apart h ht h1 hp h2 (by rw [h3]; exact List.prefix_refl _)]

end Go.Proofs.YtolcdlopgbgilaaGreatDoor

/-! Text HuffM. -/
namespace Go.Proofs.YtolcdlopgbgilaaGreatDoor
open Go.RowKit Go.Dray

/-- Is a path the beginning of a row of a symbol below s? -/
def beg (zs : List Int) (q : List Bool) (s : Nat) : Bool := (List.range s).any fun t => decide (0 < zs.getD t 0) && isHead q (rowOf zs t)
theorem beg_succ (zs : List Int) (q : List Bool) (s : Nat) : beg zs q (s + 1) = (beg zs q s || (decide (0 < zs.getD s 0) && isHead q (rowOf zs s))) := by
  unfold beg
  rw [List.range_succ, List.any_append]
  simp
theorem beg_iff (zs : List Int) (q : List Bool) (s : Nat) (hq : q ≠ []) : beg zs q s = true ↔ inT zs s q := by
  unfold beg inT
  rw [List.any_eq_true]
  constructor
  · rintro ⟨t, ht, h⟩
    simp [isHead] at ht h
    exact Or.inr ⟨t, ht, h.1, h.2⟩
  · rintro (h | ⟨t, h1, h2, h3⟩)
    · exact absurd h hq
    · refine ⟨t, by simpa using h1, ?_⟩
      rw [Bool.and_eq_true]
      exact ⟨decide_eq_true h2, decide_eq_true h3⟩

/-- At fifteen bits nothing goes on. -/
theorem no_16 {zs : List Int} (h : chk zs = 0) {bs : List Bool} (hl : 15 ≤ bs.length) : ¬ goesOn zs bs 15 := by
  rintro ⟨h1, h2⟩
  have hlen : (bs.take 15).length = 15 := by rw [List.length_take]; omega
  rcases h1 with h1 | ⟨t, ht, hp, hpre⟩
  · rw [h1] at hlen; simp at hlen
  · have hb := (chk_zero h).2.1 _ (List.mem_of_getElem? (getD_mem ht))
    have hle := hpre.length_le
    rw [hlen, rowOf_len] at hle
    have e := hpre.eq_of_length (by rw [hlen, rowOf_len]; omega)
    exact leafF_none.1 h2 t ht hp e.symm

/-- What the reference's Next hands back. -/
def RNextPost (zs : List Int) (bs : List Bool) (X : Option Addr) (w : World) (e : Ending) (w' : World) : Prop :=
  ∃ k sym err R rc, e = .returned (.agg #[.int .i64 sym, .slice R (bs.length - k) rc, .int .i64 err]) ∧ NextIs zs bs k sym err ∧ Ints .i64 w' R (bs.length - k) ((bs.drop k).map b2i) ∧ bs.length - k ≤ rc ∧ (0 < bs.length - k → bl R = bl X) ∧ Upd [] w w'

set_option maxRecDepth 100000 in
set_option maxHeartbeats 2000000 in
theorem rnext_any (A C X : Option Addr) (n m c d xc : Nat) (zs : List Int) (bs : List Bool) (w : World) (hz : Ints .i64 w A n zs) (hc : Ints .i64 w C n (tab n (codeOf zs))) (hx : Ints .i64 w X m (bs.map b2i)) (hmx : m ≤ xc) (hm : m ≤ 1000000000) (hk : chk zs = 0) :
    Calls Tryz.prog 103 #[.slice A n c, .slice C n d, .slice X m xc] w (RNextPost zs bs X w) := by
  have HM : Hid (bs.length = m) := by have := hx.len.out; rw [List.length_map] at this; exact this
  have HN := hz.len
  obtain ⟨hl, hb, -⟩ := chk_zero hk
  have hn : n ≤ 320 := by rw [← HN.out]; exact hl
  have HB := Lib.hid hb
  have HK := Lib.hid hk
  clear hb hl hk
  go_enter Tryz.func103, Tryz.ntmps103
  go_wp2
  obtain ⟨w0, hw0⟩ : ∃ w0 : World, w0 = w.alloc (.cells #[.int .i64 0, .slice none 0 0, .int .i64 0] 156) := ⟨_, rfl⟩
  obtain ⟨g, hg⟩ : ∃ g, g = w.heap.size := ⟨_, rfl⟩
  rw [← hw0, ← hg]
  have hb0 : Blk w0 g 156 #[.int .i64 0, .slice none 0 0, .int .i64 0] := by rw [hw0, hg]; exact Blk.new _ _ _
  have hu0 : Upd [] w w0 := by rw [hw0]; exact (Upd.refl _ _).alloc _
  have hgw : w.heap.size ≤ g := by omega
  have HG := Lib.hid hg
  clear hw0 hg
  go_loopw [7] (fun v wr => ∃ nn : Nat, 1 ≤ nn ∧ nn ≤ 16 ∧ nn ≤ m + 1 ∧ v = .int .i64 nn ∧ Hid (∀ j, 1 ≤ j → j < nn → goesOn zs bs j) ∧ Blk wr g 156 #[.int .i64 0, .slice none 0 0, .int .i64 0] ∧ Upd [] w wr) (fun v _ => 16 - (intOf v).toNat)
  case atStart => exact ⟨1, by omega, by omega, by omega, rfl, fun j h1 h2 => by omega, hb0, hu0⟩
  case round =>
    obtain ⟨nn, h1, h16, hnm, rfl, HGO, hbr, hur⟩ := hrel
    clear hb0 hu0
    by_cases h15 : nn ≤ 15
    · by_cases hshort : m < nn
      · have hf0 := hbr.frozen 0
        have hf1 := hbr.frozen 1
        have hf2 := hbr.frozen 2
        have hc0 := hbr.cell 0
        have hc1 := hbr.cell 1
        have hc2 := hbr.cell 2
        simp at hc0 hc1 hc2
        go_wp2
        obtain ⟨w9, hw9⟩ : ∃ w9 : World, w9 = (((wr).setCell ⟨g, 0, none⟩ (.int .i64 0)).setCell ⟨g, 1, none⟩ (.slice none 0 0)).setCell ⟨g, 2, none⟩ (.int .i64 2) := ⟨_, rfl⟩
        rw [← hw9]
        have hb9 : Blk w9 g 156 #[.int .i64 0, .slice none 0 0, .int .i64 2] := by rw [hw9]; exact ((hbr.set 0 _).set 1 _).set 2 _
        have hu9 : Upd [] w w9 := by rw [hw9]; exact ((hur.put hgw _).put hgw _).put hgw _
        have q0 := hb9.cell 0
        have q1 := hb9.cell 1
        have q2 := hb9.cell 2
        simp at q0 q1 q2
        refine bodyPost_ret (v := .agg #[.int .i64 0, .slice none 0 0, .int .i64 2]) (by simp [results, Tryz.results103, go_sem, q0, q1, q2]) rfl ?_
        refine ⟨m, 0, 2, none, 0, ?_, ⟨by rw [HM.out]; omega, fun j h1 h2 => HGO.out j h1 (by omega), Or.inl ⟨rfl, rfl, HM.out.symm, fun h => HGO.out m h (by omega)⟩⟩, ?_, by rw [HM.out]; omega, fun h => by rw [HM.out] at h; omega, hu9⟩
        · rw [HM.out, Nat.sub_self]
        · rw [HM.out, Nat.sub_self, List.drop_of_length_le (by rw [HM.out]; omega)]
          exact Seg.nil _ _ _
      · have hle : nn ≤ m := by omega
        have d15 : decide ((nn : Int) ≤ 15) = true := by simp; omega
        have dsh : decide (m < nn) = false := by simp; omega
        go_wp2
        obtain ⟨wo, rfl⟩ : ∃ wo : World, wo = wr := ⟨_, rfl⟩
        go_loopw [8, 9] (fun b v wr => ∃ s : Nat, s ≤ n ∧ v = .int .i64 s ∧ b = .bool (beg zs (bs.take nn) s) ∧ Hid (∀ t, t < s → 0 < zs.getD t 0 → rowOf zs t ≠ bs.take nn) ∧ Blk wr g 156 #[.int .i64 0, .slice none 0 0, .int .i64 0] ∧ Upd [] w wr) (fun _ v _ => n - (intOf v).toNat)
        case atStart => exact ⟨0, by omega, rfl, rfl, fun t h => by omega, hbr, hur⟩
        case round =>
          clear hbr hur
          obtain ⟨s, hsn, rfl, rfl, HNO, hbr, hur⟩ := hrel
          have hzr : Ints .i64 wr A n zs := hz.upd hur (by simp)
          have hcr : Ints .i64 wr C n (tab n (codeOf zs)) := hc.upd hur (by simp)
          have hxr : Ints .i64 wr X m (bs.map b2i) := hx.upd hur (by simp)
          by_cases hlt : s < n
          · obtain ⟨z, HX, zcell⟩ := hzr.int hlt
            have zix := hzr.index el_int c .i64 s hlt
            obtain ⟨hz0, hz15⟩ := HB.out z (List.mem_of_getElem? HX.out)
            obtain ⟨ln, rfl⟩ := Int.eq_ofNat_of_zero_le hz0
            have HZ : Hid (zs.getD s 0 = ln) := getD_of HX.out
            by_cases hl0 : ln = 0
            · have hzz : ((ln : Int) == 0) = true := by simp [hl0]
              have HL0 := Lib.hid hl0
              clear hl0
              go_wp2
              go_roundw
              case rel =>
                refine ⟨s + 1, by omega, by go_num, ?_, fun t ht hp => ?_, hbr, hur⟩
                · rw [beg_succ, HZ.out, HL0.out]; simp
                · by_cases e : t = s
                  · subst e; rw [HZ.out, HL0.out] at hp; simp at hp
                  · exact HNO.out t (by omega) hp
              case measure => simp [intOf]; omega
            · have hzz : ((ln : Int) == 0) = false := by simp [hl0]
              have hlp : 0 < ln := by omega
              clear hl0
              obtain ⟨cv, HCV, ccell⟩ := hcr.int hlt
              have cix := hcr.index el_int d .i64 s hlt
              have HCE : Hid (cv = codeOf zs s) := by
                have := HCV.out
                rw [tab_get _ hlt] at this
                injection this with this
                exact this.symm
              go_wp2
              go_still_tail 8, (by kernel_rfl)
              change wpList _ _ _ _ _ wr.drew
              obtain ⟨w2, hw2⟩ : ∃ w2 : World, w2 = wr.drew := ⟨_, rfl⟩
              rw [← hw2]
              have hb2 : Blk w2 g 156 #[.int .i64 0, .slice none 0 0, .int .i64 0] := by rw [hw2]; exact hbr.drew
              have hu2 : Upd [] w w2 := by rw [hw2]; exact hur.drew
              have zc2 : w2.cell? ⟨bl A, ofs A + s, none⟩ = some (.int .i64 ln) := by rw [hw2]; exact zcell
              have cc2 : w2.cell? ⟨bl C, ofs C + s, none⟩ = some (.int .i64 cv) := by rw [hw2]; exact ccell
              clear hw2 hbr hur zcell ccell hzr hcr hxr
              go_wp2_with fail
              refine (rrow_any w2 cv ln (by omega) (by omega)).mono ?_
              rintro e w3 ⟨Y, yc, rfl, hy3, hv⟩
              rw [Int.toNat_natCast] at hy3 ⊢
              have hrow : rowBits cv ln = rowOf zs s := by rw [HCE.out]; unfold rowOf; rw [HZ.out]; rfl
              rw [hrow] at hy3
              have hu3 := hu2.then hv (by simp)
              have hb3 := hb2.upd hv (by simp)
              have hy : Ints .i64 w3 Y ln ((rowOf zs s).map b2i) := Ints.ofOwn hy3
              have zc3 := hv.cell zc2 (by simp)
              have hx3 : Ints .i64 w3 X m (bs.map b2i) := hx.upd hu3 (by simp)
              clear hv hu2 hb2 zc2 cc2 hrow hy3 cix
              by_cases heq : ln = nn
              · have hq : ((ln : Int) == (nn : Int)) = true := by simp [heq]
                have HEQ := Lib.hid heq
                clear heq
                go_wp2_with fail
                refine (rhead_any Y X ln m yc xc (rowOf zs s) bs w3 hy hx3 (by omega)).mono ?_
                rintro e w4 ⟨rfl, q4, rfl⟩
                cases hh : isHead (rowOf zs s) bs with
                | true =>
                  have hrow : rowOf zs s = bs.take nn := by
                    have h2 : rowOf zs s <+: bs := of_decide_eq_true hh
                    have h3 := List.prefix_iff_eq_take.1 h2
                    rw [rowOf_len, HZ.out, Int.toNat_natCast, HEQ.out] at h3
                    exact h3
                  have hleaf : leafF zs zs.length (bs.take nn) = some s := by
                    rw [← hrow]
                    exact leafF_row HK.out (by rw [HN.out]; exact hlt) (by rw [HZ.out]; omega)
                  have hcut := run_cut_l el_int X m xc .i64 (nn : Int) nn rfl hle
                  have HLEAF := Lib.hid hleaf
                  clear hrow hleaf
                  have hb4 := hb3.drewN q4
                  have hu4 := hu3.drewN q4
                  obtain ⟨w4, hw4⟩ : ∃ w4 : World, w4 = w3.drewN q4 := ⟨_, rfl⟩
                  rw [← hw4] at hb4 hu4 ⊢
                  clear hw4 hb3 hu3 hx3 hy zc3
                  have hf0 := hb4.frozen 0
                  have hf1 := hb4.frozen 1
                  have hf2 := hb4.frozen 2
                  have hc0 := hb4.cell 0
                  have hc1 := hb4.cell 1
                  have hc2 := hb4.cell 2
                  simp at hc0 hc1 hc2
                  go_wp2
                  obtain ⟨w9, hw9⟩ : ∃ w9 : World, w9 = (((w4).setCell ⟨g, 0, none⟩ (.int .i64 s)).setCell ⟨g, 1, none⟩ (.slice (cutA 1 X xc nn) (m - nn) (xc - nn))).setCell ⟨g, 2, none⟩ (.int .i64 0) := ⟨_, rfl⟩
                  rw [← hw9]
                  have hb9 : Blk w9 g 156 #[.int .i64 s, .slice (cutA 1 X xc nn) (m - nn) (xc - nn), .int .i64 0] := by rw [hw9]; exact ((hb4.set 0 _).set 1 _).set 2 _
                  have hu9 : Upd [] w w9 := by rw [hw9]; exact ((hu4.put hgw _).put hgw _).put hgw _
                  have q0 := hb9.cell 0
                  have q1 := hb9.cell 1
                  have q2 := hb9.cell 2
                  simp at q0 q1 q2
                  refine bodyPost_ret (v := .agg #[.int .i64 s, .slice (cutA 1 X xc nn) (m - nn) (xc - nn), .int .i64 0]) (by simp [results, Tryz.results103, go_sem, q0, q1, q2]) rfl ?_
                  have hx9 : Ints .i64 w9 X m (bs.map b2i) := hx.upd hu9 (by simp)
                  have hct := hx9.cut (lo := nn) (hi := m) (c := xc) hle (Nat.le_refl _) hmx
                  rw [← List.map_drop, ← List.map_take, List.take_of_length_le (by rw [List.length_drop, HM.out]; omega)] at hct
                  exact ⟨nn, s, 0, cutA 1 X xc nn, xc - nn, by rw [HM.out], ⟨by rw [HM.out]; exact hle, HGO.out, Or.inr (Or.inr ⟨rfl, h1, s, rfl, HLEAF.out⟩)⟩, by rw [HM.out]; exact hct, by rw [HM.out]; omega, fun _ => bl_cut _ _ _ _, hu9⟩
                | false =>
                  have HNE : Hid (rowOf zs s ≠ bs.take nn) := fun e => by
                    have : isHead (rowOf zs s) bs = true := decide_eq_true (by rw [e]; exact List.take_prefix _ _)
                    rw [this] at hh
                    cases hh
                  have hx4 := hx3.drewN q4
                  have hy4 := hy.drewN q4
                  cases hbeg : beg zs (bs.take nn) s with
                  | true =>
                    go_wp2
                    go_roundw
                    case rel =>
                      refine ⟨s + 1, by omega, by go_num, by rw [beg_succ, hbeg]; rfl, fun t ht hp => ?_, hb3.drewN _, hu3.drewN _⟩
                      by_cases e : t = s
                      · subst e; exact HNE.out
                      · exact HNO.out t (by omega) hp
                    case measure => simp [intOf]; omega
                  | false =>
                    have hcut := run_cut_h el_int X m xc .i64 (nn : Int) nn rfl (by omega)
                    have hpre := (hx4).pre hle
                    rw [← List.map_take] at hpre
                    go_wp2_with fail
                    refine (rhead_any X Y nn ln xc yc (bs.take nn) (rowOf zs s) _ hpre hy4 (by omega)).mono ?_
                    rintro e w5 ⟨rfl, q5, rfl⟩
                    have HBEG := Lib.hid hbeg
                    clear hbeg hcut
                    go_wp2
                    go_roundw
                    case rel =>
                      refine ⟨s + 1, by omega, by go_num, ?_, fun t ht hp => ?_, hb3.drewN _, hu3.drewN _⟩
                      · rw [beg_succ, HBEG.out, HZ.out, show decide (0 < (ln : Int)) = true from by simp; omega]; rfl
                      · by_cases e : t = s
                        · subst e; exact HNE.out
                        · exact HNO.out t (by omega) hp
                    case measure => simp [intOf]; omega
              · have hq : ((ln : Int) == (nn : Int)) = false := by simp; omega
                have HNE : Hid (rowOf zs s ≠ bs.take nn) := fun e => by
                  have h2 := congrArg List.length e
                  rw [rowOf_len, HZ.out, List.length_take, HM.out, Int.toNat_natCast] at h2
                  omega
                clear heq
                cases hbeg : beg zs (bs.take nn) s with
                | true =>
                  go_wp2
                  go_roundw
                  case rel =>
                    refine ⟨s + 1, by omega, by go_num, by rw [beg_succ, hbeg]; rfl, fun t ht hp => ?_, hb3, hu3⟩
                    by_cases e : t = s
                    · subst e; exact HNE.out
                    · exact HNO.out t (by omega) hp
                  case measure => simp [intOf]; omega
                | false =>
                  have hcut := run_cut_h el_int X m xc .i64 (nn : Int) nn rfl (by omega)
                  have hpre := (hx3).pre hle
                  rw [← List.map_take] at hpre
                  go_wp2_with fail
                  refine (rhead_any X Y nn ln xc yc (bs.take nn) (rowOf zs s) _ hpre hy (by omega)).mono ?_
                  rintro e w5 ⟨rfl, q5, rfl⟩
                  have HBEG := Lib.hid hbeg
                  clear hbeg hcut
                  go_wp2
                  go_roundw
                  case rel =>
                    refine ⟨s + 1, by omega, by go_num, ?_, fun t ht hp => ?_, (hb3).drewN _, (hu3).drewN _⟩
                    · rw [beg_succ, HBEG.out, HZ.out, show decide (0 < (ln : Int)) = true from by simp; omega]; rfl
                    · by_cases e : t = s
                      · subst e; exact HNE.out
                      · exact HNO.out t (by omega) hp
                  case measure => simp [intOf]; omega
          · obtain rfl : s = n := by omega
            have hqne : bs.take nn ≠ [] := fun e => by
              have h2 := congrArg List.length e
              rw [List.length_take, HM.out] at h2
              simp at h2
              omega
            have HIFF := beg_iff zs (bs.take nn) s hqne
            rw [show inT zs s (bs.take nn) = inT zs zs.length (bs.take nn) from by rw [HN.out]] at HIFF
            have HI := Lib.hid HIFF
            clear HIFF hqne hzr hcr hxr
            cases hbeg : beg zs (bs.take nn) s with
            | true =>
              have HT : Hid (inT zs zs.length (bs.take nn)) := HI.out.1 hbeg
              go_wp2
              go_roundw
              case rel =>
                refine ⟨nn + 1, by omega, by omega, by omega, by go_num, fun j hj1 hj2 => ?_, hbr, hur⟩
                by_cases e : j = nn
                · subst e; exact ⟨HT.out, leafF_none.2 (by rw [HN.out]; exact HNO.out)⟩
                · exact HGO.out j hj1 (by omega)
              case measure => simp [intOf]; omega
            | false =>
              have HT : Hid (¬ inT zs zs.length (bs.take nn)) := fun h => by rw [HI.out.2 h] at hbeg; cases hbeg
              have hcut := run_cut_l el_int X m xc .i64 (nn : Int) nn rfl hle
              have hf0 := hbr.frozen 0
              have hf1 := hbr.frozen 1
              have hf2 := hbr.frozen 2
              have hc0 := hbr.cell 0
              have hc1 := hbr.cell 1
              have hc2 := hbr.cell 2
              simp at hc0 hc1 hc2
              go_wp2
              obtain ⟨w9, hw9⟩ : ∃ w9 : World, w9 = (((wr).setCell ⟨g, 0, none⟩ (.int .i64 0)).setCell ⟨g, 1, none⟩ (.slice (cutA 1 X xc nn) (m - nn) (xc - nn))).setCell ⟨g, 2, none⟩ (.int .i64 3) := ⟨_, rfl⟩
              rw [← hw9]
              have hb9 : Blk w9 g 156 #[.int .i64 0, .slice (cutA 1 X xc nn) (m - nn) (xc - nn), .int .i64 3] := by rw [hw9]; exact ((hbr.set 0 _).set 1 _).set 2 _
              have hu9 : Upd [] w w9 := by rw [hw9]; exact ((hur.put hgw _).put hgw _).put hgw _
              have q0 := hb9.cell 0
              have q1 := hb9.cell 1
              have q2 := hb9.cell 2
              simp at q0 q1 q2
              refine bodyPost_ret (v := .agg #[.int .i64 0, .slice (cutA 1 X xc nn) (m - nn) (xc - nn), .int .i64 3]) (by simp [results, Tryz.results103, go_sem, q0, q1, q2]) rfl ?_
              have hx9 : Ints .i64 w9 X m (bs.map b2i) := hx.upd hu9 (by simp)
              have hct := hx9.cut (lo := nn) (hi := m) (c := xc) hle (Nat.le_refl _) hmx
              rw [← List.map_drop, ← List.map_take, List.take_of_length_le (by rw [List.length_drop, HM.out]; omega)] at hct
              exact ⟨nn, 0, 3, cutA 1 X xc nn, xc - nn, by rw [HM.out], ⟨by rw [HM.out]; exact hle, HGO.out, Or.inr (Or.inl ⟨rfl, rfl, h1, HT.out⟩)⟩, by rw [HM.out]; exact hct, by rw [HM.out]; omega, fun _ => bl_cut _ _ _ _, hu9⟩
    · exfalso
      exact no_16 HK.out (by rw [HM.out]; omega) (HGO.out 15 (by omega) (by omega))

end Go.Proofs.YtolcdlopgbgilaaGreatDoor

/-! Text InfI. -/
namespace Go.Dray
open Go.RowKit
theorem run_cut_hm {P : Program} {t e : TypeId} {z : Value} {sz bytes : Nat} (el : El P t e z sz bytes) (A : Option Addr) (n c : Nat) (kh km : IntKind) (ih im : Int) (hi m : Nat) (e2 : ih = hi) (e3 : im = m) (h1 : hi ≤ m) (h2 : m ≤ c) :
    ∀ W : World, (Instr.sliceAt t (.slice A n c) none (some (.int kh ih)) (some (.int km im))).run P W = .ok (.slice A hi m) W := by
  intro W
  subst e2 e3
  obtain ⟨i, hi, hz, hs, hb⟩ := info_parts el.info
  have he : P.elem t = e := by simp [Program.elem, el.under]
  have ht : P.underlying t = some (.slice (P.elem t)) := by rw [he]; exact el.under
  rw [run_sliceAt_slice (h := ht), run_slice_hm (ht := ht) (h0 := by omega) (h2 := by omega) (h3 := by omega)]
  have ha : ∀ a : Addr, a.add 0 = a := fun a => by simp [Addr.add]
  cases A <;> simp [he, sizeOf, typeInfo, hi, sliced, ha]
end Go.Dray
namespace Go.Proofs.YtolcdlopgbgilaaGreatDoor
open Go.RowKit Go.Dray

theorem fixedL_chk : chk fixedL = 0 := by decide +kernel
theorem fixedD_chk : chk fixedD = 0 := by decide +kernel

set_option maxRecDepth 100000 in
set_option maxHeartbeats 4000000 in
theorem block_any {w : World} {B u g : Nat} {RA : Option Addr} {rn rc : Nat} {ys : List Int} {most p : Nat} {OA : Option Addr} {on oc : Nat} {o : List Int} (h : USt w B u g RA rn rc ys most p OA on oc o) (ho : OSt w B u g) (F : Nat) (hF : 8 * rn - p < F) :
    Calls Tryz.prog 39 #[.pointer (some ⟨u, 0, none⟩)] w (GoPost w B u g RA rn rc ys most p OA o (blockPr F)) := by
  have HU := Lib.hid h
  have HO := Lib.hid ho
  have hc0 := h.blk.cell 0
  simp at hc0
  clear h ho
  go_enter Tryz.func39, Tryz.ntmps39
  go_wp2_with fail
  refine (take_any HU.out 2 (by omega)).mono ?_
  rintro e w1 (⟨hl1, rfl, hr1, hv1⟩ | ⟨hl1, rfl, hr1, hv1⟩)
  · have hnb := num_bd ((bitsOf ys).drop p) 2 2 (Nat.le_refl _)
    obtain ⟨v, hv⟩ : ∃ v, v = num (((bitsOf ys).drop p).take 2) := ⟨_, rfl⟩
    rw [← hv] at hnb ⊢
    have HR : Hid (∀ k, run (bitsOf ys) most (blockPr F k) p o = run (bitsOf ys) most (if v = 0 then storedPr k else if v = 1 then symPr fixedL fixedD F k else if v = 2 then lensPr F fun lits dists => symPr lits dists F k else .fail 3) (p + 2) o) := fun k => by
      unfold blockPr
      rw [run_take_ok (by rw [HU.out.bits]; exact hl1), ← hv]
    have HU1 := Lib.hid (HU.out.read hr1 hv1 hl1)
    have HV1 := Lib.hid hv1
    have HO1 := Lib.hid (HO.out.upd hv1 (by intro b hb; simp at hb; rw [hb]; exact HO.out.gb))
    have hv4 : v = 0 ∨ v = 1 ∨ v = 2 ∨ v = 3 := by omega
    have HR0 : Hid (v = 0 → ∀ k, run (bitsOf ys) most (blockPr F k) p o = run (bitsOf ys) most (storedPr k) (p + 2) o) := fun h k => by rw [HR.out, if_pos h]
    have HR1 : Hid (v = 1 → ∀ k, run (bitsOf ys) most (blockPr F k) p o = run (bitsOf ys) most (symPr fixedL fixedD F k) (p + 2) o) := fun h k => by rw [HR.out, if_neg (by omega), if_pos h]
    have HR2 : Hid (v = 2 → ∀ k, run (bitsOf ys) most (blockPr F k) p o = run (bitsOf ys) most (lensPr F fun lits dists => symPr lits dists F k) (p + 2) o) := fun h k => by rw [HR.out, if_neg (by omega), if_neg (by omega), if_pos h]
    have HR3 : Hid (v = 3 → ∀ k, run (bitsOf ys) most (blockPr F k) p o = .err 3) := fun h k => by rw [HR.out, if_neg (by omega), if_neg (by omega), if_neg (by omega), run]
    clear hv hnb hr1 hv1 hc0 HR
    rcases hv4 with rfl | rfl | rfl | rfl
    · have HS := Lib.hid (HR0.out rfl)
      clear HR0 HR1 HR2 HR3
      go_wp2_with fail
      refine (stored_any HU1.out).mono ?_
      rintro e w2 ⟨err, p2, OA2, on2, oc2, o2, rfl, hu2, hv2, hf2, hres⟩
      go_wp2
      go_ret
      refine ⟨err, p2, OA2, on2, oc2, o2, rfl, hu2, HV1.out.one.trans hv2, fun x hx => ?_, ?_⟩
      · rcases hf2 x hx with h3 | h3
        · exact Or.inl h3
        · right; have := HV1.out.size; omega
      · rcases hres with ⟨he, hrun⟩ | ⟨he, hp2, hrun⟩
        · exact Or.inl ⟨he, fun k => by rw [HS.out]; exact hrun k⟩
        · exact Or.inr ⟨he, by omega, fun k => by rw [HS.out]; exact hrun k⟩
    · have HS := Lib.hid (HR1.out rfl)
      clear HR0 HR1 HR2 HR3
      go_wp2_with fail
      refine (fixed_any w1).mono ?_
      rintro e w2 ⟨LA, lc, DA, dc, rfl, hL, hD, hv2⟩
      have HU2 := Lib.hid (HU1.out.grow hv2)
      have HV2 : Hid (Upd [some g] w w2) := HV1.out.trans (hv2.mono (by simp))
      have HL := Lib.hid hL
      have HD := Lib.hid hD
      clear hL hD hv2
      go_wp2_with fail
      refine (symbols_any HU2.out LA DA 288 lc 32 dc fixedL fixedD HL.out HD.out fixedL_chk fixedD_chk F (by omega)).mono ?_
      rintro e w3 ⟨err, p2, OA2, on2, oc2, o2, rfl, hu2, hv2, hf2, hres⟩
      go_wp2
      go_ret
      refine ⟨err, p2, OA2, on2, oc2, o2, rfl, hu2, HV2.out.one.trans hv2, fun x hx => ?_, ?_⟩
      · rcases hf2 x hx with h3 | h3
        · exact Or.inl h3
        · right; have := HV2.out.size; omega
      · rcases hres with ⟨he, hrun⟩ | ⟨he, hp2, hrun⟩
        · exact Or.inl ⟨he, fun k => by rw [HS.out]; exact hrun k⟩
        · exact Or.inr ⟨he, by omega, fun k => by rw [HS.out]; exact hrun k⟩
    · have HS := Lib.hid (HR2.out rfl)
      clear HR0 HR1 HR2 HR3
      go_wp2_with fail
      refine (lengths4_any HU1.out HO1.out F (by omega)).mono ?_
      rintro e w2 ⟨err, p2, LA, ln, lc, DA, dn, dc, rfl, hu2, hv2, ⟨he, hrun⟩ | ⟨rfl, hp2, lz, dz, hL, hD, kl, kd, hrun⟩⟩
      · have hd1 : (err != 0) = true := by simp [he]
        go_wp2
        go_ret
        exact ⟨err, p2, OA, on, oc, o, rfl, hu2, (HV1.out.trans hv2).one, fun x hx => Or.inl hx, Or.inl ⟨he, fun k => by rw [HS.out]; exact hrun (fun lits dists => symPr lits dists F k)⟩⟩
      · have HU2 := Lib.hid hu2
        have HV2 : Hid (Upd [some g] w w2) := HV1.out.trans hv2
        have HL := Lib.hid hL
        have HD := Lib.hid hD
        have HKL := Lib.hid kl
        have HKD := Lib.hid kd
        have HR2 : Hid (∀ k, run (bitsOf ys) most (blockPr F k) p o = run (bitsOf ys) most (symPr lz dz F k) p2 o) := fun k => by rw [HS.out]; exact hrun (fun lits dists => symPr lits dists F k)
        clear hL hD hv2 hu2 kl kd hrun
        go_wp2_with fail
        refine (symbols_any HU2.out LA DA ln lc dn dc lz dz HL.out HD.out HKL.out HKD.out F (by omega)).mono ?_
        rintro e w3 ⟨err, p3, OA2, on2, oc2, o2, rfl, hu3, hv3, hf3, hres⟩
        go_wp2
        go_ret
        refine ⟨err, p3, OA2, on2, oc2, o2, rfl, hu3, HV2.out.one.trans hv3, fun x hx => ?_, ?_⟩
        · rcases hf3 x hx with h3 | h3
          · exact Or.inl h3
          · right; have := HV2.out.size; omega
        · rcases hres with ⟨he, hrun⟩ | ⟨he, hp3, hrun⟩
          · exact Or.inl ⟨he, fun k => by rw [HR2.out]; exact hrun k⟩
          · exact Or.inr ⟨he, by omega, fun k => by rw [HR2.out]; exact hrun k⟩
    · have HS := Lib.hid (HR3.out rfl)
      clear HR0 HR1 HR2 HR3
      go_wp2
      go_ret
      exact ⟨3, p + 2, OA, on, oc, o, rfl, HU1.out, HV1.out.one, fun x hx => Or.inl hx, Or.inl ⟨by decide, HS.out⟩⟩
  · go_wp2
    go_ret
    exact ⟨2, p, OA, on, oc, o, rfl, HU.out.read hr1 hv1 HU.out.pos, hv1.one, fun x hx => Or.inl hx, Or.inl ⟨by decide, fun k => by unfold blockPr; rw [run_take_no (by rw [HU.out.bits]; exact hl1)]⟩⟩

end Go.Proofs.YtolcdlopgbgilaaGreatDoor
