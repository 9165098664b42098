/- The walks of math/bits.Mul by one, of slices.Repeat of one int, and of inflate's fixed. -/
import Derived.Test.YtolcdlopgbgilaaDoorInfG
import Derived.Test.YtolcdlopgbgilaaDoorInfP
import Derived.Test.YtolcdlopgbgilaaDoorLag
namespace Go.Dray
open Go.RowKit
theorem Upd.row {L : List (Option Nat)} {w w' : World} (h : Upd L w w') {g : Nat} (hp : some g ∈ L ∨ w.heap.size ≤ g) (cs : Array Value) : Upd L w (w'.setRow g cs) :=
  ⟨h.os, h.tape, h.output, by have := h.size; simp [World.setRow]; omega, fun k hk hn => by
    have hne : k ≠ g := fun e => by subst e; rcases hp with h1 | h1; exact hn h1; omega
    rw [← h.block k hk hn]
    simp [World.setRow, Array.getElem?_modify, hne.symm]⟩
theorem Blk.row {w : World} {g : Nat} {t : TypeId} {cs : Array Value} (h : Blk w g t cs) (new : Array Value) : Blk (w.setRow g new) g t new := setRow_heap w g cs new t _ h
end Go.Dray
namespace Go.Proofs.YtolcdlopgbgilaaDoor
open Go.RowKit Go.Dray

set_option maxHeartbeats 1000000 in
theorem mul64_one (y : Nat) (hy : y < 4294967296) (hb : bits BinOp.and IntKind.u64 (y : Int) 4294967295 = y) (w : World) :
    Calls Tryd.prog 116 #[.int .u64 1, .int .u64 y] w fun e w' => e = .returned (.tuple #[.int .u64 0, .int .u64 y]) ∧ w = w' := by
  have h1 : bits BinOp.and IntKind.u64 1 4294967295 = 1 := by decide
  have h0 : bits BinOp.and IntKind.u64 0 4294967295 = 0 := by decide
  have hq : (y : Int) / 4294967296 = 0 := by omega
  go_enter Tryd.func116, Tryd.ntmps116
  go_wp2
  go_ret2
  exact ⟨rfl, rfl⟩

set_option maxHeartbeats 1000000 in
theorem mul_one (y : Nat) (hy : y < 4294967296) (hb : bits BinOp.and IntKind.u64 (y : Int) 4294967295 = y) (w : World) :
    Calls Tryd.prog 97 #[.int .u64 1, .int .u64 y] w fun e w' => e = .returned (.tuple #[.int .u64 0, .int .u64 y]) ∧ w = w' := by
  go_enter Tryd.func97, Tryd.ntmps97
  go_wp2_with (go_at_call 116; refine (mul64_one y hy hb _).mono ?_; rintro e w' ⟨rfl, rfl⟩)
  go_ret2
  exact ⟨rfl, rfl⟩

/-- n times v, the rest nought. -/
def repV (N n : Nat) (v : Int) : List Value := List.replicate n (.int .i64 v) ++ List.replicate (N - n) (.int .i64 0)
theorem repV_put (N n m : Nat) (v : Int) (h : n + m ≤ N) : (repV N n v).take n ++ List.replicate m (.int .i64 v) ++ (repV N n v).drop (n + m) = repV N (n + m) v := by
  unfold repV
  rw [List.take_left' (by simp), List.drop_append, List.drop_of_length_le (by simp), List.nil_append, List.length_replicate, List.drop_replicate, ← List.replicate_append_replicate, show N - n - (n + m - n) = N - (n + m) from by omega]

theorem repV_len (N n : Nat) (v : Int) (h : n ≤ N) : (repV N n v).length = N := by unfold repV; simp; omega
theorem rep_copy0 {w1 : World} {B : Nat} {A1 X : Option Addr} {N xc : Nat} {v : Int} (hown : Own w1 B 3 1 A1 N N (List.replicate N (.int .i64 0))) (hx : Ints .i64 w1 X 1 [v]) (h1 : 1 ≤ N) :
    ∃ w2 g, A1 = some ⟨g, 0, none⟩ ∧ (∀ ty, (Builtin.copy_ #[61, 61] ty #[.slice A1 N N, .slice X 1 xc]).run Tryd.prog w1 = .ok (.int .i64 1) w2) ∧ Blk w2 g 3 (repV N 1 v).toArray ∧ B ≤ g ∧ ∀ w0 : World, Upd [] w0 w1 → w0.heap.size ≤ B → Upd [] w0 w2 := by
  rcases hown.cases.2.2.2 with ⟨_, h0, _⟩ | ⟨g, cur, rfl, hB, hb, hs, ht⟩
  · omega
  · have hA := Seg.at_ hx (by omega)
    have hc := Seg.cell hx 0 (.int .i64 v) rfl
    have hcur : cur.toList = List.replicate N (.int .i64 0) := by rw [← ht, List.take_of_length_le (by simp; omega)]
    have hr := fun ty => run_copy_row (P := Tryd.prog) w1 61 61 ty 3 g 0 N N ⟨bl X, ofs X, none⟩ 1 xc cur _ [.int .i64 v] el_int.under (by kernel_rfl) hb (by simp [Nat.min_def]; omega)
      (fun j u hu => by
        match j, hu with
        | 0, hu => simp at hu; subst hu; rw [Addr.add_lit]; exact hc) (by simp; omega) (by simp [Value.oneCell'])
    refine ⟨_, g, rfl, fun ty => by rw [hA]; exact hr ty, ?_, hB, fun w0 hu hw => hu.row (Or.inr (by omega)) _⟩
    have := hb.row (cur.toList.take 0 ++ [Value.int .i64 v] ++ cur.toList.drop (0 + [Value.int .i64 v].length)).toArray
    rw [hcur] at this ⊢
    have e : List.take 0 (List.replicate N (Value.int .i64 0)) ++ [.int .i64 v] ++ List.drop (0 + [Value.int .i64 v].length) (List.replicate N (Value.int .i64 0)) = repV N 1 v := by
      unfold repV
      rw [List.take_zero, List.nil_append, List.drop_replicate]
      rfl
    rw [e] at this ⊢
    exact this
theorem rep_copy {w1 : World} {g N n : Nat} {v : Int} (hb : Blk w1 g 3 (repV N n v).toArray) (hn : n < N) :
    ∃ w2, (∀ ty, (Builtin.copy_ #[61, 61] ty #[.slice (some ⟨g, n, none⟩) (N - n) (N - n), .slice (some ⟨g, 0, none⟩) n N]).run Tryd.prog w1 = .ok (.int .i64 (min n (N - n) : Nat)) w2) ∧ Blk w2 g 3 (repV N (n + min n (N - n)) v).toArray ∧ ∀ w0 : World, Upd [] w0 w1 → w0.heap.size ≤ g → Upd [] w0 w2 := by
  have hl := repV_len N n v (by omega)
  have hr := fun ty => run_copy_row (P := Tryd.prog) w1 61 61 ty 3 g n (N - n) (N - n) ⟨g, 0, none⟩ n N (repV N n v).toArray _ (List.replicate (min n (N - n)) (.int .i64 v)) el_int.under (by kernel_rfl) hb (by rw [List.length_replicate])
    (fun j u hu => by
      have hj : j < min n (N - n) := by have := (List.getElem?_eq_some_iff.1 hu).1; simpa using this
      rw [Addr.add_lit, hb.cell, Nat.zero_add]
      rw [List.getElem?_replicate, if_pos hj] at hu
      rw [List.getElem?_toArray]
      unfold repV
      rw [List.getElem?_append_left (by simp; omega), List.getElem?_replicate, if_pos (by omega)]
      exact hu) (by simp [hl]; omega) (by intro u hu; rw [List.mem_replicate] at hu; rw [hu.2]; rfl)
  refine ⟨_, fun ty => (hr ty).trans (by rw [List.length_replicate]; rfl), ?_, fun w0 hu hw => hu.row (Or.inr hw) _⟩
  have := hb.row ((repV N n v).take n ++ List.replicate (min n (N - n)) (Value.int .i64 v) ++ (repV N n v).drop (n + min n (N - n))).toArray
  rw [repV_put N n (min n (N - n)) v (by omega)] at this
  have e : (repV N n v).toArray.toList.take n ++ List.replicate (min n (N - n)) (Value.int .i64 v) ++ (repV N n v).toArray.toList.drop (n + min n (N - n)) = repV N (n + min n (N - n)) v := repV_put N n (min n (N - n)) v (by omega)
  rw [e]
  exact this

def NewRep (N : Nat) (v : Int) (w : World) (e : Ending) (w' : World) : Prop := ∃ A c, e = .returned (.slice A N c) ∧ Own w' w.heap.size 3 1 A N c ((List.replicate N v).map (Value.int .i64)) ∧ Upd [] w w'

set_option maxRecDepth 100000 in
set_option maxHeartbeats 2000000 in
theorem repeatI_any (X : Option Addr) (xc : Nat) (v : Int) (N : Nat) (w : World) (hx : Ints .i64 w X 1 [v]) (h1 : 1 ≤ N) (hN : N ≤ 1000) (hb : bits BinOp.and IntKind.u64 (N : Int) 4294967295 = N) :
    Calls Tryd.prog 70 #[.slice X 1 xc, .int .i64 N] w (NewRep N v w) := by
  have HX := Lib.hid hx
  clear hx
  go_enter Tryd.func70, Tryd.ntmps70
  have dA : decide ((N : Int) < 0) = false := by simp
  have dB : decide ((9223372036854775807 : Int) < N) = false := by simp; omega
  go_wp2_with fail
  refine (mul_one N (by omega) hb w).mono ?_
  rintro e w0 ⟨rfl, rfl⟩
  go_wp2_with (at_make; refine wpList_mk rfl rfl w.heap.size el_int N rfl rfl rfl rfl rfl (by omega) (by simp only [maxLen]; omega) (Nat.le_refl _) ?_; intro A1 w1 hown1 hu1 hob1; obtain ⟨w2, g, hA1, hr2, hb2, hg2, hu2⟩ := rep_copy0 (xc := xc) hown1 (HX.out.upd hu1 (by simp)) h1; subst hA1; have HB2 := Lib.hid hb2; have HU2 := Lib.hid (hu2 w hu1 (Nat.le_refl _)); clear hown1 hu1 hob1 hb2 hu2)
  clear hr2
  go_loopw [8] (fun x wr => ∃ n : Nat, 1 ≤ n ∧ n ≤ N ∧ x = .int .i64 n ∧ Hid (Blk wr g 3 (repV N n v).toArray) ∧ Hid (Upd [] w wr)) (fun x _ => N - (intOf x).toNat)
  case atStart => exact ⟨1, by omega, h1, rfl, HB2, HU2⟩
  case round =>
    clear HB2 HU2
    obtain ⟨n, hn1, hnN, rfl, HB, HU⟩ := hrel
    by_cases hlt : n < N
    · have cut1 := run_cut_l el_int (some ⟨g, 0, none⟩) N N .i64 (n : Int) n rfl hnN
      have cut2 := run_cut_h el_int (some ⟨g, 0, none⟩) N N .i64 (n : Int) n rfl hnN
      have eA : cutA 1 (some ⟨g, 0, none⟩) N n = some ⟨g, n, none⟩ := by unfold cutA; rw [if_neg (by omega)]; simp [Addr.add_lit]
      rw [eA] at cut1
      clear eA
      go_wp2
      refine wp_region_lag1 7 (by kernel_rfl) rfl rfl (by kernel_rfl) (by kernel_rfl) (by kernel_rfl) (by kernel_rfl) (fun _ _ _ _ h => h) ?_
      simp only [List.take_succ_cons, List.take_zero, List.drop_succ_cons, List.drop_zero]
      repeat still_step
      refine wpStill_nil ?_
      have HB4 : Hid (Blk wr.drew g 3 (repV N n v).toArray) := HB.out.drew
      have HU4 : Hid (Upd [] w wr.drew) := HU.out.drew
      generalize wr.drew = w4 at HB4 HU4 ⊢
      obtain ⟨w5, hr5, hb5, hu5⟩ := rep_copy HB4.out hlt
      have HB5 := Lib.hid hb5
      have HU5 := Lib.hid (hu5 w HU4.out hg2)
      obtain ⟨m, hm⟩ : ∃ m, m = min n (N - n) := ⟨_, rfl⟩
      rw [← hm] at hr5 HB5
      have hm1 : 1 ≤ m := by omega
      have hm2 : n + m ≤ N := by omega
      clear hb5 hu5 hm cut1 cut2 HB4 HU4
      go_wp2
      go_roundw
      case rel => exact ⟨n + m, by omega, hm2, by go_num, HB5, HU5⟩
      case measure => simp [intOf]; omega
    · obtain rfl : n = N := by omega
      go_wp2
      go_ret
      refine ⟨some ⟨g, 0, none⟩, n, rfl, ?_, HU.out⟩
      refine Own.mk (by simp) (Nat.le_refl _) (by simp only [maxLen]; omega) rfl hg2 HB.out (by simp [repV_len n n v (Nat.le_refl _)]) ?_
      rw [List.take_of_length_le (by simp [repV_len n n v (Nat.le_refl _)]), List.map_replicate]
      unfold repV
      simp

def FixPost (w : World) (e : Ending) (w' : World) : Prop := ∃ LA lc DA dc, e = .returned (.tuple #[.slice LA 288 lc, .slice DA 32 dc]) ∧ Ints .i64 w' LA 288 fixedL ∧ Ints .i64 w' DA 32 fixedD ∧ Upd [] w w'

theorem seg4 (w : World) (a b c d : Value) (t : TypeId) : Seg (w.alloc (.cells #[a, b, c, d] t)) 1 (some ⟨w.heap.size, 0, none⟩) 4 [a, b, c, d] :=
  ⟨rfl, fun _ => rfl, fun k u hu => by
    have hb := Blk.new w t #[a, b, c, d]
    show (w.alloc _).cell? ⟨w.heap.size, 0 + k, none⟩ = _
    rw [Nat.zero_add, hb.cell]
    simpa using hu⟩

set_option maxRecDepth 100000 in
set_option maxHeartbeats 2000000 in
theorem fixed_any (w : World) : Calls Tryd.prog 57 #[] w (FixPost w) := by
  go_enter Tryd.func57, Tryd.ntmps57
  go_wp2_with fail
  refine (repeatI_any _ 1 8 144 _ (Seg.one w _ _) (by omega) (by omega) (by decide)).mono ?_
  rintro e w1 ⟨R1, c1, rfl, ho1, hv1⟩
  have hu1 : Upd [] w w1 := ((Upd.refl [] w).alloc _).trans hv1
  have hi1 := Ints.ofOwn ho1
  clear ho1 hv1
  go_wp2_with fail
  refine (repeatI_any _ 1 9 112 _ (Seg.one w1 _ _) (by omega) (by omega) (by decide)).mono ?_
  rintro e w2 ⟨R2, c2, rfl, ho2, hv2⟩
  have hu2 : Upd [] w1 w2 := ((Upd.refl [] w1).alloc _).trans hv2
  have hi2 := Ints.ofOwn ho2
  clear ho2 hv2
  have hi1' := hi1.upd hu2 (by simp)
  clear hi1
  have hi1 := hi1'
  clear hi1'
  go_wp2_with fail
  refine (repeatI_any _ 1 7 24 _ (Seg.one w2 _ _) (by omega) (by omega) (by decide)).mono ?_
  rintro e w3 ⟨R3, c3, rfl, ho3, hv3⟩
  have hu3 : Upd [] w2 w3 := ((Upd.refl [] w2).alloc _).trans hv3
  have hi3 := Ints.ofOwn ho3
  clear ho3 hv3
  have hi1' := hi1.upd hu3 (by simp)
  clear hi1
  have hi1 := hi1'
  clear hi1'
  have hi2' := hi2.upd hu3 (by simp)
  clear hi2
  have hi2 := hi2'
  clear hi2'
  go_wp2_with fail
  refine (repeatI_any _ 1 8 8 _ (Seg.one w3 _ _) (by omega) (by omega) (by decide)).mono ?_
  rintro e w4 ⟨R4, c4, rfl, ho4, hv4⟩
  have hu4 : Upd [] w3 w4 := ((Upd.refl [] w3).alloc _).trans hv4
  have hi4 := Ints.ofOwn ho4
  clear ho4 hv4
  have hi1' := hi1.upd hu4 (by simp)
  clear hi1
  have hi1 := hi1'
  clear hi1'
  have hi2' := hi2.upd hu4 (by simp)
  clear hi2
  have hi2 := hi2'
  clear hi2'
  have hi3' := hi3.upd hu4 (by simp)
  clear hi3
  have hi3 := hi3'
  clear hi3'
  have hul : Upd [] w4 (w4.alloc (.cells #[.slice R1 144 c1, .slice R2 112 c2, .slice R3 24 c3, .slice R4 8 c4] 61)) := (Upd.refl [] w4).alloc _
  go_wp2_with fail
  refine (concatI_any _ 4 4 [⟨R1, 144, c1, List.replicate 144 8⟩, ⟨R2, 112, c2, List.replicate 112 9⟩, ⟨R3, 24, c3, List.replicate 24 7⟩, ⟨R4, 8, c4, List.replicate 8 8⟩] _ (seg4 w4 _ _ _ _ _) ?_ (by show 288 ≤ 10000000; omega) (by omega)).mono ?_
  · intro x hx
    simp only [List.mem_cons, List.not_mem_nil, or_false] at hx
    rcases hx with rfl | rfl | rfl | rfl
    · exact hi1.upd hul (by simp)
    · exact hi2.upd hul (by simp)
    · exact hi3.upd hul (by simp)
    · exact hi4.upd hul (by simp)
  rintro e w5 ⟨LA, lc, rfl, hL, hv5⟩
  have hu5 : Upd [] w w5 := (((hu1.trans hu2).trans hu3).trans hu4).trans (hul.trans hv5)
  have eS : sizes [⟨R1, 144, c1, List.replicate 144 8⟩, ⟨R2, 112, c2, List.replicate 112 9⟩, ⟨R3, 24, c3, List.replicate 24 7⟩, ⟨R4, 8, c4, List.replicate 8 8⟩] = 288 := rfl
  have eZ : allZ [⟨R1, 144, c1, List.replicate 144 8⟩, ⟨R2, 112, c2, List.replicate 112 9⟩, ⟨R3, 24, c3, List.replicate 24 7⟩, ⟨R4, 8, c4, List.replicate 8 8⟩] = fixedL := by
    unfold allZ fixedL
    simp only [List.flatMap_cons, List.flatMap_nil, List.append_nil, List.append_assoc]
  rw [eS, eZ] at hL
  rw [eS]
  have HL := Lib.hid (Ints.ofOwn hL)
  clear hL eS eZ hi1 hi2 hi3 hi4 hul hv5
  go_wp2_with fail
  refine (repeatI_any _ 1 5 32 _ (Seg.one w5 _ _) (by omega) (by omega) (by decide)).mono ?_
  rintro e w6 ⟨DA, dc, rfl, hD, hv6⟩
  have hu6 : Upd [] w5 w6 := ((Upd.refl [] w5).alloc _).trans hv6
  go_wp2
  go_ret2
  exact ⟨LA, lc, DA, dc, rfl, HL.out.upd hu6 (by simp), Ints.ofOwn hD, hu5.trans hu6⟩

end Go.Proofs.YtolcdlopgbgilaaDoor
