/- Merged by wip/tools/merge.py: HuffA HuffB HuffW. -/
import Derived.BigRegion
import Derived.Test.YtolcdlopgbgilaaGreatDoorMz01

/-! Text HuffA. -/
namespace Go.Proofs.YtolcdlopgbgilaaGreatDoor
open Go.RowKit Go.Dray


/-- 2^(15-n) where n has a row. -/
def wt (z : Int) : Int := if 0 < z then 2 ^ (15 - z).toNat else 0
def wsum (zs : List Int) : Int := (zs.map wt).sum

theorem pow15 (z : Int) (h0 : 0 ≤ z) : (1 : Int) ≤ 2 ^ (15 - z).toNat ∧ (2 : Int) ^ (15 - z).toNat ≤ 32768 := by
  have h : (15 - z).toNat ≤ 15 := by omega
  generalize (15 - z).toNat = m at h
  match m, h with
  | 0, _ | 1, _ | 2, _ | 3, _ | 4, _ | 5, _ | 6, _ | 7, _ | 8, _ | 9, _ | 10, _ | 11, _ | 12, _ | 13, _ | 14, _ | 15, _ => decide

theorem wt_bd (z : Int) (h0 : 0 ≤ z) : 0 ≤ wt z ∧ wt z ≤ 32768 := by
  have := pow15 z h0
  unfold wt
  split <;> omega

theorem wsum_bd (zs : List Int) (h : ∀ z ∈ zs, 0 ≤ z) : 0 ≤ wsum zs ∧ wsum zs ≤ 32768 * zs.length := by
  induction zs with
  | nil => simp [wsum]
  | cons z zs ih =>
    have h1 := wt_bd z (h z (by simp))
    have h2 := ih fun y hy => h y (by simp [hy])
    simp only [wsum, List.map_cons, List.sum_cons, List.length_cons] at *
    omega

theorem wsum_take (zs : List Int) (k : Nat) (x : Int) (h : zs[k]? = some x) : wsum (zs.take (k + 1)) = wsum (zs.take k) + wt x := by
  have hk : k < zs.length := by
    rcases Nat.lt_or_ge k zs.length with h' | h'
    · exact h'
    · rw [List.getElem?_eq_none h'] at h; cases h
  have hx : zs[k] = x := by rw [List.getElem?_eq_getElem hk] at h; injection h
  rw [List.take_succ_eq_append_getElem hk, hx]
  simp [wsum]

theorem wt_pos (x : Int) (h : 0 < x) : wt x = 2 ^ (15 - x).toNat := by simp [wt, h]
theorem wt_no (x : Int) (h : x ≤ 0) : wt x = 0 := by simp [wt]; omega

set_option maxHeartbeats 400000 in
theorem weight_any (A : Option Addr) (n c : Nat) (zs : List Int) (w : World) (hs : Ints .i64 w A n zs) (hb : ∀ z ∈ zs, 0 ≤ z ∧ z ≤ 15) (hn : n ≤ 1000) :
    Calls Tryz.prog 111 #[.slice A n c] w fun e w' => e = .returned (.int .i64 (wsum zs)) ∧ w = w' := by
  
  have HB := Lib.hid hb
  clear hb
  have HL := hs.len
  go_enter Tryz.func111, Tryz.ntmps111
  go_wp2
  go_loop [3, 8] (fun t i => ∃ k : Nat, k ≤ n ∧ i = .int .i64 k ∧ t = .int .i64 (wsum (zs.take k))) (fun _ i => n - (intOf i).toNat)
  case atStart => exact ⟨0, Nat.zero_le _, rfl, rfl⟩
  case round =>
    obtain ⟨k, hk, rfl, rfl⟩ := hrel
    have hbd := wsum_bd (zs.take k) fun z hz => (HB.out z (List.mem_of_mem_take hz)).1
    have hlt : (zs.take k).length ≤ k := List.length_take_le _ _
    by_cases h : k < n
    · obtain ⟨x, HX, hcell⟩ := hs.int h
      have hix := hs.index el_int c .i64 k h
      obtain ⟨hx0, hx1⟩ := HB.out x (List.mem_of_getElem? HX.out)
      have hp := pow15 x hx0
      clear hs
      go_wp2
      all_goals go_round
      case rel => exact ⟨k + 1, by omega, by go_num, by rw [wsum_take zs k x HX.out, wt_pos x (by omega)]⟩
      case measure => simp [intOf]; omega
      case rel => exact ⟨k + 1, by omega, by go_num, by rw [wsum_take zs k x HX.out, wt_no x (by omega)]; go_num⟩
      case measure => simp [intOf]; omega
    · obtain rfl : k = n := by omega
      go_wp2
      go_ret
      exact ⟨ret_int (by rw [List.take_of_length_le (by rw [HL.out]; omega)]), rfl⟩

theorem half_pow (j : Nat) (h : j < 15) : (2 : Int) ^ (15 - j) / 2 = 2 ^ (15 - (j + 1)) := by
  match j, h with
  | 0, _ | 1, _ | 2, _ | 3, _ | 4, _ | 5, _ | 6, _ | 7, _ | 8, _ | 9, _ | 10, _ | 11, _ | 12, _ | 13, _ | 14, _ => decide
theorem pow_bd (j : Nat) : (0 : Int) ≤ 2 ^ (15 - j) ∧ (2 : Int) ^ (15 - j) ≤ 32768 := by
  have := pow15 j (by omega)
  have e : (15 - (j : Int)).toNat = 15 - j := by omega
  rw [e] at this
  omega

set_option maxHeartbeats 400000 in
theorem share_any (A : Option Addr) (n c : Nat) (zs : List Int) (w : World) (hs : Ints .i64 w A n zs) (hb : ∀ z ∈ zs, 0 ≤ z ∧ z ≤ 15) (hn : n ≤ 1000) :
    Calls Tryz.prog 106 #[.slice A n c] w fun e w' => e = .returned (.int .i64 (wsum zs)) ∧ w = w' := by
  
  have HB := Lib.hid hb
  clear hb
  have HL := hs.len
  go_enter Tryz.func106, Tryz.ntmps106
  go_wp2
  go_loop [3, 4] (fun t i => ∃ k : Nat, k ≤ n ∧ i = .int .i64 k ∧ t = .int .i64 (wsum (zs.take k))) (fun _ i => n - (intOf i).toNat)
  case atStart => exact ⟨0, Nat.zero_le _, rfl, rfl⟩
  case round =>
    obtain ⟨k, hk, rfl, rfl⟩ := hrel
    have hbd := wsum_bd (zs.take k) fun z hz => (HB.out z (List.mem_of_mem_take hz)).1
    have hlt : (zs.take k).length ≤ k := List.length_take_le _ _
    by_cases h : k < n
    · obtain ⟨x, HX, hcell⟩ := hs.int h
      have hix := hs.index el_int c .i64 k h
      obtain ⟨hx0, hx1⟩ := HB.out x (List.mem_of_getElem? HX.out)
      have hp := pow15 x hx0
      clear hs
      by_cases hpos : 0 < x
      · go_wp2
        go_loop [5, 6] (fun t i => ∃ j : Nat, (j : Int) ≤ x ∧ i = .int .i64 j ∧ t = .int .i64 (2 ^ (15 - j))) (fun _ i => x.toNat - (intOf i).toNat)
        case atStart => exact ⟨0, by omega, rfl, rfl⟩
        case round =>
          obtain ⟨j, hj, rfl, rfl⟩ := hrel
          have hpb := pow_bd j
          by_cases hjx : (j : Int) < x
          · go_wp2
            go_round
            case rel => exact ⟨j + 1, by omega, by go_num, by rw [half_pow j (by omega)]⟩
            case measure => simp [intOf]; omega
          · have hjx2 : x ≤ (j : Int) := by omega
            go_wp2
            go_round
            case rel => exact ⟨k + 1, by omega, by go_num, by rw [wsum_take zs k x HX.out, wt_pos x (by omega), show (15 - x).toNat = 15 - j from by omega]⟩
            case measure => simp [intOf]; omega
      · have hpos2 : x ≤ 0 := by omega
        go_wp2
        go_round
        case rel => exact ⟨k + 1, by omega, by go_num, by rw [wsum_take zs k x HX.out, wt_no x (by omega)]; go_num⟩
        case measure => simp [intOf]; omega
    · obtain rfl : k = n := by omega
      go_wp2
      go_ret
      exact ⟨ret_int (by rw [List.take_of_length_le (by rw [HL.out]; omega)]), rfl⟩

def okLen (z : Int) : Bool := decide (0 ≤ z) && decide (z ≤ 15)
/-- What Check tells, of both. -/
def chk (zs : List Int) : Int := if 320 < zs.length then 4 else if zs.all okLen then (if 32768 < wsum zs then 3 else 0) else 1
def fullB (zs : List Int) : Bool := chk zs == 0 && wsum zs == 32768

theorem chk_large {zs : List Int} (h : 320 < zs.length) : chk zs = 4 := by simp [chk, h]
theorem chk_bad {zs : List Int} {k : Nat} {x : Int} (h : zs.length ≤ 320) (hx : zs[k]? = some x) (hb : x < 0 ∨ 15 < x) : chk zs = 1 := by
  have : zs.all okLen = false := by
    rw [List.all_eq_false]
    exact ⟨x, List.mem_of_getElem? hx, by simp [okLen]; omega⟩
  simp [chk, this]; omega
theorem chk_form {zs : List Int} (h : zs.length ≤ 320) (hb : ∀ z ∈ zs, 0 ≤ z ∧ z ≤ 15) (hw : 32768 < wsum zs) : chk zs = 3 := by
  have : zs.all okLen = true := by rw [List.all_eq_true]; intro z hz; have := hb z hz; simp [okLen]; omega
  simp [chk, this, hw]; omega
theorem chk_ok {zs : List Int} (h : zs.length ≤ 320) (hb : ∀ z ∈ zs, 0 ≤ z ∧ z ≤ 15) (hw : wsum zs ≤ 32768) : chk zs = 0 := by
  have : zs.all okLen = true := by rw [List.all_eq_true]; intro z hz; have := hb z hz; simp [okLen]; omega
  simp [chk, this]; omega
theorem chk_zero {zs : List Int} (h : chk zs = 0) : zs.length ≤ 320 ∧ (∀ z ∈ zs, 0 ≤ z ∧ z ≤ 15) ∧ wsum zs ≤ 32768 := by
  unfold chk at h
  split at h
  · omega
  · split at h
    · rename_i hl ha
      rw [List.all_eq_true] at ha
      split at h
      · omega
      · exact ⟨by omega, fun z hz => by have := ha z hz; simpa [okLen] using this, by omega⟩
    · omega
theorem chk_bd (zs : List Int) : 0 ≤ chk zs ∧ chk zs ≤ 4 := by
  unfold chk
  repeat' split
  all_goals omega

theorem take_stepH {zs : List Int} {k : Nat} {x : Int} (h : zs[k]? = some x) (hb : ∀ z ∈ zs.take k, 0 ≤ z ∧ z ≤ 15) (hx : 0 ≤ x ∧ x ≤ 15) : ∀ z ∈ zs.take (k + 1), 0 ≤ z ∧ z ≤ 15 := by
  have hk : k < zs.length := (List.getElem?_eq_some_iff.1 h).1
  have hx' : zs[k] = x := (List.getElem?_eq_some_iff.1 h).2
  rw [List.take_succ_eq_append_getElem hk, hx']
  intro z hz
  rcases List.mem_append.1 hz with h' | h'
  · exact hb z h'
  · rw [List.mem_singleton] at h'; subst h'; exact hx

set_option maxHeartbeats 400000 in
theorem check_any (A : Option Addr) (n c : Nat) (zs : List Int) (w : World) (hs : Ints .i64 w A n zs) :
    Calls Tryz.prog 87 #[.slice A n c] w fun e w' => e = .returned (.int .i64 (chk zs)) ∧ w = w' := by
  
  have HL := hs.len
  by_cases hbig : 320 < n
  · go_enter Tryz.func87, Tryz.ntmps87
    go_wp2
    go_ret
    exact ⟨ret_int (chk_large (by rw [HL.out]; exact hbig)).symm, rfl⟩
  · have hn : n ≤ 320 := by omega
    go_enter Tryz.func87, Tryz.ntmps87
    go_wp2
    go_loop [10] (fun i => ∃ k : Nat, k ≤ n ∧ i = .int .i64 k ∧ Hid (∀ z ∈ zs.take k, 0 ≤ z ∧ z ≤ 15)) (fun i => n - (intOf i).toNat)
    case atStart => exact ⟨0, Nat.zero_le _, rfl, by intro z hz; simp at hz⟩
    case round =>
      obtain ⟨k, hk, rfl, HB⟩ := hrel
      by_cases h : k < n
      · obtain ⟨x, HX, hcell⟩ := hs.int h
        have hix := hs.index el_int c .i64 k h
        clear hs
        by_cases h1 : x < 0
        · go_wp2
          go_ret
          exact ⟨ret_int (chk_bad (by rw [HL.out]; exact hn) HX.out (Or.inl h1)).symm, rfl⟩
        · have h1' : 0 ≤ x := by omega
          by_cases h2 : 15 < x
          · go_wp2
            go_ret
            exact ⟨ret_int (chk_bad (by rw [HL.out]; exact hn) HX.out (Or.inr h2)).symm, rfl⟩
          · have h2' : x ≤ 15 := by omega
            go_wp2
            go_round
            case rel => exact ⟨k + 1, by omega, by go_num, take_stepH HX.out HB.out ⟨h1', h2'⟩⟩
            case measure => simp [intOf]; omega
      · obtain rfl : k = n := by omega
        have HB2 : Hid (∀ z ∈ zs, 0 ≤ z ∧ z ≤ 15) := by
          have := HB.out
          rw [List.take_of_length_le (by rw [HL.out]; omega)] at this
          exact this
        by_cases hw : 32768 < wsum zs
        all_goals
          go_wp2_with (go_at_call 111; refine (weight_any A k c zs _ hs HB2.out (by omega)).mono ?_; rintro e w' ⟨rfl, rfl⟩)
          go_ret
        · exact ⟨ret_int (chk_form (by rw [HL.out]; exact hn) HB2.out hw).symm, rfl⟩
        · exact ⟨ret_int (chk_ok (by rw [HL.out]; exact hn) HB2.out (by omega)).symm, rfl⟩

set_option maxHeartbeats 400000 in
theorem rcheck_any (A : Option Addr) (n c : Nat) (zs : List Int) (w : World) (hs : Ints .i64 w A n zs) :
    Calls Tryz.prog 105 #[.slice A n c] w fun e w' => e = .returned (.int .i64 (chk zs)) ∧ w = w' := by
  
  have HL := hs.len
  by_cases hbig : 320 < n
  · go_enter Tryz.func105, Tryz.ntmps105
    go_wp2
    go_ret
    exact ⟨ret_int (chk_large (by rw [HL.out]; exact hbig)).symm, rfl⟩
  · have hn : n ≤ 320 := by omega
    go_enter Tryz.func105, Tryz.ntmps105
    go_wp2
    go_loop [3] (fun i => ∃ k : Nat, k ≤ n ∧ i = .int .i64 k ∧ Hid (∀ z ∈ zs.take k, 0 ≤ z ∧ z ≤ 15)) (fun i => n - (intOf i).toNat)
    case atStart => exact ⟨0, Nat.zero_le _, rfl, by intro z hz; simp at hz⟩
    case round =>
      obtain ⟨k, hk, rfl, HB⟩ := hrel
      by_cases h : k < n
      · obtain ⟨x, HX, hcell⟩ := hs.int h
        have hix := hs.index el_int c .i64 k h
        clear hs
        by_cases h1 : x < 0
        · go_wp2
          go_ret
          exact ⟨ret_int (chk_bad (by rw [HL.out]; exact hn) HX.out (Or.inl h1)).symm, rfl⟩
        · have h1' : 0 ≤ x := by omega
          by_cases h2 : 15 < x
          · go_wp2
            go_ret
            exact ⟨ret_int (chk_bad (by rw [HL.out]; exact hn) HX.out (Or.inr h2)).symm, rfl⟩
          · have h2' : x ≤ 15 := by omega
            go_wp2
            go_round
            case rel => exact ⟨k + 1, by omega, by go_num, take_stepH HX.out HB.out ⟨h1', h2'⟩⟩
            case measure => simp [intOf]; omega
      · obtain rfl : k = n := by omega
        have HB2 : Hid (∀ z ∈ zs, 0 ≤ z ∧ z ≤ 15) := by
          have := HB.out
          rw [List.take_of_length_le (by rw [HL.out]; omega)] at this
          exact this
        by_cases hw : 32768 < wsum zs
        all_goals
          go_wp2_with (go_at_call 106; refine (share_any A k c zs _ hs HB2.out (by omega)).mono ?_; rintro e w' ⟨rfl, rfl⟩)
          go_ret
        · exact ⟨ret_int (chk_form (by rw [HL.out]; exact hn) HB2.out hw).symm, rfl⟩
        · exact ⟨ret_int (chk_ok (by rw [HL.out]; exact hn) HB2.out (by omega)).symm, rfl⟩

set_option maxHeartbeats 400000 in
theorem full_any (A : Option Addr) (n c : Nat) (zs : List Int) (w : World) (hs : Ints .i64 w A n zs) :
    Calls Tryz.prog 100 #[.slice A n c] w fun e w' => e = .returned (.bool (fullB zs)) ∧ w = w' := by
  have HL := hs.len
  by_cases h : chk zs = 0
  · obtain ⟨hl, hb, hw⟩ := chk_zero h
    have hn : n ≤ 320 := by rw [← HL.out]; exact hl
    have HB := Lib.hid hb
    have HE : Hid (fullB zs = (wsum zs == 32768)) := by simp [Hid, fullB, h]
    have hd : (chk zs == 0) = true := by simp [h]
    clear hb hl h
    go_enter Tryz.func100, Tryz.ntmps100
    go_wp2_with (first
      | (go_at_call 87; refine (check_any A n c zs _ hs).mono ?_; rintro e w' ⟨rfl, rfl⟩)
      | (go_at_call 111; refine (weight_any A n c zs _ hs HB.out (by omega)).mono ?_; rintro e w' ⟨rfl, rfl⟩))
    go_ret
    exact ⟨by rw [HE.out]; rfl, rfl⟩
  · have hd : (chk zs == 0) = false := by simp [h]
    have HE : Hid (fullB zs = false) := by simp [Hid, fullB, h]
    clear h
    go_enter Tryz.func100, Tryz.ntmps100
    go_wp2_with (go_at_call 87; refine (check_any A n c zs _ hs).mono ?_; rintro e w' ⟨rfl, rfl⟩)
    go_ret
    exact ⟨by rw [HE.out]; rfl, rfl⟩

set_option maxHeartbeats 400000 in
theorem rfull_any (A : Option Addr) (n c : Nat) (zs : List Int) (w : World) (hs : Ints .i64 w A n zs) :
    Calls Tryz.prog 80 #[.slice A n c] w fun e w' => e = .returned (.bool (fullB zs)) ∧ w = w' := by
  have HL := hs.len
  by_cases h : chk zs = 0
  · obtain ⟨hl, hb, hw⟩ := chk_zero h
    have hn : n ≤ 320 := by rw [← HL.out]; exact hl
    have HB := Lib.hid hb
    have HE : Hid (fullB zs = (wsum zs == 32768)) := by simp [Hid, fullB, h]
    have hd : (chk zs == 0) = true := by simp [h]
    clear hb hl h
    go_enter Tryz.func80, Tryz.ntmps80
    go_wp2_with (first
      | (go_at_call 105; refine (rcheck_any A n c zs _ hs).mono ?_; rintro e w' ⟨rfl, rfl⟩)
      | (go_at_call 106; refine (share_any A n c zs _ hs HB.out (by omega)).mono ?_; rintro e w' ⟨rfl, rfl⟩))
    go_ret
    exact ⟨by rw [HE.out]; rfl, rfl⟩
  · have hd : (chk zs == 0) = false := by simp [h]
    have HE : Hid (fullB zs = false) := by simp [Hid, fullB, h]
    clear h
    go_enter Tryz.func80, Tryz.ntmps80
    go_wp2_with (go_at_call 105; refine (rcheck_any A n c zs _ hs).mono ?_; rintro e w' ⟨rfl, rfl⟩)
    go_ret
    exact ⟨by rw [HE.out]; rfl, rfl⟩

end Go.Proofs.YtolcdlopgbgilaaGreatDoor

/-! Text HuffB. -/
namespace Go.Proofs.YtolcdlopgbgilaaGreatDoor
open Go.RowKit Go.Dray

/-- How many of the first i lengths are n. -/
def cnt (zs : List Int) (n : Int) (i : Nat) : Nat := (zs.take i).countP (· == n)
/-- The number behind the last row of length n. -/
def rowAt (zs : List Int) : Nat → Int
  | 0 => 0
  | n + 1 => 2 * rowAt zs n + cnt zs (n + 1 : Nat) zs.length
/-- A symbol's row. -/
def codeOf (zs : List Int) (i : Nat) : Int := if zs.getD i 0 ≤ 0 then 0 else 2 * rowAt zs ((zs.getD i 0).toNat - 1) + cnt zs (zs.getD i 0) i
/-- The rows told up to length K, and of length K + 1 those below s. -/
def part (zs : List Int) (K s : Nat) (j : Nat) : Int := if (1 ≤ zs.getD j 0 ∧ zs.getD j 0 ≤ K) ∨ (zs.getD j 0 = K + 1 ∧ j < s) then codeOf zs j else 0

theorem cnt_le (zs : List Int) (n : Int) (i : Nat) : cnt zs n i ≤ i := by
  unfold cnt
  exact Nat.le_trans List.countP_le_length (List.length_take_le _ _)
theorem cnt_le' (zs : List Int) (n : Int) (i : Nat) : cnt zs n i ≤ zs.length := by
  unfold cnt
  refine Nat.le_trans List.countP_le_length ?_
  rw [List.length_take]; omega
theorem cnt_succ {zs : List Int} {i : Nat} {x : Int} (h : zs[i]? = some x) (n : Int) : cnt zs n (i + 1) = cnt zs n i + if x = n then 1 else 0 := by
  have hk : i < zs.length := (List.getElem?_eq_some_iff.1 h).1
  have hx : zs[i] = x := (List.getElem?_eq_some_iff.1 h).2
  unfold cnt
  rw [List.take_succ_eq_append_getElem hk, hx, List.countP_append]
  simp [List.countP_cons]
theorem cnt_zero (zs : List Int) (n : Int) : cnt zs n 0 = 0 := by simp [cnt]
theorem rowAt_bd (zs : List Int) (hl : zs.length ≤ 320) (n : Nat) : 0 ≤ rowAt zs n ∧ rowAt zs n ≤ 320 * 2 ^ n - 320 := by
  induction n with
  | zero => simp [rowAt]
  | succ n ih =>
    have h := cnt_le' zs (n + 1 : Nat) zs.length
    simp only [rowAt, Int.pow_succ]
    omega
theorem pow2_le15 (n : Nat) (h : n ≤ 15) : (2 : Int) ^ n ≤ 32768 := by
  have := Nat.pow_le_pow_right (n := 2) (by omega) h
  have e : ((2 ^ n : Nat) : Int) = (2 : Int) ^ n := by simp
  rw [← e]
  omega
theorem rowAt_bd15 (zs : List Int) (hl : zs.length ≤ 320) (n : Nat) (hn : n ≤ 15) : 0 ≤ rowAt zs n ∧ rowAt zs n ≤ 10485760 := by
  have h := rowAt_bd zs hl n
  have h2 := pow2_le15 n hn
  omega

theorem getD_of {zs : List Int} {i : Nat} {x : Int} (h : zs[i]? = some x) : zs.getD i 0 = x := by simp [List.getD, h]

theorem part_zero (zs : List Int) (j : Nat) : part zs 0 0 j = 0 := by
  unfold part
  rw [if_neg (by omega)]
theorem part_next (zs : List Int) (K j : Nat) (hj : j < zs.length) : part zs K zs.length j = part zs (K + 1) 0 j := by
  unfold part
  by_cases h : (1 ≤ zs.getD j 0 ∧ zs.getD j 0 ≤ K) ∨ (zs.getD j 0 = K + 1 ∧ j < zs.length)
  · rw [if_pos h, if_pos (by omega)]
  · rw [if_neg h, if_neg (by omega)]
theorem part_hit {zs : List Int} {K s : Nat} {x : Int} (h : zs[s]? = some x) (hx : x = K + 1) (j : Nat) : (if j = s then 2 * rowAt zs K + cnt zs (K + 1) s else part zs K s j) = part zs K (s + 1) j := by
  have hg := getD_of h
  by_cases hj : j = s
  · subst hj
    rw [if_pos rfl]
    unfold part
    rw [if_pos (by omega)]
    unfold codeOf
    rw [hg, if_neg (by omega), hx, show ((K : Int) + 1).toNat - 1 = K from by omega]
  · rw [if_neg hj]
    unfold part
    by_cases h : (1 ≤ zs.getD j 0 ∧ zs.getD j 0 ≤ K) ∨ (zs.getD j 0 = K + 1 ∧ j < s)
    · rw [if_pos h, if_pos (by omega)]
    · rw [if_neg h, if_neg (by omega)]
theorem part_miss {zs : List Int} {K s : Nat} {x : Int} (h : zs[s]? = some x) (hx : x ≠ K + 1) (j : Nat) : part zs K s j = part zs K (s + 1) j := by
  have hg := getD_of h
  unfold part
  by_cases h : (1 ≤ zs.getD j 0 ∧ zs.getD j 0 ≤ K) ∨ (zs.getD j 0 = K + 1 ∧ j < s)
  · rw [if_pos h, if_pos (by omega)]
  · rw [if_neg h, if_neg]
    intro h'
    by_cases hj : j = s
    · subst hj; omega
    · omega
theorem part_all {zs : List Int} (hb : ∀ z ∈ zs, 0 ≤ z ∧ z ≤ 15) (j : Nat) (hj : j < zs.length) : part zs 15 0 j = codeOf zs j := by
  have := hb zs[j] (List.getElem_mem hj)
  have hg : zs.getD j 0 = zs[j] := by simp [List.getD, hj]
  unfold part
  by_cases h : (1 ≤ zs.getD j 0 ∧ zs.getD j 0 ≤ (15 : Nat)) ∨ (zs.getD j 0 = (15 : Nat) + 1 ∧ j < 0)
  · rw [if_pos h]
  · rw [if_neg h]
    unfold codeOf
    rw [if_pos (by omega)]

def codesV (zs : List Int) : List Value := (tab zs.length (codeOf zs)).map (Value.int .i64)

/-- Codes hands back a new slice of the rows. -/
def CodesPost (zs : List Int) (n : Nat) (w : World) (e : Ending) (w' : World) : Prop :=
  ∃ A c, e = .returned (.tuple #[.slice A n c, .int .i64 0]) ∧ Own w' w.heap.size 3 1 A n c (codesV zs) ∧ Upd [] w w'

set_option maxHeartbeats 400000 in
theorem codes_err (A : Option Addr) (n c : Nat) (zs : List Int) (w : World) (hs : Ints .i64 w A n zs) (h : chk zs ≠ 0) :
    Calls Tryz.prog 58 #[.slice A n c] w fun e w' => e = .returned (.tuple #[.slice none 0 0, .int .i64 (chk zs)]) ∧ w = w' := by
  have hd : (chk zs != 0) = true := by simp [h]
  clear h
  go_enter Tryz.func58, Tryz.ntmps58
  go_wp2_with (go_at_call 87; refine (check_any A n c zs _ hs).mono ?_; rintro e w' ⟨rfl, rfl⟩)
  go_ret2
  exact ⟨rfl, rfl⟩

set_option maxHeartbeats 400000 in
theorem codes_ok (A : Option Addr) (n c : Nat) (zs : List Int) (w : World) (hs : Ints .i64 w A n zs) (h : chk zs = 0) :
    Calls Tryz.prog 58 #[.slice A n c] w (CodesPost zs n w) := by
  obtain ⟨hl, hb, hw⟩ := chk_zero h
  have HL := hs.len
  have hn : n ≤ 320 := by rw [← HL.out]; exact hl
  have HB := Lib.hid hb
  have HE := Lib.hid h
  have HLL := Lib.hid hl
  have hd : (chk zs != 0) = false := by simp [h]
  clear hb hl h hw
  go_enter Tryz.func58, Tryz.ntmps58
  go_wp2_with (first
    | (go_at_call 87; refine (check_any A n c zs _ hs).mono ?_; rintro e w' ⟨rfl, rfl⟩)
    | (at_make; refine wpList_mk rfl rfl w.heap.size el_int n rfl rfl rfl rfl rfl (by omega) (by simp only [maxLen]; omega) (Nat.le_refl _) ?_; intro A1 w1 hown1 hu1 hob1))
  go_loopw [6, 18] (fun r k wr => ∃ K : Nat, K ≤ 15 ∧ k = .int .i64 K ∧ r = .int .i64 (rowAt zs K) ∧ Own wr w.heap.size 3 1 A1 n n ((tab n (part zs K 0)).map (Value.int .i64)) ∧ Upd [] w wr) (fun _ k _ => 15 - (intOf k).toNat)
  case atStart =>
    refine ⟨0, by omega, rfl, rfl, ?_, hu1⟩
    rw [tab_congr (fun j _ => part_zero zs j), ← tab_rep, List.map_replicate]
    exact hown1
  case round =>
    obtain ⟨K, hK, rfl, rfl, hown, hu⟩ := hrel
    have hrb := rowAt_bd15 zs HLL.out K hK
    by_cases hlt : K < 15
    · go_wp2
      obtain ⟨wo, rfl⟩ : ∃ wo : World, wo = wr := ⟨_, rfl⟩
      go_loopw [6, 25] (fun r k wr => ∃ s : Nat, s ≤ n ∧ k = .int .i64 s ∧ r = .int .i64 (2 * rowAt zs K + cnt zs (K + 1) s) ∧ Own wr w.heap.size 3 1 A1 n n ((tab n (part zs K s)).map (Value.int .i64)) ∧ Upd [] w wr) (fun _ k _ => n - (intOf k).toNat)
      case atStart => exact ⟨0, by omega, rfl, by rw [cnt_zero]; go_num, hown, hu⟩
      case round =>
        obtain ⟨s, hs', rfl, rfl, hown2, hu2⟩ := hrel
        have hcb := cnt_le zs (K + 1) s
        clear hown hu hown1 hu1
        by_cases hsn : s < n
        · have hsr : Ints .i64 wr A n zs := hs.upd hu2 (by simp)
          obtain ⟨x, HX, hcell⟩ := hsr.int hsn
          have hix := hsr.index el_int c .i64 s hsn
          obtain ⟨y, _, hcell1⟩ := (Ints.ofOwn hown2).int hsn
          have hix1 := (Ints.ofOwn hown2).index el_int n .i64 s hsn
          have hfz := hown2.frozen (by omega) s
          have hset := hown2.set (k := s) (by omega) (.int .i64 (2 * rowAt zs K + cnt zs (K + 1) s))
          have hus := hu2.setCell (p := ⟨bl A1, ofs A1 + s, none⟩) (Or.inr (hown2.base (hown2.obl (by omega))).1) (.int .i64 (2 * rowAt zs K + cnt zs (K + 1) s))
          clear hsr hs
          by_cases hx : x = K + 1
          · have hxd : (x == (K : Int) + 1) = true := by simp [hx]
            have HXE := Lib.hid hx
            clear hx
            go_wp2
            go_roundw
            case rel =>
              refine ⟨s + 1, by omega, by go_num, ?_, ?_, hus⟩
              · rw [cnt_succ HX.out, if_pos HXE.out]; go_num
              · rw [← List.map_set, tab_set, tab_congr (fun j _ => part_hit HX.out HXE.out j)] at hset
                exact hset
            case measure => simp [intOf]; omega
          · have hxd : (x == (K : Int) + 1) = false := by simp [hx]
            have HXE := Lib.hid hx
            clear hx hset hus
            go_wp2
            go_roundw
            case rel =>
              refine ⟨s + 1, by omega, by go_num, ?_, ?_, hu2⟩
              · rw [cnt_succ HX.out, if_neg HXE.out]; go_num
              · rw [← tab_congr (fun j _ => part_miss HX.out HXE.out j)]
                exact hown2
            case measure => simp [intOf]; omega
        · obtain rfl : s = n := by omega
          go_wp2
          go_roundw
          case rel =>
            refine ⟨K + 1, by omega, by go_num, ?_, ?_, hu2⟩
            · rw [rowAt, HL.out]; go_num
            · rw [← tab_congr (fun j hj => part_next zs K j (by rw [HL.out]; exact hj)), HL.out]
              exact hown2
          case measure => simp [intOf]; omega
    · obtain rfl : K = 15 := by omega
      go_wp2
      go_ret2
      refine ⟨A1, n, rfl, ?_, hu⟩
      unfold codesV
      rw [HL.out, ← tab_congr (fun j hj => part_all HB.out j (by rw [HL.out]; exact hj))]
      exact hown

/-- The reference's out: told below length N, and of length N below s; the other lengths still stand. -/
def rpart (zs : List Int) (N s : Nat) (j : Nat) : Int := if zs.getD j 0 < N ∨ (zs.getD j 0 = N ∧ j < s) then codeOf zs j else zs.getD j 0
/-- The reference's next. -/
def rnx (zs : List Int) : Nat → Nat → Int
  | 0, _ => 0
  | N + 1, s => 2 * rowAt zs N + cnt zs (N + 1) s

theorem rnx_bd (zs : List Int) (hl : zs.length ≤ 320) (N s : Nat) (hn : N ≤ 15) : 0 ≤ rnx zs N s ∧ rnx zs N s ≤ 20971840 := by
  match N with
  | 0 => simp [rnx]
  | N + 1 =>
    have h := rowAt_bd15 zs hl N (by omega)
    have h2 := cnt_le' zs (N + 1) s
    simp only [rnx]
    omega
theorem rnx_start (zs : List Int) (N : Nat) : 2 * rnx zs N zs.length = rnx zs (N + 1) 0 := by
  match N with
  | 0 => simp [rnx, rowAt, cnt_zero]
  | N + 1 => rw [rnx, rnx, rowAt, cnt_zero]; simp
theorem rnx_hit {zs : List Int} {N s : Nat} {x : Int} (h : zs[s]? = some x) (hx : x = N) (hN : 0 < N) : rnx zs N (s + 1) = rnx zs N s + 1 := by
  match N, hN with
  | N + 1, _ => rw [rnx, rnx, cnt_succ h, if_pos (by omega)]; omega
theorem rnx_miss {zs : List Int} {N s : Nat} {x : Int} (h : zs[s]? = some x) (hx : x ≠ N) : rnx zs N (s + 1) = rnx zs N s := by
  match N with
  | 0 => simp [rnx]
  | N + 1 => rw [rnx, rnx, cnt_succ h, if_neg (by omega)]; omega
theorem rnx_zero {zs : List Int} {N s : Nat} (h : N ≤ 0) : rnx zs N s = 0 := by
  match N, h with
  | 0, _ => simp [rnx]
theorem rpart_hit {zs : List Int} {N s : Nat} {x : Int} (h : zs[s]? = some x) (hx : x = N) (v : Int) (hv : v = if 0 < N then rnx zs N s else 0) (j : Nat) : (if j = s then v else rpart zs N s j) = rpart zs N (s + 1) j := by
  have hg := getD_of h
  by_cases hj : j = s
  · subst hj
    rw [if_pos rfl]
    unfold rpart
    rw [if_pos (by omega)]
    unfold codeOf
    rw [hg, hx, hv]
    match N with
    | 0 => simp
    | N + 1 =>
      rw [if_pos (by omega), if_neg (by omega), rnx, show (((N + 1 : Nat) : Int)).toNat - 1 = N from by omega]
      rfl
  · rw [if_neg hj]
    unfold rpart
    by_cases h : zs.getD j 0 < N ∨ (zs.getD j 0 = N ∧ j < s)
    · rw [if_pos h, if_pos (by omega)]
    · rw [if_neg h, if_neg (by omega)]
theorem rpart_miss {zs : List Int} {N s : Nat} {x : Int} (h : zs[s]? = some x) (hx : x ≠ N) (j : Nat) : rpart zs N s j = rpart zs N (s + 1) j := by
  have hg := getD_of h
  unfold rpart
  by_cases h : zs.getD j 0 < N ∨ (zs.getD j 0 = N ∧ j < s)
  · rw [if_pos h, if_pos (by omega)]
  · rw [if_neg h, if_neg]
    intro h'
    by_cases hj : j = s
    · subst hj; omega
    · omega
theorem rpart_next (zs : List Int) (N j : Nat) (hj : j < zs.length) : rpart zs N zs.length j = rpart zs (N + 1) 0 j := by
  unfold rpart
  by_cases h : zs.getD j 0 < N ∨ (zs.getD j 0 = N ∧ j < zs.length)
  · rw [if_pos h, if_pos (by omega)]
  · rw [if_neg h, if_neg (by omega)]
theorem rpart_start {zs : List Int} (hb : ∀ z ∈ zs, 0 ≤ z ∧ z ≤ 15) (j : Nat) (hj : j < zs.length) : rpart zs 0 0 j = zs.getD j 0 := by
  have := hb zs[j] (List.getElem_mem hj)
  have hg : zs.getD j 0 = zs[j] := by simp [List.getD, hj]
  unfold rpart
  rw [if_neg (by omega)]
theorem rpart_all {zs : List Int} (hb : ∀ z ∈ zs, 0 ≤ z ∧ z ≤ 15) (j : Nat) (hj : j < zs.length) : rpart zs 16 0 j = codeOf zs j := by
  have := hb zs[j] (List.getElem_mem hj)
  have hg : zs.getD j 0 = zs[j] := by simp [List.getD, hj]
  unfold rpart
  rw [if_pos (by omega)]

set_option maxHeartbeats 400000 in
theorem rcodes_err (A : Option Addr) (n c : Nat) (zs : List Int) (w : World) (hs : Ints .i64 w A n zs) (h : chk zs ≠ 0) :
    Calls Tryz.prog 79 #[.slice A n c] w fun e w' => e = .returned (.tuple #[.slice none 0 0, .int .i64 (chk zs)]) ∧ w = w' := by
  have hd : (chk zs != 0) = true := by simp [h]
  clear h
  go_enter Tryz.func79, Tryz.ntmps79
  go_wp2_with (go_at_call 105; refine (rcheck_any A n c zs _ hs).mono ?_; rintro e w' ⟨rfl, rfl⟩)
  go_ret2
  exact ⟨rfl, rfl⟩

set_option maxHeartbeats 400000 in
theorem rcodes_ok (A : Option Addr) (n c : Nat) (zs : List Int) (w : World) (hs : Ints .i64 w A n zs) (h : chk zs = 0) :
    Calls Tryz.prog 79 #[.slice A n c] w (CodesPost zs n w) := by
  obtain ⟨hl, hb, hw⟩ := chk_zero h
  have HL := hs.len
  have hn : n ≤ 320 := by rw [← HL.out]; exact hl
  have HB := Lib.hid hb
  have HE := Lib.hid h
  have HLL := Lib.hid hl
  have hd : (chk zs != 0) = false := by simp [h]
  clear hb hl h hw
  go_enter Tryz.func79, Tryz.ntmps79
  go_wp2_with (first
    | (go_at_call 105; refine (rcheck_any A n c zs _ hs).mono ?_; rintro e w' ⟨rfl, rfl⟩)
    | (at_builtin; refine wpList_app rfl rfl el_int rfl (Own.nil w w.heap.size _ _) rfl hs (ints_one _ _) (by simp only [maxLen]; omega) (by omega) (Nat.le_refl _) ?_; intro A1 c1 w1 hown1 hu1 hfr1; simp only [Nat.zero_add, List.nil_append] at hown1 ⊢))
  go_loopw [6, 7] (fun r k wr => ∃ N : Nat, N ≤ 16 ∧ k = .int .i64 N ∧ r = .int .i64 (rnx zs N 0) ∧ Own wr w.heap.size 3 1 A1 n c1 ((tab n (rpart zs N 0)).map (Value.int .i64)) ∧ Upd [] w wr) (fun _ k _ => 16 - (intOf k).toNat)
  case atStart =>
    refine ⟨0, by omega, rfl, rfl, ?_, hu1.mono (by simp [ob])⟩
    rw [tab_congr (fun j hj => rpart_start HB.out j (by rw [HL.out]; exact hj)), ← HL.out, ← tab_of]
    rw [← HL.out] at hown1
    exact hown1
  case round =>
    obtain ⟨N, hN, rfl, rfl, hown, hu⟩ := hrel
    by_cases hlt : N ≤ 15
    · have hrb := rnx_bd zs HLL.out N 0 hlt
      go_wp2
      obtain ⟨wo, rfl⟩ : ∃ wo : World, wo = wr := ⟨_, rfl⟩
      go_loopw [6, 8] (fun r k wr => ∃ s : Nat, s ≤ n ∧ k = .int .i64 s ∧ r = .int .i64 (rnx zs N s) ∧ Own wr w.heap.size 3 1 A1 n c1 ((tab n (rpart zs N s)).map (Value.int .i64)) ∧ Upd [] w wr) (fun _ k _ => n - (intOf k).toNat)
      case atStart => exact ⟨0, by omega, rfl, rfl, hown, hu⟩
      case round =>
        obtain ⟨s, hs', rfl, rfl, hown2, hu2⟩ := hrel
        have hcb := rnx_bd zs HLL.out N s hlt
        clear hown hu hown1 hu1
        by_cases hsn : s < n
        · have hsr : Ints .i64 wr A n zs := hs.upd hu2 (by simp)
          obtain ⟨x, HX, hcell⟩ := hsr.int hsn
          have hix := hsr.index el_int c .i64 s hsn
          obtain ⟨y, _, hcell1⟩ := (Ints.ofOwn hown2).int hsn
          have hix1 := (Ints.ofOwn hown2).index el_int c1 .i64 s hsn
          have hfz := hown2.frozen (by omega) s
          have hset := fun v => hown2.set (k := s) (by omega) v
          have hob := (hown2.base (hown2.obl (by omega))).1
          have HSET := Lib.hid hset
          clear hsr hs hset
          by_cases hx : x = N
          · have hxd : (x != (N : Int)) = false := by simp [hx]
            have HXE := Lib.hid hx
            clear hx
            by_cases hN0 : 0 < N
            · go_wp2
              go_roundw
              case rel =>
                refine ⟨s + 1, by omega, by go_num, ?_, ?_, hu2.put hob _⟩
                · rw [rnx_hit HX.out HXE.out hN0]
                · have h2 := HSET.out (.int .i64 (rnx zs N s))
                  rw [← List.map_set, tab_set, tab_congr (fun j _ => rpart_hit HX.out HXE.out (rnx zs N s) (by rw [if_pos hN0]) j)] at h2
                  exact h2
              case measure => simp [intOf]; omega
            · go_wp2
              go_roundw
              case rel =>
                refine ⟨s + 1, by omega, by go_num, ?_, ?_, (hu2.put hob _).put hob _⟩
                · rw [rnx_zero (by omega), rnx_zero (by omega)]
                · have h2 := (HSET.out (.int .i64 (rnx zs N s))).set (k := s) (by omega) (.int .i64 0)
                  rw [List.set_set, ← List.map_set, tab_set, tab_congr (fun j _ => rpart_hit HX.out HXE.out 0 (by rw [if_neg hN0]) j)] at h2
                  exact h2
              case measure => simp [intOf]; omega
          · have hxd : (x != (N : Int)) = true := by simp [hx]
            have HXE := Lib.hid hx
            clear hx
            go_wp2
            go_roundw
            case rel =>
              refine ⟨s + 1, by omega, by go_num, ?_, ?_, hu2⟩
              · rw [rnx_miss HX.out HXE.out]
              · rw [← tab_congr (fun j _ => rpart_miss HX.out HXE.out j)]
                exact hown2
            case measure => simp [intOf]; omega
        · obtain rfl : s = n := by omega
          go_wp2
          go_roundw
          case rel =>
            refine ⟨N + 1, by omega, by go_num, ?_, ?_, hu2⟩
            · rw [← rnx_start, HL.out]
            · rw [← tab_congr (fun j hj => rpart_next zs N j (by rw [HL.out]; exact hj)), HL.out]
              exact hown2
          case measure => simp [intOf]; omega
    · obtain rfl : N = 16 := by omega
      go_wp2
      go_ret2
      refine ⟨A1, c1, rfl, ?_, hu⟩
      unfold codesV
      rw [HL.out, ← tab_congr (fun j hj => rpart_all HB.out j (by rw [HL.out]; exact hj))]
      exact hown

end Go.Proofs.YtolcdlopgbgilaaGreatDoor

/-! Text HuffW. -/
namespace Go.Proofs.YtolcdlopgbgilaaGreatDoor
open Go.RowKit Go.Dray


/-- bytes.Clone hands back a new slice of the same bytes. -/
def ClonePost (n : Nat) (xs : List Value) (w : World) (e : Ending) (w' : World) : Prop :=
  ∃ A c, e = .returned (.slice A n c) ∧ Own w' w.heap.size 5 1 A n c xs ∧ Upd [] w w'

set_option maxHeartbeats 400000 in
theorem clone_any (A : Option Addr) (n c : Nat) (zs : List Int) (w : World) (hs : Ints .u8 w A n zs) (hn : n ≤ 100000000000000) :
    Calls Tryz.prog 67 #[.slice A n c] w (ClonePost n (zs.map (Value.int .u8)) w) := by
  have kn := fun (W : World) => Lib.run_eql_slice_nil (P := Tryz.prog) W 22 5 A n c 0 0 Tryz.underlying22
  have HL := hs.len
  rcases A with _ | a
  · have h0 : n = 0 := by
      rcases Nat.eq_zero_or_pos n with h | h
      · exact h
      · have := Seg.at_ hs h; cases this
    subst h0
    have hz : zs = [] := List.eq_nil_of_length_eq_zero HL.out
    subst hz
    simp only [Option.isNone_none] at kn
    go_enter Tryz.func67, Tryz.ntmps67
    go_wp2
    go_ret
    exact ⟨none, 0, rfl, Own.nil _ _ _ _, Upd.refl _ _⟩
  · simp only [Option.isNone_some] at kn
    go_enter Tryz.func67, Tryz.ntmps67
    go_wp2_with (at_builtin; refine wpList_app rfl rfl el_byte rfl (Own.empty w w.heap.size _ (Nat.le_refl _)) rfl (Seg.upd hs ((Upd.refl [] w).alloc _) (by omega) (by simp)) (ints_one _ _) (by simp only [maxLen]; omega) (by omega) (by simp) ?_; intro A1 c1 w1 hown1 hu1 hfr1; simp only [Nat.zero_add, List.nil_append] at hown1 ⊢)
    go_ret
    exact ⟨A1, c1, rfl, hown1, ((Upd.refl [] w).alloc _).then hu1 (by intro b h; right; simp [ob] at h; omega)⟩

/-- A writer at block g whose bits are bs; its bytes lie at A. -/
def Wr (w : World) (B g : Nat) (A : Option Addr) (bs : List Bool) : Prop :=
  ∃ n c, Blk w g 98 #[.slice A n c, .int .i64 bs.length] ∧ Own w B 5 1 A n c ((pack bs).map (Value.int .u8))

theorem Wr.base {w : World} {B g : Nat} {A : Option Addr} {bs : List Bool} (h : Wr w B g A bs) {k : Nat} (hk : ob A = some k) : B ≤ k ∧ k < w.heap.size := by
  obtain ⟨n, c, hb, hown⟩ := h
  exact hown.base hk
theorem Wr.thenUpd {w0 w w' : World} {B g : Nat} {A : Option Addr} {bs : List Bool} (h : Wr w B g A bs) (h0 : Upd [] w0 w) (hu : Upd [some g, ob A] w w') (hB : w0.heap.size ≤ B) (hg : w0.heap.size ≤ g) : Upd [] w0 w' :=
  h0.then hu fun b hb => by
    simp at hb
    rcases hb with rfl | hb
    · exact Or.inr hg
    · have := (h.base hb.symm).1; right; omega
theorem Wr.upd {w w' : World} {B g : Nat} {A : Option Addr} {bs : List Bool} {L : List (Option Nat)} (h : Wr w B g A bs) (hu : Upd L w w') (hg : some g ∉ L) (hA : ∀ k, ob A = some k → some k ∉ L) : Wr w' B g A bs := by
  obtain ⟨n, c, hb, hown⟩ := h
  exact ⟨n, c, hb.upd hu hg, hown.upd hu hA⟩

theorem Wr.monoB {w : World} {B B' g : Nat} {A : Option Addr} {bs : List Bool} (h : Wr w B g A bs) (hB : B' ≤ B) : Wr w B' g A bs := by
  obtain ⟨n, c, hb, hown⟩ := h
  exact ⟨n, c, hb, hown.monoB hB⟩
theorem Wr.drewN {w : World} {B g : Nat} {A : Option Addr} {bs : List Bool} (h : Wr w B g A bs) (q : Nat) : Wr (w.drewN q) B g A bs := h
/-- What a writer does leaves other rows and blocks alone. -/
theorem Own.updWr {w w' : World} {B B' g : Nat} {e : TypeId} {sz : Nat} {A WA : Option Addr} {n c : Nat} {xs : List Value} {bs : List Bool} (h : Own w B e sz A n c xs) (hw : Wr w B' g WA bs) (hu : Upd [some g, ob WA] w w')
    (h1 : e ≠ 5) (h2 : e ≠ 98) : Own w' B e sz A n c xs := by
  obtain ⟨n', c', hb, hown⟩ := hw
  refine h.upd hu fun k hk hm => ?_
  simp at hm
  rcases hm with hm | hm
  · subst hm; exact h.neBlk hb h2 hk
  · exact h.neOwn hown h1 hk hm.symm
theorem Blk.updWr {w w' : World} {B' g k : Nat} {t : TypeId} {WA : Option Addr} {cs : Array Value} {bs : List Bool} (h : Blk w k t cs) (hw : Wr w B' g WA bs) (hu : Upd [some g, ob WA] w w')
    (h1 : t ≠ 5) (h2 : t ≠ 98) : Blk w' k t cs := by
  obtain ⟨n', c', hb, hown⟩ := hw
  refine h.upd hu fun hm => ?_
  simp at hm
  rcases hm with hm | hm
  · subst hm; exact h.ne hb h2 rfl
  · exact hown.neBlk h (fun e => h1 e.symm) hm.symm

/-- What writing leaves: the writer, with its bits; nothing else has changed. -/
def WrPost (w : World) (B g : Nat) (A : Option Addr) (bs : List Bool) (e : Ending) (w' : World) : Prop :=
  e = .returned (.tuple #[]) ∧ ∃ A', Wr w' B g A' bs ∧ Upd [some g, ob A] w w' ∧ Fresh w A A'

set_option maxHeartbeats 400000 in
theorem bit_new (w : World) (B g n c : Nat) (A : Option Addr) (bs : List Bool) (v : Int) (hm : bs.length % 8 = 0) (hl : bs.length ≤ 1000000000000) (hB : B ≤ w.heap.size)
    (hb : Blk w g 98 #[.slice A n c, .int .i64 bs.length]) (hown : Own w B 5 1 A n c ((pack bs).map (Value.int .u8))) :
    Calls Tryz.prog 55 #[.pointer (some ⟨g, 0, none⟩), .int .i64 v] w (WrPost w B g A (bs ++ [low v])) := by
  have hnl := hown.len
  rw [List.length_map, pack_len] at hnl
  have hn : n ≤ 1000000000000 := by omega
  have hn1 : 0 < bs.length → 1 ≤ n := by omega
  have HN := Lib.hid hnl
  have HM := Lib.hid hm
  clear hnl
  have hc0 := hb.cell 0
  have hc1 := hb.cell 1
  have hf0 := hb.frozen 0
  have hf1 := hb.frozen 1
  simp at hc0 hc1
  obtain ⟨N, hN⟩ : ∃ N : Nat, N = bs.length := ⟨_, rfl⟩
  rw [← hN] at hm hl hc1 hn1
  have hmd : ((N : Int) % 8 == 0) = true := by simp; omega
  have HNN := Lib.hid hN
  clear hN hm hn1
  go_enter Tryz.func55, Tryz.ntmps55
  go_wp2_with (at_builtin; refine wpList_app rfl rfl el_byte rfl (hown.alloc _) rfl (Seg.one _ _ _) (by simp [Value.oneCell']) (by simp only [maxLen]; omega) (by omega) (by simp; omega) ?_; intro A1 c1 w1 hown1 hu1 hfr1; have hb1 := (hb.alloc _).upd hu1 (by have := hown.neBlk hb (by decide); simp; exact fun h => this h.symm); have hc0' := hb1.cell 0; have hf0' := hb1.frozen 0; simp at hc0')
  obtain ⟨w2, hw2⟩ : ∃ w2 : World, w2 = w1.setCell ⟨g, 0, none⟩ (.slice A1 (n + 1) c1) := ⟨_, rfl⟩
  rw [← hw2]
  have hb2 : Blk w2 g 98 #[.slice A1 (n + 1) c1, .int .i64 bs.length] := by rw [hw2]; exact hb1.set 0 _
  have hown2 : Own w2 B 5 1 A1 (n + 1) c1 (((pack bs) ++ [0]).map (Value.int .u8)) := by rw [hw2, List.map_append]; exact hown1.far (hown1.neBlk hb1 (by decide)) _
  have hu2 : Upd [some g, ob A] w w2 := by
    rw [hw2]
    exact (((Upd.refl _ w).alloc _).then hu1 (by intro b h; left; simp at h ⊢; exact Or.inr h)).putIn (by simp) _
  have HW := Lib.hid hw2
  clear hw2 hb1 hown1 hu1 hc0' hf0' hc0 hc1 hf0 hf1 hb hown
  have hc0 := hb2.cell 0
  have hc1 := hb2.cell 1
  have hf1 := hb2.frozen 1
  simp at hc0 hc1
  rw [← HNN.out] at hc1
  obtain ⟨y, HY, hcell⟩ := (Ints.ofOwn hown2).int (i := n) (by omega)
  have hix := (Ints.ofOwn hown2).index el_byte c1 .i64 n (by omega)
  have hfz := hown2.frozen (by omega) n
  go_region
  obtain ⟨T, hT⟩ : ∃ T : Int, T = bits .or .u8 y (bits .and .i64 v 1 % 256 * 2 ^ (N % 8) % 256) := ⟨_, rfl⟩
  obtain ⟨w3, hw3⟩ : ∃ w3 : World, w3 = (w2.setCell ⟨bl A1, ofs A1 + n, none⟩ (.int .u8 T)).drew := ⟨_, rfl⟩
  rw [← hT, ← hw3]
  have hne : ob A1 ≠ some g := hown2.neBlk hb2 (by decide)
  have hob := hown2.obl (by omega)
  have hb3 : Blk w3 g 98 #[.slice A1 (n + 1) c1, .int .i64 bs.length] := by rw [hw3]; exact (hb2.far (p := ⟨bl A1, ofs A1 + n, none⟩) (by intro h; rw [hob] at hne; exact hne (by rw [h])) _).drew
  have hown3 := (hown2.set (k := n) (by omega) (.int .u8 T)).drew
  rw [← hw3, ← List.map_set] at hown3
  have hu3 : Upd [some g, ob A] w w3 := by
    rw [hw3]
    refine (hu2.setCell (p := ⟨bl A1, ofs A1 + n, none⟩) ?_ _).drew
    rcases hfr1 (bl A1) hob with h | h
    · left; simp [h]
    · right; simp at h; show w.heap.size ≤ bl A1; omega
  have HP : Hid ((pack bs ++ [0]).set n T = pack (bs ++ [low v])) := by
    have h1 := HN.out
    have h2 := HY.out
    rw [Nat.mul_one] at h1
    show (pack bs ++ [0]).set n T = pack (bs ++ [low v])
    rw [hT, HNN.out]
    rw [← h1] at h2 ⊢
    exact pack_new' bs v HM.out y h2
  rw [HP.out] at hown3
  have HT := Lib.hid hT
  have HW3 := Lib.hid hw3
  clear hT hw3 hb2 hown2 hu2 hc0 hc1 hf1 hcell hfz hix HY HP HW
  have hc1 := hb3.cell 1
  have hf1 := hb3.frozen 1
  simp at hc1
  rw [← HNN.out] at hc1
  go_wp2
  go_end0
  refine ⟨rfl, A1, ⟨_, c1, ?_, hown3.far hne _⟩, hu3.putIn (by simp) _, ?_⟩
  · have := hb3.set 1 (.int .i64 ((N : Int) + 1))
    rw [List.length_append, show ((bs.length + [low v].length : Nat) : Int) = (N : Int) + 1 from by rw [HNN.out]; simp]
    exact this
  · intro k hk
    rcases hfr1 k hk with h | h
    · exact Or.inl h
    · right; simp at h; omega

set_option maxHeartbeats 400000 in
theorem bit_old (w : World) (B g n c1 : Nat) (A1 : Option Addr) (bs : List Bool) (v : Int) (hm : bs.length % 8 ≠ 0) (hl : bs.length ≤ 1000000000000) (hB : B ≤ w.heap.size)
    (hb : Blk w g 98 #[.slice A1 n c1, .int .i64 bs.length]) (hown : Own w B 5 1 A1 n c1 ((pack bs).map (Value.int .u8))) :
    Calls Tryz.prog 55 #[.pointer (some ⟨g, 0, none⟩), .int .i64 v] w (WrPost w B g A1 (bs ++ [low v])) := by
  have hnl := hown.len
  rw [List.length_map, pack_len] at hnl
  have hn : n ≤ 1000000000000 := by omega
  have hn1 : 0 < bs.length → 1 ≤ n := by omega
  have HN := Lib.hid hnl
  have HM := Lib.hid hm
  clear hnl
  have hc0 := hb.cell 0
  have hc1 := hb.cell 1
  have hf0 := hb.frozen 0
  have hf1 := hb.frozen 1
  simp at hc0 hc1
  obtain ⟨N, hN⟩ : ∃ N : Nat, N = bs.length := ⟨_, rfl⟩
  rw [← hN] at hm hl hc1 hn1
  have hmd : ((N : Int) % 8 == 0) = false := by simp; omega
  have hn2 : 1 ≤ n := hn1 (by omega)
  have HNN := Lib.hid hN
  clear hN hm hn1
  obtain ⟨y, HY, hcell⟩ := (Ints.ofOwn hown).int (i := n - 1) (by omega)
  have hix := (Ints.ofOwn hown).index el_byte c1 .i64 (n - 1) (by omega)
  have hfz := hown.frozen (by omega) (n - 1)
  have hu2 := Upd.refl [some g, ob A1] w
  have hcast : ((n - 1 : Nat) : Int) = (n : Int) - 1 := by omega
  rw [hcast] at hix
  clear hcast
  go_enter Tryz.func55, Tryz.ntmps55
  go_wp2
  obtain ⟨w2, rfl⟩ : ∃ w2 : World, w2 = w := ⟨_, rfl⟩
  have hb2 := hb
  have hown2 := hown
  go_region
  obtain ⟨T, hT⟩ : ∃ T : Int, T = bits .or .u8 y (bits .and .i64 v 1 % 256 * 2 ^ (N % 8) % 256) := ⟨_, rfl⟩
  obtain ⟨w3, hw3⟩ : ∃ w3 : World, w3 = (w2.setCell ⟨bl A1, ofs A1 + (n - 1), none⟩ (.int .u8 T)).drew := ⟨_, rfl⟩
  rw [← hT, ← hw3]
  have hne : ob A1 ≠ some g := hown2.neBlk hb2 (by decide)
  have hob := hown2.obl (by omega)
  have hb3 : Blk w3 g 98 #[.slice A1 (n) c1, .int .i64 bs.length] := by rw [hw3]; exact (hb2.far (p := ⟨bl A1, ofs A1 + (n - 1), none⟩) (by intro h; rw [hob] at hne; exact hne (by rw [h])) _).drew
  have hown3 := (hown2.set (k := (n - 1)) (by omega) (.int .u8 T)).drew
  rw [← hw3, ← List.map_set] at hown3
  have hu3 : Upd [some g, ob A1] w2 w3 := by
    rw [hw3]
    refine (hu2.setCell (p := ⟨bl A1, ofs A1 + (n - 1), none⟩) ?_ _).drew
    left; simp [hob]
  have HP : Hid ((pack bs).set (n - 1) T = pack (bs ++ [low v])) := by
    have h1 := HN.out
    have h2 := HY.out
    rw [Nat.mul_one] at h1
    show (pack bs).set (n - 1) T = pack (bs ++ [low v])
    rw [hT, HNN.out]
    rw [← h1] at h2 ⊢
    exact pack_old' bs v HM.out y h2
  rw [HP.out] at hown3
  have HT := Lib.hid hT
  have HW3 := Lib.hid hw3
  clear hT hw3 hb2 hown2 hu2 hc0 hc1 hf1 hcell hfz hix HY HP
  have hc1 := hb3.cell 1
  have hf1 := hb3.frozen 1
  simp at hc1
  rw [← HNN.out] at hc1
  go_wp2
  go_end0
  refine ⟨rfl, A1, ⟨_, c1, ?_, hown3.far hne _⟩, hu3.putIn (by simp) _, ?_⟩
  · have := hb3.set 1 (.int .i64 ((N : Int) + 1))
    rw [List.length_append, show ((bs.length + [low v].length : Nat) : Int) = (N : Int) + 1 from by rw [HNN.out]; simp]
    exact this
  · intro k hk
    exact Or.inl hk

theorem bit_any (w : World) (B g : Nat) (A : Option Addr) (bs : List Bool) (v : Int) (hl : bs.length ≤ 1000000000000) (hB : B ≤ w.heap.size) (h : Wr w B g A bs) :
    Calls Tryz.prog 55 #[.pointer (some ⟨g, 0, none⟩), .int .i64 v] w (WrPost w B g A (bs ++ [low v])) := by
  obtain ⟨n, c, hb, hown⟩ := h
  by_cases hm : bs.length % 8 = 0
  · exact bit_new w B g n c A bs v hm hl hB hb hown
  · exact bit_old w B g n c A bs v hm hl hB hb hown

/-- The lowest n bits of a number, the lowest first. -/
def digits (v : Int) (n : Nat) : List Bool := tab n fun k => low (v / 2 ^ k)
/-- A row of n bits, the highest first. -/
def rowBits (v : Int) (n : Nat) : List Bool := tab n fun k => low (v / 2 ^ (n - 1 - k))

theorem tab_succ {α : Type} (n : Nat) (f : Nat → α) : tab (n + 1) f = tab n f ++ [f n] := by simp [tab, List.range_succ]

set_option maxHeartbeats 400000 in
theorem put_any (w : World) (B g : Nat) (A : Option Addr) (bs : List Bool) (v m : Int) (h0 : 0 ≤ m) (hm : m ≤ 24) (hl : bs.length ≤ 100000000000) (hB : B ≤ w.heap.size) (h : Wr w B g A bs) :
    Calls Tryz.prog 26 #[.pointer (some ⟨g, 0, none⟩), .int .i64 v, .int .i64 m] w (WrPost w B g A (bs ++ digits v m.toNat)) := by
  obtain ⟨n, rfl⟩ := Int.eq_ofNat_of_zero_le h0
  rw [Int.toNat_natCast]
  have HW := Lib.hid h
  clear h
  have hd0 : decide ((n : Int) < 0) = false := by simp
  have hd1 : decide (24 < (n : Int)) = false := by simp; omega
  go_enter Tryz.func26, Tryz.ntmps26
  go_wp2
  go_loopw [14] (fun i wr => ∃ k : Nat, k ≤ n ∧ i = .int .i64 k ∧ ∃ A1, Wr wr B g A1 (bs ++ tab k fun j => low (v / 2 ^ j)) ∧ Upd [some g, ob A] w wr ∧ Fresh w A A1) (fun i _ => n - (intOf i).toNat)
  case atStart => exact ⟨0, Nat.zero_le _, rfl, A, by simpa [tab] using HW.out, Upd.refl _ _, fun g hg => Or.inl hg⟩
  case round =>
    obtain ⟨k, hk, rfl, A1, HW1, hu1, hfr1⟩ := hrel
    by_cases h : k < n
    · have hlen : (bs ++ tab k fun j => low (v / 2 ^ j)).length ≤ 1000000000000 := by rw [List.length_append, tab_len]; omega
      have hBr : B ≤ wr.heap.size := by have := hu1.size; omega
      go_wp2_with (go_at_call 55; refine (bit_any wr B g A1 _ _ hlen hBr HW1).mono ?_; rintro e w2 ⟨rfl, A2, HW2, hu2, hfr2⟩)
      go_roundw
      case rel =>
        refine ⟨k + 1, by omega, by go_num, A2, ?_, hu1.then hu2 (fun b hb => ?_), fun b hb => ?_⟩
        · rw [tab_succ, ← List.append_assoc]; exact HW2
        · simp at hb
          rcases hb with hb | hb
          · left; simp [hb]
          · rcases hfr1 b hb.symm with h | h
            · left; simp [h]
            · exact Or.inr h
        · rcases hfr2 b hb with h | h
          · exact hfr1 b h
          · right; have := hu1.size; omega
      case measure => simp [intOf]; omega
    · obtain rfl : k = n := by omega
      go_wp2
      go_end0
      exact ⟨rfl, A1, HW1, hu1, hfr1⟩

set_option maxHeartbeats 400000 in
theorem code_any (w : World) (B g : Nat) (A : Option Addr) (bs : List Bool) (v m : Int) (h0 : 0 ≤ m) (hm : m ≤ 15) (hl : bs.length ≤ 100000000000) (hB : B ≤ w.heap.size) (h : Wr w B g A bs) :
    Calls Tryz.prog 59 #[.pointer (some ⟨g, 0, none⟩), .int .i64 v, .int .i64 m] w (WrPost w B g A (bs ++ rowBits v m.toNat)) := by
  obtain ⟨n, rfl⟩ := Int.eq_ofNat_of_zero_le h0
  rw [Int.toNat_natCast]
  have HW := Lib.hid h
  clear h
  have hd0 : decide ((n : Int) < 0) = false := by simp
  have hd1 : decide (15 < (n : Int)) = false := by simp; omega
  go_enter Tryz.func59, Tryz.ntmps59
  go_wp2
  go_loopw [14] (fun i wr => ∃ k : Nat, k ≤ n ∧ i = .int .i64 k ∧ ∃ A1, Wr wr B g A1 (bs ++ tab k fun j => low (v / 2 ^ (n - 1 - j))) ∧ Upd [some g, ob A] w wr ∧ Fresh w A A1) (fun i _ => n - (intOf i).toNat)
  case atStart => exact ⟨0, Nat.zero_le _, rfl, A, by simpa [tab] using HW.out, Upd.refl _ _, fun g hg => Or.inl hg⟩
  case round =>
    obtain ⟨k, hk, rfl, A1, HW1, hu1, hfr1⟩ := hrel
    by_cases h : k < n
    · have hlen : (bs ++ tab k fun j => low (v / 2 ^ (n - 1 - j))).length ≤ 1000000000000 := by rw [List.length_append, tab_len]; omega
      have hBr : B ≤ wr.heap.size := by have := hu1.size; omega
      go_wp2_with (go_at_call 55; refine (bit_any wr B g A1 _ _ hlen hBr HW1).mono ?_; rintro e w2 ⟨rfl, A2, HW2, hu2, hfr2⟩)
      go_roundw
      case rel =>
        refine ⟨k + 1, by omega, by go_num, A2, ?_, hu1.then hu2 (fun b hb => ?_), fun b hb => ?_⟩
        · rw [tab_succ, ← List.append_assoc]; exact HW2
        · simp at hb
          rcases hb with hb | hb
          · left; simp [hb]
          · rcases hfr1 b hb.symm with h | h
            · left; simp [h]
            · exact Or.inr h
        · rcases hfr2 b hb with h | h
          · exact hfr1 b h
          · right; have := hu1.size; omega
      case measure => simp [intOf]; omega
    · obtain rfl : k = n := by omega
      go_wp2
      go_end0
      exact ⟨rfl, A1, HW1, hu1, hfr1⟩

set_option maxHeartbeats 400000 in
theorem newWriter_any (w : World) :
    Calls Tryz.prog 24 #[] w fun e w' => e = .returned (.pointer (some ⟨w.heap.size, 0, none⟩)) ∧ w' = w.alloc (.cells #[.slice none 0 0, .int .i64 0] 98) := by
  go_enter Tryz.func24, Tryz.ntmps24
  go_wp2
  go_ret
  exact ⟨rfl, rfl⟩

theorem Wr.new (w : World) (B : Nat) : Wr (w.alloc (.cells #[.slice none 0 0, .int .i64 0] 98)) B w.heap.size none [] := ⟨0, 0, Blk.new _ _ _, Own.nil _ _ _ _⟩

set_option maxHeartbeats 400000 in
theorem wbytes_any (w : World) (B g : Nat) (A : Option Addr) (bs : List Bool) (hl : bs.length ≤ 100000000000) (h : Wr w B g A bs) (n : Nat) (hnb : (bs.length + 7) / 8 = n) (ys : List Int) (hys : pack bs = ys) :
    Calls Tryz.prog 32 #[.pointer (some ⟨g, 0, none⟩)] w (ClonePost n (ys.map (Value.int .u8)) w) := by
  subst hys
  obtain ⟨n', c, hb, hown⟩ := h
  have hnl := hown.len
  rw [List.length_map, pack_len] at hnl
  obtain rfl : n' = n := by omega
  have hn : n' ≤ 100000000000000 := by omega
  have hc0 := hb.cell 0
  simp at hc0
  have HS := Lib.hid (Ints.ofOwn hown)
  clear hnl hnb hb hown
  go_enter Tryz.func32, Tryz.ntmps32
  go_wp2_with (go_at_call 67; refine (clone_any A n' c (pack bs) w HS.out hn).mono ?_; rintro e w1 ⟨A1, c1, rfl, hown1, hu1⟩)
  go_ret
  exact ⟨A1, c1, rfl, hown1, hu1⟩

end Go.Proofs.YtolcdlopgbgilaaGreatDoor
