/- The walks of huff.weight, huff.Check, huff.Full and of the references share, Check, Full. -/
import Derived.Test.YtolcdlopgbgilaaDoorElems
namespace Go.Proofs.YtolcdlopgbgilaaDoor
open Go.RowKit Go.Dray


/-- 2^(15-n) where n has a row. -/
def wt (z : Int) : Int := if 0 < z then 2 ^ (15 - z).toNat else 0
def wsum (zs : List Int) : Int := (zs.map wt).sum

theorem pow15 (z : Int) (h0 : 0 ≤ z) : (1 : Int) ≤ 2 ^ (15 - z).toNat ∧ (2 : Int) ^ (15 - z).toNat ≤ 32768 := by
  have h : (15 - z).toNat ≤ 15 := by omega
  generalize (15 - z).toNat = m at h
  match m, h with
  | 0, _ | 1, _ | 2, _ | 3, _ | 4, _ | 5, _ | 6, _ | 7, _ | 8, _ | 9, _ | 10, _ | 11, _ | 12, _ | 13, _ | 14, _ | 15, _ => decide

theorem wt_bd (z : Int) (h0 : 0 ≤ z) : 0 ≤ wt z ∧ wt z ≤ 32768 := by
  have := pow15 z h0
  unfold wt
  split <;> omega

theorem wsum_bd (zs : List Int) (h : ∀ z ∈ zs, 0 ≤ z) : 0 ≤ wsum zs ∧ wsum zs ≤ 32768 * zs.length := by
  induction zs with
  | nil => simp [wsum]
  | cons z zs ih =>
    have h1 := wt_bd z (h z (by simp))
    have h2 := ih fun y hy => h y (by simp [hy])
    simp only [wsum, List.map_cons, List.sum_cons, List.length_cons] at *
    omega

theorem wsum_take (zs : List Int) (k : Nat) (x : Int) (h : zs[k]? = some x) : wsum (zs.take (k + 1)) = wsum (zs.take k) + wt x := by
  have hk : k < zs.length := by
    rcases Nat.lt_or_ge k zs.length with h' | h'
    · exact h'
    · rw [List.getElem?_eq_none h'] at h; cases h
  have hx : zs[k] = x := by rw [List.getElem?_eq_getElem hk] at h; injection h
  rw [List.take_succ_eq_append_getElem hk, hx]
  simp [wsum]

theorem wt_pos (x : Int) (h : 0 < x) : wt x = 2 ^ (15 - x).toNat := by simp [wt, h]
theorem wt_no (x : Int) (h : x ≤ 0) : wt x = 0 := by simp [wt]; omega

set_option maxHeartbeats 400000 in
theorem weight_any (A : Option Addr) (n c : Nat) (zs : List Int) (w : World) (hs : Ints .i64 w A n zs) (hb : ∀ z ∈ zs, 0 ≤ z ∧ z ≤ 15) (hn : n ≤ 1000) :
    Calls Tryd.prog 112 #[.slice A n c] w fun e w' => e = .returned (.int .i64 (wsum zs)) ∧ w = w' := by
  
  have HB := Lib.hid hb
  clear hb
  have HL := hs.len
  go_enter Tryd.func112, Tryd.ntmps112
  go_wp2
  go_loop [3, 8] (fun t i => ∃ k : Nat, k ≤ n ∧ i = .int .i64 k ∧ t = .int .i64 (wsum (zs.take k))) (fun _ i => n - (intOf i).toNat)
  case atStart => exact ⟨0, Nat.zero_le _, rfl, rfl⟩
  case round =>
    obtain ⟨k, hk, rfl, rfl⟩ := hrel
    have hbd := wsum_bd (zs.take k) fun z hz => (HB.out z (List.mem_of_mem_take hz)).1
    have hlt : (zs.take k).length ≤ k := List.length_take_le _ _
    by_cases h : k < n
    · obtain ⟨x, HX, hcell⟩ := hs.int h
      have hix := hs.index el_int c .i64 k h
      obtain ⟨hx0, hx1⟩ := HB.out x (List.mem_of_getElem? HX.out)
      have hp := pow15 x hx0
      clear hs
      go_wp2
      all_goals go_round
      case rel => exact ⟨k + 1, by omega, by go_num, by rw [wsum_take zs k x HX.out, wt_pos x (by omega)]⟩
      case measure => simp [intOf]; omega
      case rel => exact ⟨k + 1, by omega, by go_num, by rw [wsum_take zs k x HX.out, wt_no x (by omega)]; go_num⟩
      case measure => simp [intOf]; omega
    · obtain rfl : k = n := by omega
      go_wp2
      go_ret
      exact ⟨ret_int (by rw [List.take_of_length_le (by rw [HL.out]; omega)]), rfl⟩

theorem half_pow (j : Nat) (h : j < 15) : (2 : Int) ^ (15 - j) / 2 = 2 ^ (15 - (j + 1)) := by
  match j, h with
  | 0, _ | 1, _ | 2, _ | 3, _ | 4, _ | 5, _ | 6, _ | 7, _ | 8, _ | 9, _ | 10, _ | 11, _ | 12, _ | 13, _ | 14, _ => decide
theorem pow_bd (j : Nat) : (0 : Int) ≤ 2 ^ (15 - j) ∧ (2 : Int) ^ (15 - j) ≤ 32768 := by
  have := pow15 j (by omega)
  have e : (15 - (j : Int)).toNat = 15 - j := by omega
  rw [e] at this
  omega

set_option maxHeartbeats 400000 in
theorem share_any (A : Option Addr) (n c : Nat) (zs : List Int) (w : World) (hs : Ints .i64 w A n zs) (hb : ∀ z ∈ zs, 0 ≤ z ∧ z ≤ 15) (hn : n ≤ 1000) :
    Calls Tryd.prog 95 #[.slice A n c] w fun e w' => e = .returned (.int .i64 (wsum zs)) ∧ w = w' := by
  
  have HB := Lib.hid hb
  clear hb
  have HL := hs.len
  go_enter Tryd.func95, Tryd.ntmps95
  go_wp2
  go_loop [3, 4] (fun t i => ∃ k : Nat, k ≤ n ∧ i = .int .i64 k ∧ t = .int .i64 (wsum (zs.take k))) (fun _ i => n - (intOf i).toNat)
  case atStart => exact ⟨0, Nat.zero_le _, rfl, rfl⟩
  case round =>
    obtain ⟨k, hk, rfl, rfl⟩ := hrel
    have hbd := wsum_bd (zs.take k) fun z hz => (HB.out z (List.mem_of_mem_take hz)).1
    have hlt : (zs.take k).length ≤ k := List.length_take_le _ _
    by_cases h : k < n
    · obtain ⟨x, HX, hcell⟩ := hs.int h
      have hix := hs.index el_int c .i64 k h
      obtain ⟨hx0, hx1⟩ := HB.out x (List.mem_of_getElem? HX.out)
      have hp := pow15 x hx0
      clear hs
      by_cases hpos : 0 < x
      · go_wp2
        go_loop [5, 6] (fun t i => ∃ j : Nat, (j : Int) ≤ x ∧ i = .int .i64 j ∧ t = .int .i64 (2 ^ (15 - j))) (fun _ i => x.toNat - (intOf i).toNat)
        case atStart => exact ⟨0, by omega, rfl, rfl⟩
        case round =>
          obtain ⟨j, hj, rfl, rfl⟩ := hrel
          have hpb := pow_bd j
          by_cases hjx : (j : Int) < x
          · go_wp2
            go_round
            case rel => exact ⟨j + 1, by omega, by go_num, by rw [half_pow j (by omega)]⟩
            case measure => simp [intOf]; omega
          · have hjx2 : x ≤ (j : Int) := by omega
            go_wp2
            go_round
            case rel => exact ⟨k + 1, by omega, by go_num, by rw [wsum_take zs k x HX.out, wt_pos x (by omega), show (15 - x).toNat = 15 - j from by omega]⟩
            case measure => simp [intOf]; omega
      · have hpos2 : x ≤ 0 := by omega
        go_wp2
        go_round
        case rel => exact ⟨k + 1, by omega, by go_num, by rw [wsum_take zs k x HX.out, wt_no x (by omega)]; go_num⟩
        case measure => simp [intOf]; omega
    · obtain rfl : k = n := by omega
      go_wp2
      go_ret
      exact ⟨ret_int (by rw [List.take_of_length_le (by rw [HL.out]; omega)]), rfl⟩

def okLen (z : Int) : Bool := decide (0 ≤ z) && decide (z ≤ 15)
/-- What Check tells, of both. -/
def chk (zs : List Int) : Int := if 320 < zs.length then 4 else if zs.all okLen then (if 32768 < wsum zs then 3 else 0) else 1
def fullB (zs : List Int) : Bool := chk zs == 0 && wsum zs == 32768

theorem chk_large {zs : List Int} (h : 320 < zs.length) : chk zs = 4 := by simp [chk, h]
theorem chk_bad {zs : List Int} {k : Nat} {x : Int} (h : zs.length ≤ 320) (hx : zs[k]? = some x) (hb : x < 0 ∨ 15 < x) : chk zs = 1 := by
  have : zs.all okLen = false := by
    rw [List.all_eq_false]
    exact ⟨x, List.mem_of_getElem? hx, by simp [okLen]; omega⟩
  simp [chk, this]; omega
theorem chk_form {zs : List Int} (h : zs.length ≤ 320) (hb : ∀ z ∈ zs, 0 ≤ z ∧ z ≤ 15) (hw : 32768 < wsum zs) : chk zs = 3 := by
  have : zs.all okLen = true := by rw [List.all_eq_true]; intro z hz; have := hb z hz; simp [okLen]; omega
  simp [chk, this, hw]; omega
theorem chk_ok {zs : List Int} (h : zs.length ≤ 320) (hb : ∀ z ∈ zs, 0 ≤ z ∧ z ≤ 15) (hw : wsum zs ≤ 32768) : chk zs = 0 := by
  have : zs.all okLen = true := by rw [List.all_eq_true]; intro z hz; have := hb z hz; simp [okLen]; omega
  simp [chk, this]; omega
theorem chk_zero {zs : List Int} (h : chk zs = 0) : zs.length ≤ 320 ∧ (∀ z ∈ zs, 0 ≤ z ∧ z ≤ 15) ∧ wsum zs ≤ 32768 := by
  unfold chk at h
  split at h
  · omega
  · split at h
    · rename_i hl ha
      rw [List.all_eq_true] at ha
      split at h
      · omega
      · exact ⟨by omega, fun z hz => by have := ha z hz; simpa [okLen] using this, by omega⟩
    · omega
theorem chk_bd (zs : List Int) : 0 ≤ chk zs ∧ chk zs ≤ 4 := by
  unfold chk
  repeat' split
  all_goals omega

theorem take_step {zs : List Int} {k : Nat} {x : Int} (h : zs[k]? = some x) (hb : ∀ z ∈ zs.take k, 0 ≤ z ∧ z ≤ 15) (hx : 0 ≤ x ∧ x ≤ 15) : ∀ z ∈ zs.take (k + 1), 0 ≤ z ∧ z ≤ 15 := by
  have hk : k < zs.length := (List.getElem?_eq_some_iff.1 h).1
  have hx' : zs[k] = x := (List.getElem?_eq_some_iff.1 h).2
  rw [List.take_succ_eq_append_getElem hk, hx']
  intro z hz
  rcases List.mem_append.1 hz with h' | h'
  · exact hb z h'
  · rw [List.mem_singleton] at h'; subst h'; exact hx

set_option maxHeartbeats 400000 in
theorem check_any (A : Option Addr) (n c : Nat) (zs : List Int) (w : World) (hs : Ints .i64 w A n zs) :
    Calls Tryd.prog 98 #[.slice A n c] w fun e w' => e = .returned (.int .i64 (chk zs)) ∧ w = w' := by
  
  have HL := hs.len
  by_cases hbig : 320 < n
  · go_enter Tryd.func98, Tryd.ntmps98
    go_wp2
    go_ret
    exact ⟨ret_int (chk_large (by rw [HL.out]; exact hbig)).symm, rfl⟩
  · have hn : n ≤ 320 := by omega
    go_enter Tryd.func98, Tryd.ntmps98
    go_wp2
    go_loop [10] (fun i => ∃ k : Nat, k ≤ n ∧ i = .int .i64 k ∧ Hid (∀ z ∈ zs.take k, 0 ≤ z ∧ z ≤ 15)) (fun i => n - (intOf i).toNat)
    case atStart => exact ⟨0, Nat.zero_le _, rfl, by intro z hz; simp at hz⟩
    case round =>
      obtain ⟨k, hk, rfl, HB⟩ := hrel
      by_cases h : k < n
      · obtain ⟨x, HX, hcell⟩ := hs.int h
        have hix := hs.index el_int c .i64 k h
        clear hs
        by_cases h1 : x < 0
        · go_wp2
          go_ret
          exact ⟨ret_int (chk_bad (by rw [HL.out]; exact hn) HX.out (Or.inl h1)).symm, rfl⟩
        · have h1' : 0 ≤ x := by omega
          by_cases h2 : 15 < x
          · go_wp2
            go_ret
            exact ⟨ret_int (chk_bad (by rw [HL.out]; exact hn) HX.out (Or.inr h2)).symm, rfl⟩
          · have h2' : x ≤ 15 := by omega
            go_wp2
            go_round
            case rel => exact ⟨k + 1, by omega, by go_num, take_step HX.out HB.out ⟨h1', h2'⟩⟩
            case measure => simp [intOf]; omega
      · obtain rfl : k = n := by omega
        have HB2 : Hid (∀ z ∈ zs, 0 ≤ z ∧ z ≤ 15) := by
          have := HB.out
          rw [List.take_of_length_le (by rw [HL.out]; omega)] at this
          exact this
        by_cases hw : 32768 < wsum zs
        all_goals
          go_wp2_with (go_at_call 112; refine (weight_any A k c zs _ hs HB2.out (by omega)).mono ?_; rintro e w' ⟨rfl, rfl⟩)
          go_ret
        · exact ⟨ret_int (chk_form (by rw [HL.out]; exact hn) HB2.out hw).symm, rfl⟩
        · exact ⟨ret_int (chk_ok (by rw [HL.out]; exact hn) HB2.out (by omega)).symm, rfl⟩

set_option maxHeartbeats 400000 in
theorem rcheck_any (A : Option Addr) (n c : Nat) (zs : List Int) (w : World) (hs : Ints .i64 w A n zs) :
    Calls Tryd.prog 94 #[.slice A n c] w fun e w' => e = .returned (.int .i64 (chk zs)) ∧ w = w' := by
  
  have HL := hs.len
  by_cases hbig : 320 < n
  · go_enter Tryd.func94, Tryd.ntmps94
    go_wp2
    go_ret
    exact ⟨ret_int (chk_large (by rw [HL.out]; exact hbig)).symm, rfl⟩
  · have hn : n ≤ 320 := by omega
    go_enter Tryd.func94, Tryd.ntmps94
    go_wp2
    go_loop [3] (fun i => ∃ k : Nat, k ≤ n ∧ i = .int .i64 k ∧ Hid (∀ z ∈ zs.take k, 0 ≤ z ∧ z ≤ 15)) (fun i => n - (intOf i).toNat)
    case atStart => exact ⟨0, Nat.zero_le _, rfl, by intro z hz; simp at hz⟩
    case round =>
      obtain ⟨k, hk, rfl, HB⟩ := hrel
      by_cases h : k < n
      · obtain ⟨x, HX, hcell⟩ := hs.int h
        have hix := hs.index el_int c .i64 k h
        clear hs
        by_cases h1 : x < 0
        · go_wp2
          go_ret
          exact ⟨ret_int (chk_bad (by rw [HL.out]; exact hn) HX.out (Or.inl h1)).symm, rfl⟩
        · have h1' : 0 ≤ x := by omega
          by_cases h2 : 15 < x
          · go_wp2
            go_ret
            exact ⟨ret_int (chk_bad (by rw [HL.out]; exact hn) HX.out (Or.inr h2)).symm, rfl⟩
          · have h2' : x ≤ 15 := by omega
            go_wp2
            go_round
            case rel => exact ⟨k + 1, by omega, by go_num, take_step HX.out HB.out ⟨h1', h2'⟩⟩
            case measure => simp [intOf]; omega
      · obtain rfl : k = n := by omega
        have HB2 : Hid (∀ z ∈ zs, 0 ≤ z ∧ z ≤ 15) := by
          have := HB.out
          rw [List.take_of_length_le (by rw [HL.out]; omega)] at this
          exact this
        by_cases hw : 32768 < wsum zs
        all_goals
          go_wp2_with (go_at_call 95; refine (share_any A k c zs _ hs HB2.out (by omega)).mono ?_; rintro e w' ⟨rfl, rfl⟩)
          go_ret
        · exact ⟨ret_int (chk_form (by rw [HL.out]; exact hn) HB2.out hw).symm, rfl⟩
        · exact ⟨ret_int (chk_ok (by rw [HL.out]; exact hn) HB2.out (by omega)).symm, rfl⟩

set_option maxHeartbeats 400000 in
theorem full_any (A : Option Addr) (n c : Nat) (zs : List Int) (w : World) (hs : Ints .i64 w A n zs) :
    Calls Tryd.prog 89 #[.slice A n c] w fun e w' => e = .returned (.bool (fullB zs)) ∧ w = w' := by
  have HL := hs.len
  by_cases h : chk zs = 0
  · obtain ⟨hl, hb, hw⟩ := chk_zero h
    have hn : n ≤ 320 := by rw [← HL.out]; exact hl
    have HB := Lib.hid hb
    have HE : Hid (fullB zs = (wsum zs == 32768)) := by simp [Hid, fullB, h]
    have hd : (chk zs == 0) = true := by simp [h]
    clear hb hl h
    go_enter Tryd.func89, Tryd.ntmps89
    go_wp2_with (first
      | (go_at_call 98; refine (check_any A n c zs _ hs).mono ?_; rintro e w' ⟨rfl, rfl⟩)
      | (go_at_call 112; refine (weight_any A n c zs _ hs HB.out (by omega)).mono ?_; rintro e w' ⟨rfl, rfl⟩))
    go_ret
    exact ⟨by rw [HE.out]; rfl, rfl⟩
  · have hd : (chk zs == 0) = false := by simp [h]
    have HE : Hid (fullB zs = false) := by simp [Hid, fullB, h]
    clear h
    go_enter Tryd.func89, Tryd.ntmps89
    go_wp2_with (go_at_call 98; refine (check_any A n c zs _ hs).mono ?_; rintro e w' ⟨rfl, rfl⟩)
    go_ret
    exact ⟨by rw [HE.out]; rfl, rfl⟩

set_option maxHeartbeats 400000 in
theorem rfull_any (A : Option Addr) (n c : Nat) (zs : List Int) (w : World) (hs : Ints .i64 w A n zs) :
    Calls Tryd.prog 65 #[.slice A n c] w fun e w' => e = .returned (.bool (fullB zs)) ∧ w = w' := by
  have HL := hs.len
  by_cases h : chk zs = 0
  · obtain ⟨hl, hb, hw⟩ := chk_zero h
    have hn : n ≤ 320 := by rw [← HL.out]; exact hl
    have HB := Lib.hid hb
    have HE : Hid (fullB zs = (wsum zs == 32768)) := by simp [Hid, fullB, h]
    have hd : (chk zs == 0) = true := by simp [h]
    clear hb hl h
    go_enter Tryd.func65, Tryd.ntmps65
    go_wp2_with (first
      | (go_at_call 94; refine (rcheck_any A n c zs _ hs).mono ?_; rintro e w' ⟨rfl, rfl⟩)
      | (go_at_call 95; refine (share_any A n c zs _ hs HB.out (by omega)).mono ?_; rintro e w' ⟨rfl, rfl⟩))
    go_ret
    exact ⟨by rw [HE.out]; rfl, rfl⟩
  · have hd : (chk zs == 0) = false := by simp [h]
    have HE : Hid (fullB zs = false) := by simp [Hid, fullB, h]
    clear h
    go_enter Tryd.func65, Tryd.ntmps65
    go_wp2_with (go_at_call 94; refine (rcheck_any A n c zs _ hs).mono ?_; rintro e w' ⟨rfl, rfl⟩)
    go_ret
    exact ⟨by rw [HE.out]; rfl, rfl⟩

end Go.Proofs.YtolcdlopgbgilaaDoor
