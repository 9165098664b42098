/- The walks of huff.Codes and of the reference's Codes. -/
import Derived.Test.YtolcdlopgbgilaaDoorHuffA
namespace Go.Proofs.YtolcdlopgbgilaaDoor
open Go.RowKit Go.Dray

/-- How many of the first i lengths are n. -/
def cnt (zs : List Int) (n : Int) (i : Nat) : Nat := (zs.take i).countP (· == n)
/-- The number behind the last row of length n. -/
def rowAt (zs : List Int) : Nat → Int
  | 0 => 0
  | n + 1 => 2 * rowAt zs n + cnt zs (n + 1 : Nat) zs.length
/-- A symbol's row. -/
def codeOf (zs : List Int) (i : Nat) : Int := if zs.getD i 0 ≤ 0 then 0 else 2 * rowAt zs ((zs.getD i 0).toNat - 1) + cnt zs (zs.getD i 0) i
/-- The rows told up to length K, and of length K + 1 those below s. -/
def part (zs : List Int) (K s : Nat) (j : Nat) : Int := if (1 ≤ zs.getD j 0 ∧ zs.getD j 0 ≤ K) ∨ (zs.getD j 0 = K + 1 ∧ j < s) then codeOf zs j else 0

theorem cnt_le (zs : List Int) (n : Int) (i : Nat) : cnt zs n i ≤ i := by
  unfold cnt
  exact Nat.le_trans List.countP_le_length (List.length_take_le _ _)
theorem cnt_le' (zs : List Int) (n : Int) (i : Nat) : cnt zs n i ≤ zs.length := by
  unfold cnt
  refine Nat.le_trans List.countP_le_length ?_
  rw [List.length_take]; omega
theorem cnt_succ {zs : List Int} {i : Nat} {x : Int} (h : zs[i]? = some x) (n : Int) : cnt zs n (i + 1) = cnt zs n i + if x = n then 1 else 0 := by
  have hk : i < zs.length := (List.getElem?_eq_some_iff.1 h).1
  have hx : zs[i] = x := (List.getElem?_eq_some_iff.1 h).2
  unfold cnt
  rw [List.take_succ_eq_append_getElem hk, hx, List.countP_append]
  simp [List.countP_cons]
theorem cnt_zero (zs : List Int) (n : Int) : cnt zs n 0 = 0 := by simp [cnt]
theorem rowAt_bd (zs : List Int) (hl : zs.length ≤ 320) (n : Nat) : 0 ≤ rowAt zs n ∧ rowAt zs n ≤ 320 * 2 ^ n - 320 := by
  induction n with
  | zero => simp [rowAt]
  | succ n ih =>
    have h := cnt_le' zs (n + 1 : Nat) zs.length
    simp only [rowAt, Int.pow_succ]
    omega
theorem pow2_le15 (n : Nat) (h : n ≤ 15) : (2 : Int) ^ n ≤ 32768 := by
  have := Nat.pow_le_pow_right (n := 2) (by omega) h
  have e : ((2 ^ n : Nat) : Int) = (2 : Int) ^ n := by simp
  rw [← e]
  omega
theorem rowAt_bd15 (zs : List Int) (hl : zs.length ≤ 320) (n : Nat) (hn : n ≤ 15) : 0 ≤ rowAt zs n ∧ rowAt zs n ≤ 10485760 := by
  have h := rowAt_bd zs hl n
  have h2 := pow2_le15 n hn
  omega

theorem getD_of {zs : List Int} {i : Nat} {x : Int} (h : zs[i]? = some x) : zs.getD i 0 = x := by simp [List.getD, h]

theorem part_zero (zs : List Int) (j : Nat) : part zs 0 0 j = 0 := by
  unfold part
  rw [if_neg (by omega)]
theorem part_next (zs : List Int) (K j : Nat) (hj : j < zs.length) : part zs K zs.length j = part zs (K + 1) 0 j := by
  unfold part
  by_cases h : (1 ≤ zs.getD j 0 ∧ zs.getD j 0 ≤ K) ∨ (zs.getD j 0 = K + 1 ∧ j < zs.length)
  · rw [if_pos h, if_pos (by omega)]
  · rw [if_neg h, if_neg (by omega)]
theorem part_hit {zs : List Int} {K s : Nat} {x : Int} (h : zs[s]? = some x) (hx : x = K + 1) (j : Nat) : (if j = s then 2 * rowAt zs K + cnt zs (K + 1) s else part zs K s j) = part zs K (s + 1) j := by
  have hg := getD_of h
  by_cases hj : j = s
  · subst hj
    rw [if_pos rfl]
    unfold part
    rw [if_pos (by omega)]
    unfold codeOf
    rw [hg, if_neg (by omega), hx, show ((K : Int) + 1).toNat - 1 = K from by omega]
  · rw [if_neg hj]
    unfold part
    by_cases h : (1 ≤ zs.getD j 0 ∧ zs.getD j 0 ≤ K) ∨ (zs.getD j 0 = K + 1 ∧ j < s)
    · rw [if_pos h, if_pos (by omega)]
    · rw [if_neg h, if_neg (by omega)]
theorem part_miss {zs : List Int} {K s : Nat} {x : Int} (h : zs[s]? = some x) (hx : x ≠ K + 1) (j : Nat) : part zs K s j = part zs K (s + 1) j := by
  have hg := getD_of h
  unfold part
  by_cases h : (1 ≤ zs.getD j 0 ∧ zs.getD j 0 ≤ K) ∨ (zs.getD j 0 = K + 1 ∧ j < s)
  · rw [if_pos h, if_pos (by omega)]
  · rw [if_neg h, if_neg]
    intro h'
    by_cases hj : j = s
    · subst hj; omega
    · omega
theorem part_all {zs : List Int} (hb : ∀ z ∈ zs, 0 ≤ z ∧ z ≤ 15) (j : Nat) (hj : j < zs.length) : part zs 15 0 j = codeOf zs j := by
  have := hb zs[j] (List.getElem_mem hj)
  have hg : zs.getD j 0 = zs[j] := by simp [List.getD, hj]
  unfold part
  by_cases h : (1 ≤ zs.getD j 0 ∧ zs.getD j 0 ≤ (15 : Nat)) ∨ (zs.getD j 0 = (15 : Nat) + 1 ∧ j < 0)
  · rw [if_pos h]
  · rw [if_neg h]
    unfold codeOf
    rw [if_pos (by omega)]

def codesV (zs : List Int) : List Value := (tab zs.length (codeOf zs)).map (Value.int .i64)

/-- Codes hands back a new slice of the rows. -/
def CodesPost (zs : List Int) (n : Nat) (w : World) (e : Ending) (w' : World) : Prop :=
  ∃ A c, e = .returned (.tuple #[.slice A n c, .int .i64 0]) ∧ Own w' w.heap.size 3 1 A n c (codesV zs) ∧ Upd [] w w'

set_option maxHeartbeats 400000 in
theorem codes_err (A : Option Addr) (n c : Nat) (zs : List Int) (w : World) (hs : Ints .i64 w A n zs) (h : chk zs ≠ 0) :
    Calls Tryd.prog 71 #[.slice A n c] w fun e w' => e = .returned (.tuple #[.slice none 0 0, .int .i64 (chk zs)]) ∧ w = w' := by
  have hd : (chk zs != 0) = true := by simp [h]
  clear h
  go_enter Tryd.func71, Tryd.ntmps71
  go_wp2_with (go_at_call 98; refine (check_any A n c zs _ hs).mono ?_; rintro e w' ⟨rfl, rfl⟩)
  go_ret2
  exact ⟨rfl, rfl⟩

set_option maxHeartbeats 400000 in
theorem codes_ok (A : Option Addr) (n c : Nat) (zs : List Int) (w : World) (hs : Ints .i64 w A n zs) (h : chk zs = 0) :
    Calls Tryd.prog 71 #[.slice A n c] w (CodesPost zs n w) := by
  obtain ⟨hl, hb, hw⟩ := chk_zero h
  have HL := hs.len
  have hn : n ≤ 320 := by rw [← HL.out]; exact hl
  have HB := Lib.hid hb
  have HE := Lib.hid h
  have HLL := Lib.hid hl
  have hd : (chk zs != 0) = false := by simp [h]
  clear hb hl h hw
  go_enter Tryd.func71, Tryd.ntmps71
  go_wp2_with (first
    | (go_at_call 98; refine (check_any A n c zs _ hs).mono ?_; rintro e w' ⟨rfl, rfl⟩)
    | (at_make; refine wpList_mk rfl rfl w.heap.size el_int n rfl rfl rfl rfl rfl (by omega) (by simp only [maxLen]; omega) (Nat.le_refl _) ?_; intro A1 w1 hown1 hu1 hob1))
  go_loopw [6, 18] (fun r k wr => ∃ K : Nat, K ≤ 15 ∧ k = .int .i64 K ∧ r = .int .i64 (rowAt zs K) ∧ Own wr w.heap.size 3 1 A1 n n ((tab n (part zs K 0)).map (Value.int .i64)) ∧ Upd [] w wr) (fun _ k _ => 15 - (intOf k).toNat)
  case atStart =>
    refine ⟨0, by omega, rfl, rfl, ?_, hu1⟩
    rw [tab_congr (fun j _ => part_zero zs j), ← tab_rep, List.map_replicate]
    exact hown1
  case round =>
    obtain ⟨K, hK, rfl, rfl, hown, hu⟩ := hrel
    have hrb := rowAt_bd15 zs HLL.out K hK
    by_cases hlt : K < 15
    · go_wp2
      obtain ⟨wo, rfl⟩ : ∃ wo : World, wo = wr := ⟨_, rfl⟩
      go_loopw [6, 25] (fun r k wr => ∃ s : Nat, s ≤ n ∧ k = .int .i64 s ∧ r = .int .i64 (2 * rowAt zs K + cnt zs (K + 1) s) ∧ Own wr w.heap.size 3 1 A1 n n ((tab n (part zs K s)).map (Value.int .i64)) ∧ Upd [] w wr) (fun _ k _ => n - (intOf k).toNat)
      case atStart => exact ⟨0, by omega, rfl, by rw [cnt_zero]; go_num, hown, hu⟩
      case round =>
        obtain ⟨s, hs', rfl, rfl, hown2, hu2⟩ := hrel
        have hcb := cnt_le zs (K + 1) s
        clear hown hu hown1 hu1
        by_cases hsn : s < n
        · have hsr : Ints .i64 wr A n zs := hs.upd hu2 (by simp)
          obtain ⟨x, HX, hcell⟩ := hsr.int hsn
          have hix := hsr.index el_int c .i64 s hsn
          obtain ⟨y, _, hcell1⟩ := (Ints.ofOwn hown2).int hsn
          have hix1 := (Ints.ofOwn hown2).index el_int n .i64 s hsn
          have hfz := hown2.frozen (by omega) s
          have hset := hown2.set (k := s) (by omega) (.int .i64 (2 * rowAt zs K + cnt zs (K + 1) s))
          have hus := hu2.setCell (p := ⟨bl A1, ofs A1 + s, none⟩) (Or.inr (hown2.base (hown2.obl (by omega))).1) (.int .i64 (2 * rowAt zs K + cnt zs (K + 1) s))
          clear hsr hs
          by_cases hx : x = K + 1
          · have hxd : (x == (K : Int) + 1) = true := by simp [hx]
            have HXE := Lib.hid hx
            clear hx
            go_wp2
            go_roundw
            case rel =>
              refine ⟨s + 1, by omega, by go_num, ?_, ?_, hus⟩
              · rw [cnt_succ HX.out, if_pos HXE.out]; go_num
              · rw [← List.map_set, tab_set, tab_congr (fun j _ => part_hit HX.out HXE.out j)] at hset
                exact hset
            case measure => simp [intOf]; omega
          · have hxd : (x == (K : Int) + 1) = false := by simp [hx]
            have HXE := Lib.hid hx
            clear hx hset hus
            go_wp2
            go_roundw
            case rel =>
              refine ⟨s + 1, by omega, by go_num, ?_, ?_, hu2⟩
              · rw [cnt_succ HX.out, if_neg HXE.out]; go_num
              · rw [← tab_congr (fun j _ => part_miss HX.out HXE.out j)]
                exact hown2
            case measure => simp [intOf]; omega
        · obtain rfl : s = n := by omega
          go_wp2
          go_roundw
          case rel =>
            refine ⟨K + 1, by omega, by go_num, ?_, ?_, hu2⟩
            · rw [rowAt, HL.out]; go_num
            · rw [← tab_congr (fun j hj => part_next zs K j (by rw [HL.out]; exact hj)), HL.out]
              exact hown2
          case measure => simp [intOf]; omega
    · obtain rfl : K = 15 := by omega
      go_wp2
      go_ret2
      refine ⟨A1, n, rfl, ?_, hu⟩
      unfold codesV
      rw [HL.out, ← tab_congr (fun j hj => part_all HB.out j (by rw [HL.out]; exact hj))]
      exact hown

/-- The reference's out: told below length N, and of length N below s; the other lengths still stand. -/
def rpart (zs : List Int) (N s : Nat) (j : Nat) : Int := if zs.getD j 0 < N ∨ (zs.getD j 0 = N ∧ j < s) then codeOf zs j else zs.getD j 0
/-- The reference's next. -/
def rnx (zs : List Int) : Nat → Nat → Int
  | 0, _ => 0
  | N + 1, s => 2 * rowAt zs N + cnt zs (N + 1) s

theorem rnx_bd (zs : List Int) (hl : zs.length ≤ 320) (N s : Nat) (hn : N ≤ 15) : 0 ≤ rnx zs N s ∧ rnx zs N s ≤ 20971840 := by
  match N with
  | 0 => simp [rnx]
  | N + 1 =>
    have h := rowAt_bd15 zs hl N (by omega)
    have h2 := cnt_le' zs (N + 1) s
    simp only [rnx]
    omega
theorem rnx_start (zs : List Int) (N : Nat) : 2 * rnx zs N zs.length = rnx zs (N + 1) 0 := by
  match N with
  | 0 => simp [rnx, rowAt, cnt_zero]
  | N + 1 => rw [rnx, rnx, rowAt, cnt_zero]; simp
theorem rnx_hit {zs : List Int} {N s : Nat} {x : Int} (h : zs[s]? = some x) (hx : x = N) (hN : 0 < N) : rnx zs N (s + 1) = rnx zs N s + 1 := by
  match N, hN with
  | N + 1, _ => rw [rnx, rnx, cnt_succ h, if_pos (by omega)]; omega
theorem rnx_miss {zs : List Int} {N s : Nat} {x : Int} (h : zs[s]? = some x) (hx : x ≠ N) : rnx zs N (s + 1) = rnx zs N s := by
  match N with
  | 0 => simp [rnx]
  | N + 1 => rw [rnx, rnx, cnt_succ h, if_neg (by omega)]; omega
theorem rnx_zero {zs : List Int} {N s : Nat} (h : N ≤ 0) : rnx zs N s = 0 := by
  match N, h with
  | 0, _ => simp [rnx]
theorem rpart_hit {zs : List Int} {N s : Nat} {x : Int} (h : zs[s]? = some x) (hx : x = N) (v : Int) (hv : v = if 0 < N then rnx zs N s else 0) (j : Nat) : (if j = s then v else rpart zs N s j) = rpart zs N (s + 1) j := by
  have hg := getD_of h
  by_cases hj : j = s
  · subst hj
    rw [if_pos rfl]
    unfold rpart
    rw [if_pos (by omega)]
    unfold codeOf
    rw [hg, hx, hv]
    match N with
    | 0 => simp
    | N + 1 =>
      rw [if_pos (by omega), if_neg (by omega), rnx, show (((N + 1 : Nat) : Int)).toNat - 1 = N from by omega]
      rfl
  · rw [if_neg hj]
    unfold rpart
    by_cases h : zs.getD j 0 < N ∨ (zs.getD j 0 = N ∧ j < s)
    · rw [if_pos h, if_pos (by omega)]
    · rw [if_neg h, if_neg (by omega)]
theorem rpart_miss {zs : List Int} {N s : Nat} {x : Int} (h : zs[s]? = some x) (hx : x ≠ N) (j : Nat) : rpart zs N s j = rpart zs N (s + 1) j := by
  have hg := getD_of h
  unfold rpart
  by_cases h : zs.getD j 0 < N ∨ (zs.getD j 0 = N ∧ j < s)
  · rw [if_pos h, if_pos (by omega)]
  · rw [if_neg h, if_neg]
    intro h'
    by_cases hj : j = s
    · subst hj; omega
    · omega
theorem rpart_next (zs : List Int) (N j : Nat) (hj : j < zs.length) : rpart zs N zs.length j = rpart zs (N + 1) 0 j := by
  unfold rpart
  by_cases h : zs.getD j 0 < N ∨ (zs.getD j 0 = N ∧ j < zs.length)
  · rw [if_pos h, if_pos (by omega)]
  · rw [if_neg h, if_neg (by omega)]
theorem rpart_start {zs : List Int} (hb : ∀ z ∈ zs, 0 ≤ z ∧ z ≤ 15) (j : Nat) (hj : j < zs.length) : rpart zs 0 0 j = zs.getD j 0 := by
  have := hb zs[j] (List.getElem_mem hj)
  have hg : zs.getD j 0 = zs[j] := by simp [List.getD, hj]
  unfold rpart
  rw [if_neg (by omega)]
theorem rpart_all {zs : List Int} (hb : ∀ z ∈ zs, 0 ≤ z ∧ z ≤ 15) (j : Nat) (hj : j < zs.length) : rpart zs 16 0 j = codeOf zs j := by
  have := hb zs[j] (List.getElem_mem hj)
  have hg : zs.getD j 0 = zs[j] := by simp [List.getD, hj]
  unfold rpart
  rw [if_pos (by omega)]

set_option maxHeartbeats 400000 in
theorem rcodes_err (A : Option Addr) (n c : Nat) (zs : List Int) (w : World) (hs : Ints .i64 w A n zs) (h : chk zs ≠ 0) :
    Calls Tryd.prog 64 #[.slice A n c] w fun e w' => e = .returned (.tuple #[.slice none 0 0, .int .i64 (chk zs)]) ∧ w = w' := by
  have hd : (chk zs != 0) = true := by simp [h]
  clear h
  go_enter Tryd.func64, Tryd.ntmps64
  go_wp2_with (go_at_call 94; refine (rcheck_any A n c zs _ hs).mono ?_; rintro e w' ⟨rfl, rfl⟩)
  go_ret2
  exact ⟨rfl, rfl⟩

set_option maxHeartbeats 400000 in
theorem rcodes_ok (A : Option Addr) (n c : Nat) (zs : List Int) (w : World) (hs : Ints .i64 w A n zs) (h : chk zs = 0) :
    Calls Tryd.prog 64 #[.slice A n c] w (CodesPost zs n w) := by
  obtain ⟨hl, hb, hw⟩ := chk_zero h
  have HL := hs.len
  have hn : n ≤ 320 := by rw [← HL.out]; exact hl
  have HB := Lib.hid hb
  have HE := Lib.hid h
  have HLL := Lib.hid hl
  have hd : (chk zs != 0) = false := by simp [h]
  clear hb hl h hw
  go_enter Tryd.func64, Tryd.ntmps64
  go_wp2_with (first
    | (go_at_call 94; refine (rcheck_any A n c zs _ hs).mono ?_; rintro e w' ⟨rfl, rfl⟩)
    | (at_builtin; refine wpList_app rfl rfl el_int rfl (Own.nil w w.heap.size _ _) rfl hs (ints_one _ _) (by simp only [maxLen]; omega) (by omega) (Nat.le_refl _) ?_; intro A1 c1 w1 hown1 hu1 hfr1; simp only [Nat.zero_add, List.nil_append] at hown1 ⊢))
  go_loopw [6, 7] (fun r k wr => ∃ N : Nat, N ≤ 16 ∧ k = .int .i64 N ∧ r = .int .i64 (rnx zs N 0) ∧ Own wr w.heap.size 3 1 A1 n c1 ((tab n (rpart zs N 0)).map (Value.int .i64)) ∧ Upd [] w wr) (fun _ k _ => 16 - (intOf k).toNat)
  case atStart =>
    refine ⟨0, by omega, rfl, rfl, ?_, hu1.mono (by simp [ob])⟩
    rw [tab_congr (fun j hj => rpart_start HB.out j (by rw [HL.out]; exact hj)), ← HL.out, ← tab_of]
    rw [← HL.out] at hown1
    exact hown1
  case round =>
    obtain ⟨N, hN, rfl, rfl, hown, hu⟩ := hrel
    by_cases hlt : N ≤ 15
    · have hrb := rnx_bd zs HLL.out N 0 hlt
      go_wp2
      obtain ⟨wo, rfl⟩ : ∃ wo : World, wo = wr := ⟨_, rfl⟩
      go_loopw [6, 8] (fun r k wr => ∃ s : Nat, s ≤ n ∧ k = .int .i64 s ∧ r = .int .i64 (rnx zs N s) ∧ Own wr w.heap.size 3 1 A1 n c1 ((tab n (rpart zs N s)).map (Value.int .i64)) ∧ Upd [] w wr) (fun _ k _ => n - (intOf k).toNat)
      case atStart => exact ⟨0, by omega, rfl, rfl, hown, hu⟩
      case round =>
        obtain ⟨s, hs', rfl, rfl, hown2, hu2⟩ := hrel
        have hcb := rnx_bd zs HLL.out N s hlt
        clear hown hu hown1 hu1
        by_cases hsn : s < n
        · have hsr : Ints .i64 wr A n zs := hs.upd hu2 (by simp)
          obtain ⟨x, HX, hcell⟩ := hsr.int hsn
          have hix := hsr.index el_int c .i64 s hsn
          obtain ⟨y, _, hcell1⟩ := (Ints.ofOwn hown2).int hsn
          have hix1 := (Ints.ofOwn hown2).index el_int c1 .i64 s hsn
          have hfz := hown2.frozen (by omega) s
          have hset := fun v => hown2.set (k := s) (by omega) v
          have hob := (hown2.base (hown2.obl (by omega))).1
          have HSET := Lib.hid hset
          clear hsr hs hset
          by_cases hx : x = N
          · have hxd : (x != (N : Int)) = false := by simp [hx]
            have HXE := Lib.hid hx
            clear hx
            by_cases hN0 : 0 < N
            · go_wp2
              go_roundw
              case rel =>
                refine ⟨s + 1, by omega, by go_num, ?_, ?_, hu2.put hob _⟩
                · rw [rnx_hit HX.out HXE.out hN0]
                · have h2 := HSET.out (.int .i64 (rnx zs N s))
                  rw [← List.map_set, tab_set, tab_congr (fun j _ => rpart_hit HX.out HXE.out (rnx zs N s) (by rw [if_pos hN0]) j)] at h2
                  exact h2
              case measure => simp [intOf]; omega
            · go_wp2
              go_roundw
              case rel =>
                refine ⟨s + 1, by omega, by go_num, ?_, ?_, (hu2.put hob _).put hob _⟩
                · rw [rnx_zero (by omega), rnx_zero (by omega)]
                · have h2 := (HSET.out (.int .i64 (rnx zs N s))).set (k := s) (by omega) (.int .i64 0)
                  rw [List.set_set, ← List.map_set, tab_set, tab_congr (fun j _ => rpart_hit HX.out HXE.out 0 (by rw [if_neg hN0]) j)] at h2
                  exact h2
              case measure => simp [intOf]; omega
          · have hxd : (x != (N : Int)) = true := by simp [hx]
            have HXE := Lib.hid hx
            clear hx
            go_wp2
            go_roundw
            case rel =>
              refine ⟨s + 1, by omega, by go_num, ?_, ?_, hu2⟩
              · rw [rnx_miss HX.out HXE.out]
              · rw [← tab_congr (fun j _ => rpart_miss HX.out HXE.out j)]
                exact hown2
            case measure => simp [intOf]; omega
        · obtain rfl : s = n := by omega
          go_wp2
          go_roundw
          case rel =>
            refine ⟨N + 1, by omega, by go_num, ?_, ?_, hu2⟩
            · rw [← rnx_start, HL.out]
            · rw [← tab_congr (fun j hj => rpart_next zs N j (by rw [HL.out]; exact hj)), HL.out]
              exact hown2
          case measure => simp [intOf]; omega
    · obtain rfl : N = 16 := by omega
      go_wp2
      go_ret2
      refine ⟨A1, c1, rfl, ?_, hu⟩
      unfold codesV
      rw [HL.out, ← tab_congr (fun j hj => rpart_all HB.out j (by rw [HL.out]; exact hj))]
      exact hown

end Go.Proofs.YtolcdlopgbgilaaDoor
