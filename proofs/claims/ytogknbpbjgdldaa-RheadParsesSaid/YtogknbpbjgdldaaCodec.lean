/- The walks of codec's and the reference's Be, Le, Turned, GetBe, GetLe. -/
import Derived.Test.YtogknbpbjgdldaaElems
import Derived.Test.YtogknbpbjgdldaaBits
namespace Go.Proofs.Ytogknbpbjgdldaa
open Go.RowKit Go.Dray

/-- A number's bytes, the lowest first. -/
def leB (v : Int) (n : Nat) : List Int := tab n fun i => v / 2 ^ (8 * i) % 256
/-- A number's bytes, the highest first. -/
def beB (v : Int) (n : Nat) : List Int := (leB v n).reverse
/-- The number of bytes, the highest first. -/
def beNum (zs : List Int) : Int := zs.foldl (fun n x => n * 256 + x) 0
/-- The number of bytes, the lowest first. -/
def leNum (zs : List Int) : Int := beNum zs.reverse

theorem cd_tab_succ {α : Type} (n : Nat) (f : Nat → α) : tab (n + 1) f = tab n f ++ [f n] := by simp [tab, List.range_succ]
theorem leB_len (v : Int) (n : Nat) : (leB v n).length = n := tab_len _ _
theorem beB_len (v : Int) (n : Nat) : (beB v n).length = n := by rw [beB, List.length_reverse, leB_len]
theorem leB_bd (v : Int) (n : Nat) : ∀ z ∈ leB v n, 0 ≤ z ∧ z ≤ 255 := by
  intro z hz
  unfold leB tab at hz
  obtain ⟨i, _, rfl⟩ := List.mem_map.1 hz
  omega
theorem beB_bd (v : Int) (n : Nat) : ∀ z ∈ beB v n, 0 ≤ z ∧ z ≤ 255 := fun z hz => leB_bd v n z (by unfold beB at hz; simpa using hz)
theorem leB_succ (v : Int) (n : Nat) : leB v (n + 1) = leB v n ++ [v / 2 ^ (8 * n) % 256] := cd_tab_succ n _
theorem beB_succ (v : Int) (n : Nat) : beB v (n + 1) = (v / 2 ^ (8 * n) % 256) :: beB v n := by simp [beB, leB_succ]
theorem beB_tab (v : Int) (n : Nat) : beB v n = tab n fun j => v / 2 ^ (8 * (n - 1 - j)) % 256 := by
  unfold beB leB
  apply List.ext_getElem (by simp [tab_len])
  intro i h1 h2
  simp [tab_len] at h1 h2
  simp [tab]

theorem beNum_snoc (zs : List Int) (x : Int) : beNum (zs ++ [x]) = beNum zs * 256 + x := by simp [beNum]
theorem beNum_bd (zs : List Int) (h : ∀ z ∈ zs, 0 ≤ z ∧ z ≤ 255) : 0 ≤ beNum zs ∧ beNum zs < 2 ^ (8 * zs.length) := by
  induction zs using snoc_ind with
  | h0 => simp [beNum]
  | h1 zs x ih =>
    have h1 := ih fun z hz => h z (by simp [hz])
    have h2 := h x (by simp)
    rw [beNum_snoc, List.length_append, show 8 * (zs.length + [x].length) = 8 * zs.length + 8 from by simp; omega, Int.pow_add]
    omega
theorem leNum_snoc (zs : List Int) (x : Int) : leNum (zs ++ [x]) = leNum zs + x * 2 ^ (8 * zs.length) := by
  unfold leNum
  rw [List.reverse_append]
  have key : ∀ (l : List Int) (a : Int), l.foldl (fun n x => n * 256 + x) a = beNum l + a * 2 ^ (8 * l.length) := by
    intro l
    induction l using snoc_ind with
    | h0 => intro a; simp [beNum]
    | h1 l y ih =>
      intro a
      rw [List.foldl_append, List.foldl_cons, List.foldl_nil, ih, beNum_snoc, List.length_append, show 8 * (l.length + [y].length) = 8 * l.length + 8 from by simp; omega, Int.pow_add, Int.add_mul, ← Int.mul_assoc]
      omega
  show ([x] ++ zs.reverse).foldl _ 0 = _
  rw [List.foldl_append]
  have := key zs.reverse x
  rw [List.length_reverse] at this
  simp only [List.foldl_cons, List.foldl_nil, Int.zero_mul, Int.zero_add]
  exact this

/-- A new slice of bytes. -/
def NewBytes (n : Nat) (ys : List Int) (w : World) (e : Ending) (w' : World) : Prop :=
  ∃ A c, e = .returned (.slice A n c) ∧ Own w' w.heap.size 5 1 A n c (ys.map (Value.int .u8)) ∧ Upd [] w w'

set_option maxHeartbeats 400000 in
theorem be_any (w : World) (v m : Int) (h0 : 1 ≤ m) (hm : m ≤ 8) : Calls Try.prog 19 #[.int .u64 v, .int .i64 m] w (NewBytes m.toNat (beB v m.toNat) w) := by
  obtain ⟨n, rfl⟩ := Int.eq_ofNat_of_zero_le (show 0 ≤ m by omega)
  rw [Int.toNat_natCast]
  have d1 : decide ((n : Int) < 1) = false := by simp; omega
  have d2 : decide (8 < (n : Int)) = false := by simp; omega
  go_enter Try.func19, Try.ntmps19
  go_wp2_with (at_make; refine wpList_mk rfl rfl w.heap.size el_byte n rfl rfl rfl rfl rfl (by omega) (by simp only [maxLen]; omega) (Nat.le_refl _) ?_; intro A1 w1 hown1 hu1 hob1)
  go_loopw [16] (fun i wr => ∃ k : Nat, k ≤ n ∧ i = .int .i64 k ∧ Own wr w.heap.size 5 1 A1 n n ((tab n fun j => if n - 1 - j < k then v / 2 ^ (8 * (n - 1 - j)) % 256 else 0).map (Value.int .u8)) ∧ Upd [] w wr) (fun i _ => n - (intOf i).toNat)
  case atStart =>
    refine ⟨0, by omega, rfl, ?_, hu1⟩
    rw [tab_congr (g := fun _ => (0 : Int)) (fun j _ => by simp), ← tab_rep, List.map_replicate]
    exact hown1
  case round =>
    obtain ⟨k, hk, rfl, hown, hu⟩ := hrel
    by_cases hlt : k < n
    · obtain ⟨y, _, hcell⟩ := (Ints.ofOwn hown).int (i := n - 1 - k) (by omega)
      have hix := (Ints.ofOwn hown).indexI el_byte n .i64 ((n : Int) - 1 - k) (n - 1 - k) (by omega) (by omega)
      have hfz := hown.frozen (by omega) (n - 1 - k)
      have HSET := Lib.hid (hown.set (k := n - 1 - k) (by omega) (.int .u8 (v / 2 ^ (8 * k) % 256)))
      have hob := (hown.base (hown.obl (by omega))).1
      clear hown1 hu1
      go_wp2
      go_roundw
      case rel =>
        refine ⟨k + 1, by omega, by go_num, ?_, hu.put hob _⟩
        have h2 := HSET.out
        rw [← List.map_set, tab_set, tab_congr (g := fun j => if n - 1 - j < k + 1 then v / 2 ^ (8 * (n - 1 - j)) % 256 else 0) (fun j hj => ?_)] at h2
        · exact h2
        · by_cases e : j = n - 1 - k
          · subst e
            rw [if_pos rfl, if_pos (by omega), show n - 1 - (n - 1 - k) = k from by omega]
          · rw [if_neg e]
            by_cases e2 : n - 1 - j < k
            · rw [if_pos e2, if_pos (by omega)]
            · rw [if_neg e2, if_neg (by omega)]
      case measure => simp [intOf]; omega
    · obtain rfl : k = n := by omega
      go_wp2
      go_ret
      refine ⟨A1, k, rfl, ?_, hu⟩
      rw [beB_tab]
      rw [tab_congr (g := fun j => v / 2 ^ (8 * (k - 1 - j)) % 256) (fun j hj => by rw [if_pos (by omega)])] at hown
      exact hown

set_option maxHeartbeats 400000 in
theorem rbe_any (w : World) (v m : Int) (hv : 0 ≤ v) (hv1 : v ≤ 9223372036854775807) (h0 : 1 ≤ m) (hm : m ≤ 8) : Calls Try.prog 33 #[.int .u64 v, .int .i64 m] w (NewBytes m.toNat (beB v m.toNat) w) := by
  obtain ⟨n, rfl⟩ := Int.eq_ofNat_of_zero_le (show 0 ≤ m by omega)
  rw [Int.toNat_natCast]
  have d1 : decide ((n : Int) < 1) = false := by simp; omega
  have d2 : decide (8 < (n : Int)) = false := by simp; omega
  go_enter Try.func33, Try.ntmps33
  go_wp2
  go_loopw [0, 5, 6] (fun q x i wr => ∃ k : Nat, k ≤ n ∧ i = .int .i64 k ∧ q = .int .u64 (v / 2 ^ (8 * k)) ∧ ∃ X cc, x = .slice X k cc ∧ Own wr w.heap.size 5 1 X k cc ((beB v k).map (Value.int .u8)) ∧ Upd [] w wr) (fun _ _ i _ => n - (intOf i).toNat)
  case atStart => exact ⟨0, by omega, rfl, by simp, none, 0, rfl, Own.nil _ _ _ _, Upd.refl _ _⟩
  case round =>
    obtain ⟨k, hk, rfl, rfl, X, cc, rfl, hown, hu⟩ := hrel
    have hq : 0 ≤ v / 2 ^ (8 * k) ∧ v / 2 ^ (8 * k) ≤ 9223372036854775807 := ⟨Int.ediv_nonneg hv (Int.pow_nonneg (by decide)), by have := Int.ediv_le_self (2 ^ (8 * k)) hv; omega⟩
    obtain ⟨y, HY⟩ : ∃ y, Hid (y = v / 2 ^ (8 * k)) := ⟨_, rfl⟩
    rw [← HY.out] at hq ⊢
    by_cases hlt : k < n
    · have hB : w.heap.size ≤ wr.heap.size := hu.size
      have hmod : y % 256 % 256 = y % 256 := by omega
      go_wp2_with (at_builtin; refine wpList_app rfl rfl el_byte rfl (Own.mk (n := 1) (c := 1) (B := w.heap.size) rfl (Nat.le_refl _) (by simp [maxLen]) rfl hB (Blk.new wr _ _) rfl rfl) rfl (hown.seg.upd ((Upd.refl [] wr).alloc _) (by omega) (by simp)) (ints_one _ _) (by simp only [maxLen]; omega) (by omega) (by simp; omega) ?_; intro X3 c3 w3 hown3 hu3 hfr3)
      go_roundw
      case rel =>
        refine ⟨k + 1, by omega, by go_num, ?_, X3, c3, by rw [Nat.add_comm 1 k], ?_, ((hu.alloc _)).then hu3 (fun b hb => by simp [ob] at hb; right; omega)⟩
        · rw [HY.out, show 8 * (k + 1) = 8 * k + 8 from by omega, Int.pow_add, Int.ediv_ediv_of_nonneg (Int.pow_nonneg (by decide))]; rfl
        · rw [beB_succ, ← HY.out, Nat.add_comm k 1]
          exact hown3
      case measure => simp [intOf]; omega
    · obtain rfl : k = n := by omega
      go_wp2
      go_ret
      exact ⟨X, cc, rfl, hown, hu⟩

theorem take_num {zs : List Int} {a k : Nat} {x : Int} (h : zs[a + k]? = some x) : (zs.drop a).take (k + 1) = (zs.drop a).take k ++ [x] := by
  obtain ⟨hk, he⟩ := List.getElem?_eq_some_iff.1 h
  have hl : k < (zs.drop a).length := by rw [List.length_drop]; omega
  rw [List.take_succ_eq_append_getElem hl, List.getElem_drop, he]

theorem pow8_bd (k : Nat) (h : k ≤ 7) : (1 : Int) ≤ 2 ^ (8 * k) ∧ (2 : Int) ^ (8 * k) ≤ 72057594037927936 := by
  have h1 := Nat.pow_le_pow_right (n := 2) (by omega) (show 8 * k ≤ 56 by omega)
  have h0 : 0 < 2 ^ (8 * k) := Nat.pow_pos (by omega)
  have e : ((2 ^ (8 * k) : Nat) : Int) = (2 : Int) ^ (8 * k) := by simp
  rw [← e]
  omega

theorem num_part {zs : List Int} (hz : ∀ z ∈ zs, 0 ≤ z ∧ z ≤ 255) (a k : Nat) (hk : k ≤ 7) : 0 ≤ beNum ((zs.drop a).take k) ∧ beNum ((zs.drop a).take k) ≤ 72057594037927935 := by
  have h1 := beNum_bd ((zs.drop a).take k) fun z h => hz z (List.mem_of_mem_drop (List.mem_of_mem_take h))
  have h2 : ((zs.drop a).take k).length ≤ k := List.length_take_le _ _
  have h3 := Nat.pow_le_pow_right (n := 2) (by omega) (show 8 * ((zs.drop a).take k).length ≤ 8 * k by omega)
  have h4 := pow8_bd k hk
  have e : ∀ q : Nat, ((2 ^ q : Nat) : Int) = (2 : Int) ^ q := fun q => by simp
  rw [← e] at h1 h4
  omega

theorem or_byte (n x : Int) (h0 : 0 ≤ n) (h1 : n ≤ 72057594037927935) (hx0 : 0 ≤ x) (hx1 : x ≤ 255) : bits .or .u64 (n * 256) x = n * 256 + x := by
  obtain ⟨m, rfl⟩ := Int.eq_ofNat_of_zero_le h0
  obtain ⟨y, rfl⟩ := Int.eq_ofNat_of_zero_le hx0
  rw [show (m : Int) * 256 = ((m * 256 : Nat) : Int) from by omega, u64_or_nat (m * 256) y (by omega) (by omega), nat_join 8 _ _ (by omega) (by omega)]
  omega

set_option maxHeartbeats 400000 in
theorem getBe_ok (A : Option Addr) (n c : Nat) (zs : List Int) (a m : Int) (w : World) (hs : Ints .u8 w A n zs) (hz : ∀ z ∈ zs, 0 ≤ z ∧ z ≤ 255) (hnc : n ≤ c) (hn : n ≤ 100000000000000) (ha : 0 ≤ a) (h0 : 1 ≤ m) (hm : m ≤ 8) (ham : a + m ≤ n) :
    Calls Try.prog 37 #[.slice A n c, .int .i64 a, .int .i64 m] w fun e w' => e = .returned (.tuple #[.int .u64 (beNum ((zs.drop a.toNat).take m.toNat)), .bool true]) ∧ w = w' := by
  obtain ⟨s, rfl⟩ := Int.eq_ofNat_of_zero_le (show 0 ≤ m by omega)
  obtain ⟨p, rfl⟩ := Int.eq_ofNat_of_zero_le ha
  rw [Int.toNat_natCast, Int.toNat_natCast]
  have HZ := Lib.hid hz
  have d1 : decide ((s : Int) < 1) = false := by simp; omega
  have d2 : decide (8 < (s : Int)) = false := by simp; omega
  have d3 : decide ((p : Int) < 0) = false := by simp
  have d4 : decide ((n : Int) - s < p) = false := by simp; omega
  have hcut := run_cut_lh el_byte A n c .i64 .i64 (p : Int) ((p : Int) + s) p (p + s) rfl (by omega) (by omega) (by omega)
  have hct := hs.cut (lo := p) (hi := p + s) (c := c) (by omega) (by omega) hnc
  rw [Nat.add_sub_cancel_left] at hcut hct
  have HS := Lib.hid hs
  clear hz hs
  go_enter Try.func37, Try.ntmps37
  go_wp2
  go_loop [8, 36] (fun x i => ∃ k : Nat, k ≤ s ∧ i = .int .i64 k ∧ x = .int .u64 (beNum ((zs.drop p).take k))) (fun _ i => s - (intOf i).toNat)
  case atStart => exact ⟨0, by omega, rfl, rfl⟩
  case round =>
    obtain ⟨k, hk, rfl, rfl⟩ := hrel
    by_cases hlt : k < s
    · obtain ⟨x, HX, hcell⟩ := hct.int hlt
      have hix := hct.index el_byte (c - p) .i64 k hlt
      have HX2 : Hid (zs[p + k]? = some x) := by
        have := HX.out
        rw [List.getElem?_take_of_lt hlt, List.getElem?_drop] at this
        exact this
      obtain ⟨hx0, hx1⟩ := HZ.out x (List.mem_of_getElem? HX2.out)
      have hb := num_part HZ.out p k (by omega)
      have hor := or_byte _ x hb.1 hb.2 hx0 hx1
      clear hct
      go_wp2
      go_round
      case rel => exact ⟨k + 1, by omega, by go_num, by rw [take_num HX2.out, beNum_snoc]⟩
      case measure => simp [intOf]; omega
    · obtain rfl : k = s := by omega
      go_wp2
      go_ret2
      exact ⟨rfl, rfl⟩

set_option maxHeartbeats 400000 in
theorem rgetBe_ok (A : Option Addr) (n c : Nat) (zs : List Int) (a m : Int) (w : World) (hs : Ints .u8 w A n zs) (hz : ∀ z ∈ zs, 0 ≤ z ∧ z ≤ 255) (hn : n ≤ 100000000000000) (ha : 0 ≤ a) (h0 : 1 ≤ m) (hm : m ≤ 8) (ham : a + m ≤ n) :
    Calls Try.prog 40 #[.slice A n c, .int .i64 a, .int .i64 m] w fun e w' => e = .returned (.tuple #[.int .u64 (beNum ((zs.drop a.toNat).take m.toNat)), .bool true]) ∧ w = w' := by
  obtain ⟨s, rfl⟩ := Int.eq_ofNat_of_zero_le (show 0 ≤ m by omega)
  obtain ⟨p, rfl⟩ := Int.eq_ofNat_of_zero_le ha
  rw [Int.toNat_natCast, Int.toNat_natCast]
  have HZ := Lib.hid hz
  have d1 : decide ((s : Int) < 1) = false := by simp; omega
  have d2 : decide (8 < (s : Int)) = false := by simp; omega
  have d3 : decide ((p : Int) < 0) = false := by simp
  have d4 : decide (n < p) = false := by simp; omega
  have d5 : decide ((n : Int) - p < s) = false := by simp; omega
  clear hz
  go_enter Try.func40, Try.ntmps40
  go_wp2
  go_loop [8, 9] (fun x i => ∃ k : Nat, k ≤ s ∧ i = .int .i64 k ∧ x = .int .u64 (beNum ((zs.drop p).take k))) (fun _ i => s - (intOf i).toNat)
  case atStart => exact ⟨0, by omega, rfl, rfl⟩
  case round =>
    obtain ⟨k, hk, rfl, rfl⟩ := hrel
    by_cases hlt : k < s
    · obtain ⟨x, HX, hcell⟩ := hs.int (i := p + k) (by omega)
      have hix := hs.indexI el_byte c .i64 ((p : Int) + k) (p + k) (by omega) (by omega)
      obtain ⟨hx0, hx1⟩ := HZ.out x (List.mem_of_getElem? HX.out)
      have hb := num_part HZ.out p k (by omega)
      clear hs
      go_wp2
      go_round
      case rel => exact ⟨k + 1, by omega, by go_num, by rw [take_num HX.out, beNum_snoc]⟩
      case measure => simp [intOf]; omega
    · obtain rfl : k = s := by omega
      go_wp2
      go_ret2
      exact ⟨rfl, rfl⟩

end Go.Proofs.Ytogknbpbjgdldaa
