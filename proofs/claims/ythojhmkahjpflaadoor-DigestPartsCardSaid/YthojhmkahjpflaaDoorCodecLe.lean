/- The walks of codec.Le, GetLe and of the reference's Turned, GetLe. -/
import Derived.Test.YthojhmkahjpflaaDoorCodec
namespace Go.Proofs.YthojhmkahjpflaaDoor
open Go.RowKit Go.Dray

set_option maxHeartbeats 400000 in
theorem le_any (w : World) (v m : Int) (h0 : 1 ≤ m) (hm : m ≤ 8) : Calls Tryd.prog 25 #[.int .u64 v, .int .i64 m] w (NewBytes m.toNat (leB v m.toNat) w) := by
  obtain ⟨n, rfl⟩ := Int.eq_ofNat_of_zero_le (show 0 ≤ m by omega)
  rw [Int.toNat_natCast]
  have d1 : decide ((n : Int) < 1) = false := by simp; omega
  have d2 : decide (8 < (n : Int)) = false := by simp; omega
  go_enter Tryd.func25, Tryd.ntmps25
  go_wp2_with (at_make; refine wpList_mk rfl rfl w.heap.size el_byte n rfl rfl rfl rfl rfl (by omega) (by simp only [maxLen]; omega) (Nat.le_refl _) ?_; intro A1 w1 hown1 hu1 hob1)
  go_loopw [16] (fun i wr => ∃ k : Nat, k ≤ n ∧ i = .int .i64 k ∧ Own wr w.heap.size 5 1 A1 n n ((tab n fun j => if j < k then v / 2 ^ (8 * j) % 256 else 0).map (Value.int .u8)) ∧ Upd [] w wr) (fun i _ => n - (intOf i).toNat)
  case atStart =>
    refine ⟨0, by omega, rfl, ?_, hu1⟩
    rw [tab_congr (g := fun _ => (0 : Int)) (fun j _ => by simp), ← tab_rep, List.map_replicate]
    exact hown1
  case round =>
    obtain ⟨k, hk, rfl, hown, hu⟩ := hrel
    by_cases hlt : k < n
    · obtain ⟨y, _, hcell⟩ := (Ints.ofOwn hown).int (i := k) (by omega)
      have hix := (Ints.ofOwn hown).index el_byte n .i64 k (by omega)
      have hfz := hown.frozen (by omega) k
      have HSET := Lib.hid (hown.set (k := k) (by omega) (.int .u8 (v / 2 ^ (8 * k) % 256)))
      have hob := (hown.base (hown.obl (by omega))).1
      clear hown1 hu1
      go_wp2
      go_roundw
      case rel =>
        refine ⟨k + 1, by omega, by go_num, ?_, hu.put hob _⟩
        have h2 := HSET.out
        rw [← List.map_set, tab_set, tab_congr (g := fun j => if j < k + 1 then v / 2 ^ (8 * j) % 256 else 0) (fun j hj => ?_)] at h2
        · exact h2
        · by_cases e : j = k
          · subst e
            rw [if_pos rfl, if_pos (by omega)]
          · rw [if_neg e]
            by_cases e2 : j < k
            · rw [if_pos e2, if_pos (by omega)]
            · rw [if_neg e2, if_neg (by omega)]
      case measure => simp [intOf]; omega
    · obtain rfl : k = n := by omega
      go_wp2
      go_ret
      refine ⟨A1, k, rfl, ?_, hu⟩
      unfold leB
      rw [tab_congr (g := fun j => v / 2 ^ (8 * j) % 256) (fun j hj => by rw [if_pos (by omega)])] at hown
      exact hown

theorem or_high (a x : Int) (k : Nat) (hk : k ≤ 7) (h0 : 0 ≤ a) (h1 : a < 2 ^ (8 * k)) (hx0 : 0 ≤ x) (hx1 : x ≤ 255) : bits .or .u64 a (IntKind.u64.wrap (x * 2 ^ (8 * k))) = a + x * 2 ^ (8 * k) := by
  rw [IntKind.wrap_u64]
  have hp := pow8_bd k hk
  obtain ⟨m, rfl⟩ := Int.eq_ofNat_of_zero_le h0
  obtain ⟨y, rfl⟩ := Int.eq_ofNat_of_zero_le hx0
  have e : ∀ q : Nat, ((2 ^ q : Nat) : Int) = (2 : Int) ^ q := fun q => by simp
  rw [← e] at hp h1 ⊢
  generalize hq : 2 ^ (8 * k) = q at *
  have hyq : y * q ≤ 255 * q := Nat.mul_le_mul_right q (by omega)
  rw [show (y : Int) * (q : Int) = ((y * q : Nat) : Int) from by simp, Int.emod_eq_of_lt (by omega) (by omega), u64_or_nat m (y * q) (by omega) (by omega), Nat.or_comm, nat_join (8 * k) _ _ (by rw [hq]; exact Nat.mul_mod_left _ _) (by omega)]
  omega

theorem leNum_bd (zs : List Int) (h : ∀ z ∈ zs, 0 ≤ z ∧ z ≤ 255) : 0 ≤ leNum zs ∧ leNum zs < 2 ^ (8 * zs.length) := by
  have := beNum_bd zs.reverse fun z hz => h z (by simpa using hz)
  rw [List.length_reverse] at this
  exact this

set_option maxHeartbeats 400000 in
theorem getLe_ok (A : Option Addr) (n c : Nat) (zs : List Int) (a m : Int) (w : World) (hs : Ints .u8 w A n zs) (hz : ∀ z ∈ zs, 0 ≤ z ∧ z ≤ 255) (hnc : n ≤ c) (hn : n ≤ 100000000000000) (ha : 0 ≤ a) (h0 : 1 ≤ m) (hm : m ≤ 8) (ham : a + m ≤ n) :
    Calls Tryd.prog 32 #[.slice A n c, .int .i64 a, .int .i64 m] w fun e w' => e = .returned (.tuple #[.int .u64 (leNum ((zs.drop a.toNat).take m.toNat)), .bool true]) ∧ w = w' := by
  obtain ⟨s, rfl⟩ := Int.eq_ofNat_of_zero_le (show 0 ≤ m by omega)
  obtain ⟨p, rfl⟩ := Int.eq_ofNat_of_zero_le ha
  rw [Int.toNat_natCast, Int.toNat_natCast]
  have HZ := Lib.hid hz
  have d1 : decide ((s : Int) < 1) = false := by simp; omega
  have d2 : decide (8 < (s : Int)) = false := by simp; omega
  have d3 : decide ((p : Int) < 0) = false := by simp
  have d4 : decide ((n : Int) - s < p) = false := by simp; omega
  have hcut := run_cut_lh el_byte A n c .i64 .i64 (p : Int) ((p : Int) + s) p (p + s) rfl (by omega) (by omega) (by omega)
  have hct := hs.cut (lo := p) (hi := p + s) (c := c) (by omega) (by omega) hnc
  rw [Nat.add_sub_cancel_left] at hcut hct
  have HS := Lib.hid hs
  have HL := hs.len
  clear hz hs
  go_enter Tryd.func32, Tryd.ntmps32
  go_wp2
  go_loop [8, 36] (fun x i => ∃ k : Nat, k ≤ s ∧ i = .int .i64 k ∧ x = .int .u64 (leNum ((zs.drop p).take k))) (fun _ i => s - (intOf i).toNat)
  case atStart => exact ⟨0, by omega, rfl, rfl⟩
  case round =>
    obtain ⟨k, hk, rfl, rfl⟩ := hrel
    by_cases hlt : k < s
    · obtain ⟨x, HX, hcell⟩ := hct.int hlt
      have hix := hct.index el_byte (c - p) .i64 k hlt
      have HX2 : Hid (zs[p + k]? = some x) := by
        have := HX.out
        rw [List.getElem?_take_of_lt hlt, List.getElem?_drop] at this
        exact this
      obtain ⟨hx0, hx1⟩ := HZ.out x (List.mem_of_getElem? HX2.out)
      have HK : Hid (((zs.drop p).take k).length = k) := by
        have := HL.out
        show _ = _
        rw [List.length_take, List.length_drop]; omega
      have hb := leNum_bd ((zs.drop p).take k) fun z h => HZ.out z (List.mem_of_mem_drop (List.mem_of_mem_take h))
      rw [HK.out] at hb
      have hor := or_high _ x k (by omega) hb.1 hb.2 hx0 hx1
      clear hct hb
      go_wp2
      go_round
      case rel => exact ⟨k + 1, by omega, by go_num, by rw [take_num HX2.out, leNum_snoc, HK.out]⟩
      case measure => simp [intOf]; omega
    · obtain rfl : k = s := by omega
      go_wp2
      go_ret2
      exact ⟨rfl, rfl⟩

set_option maxHeartbeats 400000 in
theorem turned_any (A : Option Addr) (n c : Nat) (zs : List Int) (w : World) (hs : Ints .u8 w A n zs) (hn : n ≤ 100000000000000) :
    Calls Tryd.prog 22 #[.slice A n c] w (NewBytes n zs.reverse w) := by
  have HL := hs.len
  go_enter Tryd.func22, Tryd.ntmps22
  go_wp2
  go_loopw [3, 4] (fun x i wr => ∃ k : Nat, k ≤ n ∧ i = .int .i64 ((n : Int) - 1 - k) ∧ ∃ X cc, x = .slice X k cc ∧ Own wr w.heap.size 5 1 X k cc ((zs.reverse.take k).map (Value.int .u8)) ∧ Upd [] w wr) (fun _ i _ => (intOf i + 1).toNat)
  case atStart => exact ⟨0, by omega, by simp, none, 0, rfl, Own.nil _ _ _ _, Upd.refl _ _⟩
  case round =>
    obtain ⟨k, hk, rfl, X, cc, rfl, hown, hu⟩ := hrel
    by_cases hlt : k < n
    · have hsr := hs.upd hu (by simp)
      obtain ⟨x, HX, hcell⟩ := hsr.int (i := n - 1 - k) (by omega)
      have hix := hsr.indexI el_byte c .i64 ((n : Int) - 1 - k) (n - 1 - k) (by omega) (by omega)
      have hB : w.heap.size ≤ wr.heap.size := hu.size
      have hd : decide ((n : Int) - 1 - k < 0) = false := by simp; omega
      have hd2 : decide (0 ≤ (n : Int) - 1 - k) = true := by simp; omega
      have HT : Hid (zs.reverse.take (k + 1) = zs.reverse.take k ++ [x]) := by
        have hL := HL.out
        have h1 := HX.out
        have hk2 : k < zs.reverse.length := by rw [List.length_reverse]; omega
        show _ = _
        rw [List.take_succ_eq_append_getElem hk2, List.getElem_reverse]
        rw [List.getElem?_eq_getElem (by omega)] at h1
        injection h1 with h1
        congr 2
        rw [← h1]
        congr 1
        omega
      clear hs hsr
      go_wp2_with (at_builtin; refine wpList_app rfl rfl el_byte rfl (hown.alloc _) rfl (Seg.one wr _ _) (by intro u hu; simp at hu; subst hu; rfl) (by simp only [maxLen]; omega) (by omega) (by simp; omega) ?_; intro X3 c3 w3 hown3 hu3 hfr3)
      go_roundw
      case rel =>
        refine ⟨k + 1, by omega, by simp [go_sem]; omega, X3, c3, rfl, ?_, (hu.alloc _).then hu3 (fun b hb => ?_)⟩
        · rw [HT.out, List.map_append]
          exact hown3
        · right
          simp at hb
          exact (hown.base hb.symm).1
      case measure => simp [intOf, go_sem]; omega
    · obtain rfl : k = n := by omega
      have hd : decide ((k : Int) - 1 - k < 0) = true := by simp; omega
      have hd2 : decide (0 ≤ (k : Int) - 1 - k) = false := by simp; omega
      go_wp2
      go_ret
      refine ⟨X, cc, rfl, ?_, hu⟩
      rw [List.take_of_length_le (by rw [List.length_reverse, HL.out]; omega)] at hown
      exact hown

/-- A number and that it is one; the world but for new blocks. -/
def NumPost (v : Int) (w : World) (e : Ending) (w' : World) : Prop := e = .returned (.tuple #[.int .u64 v, .bool true]) ∧ Upd [] w w'

set_option maxHeartbeats 400000 in
theorem rgetLe_ok (A : Option Addr) (n c : Nat) (zs : List Int) (a m : Int) (w : World) (hs : Ints .u8 w A n zs) (hz : ∀ z ∈ zs, 0 ≤ z ∧ z ≤ 255) (hnc : n ≤ c) (hn : n ≤ 100000000000000) (ha : 0 ≤ a) (h0 : 1 ≤ m) (hm : m ≤ 8) (ham : a + m ≤ n) :
    Calls Tryd.prog 27 #[.slice A n c, .int .i64 a, .int .i64 m] w (NumPost (leNum ((zs.drop a.toNat).take m.toNat)) w) := by
  obtain ⟨s, rfl⟩ := Int.eq_ofNat_of_zero_le (show 0 ≤ m by omega)
  obtain ⟨p, rfl⟩ := Int.eq_ofNat_of_zero_le ha
  rw [Int.toNat_natCast, Int.toNat_natCast]
  have HZ := Lib.hid hz
  have d1 : decide ((s : Int) < 1) = false := by simp; omega
  have d2 : decide (8 < (s : Int)) = false := by simp; omega
  have d3 : decide ((p : Int) < 0) = false := by simp
  have d4 : decide (n < p) = false := by simp; omega
  have d5 : decide ((n : Int) - p < s) = false := by simp; omega
  have hcut := run_cut_lh el_byte A n c .i64 .i64 (p : Int) ((p : Int) + s) p (p + s) rfl (by omega) (by omega) (by omega)
  have hct := hs.cut (lo := p) (hi := p + s) (c := c) (by omega) (by omega) hnc
  rw [Nat.add_sub_cancel_left] at hcut hct
  have HC := Lib.hid hct
  have HL := HC.out.len
  have HB : Hid (∀ z ∈ ((zs.drop p).take s).reverse, 0 ≤ z ∧ z ≤ 255) := fun z h => HZ.out z (List.mem_of_mem_drop (List.mem_of_mem_take (List.mem_reverse.1 h)))
  clear hz hs hct
  go_enter Tryd.func27, Tryd.ntmps27
  go_wp2_with fail
  refine (turned_any _ s (c - p) _ w HC.out (by omega)).mono ?_
  rintro e w1 ⟨A1, c1, rfl, hown1, hu1⟩
  go_wp2_with fail
  refine (rgetBe_ok A1 s c1 _ 0 s w1 (Ints.ofOwn hown1) HB.out (by omega) (by omega) h0 hm (by omega)).mono ?_
  rintro e w2 ⟨rfl, rfl⟩
  go_wp2
  go_ret2
  refine ⟨?_, hu1⟩
  rw [leNum, List.take_of_length_le (l := ((zs.drop p).take s).reverse) (by simp; omega)]
  rfl


end Go.Proofs.YthojhmkahjpflaaDoor
