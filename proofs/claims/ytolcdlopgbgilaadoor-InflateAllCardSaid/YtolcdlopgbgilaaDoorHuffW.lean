/- The walks of huff.Writer's methods and of bytes.Clone. -/
import Derived.Test.YtolcdlopgbgilaaDoorElems
import Derived.Test.YtolcdlopgbgilaaDoorBits
import Derived.BigRegion
namespace Go.Proofs.YtolcdlopgbgilaaDoor
open Go.RowKit Go.Dray


/-- bytes.Clone hands back a new slice of the same bytes. -/
def ClonePost (n : Nat) (xs : List Value) (w : World) (e : Ending) (w' : World) : Prop :=
  ∃ A c, e = .returned (.slice A n c) ∧ Own w' w.heap.size 5 1 A n c xs ∧ Upd [] w w'

set_option maxHeartbeats 400000 in
theorem clone_any (A : Option Addr) (n c : Nat) (zs : List Int) (w : World) (hs : Ints .u8 w A n zs) (hn : n ≤ 100000000000000) :
    Calls Tryd.prog 54 #[.slice A n c] w (ClonePost n (zs.map (Value.int .u8)) w) := by
  have kn := fun (W : World) => Lib.run_eql_slice_nil (P := Tryd.prog) W 22 5 A n c 0 0 Tryd.underlying22
  have HL := hs.len
  rcases A with _ | a
  · have h0 : n = 0 := by
      rcases Nat.eq_zero_or_pos n with h | h
      · exact h
      · have := Seg.at_ hs h; cases this
    subst h0
    have hz : zs = [] := List.eq_nil_of_length_eq_zero HL.out
    subst hz
    simp only [Option.isNone_none] at kn
    go_enter Tryd.func54, Tryd.ntmps54
    go_wp2
    go_ret
    exact ⟨none, 0, rfl, Own.nil _ _ _ _, Upd.refl _ _⟩
  · simp only [Option.isNone_some] at kn
    go_enter Tryd.func54, Tryd.ntmps54
    go_wp2_with (at_builtin; refine wpList_app rfl rfl el_byte rfl (Own.empty w w.heap.size _ (Nat.le_refl _)) rfl (Seg.upd hs ((Upd.refl [] w).alloc _) (by omega) (by simp)) (ints_one _ _) (by simp only [maxLen]; omega) (by omega) (by simp) ?_; intro A1 c1 w1 hown1 hu1 hfr1; simp only [Nat.zero_add, List.nil_append] at hown1 ⊢)
    go_ret
    exact ⟨A1, c1, rfl, hown1, ((Upd.refl [] w).alloc _).then hu1 (by intro b h; right; simp [ob] at h; omega)⟩

/-- A writer at block g whose bits are bs; its bytes lie at A. -/
def Wr (w : World) (B g : Nat) (A : Option Addr) (bs : List Bool) : Prop :=
  ∃ n c, Blk w g 107 #[.slice A n c, .int .i64 bs.length] ∧ Own w B 5 1 A n c ((pack bs).map (Value.int .u8))

theorem Wr.base {w : World} {B g : Nat} {A : Option Addr} {bs : List Bool} (h : Wr w B g A bs) {k : Nat} (hk : ob A = some k) : B ≤ k ∧ k < w.heap.size := by
  obtain ⟨n, c, hb, hown⟩ := h
  exact hown.base hk
theorem Wr.thenUpd {w0 w w' : World} {B g : Nat} {A : Option Addr} {bs : List Bool} (h : Wr w B g A bs) (h0 : Upd [] w0 w) (hu : Upd [some g, ob A] w w') (hB : w0.heap.size ≤ B) (hg : w0.heap.size ≤ g) : Upd [] w0 w' :=
  h0.then hu fun b hb => by
    simp at hb
    rcases hb with rfl | hb
    · exact Or.inr hg
    · have := (h.base hb.symm).1; right; omega
theorem Wr.upd {w w' : World} {B g : Nat} {A : Option Addr} {bs : List Bool} {L : List (Option Nat)} (h : Wr w B g A bs) (hu : Upd L w w') (hg : some g ∉ L) (hA : ∀ k, ob A = some k → some k ∉ L) : Wr w' B g A bs := by
  obtain ⟨n, c, hb, hown⟩ := h
  exact ⟨n, c, hb.upd hu hg, hown.upd hu hA⟩

theorem Wr.monoB {w : World} {B B' g : Nat} {A : Option Addr} {bs : List Bool} (h : Wr w B g A bs) (hB : B' ≤ B) : Wr w B' g A bs := by
  obtain ⟨n, c, hb, hown⟩ := h
  exact ⟨n, c, hb, hown.monoB hB⟩
theorem Wr.drewN {w : World} {B g : Nat} {A : Option Addr} {bs : List Bool} (h : Wr w B g A bs) (q : Nat) : Wr (w.drewN q) B g A bs := h
/-- What a writer does leaves other rows and blocks alone. -/
theorem Own.updWr {w w' : World} {B B' g : Nat} {e : TypeId} {sz : Nat} {A WA : Option Addr} {n c : Nat} {xs : List Value} {bs : List Bool} (h : Own w B e sz A n c xs) (hw : Wr w B' g WA bs) (hu : Upd [some g, ob WA] w w')
    (h1 : e ≠ 5) (h2 : e ≠ 107) : Own w' B e sz A n c xs := by
  obtain ⟨n', c', hb, hown⟩ := hw
  refine h.upd hu fun k hk hm => ?_
  simp at hm
  rcases hm with hm | hm
  · subst hm; exact h.neBlk hb h2 hk
  · exact h.neOwn hown h1 hk hm.symm
theorem Blk.updWr {w w' : World} {B' g k : Nat} {t : TypeId} {WA : Option Addr} {cs : Array Value} {bs : List Bool} (h : Blk w k t cs) (hw : Wr w B' g WA bs) (hu : Upd [some g, ob WA] w w')
    (h1 : t ≠ 5) (h2 : t ≠ 107) : Blk w' k t cs := by
  obtain ⟨n', c', hb, hown⟩ := hw
  refine h.upd hu fun hm => ?_
  simp at hm
  rcases hm with hm | hm
  · subst hm; exact h.ne hb h2 rfl
  · exact hown.neBlk h (fun e => h1 e.symm) hm.symm

/-- What writing leaves: the writer, with its bits; nothing else has changed. -/
def WrPost (w : World) (B g : Nat) (A : Option Addr) (bs : List Bool) (e : Ending) (w' : World) : Prop :=
  e = .returned (.tuple #[]) ∧ ∃ A', Wr w' B g A' bs ∧ Upd [some g, ob A] w w' ∧ Fresh w A A'

set_option maxHeartbeats 400000 in
theorem bit_new (w : World) (B g n c : Nat) (A : Option Addr) (bs : List Bool) (v : Int) (hm : bs.length % 8 = 0) (hl : bs.length ≤ 1000000000000) (hB : B ≤ w.heap.size)
    (hb : Blk w g 107 #[.slice A n c, .int .i64 bs.length]) (hown : Own w B 5 1 A n c ((pack bs).map (Value.int .u8))) :
    Calls Tryd.prog 68 #[.pointer (some ⟨g, 0, none⟩), .int .i64 v] w (WrPost w B g A (bs ++ [low v])) := by
  have hnl := hown.len
  rw [List.length_map, pack_len] at hnl
  have hn : n ≤ 1000000000000 := by omega
  have hn1 : 0 < bs.length → 1 ≤ n := by omega
  have HN := Lib.hid hnl
  have HM := Lib.hid hm
  clear hnl
  have hc0 := hb.cell 0
  have hc1 := hb.cell 1
  have hf0 := hb.frozen 0
  have hf1 := hb.frozen 1
  simp at hc0 hc1
  obtain ⟨N, hN⟩ : ∃ N : Nat, N = bs.length := ⟨_, rfl⟩
  rw [← hN] at hm hl hc1 hn1
  have hmd : ((N : Int) % 8 == 0) = true := by simp; omega
  have HNN := Lib.hid hN
  clear hN hm hn1
  go_enter Tryd.func68, Tryd.ntmps68
  go_wp2_with (at_builtin; refine wpList_app rfl rfl el_byte rfl (hown.alloc _) rfl (Seg.one _ _ _) (by simp [Value.oneCell']) (by simp only [maxLen]; omega) (by omega) (by simp; omega) ?_; intro A1 c1 w1 hown1 hu1 hfr1; have hb1 := (hb.alloc _).upd hu1 (by have := hown.neBlk hb (by decide); simp; exact fun h => this h.symm); have hc0' := hb1.cell 0; have hf0' := hb1.frozen 0; simp at hc0')
  obtain ⟨w2, hw2⟩ : ∃ w2 : World, w2 = w1.setCell ⟨g, 0, none⟩ (.slice A1 (n + 1) c1) := ⟨_, rfl⟩
  rw [← hw2]
  have hb2 : Blk w2 g 107 #[.slice A1 (n + 1) c1, .int .i64 bs.length] := by rw [hw2]; exact hb1.set 0 _
  have hown2 : Own w2 B 5 1 A1 (n + 1) c1 (((pack bs) ++ [0]).map (Value.int .u8)) := by rw [hw2, List.map_append]; exact hown1.far (hown1.neBlk hb1 (by decide)) _
  have hu2 : Upd [some g, ob A] w w2 := by
    rw [hw2]
    exact (((Upd.refl _ w).alloc _).then hu1 (by intro b h; left; simp at h ⊢; exact Or.inr h)).putIn (by simp) _
  have HW := Lib.hid hw2
  clear hw2 hb1 hown1 hu1 hc0' hf0' hc0 hc1 hf0 hf1 hb hown
  have hc0 := hb2.cell 0
  have hc1 := hb2.cell 1
  have hf1 := hb2.frozen 1
  simp at hc0 hc1
  rw [← HNN.out] at hc1
  obtain ⟨y, HY, hcell⟩ := (Ints.ofOwn hown2).int (i := n) (by omega)
  have hix := (Ints.ofOwn hown2).index el_byte c1 .i64 n (by omega)
  have hfz := hown2.frozen (by omega) n
  go_region
  obtain ⟨T, hT⟩ : ∃ T : Int, T = bits .or .u8 y (bits .and .i64 v 1 % 256 * 2 ^ (N % 8) % 256) := ⟨_, rfl⟩
  obtain ⟨w3, hw3⟩ : ∃ w3 : World, w3 = (w2.setCell ⟨bl A1, ofs A1 + n, none⟩ (.int .u8 T)).drew := ⟨_, rfl⟩
  rw [← hT, ← hw3]
  have hne : ob A1 ≠ some g := hown2.neBlk hb2 (by decide)
  have hob := hown2.obl (by omega)
  have hb3 : Blk w3 g 107 #[.slice A1 (n + 1) c1, .int .i64 bs.length] := by rw [hw3]; exact (hb2.far (p := ⟨bl A1, ofs A1 + n, none⟩) (by intro h; rw [hob] at hne; exact hne (by rw [h])) _).drew
  have hown3 := (hown2.set (k := n) (by omega) (.int .u8 T)).drew
  rw [← hw3, ← List.map_set] at hown3
  have hu3 : Upd [some g, ob A] w w3 := by
    rw [hw3]
    refine (hu2.setCell (p := ⟨bl A1, ofs A1 + n, none⟩) ?_ _).drew
    rcases hfr1 (bl A1) hob with h | h
    · left; simp [h]
    · right; simp at h; show w.heap.size ≤ bl A1; omega
  have HP : Hid ((pack bs ++ [0]).set n T = pack (bs ++ [low v])) := by
    have h1 := HN.out
    have h2 := HY.out
    rw [Nat.mul_one] at h1
    show (pack bs ++ [0]).set n T = pack (bs ++ [low v])
    rw [hT, HNN.out]
    rw [← h1] at h2 ⊢
    exact pack_new' bs v HM.out y h2
  rw [HP.out] at hown3
  have HT := Lib.hid hT
  have HW3 := Lib.hid hw3
  clear hT hw3 hb2 hown2 hu2 hc0 hc1 hf1 hcell hfz hix HY HP HW
  have hc1 := hb3.cell 1
  have hf1 := hb3.frozen 1
  simp at hc1
  rw [← HNN.out] at hc1
  go_wp2
  go_end0
  refine ⟨rfl, A1, ⟨_, c1, ?_, hown3.far hne _⟩, hu3.putIn (by simp) _, ?_⟩
  · have := hb3.set 1 (.int .i64 ((N : Int) + 1))
    rw [List.length_append, show ((bs.length + [low v].length : Nat) : Int) = (N : Int) + 1 from by rw [HNN.out]; simp]
    exact this
  · intro k hk
    rcases hfr1 k hk with h | h
    · exact Or.inl h
    · right; simp at h; omega

set_option maxHeartbeats 400000 in
theorem bit_old (w : World) (B g n c1 : Nat) (A1 : Option Addr) (bs : List Bool) (v : Int) (hm : bs.length % 8 ≠ 0) (hl : bs.length ≤ 1000000000000) (hB : B ≤ w.heap.size)
    (hb : Blk w g 107 #[.slice A1 n c1, .int .i64 bs.length]) (hown : Own w B 5 1 A1 n c1 ((pack bs).map (Value.int .u8))) :
    Calls Tryd.prog 68 #[.pointer (some ⟨g, 0, none⟩), .int .i64 v] w (WrPost w B g A1 (bs ++ [low v])) := by
  have hnl := hown.len
  rw [List.length_map, pack_len] at hnl
  have hn : n ≤ 1000000000000 := by omega
  have hn1 : 0 < bs.length → 1 ≤ n := by omega
  have HN := Lib.hid hnl
  have HM := Lib.hid hm
  clear hnl
  have hc0 := hb.cell 0
  have hc1 := hb.cell 1
  have hf0 := hb.frozen 0
  have hf1 := hb.frozen 1
  simp at hc0 hc1
  obtain ⟨N, hN⟩ : ∃ N : Nat, N = bs.length := ⟨_, rfl⟩
  rw [← hN] at hm hl hc1 hn1
  have hmd : ((N : Int) % 8 == 0) = false := by simp; omega
  have hn2 : 1 ≤ n := hn1 (by omega)
  have HNN := Lib.hid hN
  clear hN hm hn1
  obtain ⟨y, HY, hcell⟩ := (Ints.ofOwn hown).int (i := n - 1) (by omega)
  have hix := (Ints.ofOwn hown).index el_byte c1 .i64 (n - 1) (by omega)
  have hfz := hown.frozen (by omega) (n - 1)
  have hu2 := Upd.refl [some g, ob A1] w
  have hcast : ((n - 1 : Nat) : Int) = (n : Int) - 1 := by omega
  rw [hcast] at hix
  clear hcast
  go_enter Tryd.func68, Tryd.ntmps68
  go_wp2
  obtain ⟨w2, rfl⟩ : ∃ w2 : World, w2 = w := ⟨_, rfl⟩
  have hb2 := hb
  have hown2 := hown
  go_region
  obtain ⟨T, hT⟩ : ∃ T : Int, T = bits .or .u8 y (bits .and .i64 v 1 % 256 * 2 ^ (N % 8) % 256) := ⟨_, rfl⟩
  obtain ⟨w3, hw3⟩ : ∃ w3 : World, w3 = (w2.setCell ⟨bl A1, ofs A1 + (n - 1), none⟩ (.int .u8 T)).drew := ⟨_, rfl⟩
  rw [← hT, ← hw3]
  have hne : ob A1 ≠ some g := hown2.neBlk hb2 (by decide)
  have hob := hown2.obl (by omega)
  have hb3 : Blk w3 g 107 #[.slice A1 (n) c1, .int .i64 bs.length] := by rw [hw3]; exact (hb2.far (p := ⟨bl A1, ofs A1 + (n - 1), none⟩) (by intro h; rw [hob] at hne; exact hne (by rw [h])) _).drew
  have hown3 := (hown2.set (k := (n - 1)) (by omega) (.int .u8 T)).drew
  rw [← hw3, ← List.map_set] at hown3
  have hu3 : Upd [some g, ob A1] w2 w3 := by
    rw [hw3]
    refine (hu2.setCell (p := ⟨bl A1, ofs A1 + (n - 1), none⟩) ?_ _).drew
    left; simp [hob]
  have HP : Hid ((pack bs).set (n - 1) T = pack (bs ++ [low v])) := by
    have h1 := HN.out
    have h2 := HY.out
    rw [Nat.mul_one] at h1
    show (pack bs).set (n - 1) T = pack (bs ++ [low v])
    rw [hT, HNN.out]
    rw [← h1] at h2 ⊢
    exact pack_old' bs v HM.out y h2
  rw [HP.out] at hown3
  have HT := Lib.hid hT
  have HW3 := Lib.hid hw3
  clear hT hw3 hb2 hown2 hu2 hc0 hc1 hf1 hcell hfz hix HY HP
  have hc1 := hb3.cell 1
  have hf1 := hb3.frozen 1
  simp at hc1
  rw [← HNN.out] at hc1
  go_wp2
  go_end0
  refine ⟨rfl, A1, ⟨_, c1, ?_, hown3.far hne _⟩, hu3.putIn (by simp) _, ?_⟩
  · have := hb3.set 1 (.int .i64 ((N : Int) + 1))
    rw [List.length_append, show ((bs.length + [low v].length : Nat) : Int) = (N : Int) + 1 from by rw [HNN.out]; simp]
    exact this
  · intro k hk
    exact Or.inl hk

theorem bit_any (w : World) (B g : Nat) (A : Option Addr) (bs : List Bool) (v : Int) (hl : bs.length ≤ 1000000000000) (hB : B ≤ w.heap.size) (h : Wr w B g A bs) :
    Calls Tryd.prog 68 #[.pointer (some ⟨g, 0, none⟩), .int .i64 v] w (WrPost w B g A (bs ++ [low v])) := by
  obtain ⟨n, c, hb, hown⟩ := h
  by_cases hm : bs.length % 8 = 0
  · exact bit_new w B g n c A bs v hm hl hB hb hown
  · exact bit_old w B g n c A bs v hm hl hB hb hown

/-- The lowest n bits of a number, the lowest first. -/
def digits (v : Int) (n : Nat) : List Bool := tab n fun k => low (v / 2 ^ k)
/-- A row of n bits, the highest first. -/
def rowBits (v : Int) (n : Nat) : List Bool := tab n fun k => low (v / 2 ^ (n - 1 - k))

theorem tab_succ {α : Type} (n : Nat) (f : Nat → α) : tab (n + 1) f = tab n f ++ [f n] := by simp [tab, List.range_succ]

set_option maxHeartbeats 400000 in
theorem put_any (w : World) (B g : Nat) (A : Option Addr) (bs : List Bool) (v m : Int) (h0 : 0 ≤ m) (hm : m ≤ 24) (hl : bs.length ≤ 100000000000) (hB : B ≤ w.heap.size) (h : Wr w B g A bs) :
    Calls Tryd.prog 37 #[.pointer (some ⟨g, 0, none⟩), .int .i64 v, .int .i64 m] w (WrPost w B g A (bs ++ digits v m.toNat)) := by
  obtain ⟨n, rfl⟩ := Int.eq_ofNat_of_zero_le h0
  rw [Int.toNat_natCast]
  have HW := Lib.hid h
  clear h
  have hd0 : decide ((n : Int) < 0) = false := by simp
  have hd1 : decide (24 < (n : Int)) = false := by simp; omega
  go_enter Tryd.func37, Tryd.ntmps37
  go_wp2
  go_loopw [14] (fun i wr => ∃ k : Nat, k ≤ n ∧ i = .int .i64 k ∧ ∃ A1, Wr wr B g A1 (bs ++ tab k fun j => low (v / 2 ^ j)) ∧ Upd [some g, ob A] w wr ∧ Fresh w A A1) (fun i _ => n - (intOf i).toNat)
  case atStart => exact ⟨0, Nat.zero_le _, rfl, A, by simpa [tab] using HW.out, Upd.refl _ _, fun g hg => Or.inl hg⟩
  case round =>
    obtain ⟨k, hk, rfl, A1, HW1, hu1, hfr1⟩ := hrel
    by_cases h : k < n
    · have hlen : (bs ++ tab k fun j => low (v / 2 ^ j)).length ≤ 1000000000000 := by rw [List.length_append, tab_len]; omega
      have hBr : B ≤ wr.heap.size := by have := hu1.size; omega
      go_wp2_with (go_at_call 68; refine (bit_any wr B g A1 _ _ hlen hBr HW1).mono ?_; rintro e w2 ⟨rfl, A2, HW2, hu2, hfr2⟩)
      go_roundw
      case rel =>
        refine ⟨k + 1, by omega, by go_num, A2, ?_, hu1.then hu2 (fun b hb => ?_), fun b hb => ?_⟩
        · rw [tab_succ, ← List.append_assoc]; exact HW2
        · simp at hb
          rcases hb with hb | hb
          · left; simp [hb]
          · rcases hfr1 b hb.symm with h | h
            · left; simp [h]
            · exact Or.inr h
        · rcases hfr2 b hb with h | h
          · exact hfr1 b h
          · right; have := hu1.size; omega
      case measure => simp [intOf]; omega
    · obtain rfl : k = n := by omega
      go_wp2
      go_end0
      exact ⟨rfl, A1, HW1, hu1, hfr1⟩

set_option maxHeartbeats 400000 in
theorem code_any (w : World) (B g : Nat) (A : Option Addr) (bs : List Bool) (v m : Int) (h0 : 0 ≤ m) (hm : m ≤ 15) (hl : bs.length ≤ 100000000000) (hB : B ≤ w.heap.size) (h : Wr w B g A bs) :
    Calls Tryd.prog 72 #[.pointer (some ⟨g, 0, none⟩), .int .i64 v, .int .i64 m] w (WrPost w B g A (bs ++ rowBits v m.toNat)) := by
  obtain ⟨n, rfl⟩ := Int.eq_ofNat_of_zero_le h0
  rw [Int.toNat_natCast]
  have HW := Lib.hid h
  clear h
  have hd0 : decide ((n : Int) < 0) = false := by simp
  have hd1 : decide (15 < (n : Int)) = false := by simp; omega
  go_enter Tryd.func72, Tryd.ntmps72
  go_wp2
  go_loopw [14] (fun i wr => ∃ k : Nat, k ≤ n ∧ i = .int .i64 k ∧ ∃ A1, Wr wr B g A1 (bs ++ tab k fun j => low (v / 2 ^ (n - 1 - j))) ∧ Upd [some g, ob A] w wr ∧ Fresh w A A1) (fun i _ => n - (intOf i).toNat)
  case atStart => exact ⟨0, Nat.zero_le _, rfl, A, by simpa [tab] using HW.out, Upd.refl _ _, fun g hg => Or.inl hg⟩
  case round =>
    obtain ⟨k, hk, rfl, A1, HW1, hu1, hfr1⟩ := hrel
    by_cases h : k < n
    · have hlen : (bs ++ tab k fun j => low (v / 2 ^ (n - 1 - j))).length ≤ 1000000000000 := by rw [List.length_append, tab_len]; omega
      have hBr : B ≤ wr.heap.size := by have := hu1.size; omega
      go_wp2_with (go_at_call 68; refine (bit_any wr B g A1 _ _ hlen hBr HW1).mono ?_; rintro e w2 ⟨rfl, A2, HW2, hu2, hfr2⟩)
      go_roundw
      case rel =>
        refine ⟨k + 1, by omega, by go_num, A2, ?_, hu1.then hu2 (fun b hb => ?_), fun b hb => ?_⟩
        · rw [tab_succ, ← List.append_assoc]; exact HW2
        · simp at hb
          rcases hb with hb | hb
          · left; simp [hb]
          · rcases hfr1 b hb.symm with h | h
            · left; simp [h]
            · exact Or.inr h
        · rcases hfr2 b hb with h | h
          · exact hfr1 b h
          · right; have := hu1.size; omega
      case measure => simp [intOf]; omega
    · obtain rfl : k = n := by omega
      go_wp2
      go_end0
      exact ⟨rfl, A1, HW1, hu1, hfr1⟩

set_option maxHeartbeats 400000 in
theorem newWriter_any (w : World) :
    Calls Tryd.prog 35 #[] w fun e w' => e = .returned (.pointer (some ⟨w.heap.size, 0, none⟩)) ∧ w' = w.alloc (.cells #[.slice none 0 0, .int .i64 0] 107) := by
  go_enter Tryd.func35, Tryd.ntmps35
  go_wp2
  go_ret
  exact ⟨rfl, rfl⟩

theorem Wr.new (w : World) (B : Nat) : Wr (w.alloc (.cells #[.slice none 0 0, .int .i64 0] 107)) B w.heap.size none [] := ⟨0, 0, Blk.new _ _ _, Own.nil _ _ _ _⟩

set_option maxHeartbeats 400000 in
theorem wbytes_any (w : World) (B g : Nat) (A : Option Addr) (bs : List Bool) (hl : bs.length ≤ 100000000000) (h : Wr w B g A bs) (n : Nat) (hnb : (bs.length + 7) / 8 = n) (ys : List Int) (hys : pack bs = ys) :
    Calls Tryd.prog 43 #[.pointer (some ⟨g, 0, none⟩)] w (ClonePost n (ys.map (Value.int .u8)) w) := by
  subst hys
  obtain ⟨n', c, hb, hown⟩ := h
  have hnl := hown.len
  rw [List.length_map, pack_len] at hnl
  obtain rfl : n' = n := by omega
  have hn : n' ≤ 100000000000000 := by omega
  have hc0 := hb.cell 0
  simp at hc0
  have HS := Lib.hid (Ints.ofOwn hown)
  clear hnl hnb hb hown
  go_enter Tryd.func43, Tryd.ntmps43
  go_wp2_with (go_at_call 54; refine (clone_any A n' c (pack bs) w HS.out hn).mono ?_; rintro e w1 ⟨A1, c1, rfl, hown1, hu1⟩)
  go_ret
  exact ⟨A1, c1, rfl, hown1, hu1⟩

end Go.Proofs.YtolcdlopgbgilaaDoor
