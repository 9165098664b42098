/- The tables that are laid when the call begins; a hash's block. -/
import Derived.Test.YthojhmkahjpflaaDoorDigB
import Derived.Deep.MidRow
import Derived.Laws.CopyRow
namespace Go.Proofs.YthojhmkahjpflaaDoor
open Go.RowKit Go.Dray

def md5L : List Int := [3614090360, 3905402710, 606105819, 3250441966, 4118548399, 1200080426, 2821735955, 4249261313, 1770035416, 2336552879, 4294925233, 2304563134, 1804603682, 4254626195, 2792965006, 1236535329, 4129170786, 3225465664, 643717713, 3921069994, 3593408605, 38016083, 3634488961, 3889429448, 568446438, 3275163606, 4107603335, 1163531501, 2850285829, 4243563512, 1735328473, 2368359562, 4294588738, 2272392833, 1839030562, 4259657740, 2763975236, 1272893353, 4139469664, 3200236656, 681279174, 3936430074, 3572445317, 76029189, 3654602809, 3873151461, 530742520, 3299628645, 4096336452, 1126891415, 2878612391, 4237533241, 1700485571, 2399980690, 4293915773, 2240044497, 1873313359, 4264355552, 2734768916, 1309151649, 4149444226, 3174756917, 718787259, 3951481745]
def shaL : List Int := [1116352408, 1899447441, 3049323471, 3921009573, 961987163, 1508970993, 2453635748, 2870763221, 3624381080, 310598401, 607225278, 1426881987, 1925078388, 2162078206, 2614888103, 3248222580, 3835390401, 4022224774, 264347078, 604807628, 770255983, 1249150122, 1555081692, 1996064986, 2554220882, 2821834349, 2952996808, 3210313671, 3336571891, 3584528711, 113926993, 338241895, 666307205, 773529912, 1294757372, 1396182291, 1695183700, 1986661051, 2177026350, 2456956037, 2730485921, 2820302411, 3259730800, 3345764771, 3516065817, 3600352804, 4094571909, 275423344, 430227734, 506948616, 659060556, 883997877, 958139571, 1322822218, 1537002063, 1747873779, 1955562222, 2024104815, 2227730452, 2361852424, 2428436474, 2756734187, 3204031479, 3329325298]
def md5T (i : Nat) : Int := md5L.getD i 0
def shaT (i : Nat) : Int := shaL.getD i 0

/-- A list's number, 0 beyond its end. -/
def at0 (l : List Int) (i : Nat) : Int := l.getD i 0
theorem at0_get {l : List Int} {i : Nat} (h : i < l.length) : l[i]? = some (at0 l i) := by simp [at0, List.getD, h]
/-- The sum of two numbers of 32 bits. -/
def add32 (a b : Int) : Int := IntKind.u32.wrap (a + b)
theorem add32_wrap (a b : Int) : IntKind.u32.wrap (a + b) = add32 a b := rfl
theorem add32_mod (a b : Int) : (a + b) % 4294967296 = add32 a b := (IntKind.wrap_u32' _).symm
theorem add32_bd (a b : Int) : U32 (add32 a b) := by unfold add32 U32; rw [IntKind.wrap_u32']; omega

/-- The package-level tables, as they are laid. -/
structure Tabs (w : World) : Prop where
  md5 : ∀ i, i < 64 → w.cell? ⟨0, i, none⟩ = some (.int .u32 (md5T i))
  sha : ∀ i, i < 64 → w.cell? ⟨1, i, none⟩ = some (.int .u32 (shaT i))
  turn : ∀ i, i < 64 → w.cell? ⟨2, 4 * (i / 16) + i % 4, none⟩ = some (.int .i64 (turnT i))

theorem Tabs.size {w : World} (h : Tabs w) : 3 ≤ w.heap.size := by
  have h0 := cell_lt (h.md5 0 (by omega))
  have h1 := cell_lt (h.sha 0 (by omega))
  have h2 := cell_lt (h.turn 0 (by omega))
  simp at h0 h1 h2
  omega
theorem Tabs.upd {w w' : World} {L : List (Option Nat)} (h : Tabs w) (hu : Upd L w w') (hL : ∀ b, some b ∈ L → 3 ≤ b) : Tabs w' :=
  ⟨fun i hi => hu.cell (h.md5 i hi) (fun hm => by have := hL _ hm; simp at this), fun i hi => hu.cell (h.sha i hi) (fun hm => by have := hL _ hm; simp at this),
   fun i hi => hu.cell (h.turn i hi) (fun hm => by have := hL _ hm; simp at this)⟩
theorem Tabs.drewN {w : World} (h : Tabs w) (n : Nat) : Tabs (w.drewN n) := ⟨h.md5, h.sha, h.turn⟩

theorem _root_.Go.Dray.Upd.setRow {L : List (Option Nat)} {w w' : World} (h : Upd L w w') {g : Nat} (hp : some g ∈ L ∨ w.heap.size ≤ g) (cs : Array Value) : Upd L w (w'.setRow g cs) :=
  ⟨h.os, h.tape, h.output, by have := h.size; simp [World.setRow]; omega, fun k hk hn => by
    have : (w'.setRow g cs).heap[k]? = w'.heap[k]? := by
      simp only [World.setRow]
      rw [Array.getElem?_modify, if_neg (by rintro rfl; rcases hp with h1 | h1; exact hn h1; omega)]
    exact this.trans (h.block k hk hn)⟩

/-- Indexing an array behind a pointer. -/
theorem arr_indexS {P : Program} {t e : TypeId} {n sz : Nat} (h : P.underlying t = some (.array n e)) (hs : (P.info? e).map (·.size) = some sz) (b o k : Nat) (hk : k < n) (kd : IntKind) :
    ∀ W : World, (Instr.indexAt t (.pointer (some ⟨b, o, none⟩)) (.int kd k)).run P W = .ok (.pointer (some ⟨b, o + k * sz, none⟩)) W := by
  intro W
  have he : P.elem t = e := by simp [Program.elem, h]
  have hl : P.arrayLen t = n := by simp [Program.arrayLen, h]
  cases hq : P.info? e with
  | none => simp [hq] at hs
  | some i =>
    have hi : i.size = sz := by simpa [hq] using hs
    rw [run_indexAt_array (h := by rw [he, hl]; exact h)]
    simp [hl, hk, he, sizeOf, typeInfo, hq, hi, Addr.add_lit]

/-- Indexing an array of one-cell elements behind a pointer. -/
theorem arr_index {P : Program} {t e : TypeId} {n : Nat} (h : P.underlying t = some (.array n e)) (hs : (P.info? e).map (·.size) = some 1) (b o k : Nat) (hk : k < n) (kd : IntKind) :
    ∀ W : World, (Instr.indexAt t (.pointer (some ⟨b, o, none⟩)) (.int kd k)).run P W = .ok (.pointer (some ⟨b, o + k, none⟩)) W := by
  intro W
  have he : P.elem t = e := by simp [Program.elem, h]
  have hl : P.arrayLen t = n := by simp [Program.arrayLen, h]
  cases hq : P.info? e with
  | none => simp [hq] at hs
  | some i =>
    have hi : i.size = 1 := by simpa [hq] using hs
    rw [run_indexAt_array (h := by rw [he, hl]; exact h)]
    simp [hl, hk, he, sizeOf, typeInfo, hq, hi, Addr.add_lit]

/-- The cells of a hash. -/
def hcs (kind : Int) (st tl : List Int) (size : Int) : Array Value := (Value.int .i64 kind :: (st.map (Value.int .u32) ++ (tl.map (Value.int .u8) ++ [Value.int .u64 size]))).toArray

/-- A hash at block g. -/
structure HashAt (w : World) (g : Nat) (kind : Int) (st tl : List Int) (size : Int) : Prop where
  blk : Blk w g 50 (hcs kind st tl size)
  lst : st.length = 8
  ltl : tl.length = 64

section
variable {w w' : World} {g : Nat} {kind : Int} {st tl : List Int} {size : Int} {L : List (Option Nat)}
theorem HashAt.drewN (h : HashAt w g kind st tl size) (n : Nat) : HashAt (w.drewN n) g kind st tl size := ⟨h.blk, h.lst, h.ltl⟩
theorem HashAt.upd (h : HashAt w g kind st tl size) (hu : Upd L w w') (hg : some g ∉ L) : HashAt w' g kind st tl size := ⟨h.blk.upd hu hg, h.lst, h.ltl⟩
theorem HashAt.kind_ (h : HashAt w g kind st tl size) : w.cell? ⟨g, 0, none⟩ = some (.int .i64 kind) := by rw [h.blk.cell]; rfl
theorem HashAt.state (h : HashAt w g kind st tl size) {i : Nat} {x : Int} (hx : st[i]? = some x) : w.cell? ⟨g, 1 + i, none⟩ = some (.int .u32 x) := by
  have hi := (List.getElem?_eq_some_iff.1 hx).1
  rw [h.blk.cell, hcs, List.getElem?_toArray, Nat.add_comm 1 i, List.getElem?_cons_succ, List.getElem?_append_left (by simpa using hi), List.getElem?_map, hx]
  rfl
theorem HashAt.tail (h : HashAt w g kind st tl size) {i : Nat} {x : Int} (hx : tl[i]? = some x) : w.cell? ⟨g, 9 + i, none⟩ = some (.int .u8 x) := by
  have hi := (List.getElem?_eq_some_iff.1 hx).1
  have h8 := h.lst
  rw [h.blk.cell, hcs, List.getElem?_toArray, show 9 + i = (8 + i) + 1 from by omega, List.getElem?_cons_succ, List.getElem?_append_right (by simp; omega), List.length_map, h8, Nat.add_sub_cancel_left, List.getElem?_append_left (by simpa using hi), List.getElem?_map, hx]
  rfl
theorem HashAt.size_ (h : HashAt w g kind st tl size) : w.cell? ⟨g, 73, none⟩ = some (.int .u64 size) := by
  have h8 := h.lst
  have h64 := h.ltl
  rw [h.blk.cell, hcs, List.getElem?_toArray, List.getElem?_cons_succ, List.getElem?_append_right (by simp; omega), List.length_map, h8, List.getElem?_append_right (by simp; omega), List.length_map, h64]
  rfl
/-- Other bytes in the tail. -/
theorem HashAt.put (h : HashAt w g kind st tl size) {k : Nat} {zs : List Int} (hk : k + zs.length ≤ 64) :
    HashAt (w.setRow g ((hcs kind st tl size).toList.take (9 + k) ++ zs.map (Value.int .u8) ++ (hcs kind st tl size).toList.drop (9 + k + (zs.map (Value.int .u8)).length)).toArray) g kind st (tl.take k ++ zs ++ tl.drop (k + zs.length)) size := by
  have h8 := h.lst
  have h64 := h.ltl
  refine ⟨?_, h8, by simp; omega⟩
  have e := setRow_heap w g _ ((hcs kind st tl size).toList.take (9 + k) ++ zs.map (Value.int .u8) ++ (hcs kind st tl size).toList.drop (9 + k + (zs.map (Value.int .u8)).length)).toArray _ _ h.blk
  refine e.trans ?_
  congr 2
  unfold hcs
  congr 1
  rw [List.toList_toArray, show 9 + k = (8 + k) + 1 from by omega, List.take_succ_cons, List.take_append, List.take_of_length_le (l := st.map _) (by simp; omega), List.length_map, h8, Nat.add_sub_cancel_left, List.take_append_of_le_length (by simp; omega), List.length_map,
    show 8 + k + 1 + zs.length = (8 + (k + zs.length)) + 1 from by omega, List.drop_succ_cons, List.drop_append, List.drop_of_length_le (l := st.map _) (by simp; omega), List.length_map, h8, Nat.add_sub_cancel_left, List.drop_append_of_le_length (by simp; omega)]
  simp
/-- Another state. -/
theorem HashAt.putS (h : HashAt w g kind st tl size) {zs : List Int} (hk : zs.length ≤ 8) :
    HashAt (w.setRow g ((hcs kind st tl size).toList.take 1 ++ zs.map (Value.int .u32) ++ (hcs kind st tl size).toList.drop (1 + (zs.map (Value.int .u32)).length)).toArray) g kind (zs ++ st.drop zs.length) tl size := by
  have h8 := h.lst
  refine ⟨?_, by simp; omega, h.ltl⟩
  have e := setRow_heap w g _ ((hcs kind st tl size).toList.take 1 ++ zs.map (Value.int .u32) ++ (hcs kind st tl size).toList.drop (1 + (zs.map (Value.int .u32)).length)).toArray _ _ h.blk
  refine e.trans ?_
  congr 2
  unfold hcs
  congr 1
  rw [List.toList_toArray, List.length_map, Nat.add_comm 1, List.drop_succ_cons, List.drop_append_of_le_length (by simp; omega)]
  simp
theorem HashAt.setSize (h : HashAt w g kind st tl size) (v : Int) : HashAt (w.setCell ⟨g, 73, none⟩ (.int .u64 v)) g kind st tl v := by
  have h8 := h.lst
  have h64 := h.ltl
  refine ⟨?_, h8, h64⟩
  have := h.blk.set 73 (.int .u64 v)
  have e : (hcs kind st tl size).setIfInBounds 73 (.int .u64 v) = hcs kind st tl v := by
    unfold hcs
    rw [List.setIfInBounds_toArray, List.set_cons_succ, List.set_append_right _ _ (by simp; omega), List.set_append_right _ _ (by simp; omega)]
    simp [h8, h64]
  rw [e] at this
  exact this
theorem HashAt.setState (h : HashAt w g kind st tl size) {i : Nat} (hi : i < 8) (v : Int) : HashAt (w.setCell ⟨g, 1 + i, none⟩ (.int .u32 v)) g kind (st.set i v) tl size := by
  have h8 := h.lst
  refine ⟨?_, by simpa using h8, h.ltl⟩
  have := h.blk.set (1 + i) (.int .u32 v)
  have e : (hcs kind st tl size).setIfInBounds (1 + i) (.int .u32 v) = hcs kind (st.set i v) tl size := by
    unfold hcs
    rw [List.setIfInBounds_toArray, Nat.add_comm 1 i, List.set_cons_succ, List.set_append_left _ _ (by simp; omega), ← List.map_set]
  rw [e] at this
  exact this
end

theorem el_u32 : El Tryd.prog 40 24 (.int .u32 0) 1 4 := ⟨Tryd.underlying40, by kernel_rfl, rfl, by omega⟩

theorem segA {w : World} {A : Option Addr} {n : Nat} {kd : IntKind} {zs : List Int} (h : Ints kd w A n zs) (hp : 0 < n) : ∃ ad : Addr, A = some ad ∧ ∀ j v, (zs.map (Value.int kd))[j]? = some v → w.cell? (ad.add j) = some v := by
  have hA := Seg.at_ h hp
  refine ⟨⟨bl A, ofs A, none⟩, hA, fun j v hv => ?_⟩
  rw [Addr.add_lit]
  exact Seg.cell h j v hv

/-- A slice literal of integers: a new block. -/
theorem Ints.lit (w : World) (kd : IntKind) (t : TypeId) (zs : List Int) : Ints kd (w.alloc (.cells (zs.map (Value.int kd)).toArray t)) (some ⟨w.heap.size, 0, none⟩) zs.length zs := by
  have := (Blk.new w t (zs.map (Value.int kd)).toArray).seg
  simp at this
  exact this

theorem hash_copyS {w : World} {g : Nat} {kind : Int} {st tl : List Int} {size : Int} (h : HashAt w g kind st tl size) {A : Option Addr} {n c : Nat} {zs : List Int} (hs : Ints .u32 w A n zs) (hp : 0 < n) (hn : n ≤ 8) :
    ∃ w', (∀ ty, (Builtin.copy_ #[40, 40] ty #[.slice (some ⟨g, 1, none⟩) 8 8, .slice A n c]).run Tryd.prog w = .ok (goInt n) w') ∧ HashAt w' g kind (zs ++ st.drop n) tl size ∧ ∀ L w0, Upd L w0 w → some g ∈ L ∨ w0.heap.size ≤ g → Upd L w0 w' := by
  obtain ⟨ad, rfl, hc⟩ := segA hs hp
  have hl := hs.len.out
  have h8 := h.lst
  have hr := fun ty => run_copy_row (P := Tryd.prog) w 40 40 ty 24 g 1 8 8 ad n c (hcs kind st tl size) _ (zs.map (Value.int .u32)) el_u32.under (by kernel_rfl) h.blk (by rw [List.length_map, hl]; exact (Nat.min_eq_left hn).symm) hc (by simp [hcs]; omega) (ints_one _ _)
  refine ⟨_, fun ty => (hr ty).trans (by rw [List.length_map, hl]), ?_, fun L w0 hu hg => hu.setRow hg _⟩
  have := h.putS (zs := zs) (by omega)
  rw [List.length_map, hl] at this
  exact this

theorem hash_copyT {w : World} {g : Nat} {kind : Int} {st tl : List Int} {size : Int} (h : HashAt w g kind st tl size) {A : Option Addr} {n c k : Nat} {zs : List Int} (hs : Ints .u8 w A n zs) (hp : 0 < n) (hk : k < 64) :
    ∃ w', (∀ ty, (Builtin.copy_ #[22, 22] ty #[.slice (some ⟨g, 9 + k, none⟩) (64 - k) (64 - k), .slice A n c]).run Tryd.prog w = .ok (goInt (min n (64 - k) : Nat)) w') ∧
      HashAt w' g kind st (tl.take k ++ zs.take (64 - k) ++ tl.drop (k + min n (64 - k))) size ∧ ∀ L w0, Upd L w0 w → some g ∈ L ∨ w0.heap.size ≤ g → Upd L w0 w' := by
  obtain ⟨ad, rfl, hc⟩ := segA hs hp
  have hl := hs.len.out
  have h8 := h.lst
  have h64 := h.ltl
  have hlt : (zs.take (64 - k)).length = min n (64 - k) := by rw [List.length_take, hl, Nat.min_comm]
  have hr := fun ty => run_copy_row (P := Tryd.prog) w 22 22 ty 5 g (9 + k) (64 - k) (64 - k) ad n c (hcs kind st tl size) _ ((zs.take (64 - k)).map (Value.int .u8)) el_byte.under (by kernel_rfl) h.blk (by rw [List.length_map, hlt])
    (fun j v hv => hc j v (by
      have hj : j < 64 - k := by have := (List.getElem?_eq_some_iff.1 hv).1; rw [List.length_map, hlt] at this; omega
      rw [List.getElem?_map, List.getElem?_take_of_lt hj] at hv
      rw [List.getElem?_map]
      exact hv)) (by rw [List.length_map, hlt]; simp [hcs]; omega) (ints_one _ _)
  refine ⟨_, fun ty => (hr ty).trans (by rw [List.length_map, hlt]), ?_, fun L w0 hu hg => hu.setRow hg _⟩
  have := h.put (k := k) (zs := zs.take (64 - k)) (by rw [hlt]; omega)
  rw [List.length_map, hlt] at this
  exact this

end Go.Proofs.YthojhmkahjpflaaDoor
