/- Base lemmas of our own on slices in memory: a slice that reads as a list of cells, nil included; a slice in a block of the call's own; blocks known whole; frames. -/
import Derived.WalkKit
import Derived.WalkSpells
import Derived.WalkLawsBesides
import Derived.Lib.Hide
import Derived.Maps.AppendAt
import Derived.Deep.QuietTactic
import Derived.BigQuiet
import Derived.Deep.Draws
namespace Go.Dray
open Go.RowKit

/-- The block of a slice's address; 0 at nil. -/
def bl (A : Option Addr) : Nat := (A.getD ⟨0, 0, none⟩).block
/-- The offset of a slice's address; 0 at nil. -/
def ofs (A : Option Addr) : Nat := (A.getD ⟨0, 0, none⟩).off
/-- The block of a slice's address, if it has one. -/
def ob (A : Option Addr) : Option Nat := A.map (·.block)

/-- The slice (A, n ..) reads as the cells xs, sz cells an element. -/
structure Seg (w : World) (sz : Nat) (A : Option Addr) (n : Nat) (xs : List Value) : Prop where
  len : xs.length = n * sz
  at_ : 0 < n → A = some ⟨bl A, ofs A, none⟩
  cell : ∀ k u, xs[k]? = some u → w.cell? ⟨bl A, ofs A + k, none⟩ = some u

/-- The slice reads as integers of a kind. -/
def Ints (k : IntKind) (w : World) (A : Option Addr) (n : Nat) (zs : List Int) : Prop := Seg w 1 A n (zs.map (Value.int k))

/-- What a program's tables say of a slice type t over elements e. -/
structure El (P : Program) (t e : TypeId) (z : Value) (sz bytes : Nat) : Prop where
  under : P.underlying t = some (.slice e)
  info : (P.info? e).map (fun i => (i.zero, i.size, i.bytes)) = some (some z, sz, bytes)
  zsz : z.cells.size = sz
  pos : 0 < sz

section
variable {w : World} {sz : Nat} {A : Option Addr} {n : Nat} {xs : List Value} {zs : List Int} {kd : IntKind}

theorem Ints.len (h : Ints kd w A n zs) : Hid (zs.length = n) := by
  have := Seg.len h
  rw [List.length_map] at this
  show _ = _
  omega

theorem Ints.int (h : Ints kd w A n zs) {i : Nat} (hi : i < n) : ∃ x, Hid (zs[i]? = some x) ∧ w.cell? ⟨bl A, ofs A + i, none⟩ = some (.int kd x) := by
  have hl := h.len.out
  refine ⟨zs[i], List.getElem?_eq_getElem (by omega), Seg.cell h i _ ?_⟩
  rw [List.getElem?_map, List.getElem?_eq_getElem (by omega)]
  rfl

theorem Ints.cell (h : Ints kd w A n zs) {i : Nat} {x : Int} (hx : zs[i]? = some x) : w.cell? ⟨bl A, ofs A + i, none⟩ = some (.int kd x) :=
  Seg.cell h i _ (by rw [List.getElem?_map, hx]; rfl)

/-- Indexing such a slice, in whatever world. -/
theorem Seg.index (h : Seg w sz A n xs) {P : Program} {t e : TypeId} {z : Value} {bytes : Nat} (el : El P t e z sz bytes) (c : Nat) (kd : IntKind) (k : Nat) (hk : k < n) :
    ∀ W : World, (Instr.indexAt t (.slice A n c) (.int kd k)).run P W = .ok (.pointer (some ⟨bl A, ofs A + k * sz, none⟩)) W := by
  intro W
  have hA := h.at_ (by omega)
  generalize bl A = b at hA ⊢
  generalize ofs A = o at hA ⊢
  subst hA
  obtain ⟨i, hi, hz, hs, hb⟩ := info_parts el.info
  have he : P.elem t = e := by simp [Program.elem, el.under]
  rw [run_indexAt_slice (h := by rw [he]; exact el.under)]
  simp [hk, he, sizeOf, typeInfo, hi, hs, Addr.add_lit]

theorem Ints.index (h : Ints kd w A n zs) {P : Program} {t e : TypeId} {z : Value} {bytes : Nat} (el : El P t e z 1 bytes) (c : Nat) (ki : IntKind) (k : Nat) (hk : k < n) :
    ∀ W : World, (Instr.indexAt t (.slice A n c) (.int ki k)).run P W = .ok (.pointer (some ⟨bl A, ofs A + k, none⟩)) W := by
  have := Seg.index h el c ki k hk
  simpa using this

theorem Ints.indexI (h : Ints kd w A n zs) {P : Program} {t e : TypeId} {z : Value} {bytes : Nat} (el : El P t e z 1 bytes) (c : Nat) (ki : IntKind) (i : Int) (k : Nat) (hi : i = k) (hk : k < n) :
    ∀ W : World, (Instr.indexAt t (.slice A n c) (.int ki i)).run P W = .ok (.pointer (some ⟨bl A, ofs A + k, none⟩)) W := by
  subst hi
  exact h.index el c ki k hk

theorem Seg.lt (h : Seg w sz A n xs) (hp : 0 < n) (hsz : 0 < sz) : bl A < w.heap.size := by
  have hl := h.len
  have h0 : 0 < xs.length := by rw [hl]; exact Nat.mul_pos hp hsz
  have hc := h.cell 0 xs[0] (List.getElem?_eq_getElem h0)
  rcases Nat.lt_or_ge (bl A) w.heap.size with h' | h'
  · exact h'
  · simp [World.cell?, Array.getElem?_eq_none h'] at hc

theorem Seg.keep {w' : World} (h : Seg w sz A n xs) (hk : 0 < n → w'.heap[bl A]? = w.heap[bl A]?) : Seg w' sz A n xs :=
  ⟨h.len, h.at_, fun k u hu => by
    have hl : k < xs.length := (List.getElem?_eq_some_iff.1 hu).1
    have hn : 0 < n := by
      rcases Nat.eq_zero_or_pos n with h0 | h0
      · subst h0; rw [h.len] at hl; omega
      · exact h0
    exact (World.cell?_of_block (a := ⟨bl A, ofs A + k, none⟩) (hk hn)).trans (h.cell k u hu)⟩

theorem Seg.below {B : Nat} {w' : World} (h : Seg w sz A n xs) (hb : Below B w w') (hB : 0 < n → bl A < B) : Seg w' sz A n xs := h.keep fun hn => hb.block _ (hB hn)

theorem Seg.nil (w : World) (sz : Nat) (A : Option Addr) : Seg w sz A 0 [] := ⟨by simp, fun h => by omega, fun k u hu => by simp at hu⟩
end

theorem Seg.pre {w : World} {sz : Nat} {A : Option Addr} {n : Nat} {xs : List Value} (h : Seg w sz A n xs) {k : Nat} (hk : k ≤ n) : Seg w sz A k (xs.take (k * sz)) :=
  ⟨by rw [List.length_take, h.len]; exact Nat.min_eq_left (Nat.mul_le_mul_right sz hk), fun hp => h.at_ (by omega), fun i u hu => h.cell i u (by
    have hi : i < k * sz := by have := (List.getElem?_eq_some_iff.1 hu).1; rw [List.length_take] at this; omega
    rw [List.getElem?_take_of_lt hi] at hu
    exact hu)⟩
theorem Ints.pre {w : World} {kd : IntKind} {A : Option Addr} {n : Nat} {zs : List Int} (h : Ints kd w A n zs) {k : Nat} (hk : k ≤ n) : Ints kd w A k (zs.take k) := by
  have := Seg.pre h hk
  rw [Nat.mul_one, ← List.map_take] at this
  exact this
theorem Seg.drewN {w : World} {sz : Nat} {A : Option Addr} {n : Nat} {xs : List Value} (h : Seg w sz A n xs) (q : Nat) : Seg (w.drewN q) sz A n xs := ⟨h.len, h.at_, h.cell⟩
theorem Ints.drewN {w : World} {kd : IntKind} {A : Option Addr} {n : Nat} {zs : List Int} (h : Ints kd w A n zs) (q : Nat) : Ints kd (w.drewN q) A n zs := Seg.drewN h q

/-- The frame of a step: nothing but the listed blocks, and new ones, has changed. -/
structure Upd (L : List (Option Nat)) (w w' : World) : Prop where
  os : w'.os = w.os
  tape : w'.tape = w.tape
  output : w'.output = w.output
  size : w.heap.size ≤ w'.heap.size
  block : ∀ k, k < w.heap.size → some k ∉ L → w'.heap[k]? = w.heap[k]?

section
variable {L L' : List (Option Nat)} {w w' w'' : World}
theorem Upd.refl (L : List (Option Nat)) (w : World) : Upd L w w := ⟨rfl, rfl, rfl, Nat.le_refl _, fun _ _ _ => rfl⟩
theorem Upd.trans (h : Upd L w w') (k : Upd L w' w'') : Upd L w w'' :=
  ⟨k.os.trans h.os, k.tape.trans h.tape, k.output.trans h.output, Nat.le_trans h.size k.size, fun i hi hn => (k.block i (Nat.lt_of_lt_of_le hi h.size) hn).trans (h.block i hi hn)⟩
/-- Two steps; the second's list may name blocks that are new to the first's world. -/
theorem Upd.then (h : Upd L w w') (k : Upd L' w' w'') (hl : ∀ b, some b ∈ L' → some b ∈ L ∨ w.heap.size ≤ b) : Upd L w w'' :=
  ⟨k.os.trans h.os, k.tape.trans h.tape, k.output.trans h.output, Nat.le_trans h.size k.size, fun i hi hn =>
    (k.block i (Nat.lt_of_lt_of_le hi h.size) (fun hm => by rcases hl i hm with h1 | h1; exact hn h1; omega)).trans (h.block i hi hn)⟩
theorem Upd.mono (h : Upd L w w') (hl : ∀ b, some b ∈ L → some b ∈ L') : Upd L' w w' := ⟨h.os, h.tape, h.output, h.size, fun k hk hn => h.block k hk (fun hm => hn (hl k hm))⟩
theorem Upd.drew (h : Upd L w w') : Upd L w w'.drew := ⟨h.os, h.tape, h.output, h.size, h.block⟩
theorem Upd.drewN (h : Upd L w w') (n : Nat) : Upd L w (w'.drewN n) := ⟨h.os, h.tape, h.output, h.size, h.block⟩
theorem Upd.alloc (h : Upd L w w') (o : Obj) : Upd L w (w'.alloc o) :=
  ⟨h.os, h.tape, h.output, by have := h.size; simp; omega, fun k hk hn => (Below.heap_alloc w' o k (by have := h.size; omega)).trans (h.block k hk hn)⟩
theorem Upd.setCell (h : Upd L w w') {p : Addr} (hp : some p.block ∈ L ∨ w.heap.size ≤ p.block) (u : Value) : Upd L w (w'.setCell p u) :=
  ⟨h.os, h.tape, h.output, by have := h.size; simp [World.setCell]; omega, fun k hk hn => (Below.heap_setCell w' p u k (by rintro rfl; rcases hp with h1 | h1; exact hn h1; omega)).trans (h.block k hk hn)⟩
theorem Upd.put (h : Upd L w w') {b o : Nat} (hp : w.heap.size ≤ b) (u : Value) : Upd L w (w'.setCell ⟨b, o, none⟩ u) := h.setCell (p := ⟨b, o, none⟩) (Or.inr hp) u
theorem Upd.putIn (h : Upd L w w') {b o : Nat} (hp : some b ∈ L) (u : Value) : Upd L w (w'.setCell ⟨b, o, none⟩ u) := h.setCell (p := ⟨b, o, none⟩) (Or.inl hp) u
theorem Upd.ofGrown {row : Option Nat} (h : w.grownBy w' row) : Upd [row] w w' := ⟨h.os, h.tape, h.output, h.size, fun k hk hn => h.block k hk (fun e => hn (by simp [e]))⟩
theorem Upd.below (h : Upd L w w') {B : Nat} (hB : B ≤ w.heap.size) (hl : ∀ b, some b ∈ L → B ≤ b) : Below B w w' :=
  ⟨h.os, h.tape, h.output, h.size, fun k hk => h.block k (by omega) (fun hm => by have := hl k hm; omega)⟩
theorem Upd.ofBelow {B : Nat} (h : Below B w w') (hB : w.heap.size ≤ B) : Upd L w w' := ⟨h.os, h.tape, h.output, h.size, fun k hk _ => h.block k (by omega)⟩
theorem Seg.upd {sz : Nat} {A : Option Addr} {n : Nat} {xs : List Value} (h : Seg w sz A n xs) (hu : Upd L w w') (hsz : 0 < sz) (hn : 0 < n → some (bl A) ∉ L) : Seg w' sz A n xs :=
  h.keep fun hp => hu.block _ (h.lt hp hsz) (hn hp)
theorem Ints.upd {kd : IntKind} {A : Option Addr} {n : Nat} {zs : List Int} (h : Ints kd w A n zs) (hu : Upd L w w') (hn : 0 < n → some (bl A) ∉ L) : Ints kd w' A n zs := Seg.upd h hu (by omega) hn
end

theorem cell_lt {w : World} {p : Addr} {v : Value} (h : w.cell? p = some v) : p.block < w.heap.size := by
  rcases Nat.lt_or_ge p.block w.heap.size with h' | h'
  · exact h'
  · simp [World.cell?, Array.getElem?_eq_none h'] at h
theorem Upd.cell {L : List (Option Nat)} {w w' : World} (hu : Upd L w w') {p : Addr} {v : Value} (h : w.cell? p = some v) (hn : some p.block ∉ L) : w'.cell? p = some v :=
  (World.cell?_of_block (hu.block _ (cell_lt h) hn)).trans h

/-- Indexing a slice whose address is known where it has elements. -/
theorem run_index {P : Program} {t e : TypeId} {z : Value} {sz bytes : Nat} (el : El P t e z sz bytes) {A : Option Addr} {n : Nat} (hA : 0 < n → A = some ⟨bl A, ofs A, none⟩) (c : Nat) (kd : IntKind) (k : Nat) (hk : k < n) :
    ∀ W : World, (Instr.indexAt t (.slice A n c) (.int kd k)).run P W = .ok (.pointer (some ⟨bl A, ofs A + k * sz, none⟩)) W := by
  intro W
  have hA := hA (by omega)
  generalize bl A = b at hA ⊢
  generalize ofs A = o at hA ⊢
  subst hA
  obtain ⟨i, hi, hz, hs, hb⟩ := info_parts el.info
  have he : P.elem t = e := by simp [Program.elem, el.under]
  rw [run_indexAt_slice (h := by rw [he]; exact el.under)]
  simp [hk, he, sizeOf, typeInfo, hi, hs, Addr.add_lit]

/-- Block g is just the cells cs of element type t, none frozen. -/
def Blk (w : World) (g : Nat) (t : TypeId) (cs : Array Value) : Prop := w.heap[g]? = some (.cells cs t (0, 0))

section
variable {w w' : World} {g : Nat} {t : TypeId} {cs : Array Value} {L : List (Option Nat)}
theorem Blk.lt (h : Blk w g t cs) : g < w.heap.size := by
  rcases Nat.lt_or_ge g w.heap.size with hlt | hge
  · exact hlt
  · unfold Blk at h; rw [Array.getElem?_eq_none hge] at h; cases h
theorem Blk.cell (h : Blk w g t cs) (i : Nat) : w.cell? ⟨g, i, none⟩ = cs[i]? := by unfold Blk at h; simp [World.cell?, h]
theorem Blk.frozen (h : Blk w g t cs) (i : Nat) : w.frozen? ⟨g, i, none⟩ = false := by unfold Blk at h; simp [World.frozen?, h]
theorem Blk.new (w : World) (t : TypeId) (cs : Array Value) : Blk (w.alloc (.cells cs t)) w.heap.size t cs := by
  show (w.heap.push _)[w.heap.size]? = _
  simp
theorem Blk.drew (h : Blk w g t cs) : Blk w.drew g t cs := h
theorem Blk.drewN (h : Blk w g t cs) (n : Nat) : Blk (w.drewN n) g t cs := h
theorem Blk.upd (h : Blk w g t cs) (hu : Upd L w w') (hg : some g ∉ L) : Blk w' g t cs := (hu.block g h.lt hg).trans h
theorem Blk.alloc (h : Blk w g t cs) (o : Obj) : Blk (w.alloc o) g t cs := (Below.heap_alloc w o g h.lt).trans h
theorem Blk.set (h : Blk w g t cs) (i : Nat) (u : Value) : Blk (w.setCell ⟨g, i, none⟩ u) g t (cs.setIfInBounds i u) := by
  unfold Blk at h ⊢
  simp [World.setCell, Array.getElem?_modify, h]
theorem Blk.far (h : Blk w g t cs) {p : Addr} (hp : g ≠ p.block) (u : Value) : Blk (w.setCell p u) g t cs := (Below.heap_setCell w p u g hp).trans h
theorem Blk.below {B : Nat} (h : Blk w g t cs) (hb : Below B w w') (hg : g < B) : Blk w' g t cs := (hb.block g hg).trans h
theorem Blk.ne {g' : Nat} {t' : TypeId} {cs' : Array Value} (h : Blk w g t cs) (h' : Blk w g' t' cs') (hne : t ≠ t') : g ≠ g' := by
  rintro rfl
  unfold Blk at h h'
  rw [h] at h'
  injection h' with h'
  injection h' with _ ht
  exact hne ht
end

theorem Blk.seg {w : World} {g : Nat} {t : TypeId} {cs : Array Value} (h : Blk w g t cs) : Seg w 1 (some ⟨g, 0, none⟩) cs.size cs.toList :=
  ⟨by simp, fun _ => rfl, fun k u hu => by
    show w.cell? ⟨g, 0 + k, none⟩ = _
    rw [Nat.zero_add, h.cell]
    simpa using hu⟩

/-- The address of a slice cut off at lo. -/
def cutA (sz : Nat) (A : Option Addr) (c lo : Nat) : Option Addr := if c = lo then A else A.map (·.add (lo * sz))

theorem bl_cut (sz : Nat) (A : Option Addr) (c lo : Nat) : bl (cutA sz A c lo) = bl A := by
  unfold cutA
  split
  · rfl
  · cases A with
    | none => rfl
    | some a => simp only [bl, Option.map_some, Option.getD_some, Addr.add]; split <;> rfl

theorem Seg.cut {w : World} {sz : Nat} {A : Option Addr} {n : Nat} {xs : List Value} (h : Seg w sz A n xs) {lo hi c : Nat} (h1 : lo ≤ hi) (h2 : hi ≤ n) (h3 : n ≤ c) :
    Seg w sz (cutA sz A c lo) (hi - lo) ((xs.drop (lo * sz)).take ((hi - lo) * sz)) := by
  have hl := h.len
  have e : lo * sz + (hi - lo) * sz = hi * sz := by rw [← Nat.add_mul]; congr 1; omega
  have e2 : hi * sz ≤ n * sz := Nat.mul_le_mul_right sz h2
  have hA : lo < hi → cutA sz A c lo = some ⟨bl A, ofs A + lo * sz, none⟩ ∧ ofs (cutA sz A c lo) = ofs A + lo * sz := fun hp => by
    have hA := h.at_ (by omega)
    have : cutA sz A c lo = some ⟨bl A, ofs A + lo * sz, none⟩ := by
      unfold cutA
      rw [if_neg (by omega)]
      generalize bl A = b at hA ⊢
      generalize ofs A = o at hA ⊢
      subst hA
      simp [Addr.add_lit]
    exact ⟨this, by rw [this]; rfl⟩
  refine ⟨by rw [List.length_take, List.length_drop]; omega, fun hp => ?_, fun k u hu => ?_⟩
  · have := hA (by omega)
    rw [this.2, bl_cut]
    exact this.1
  · have hk : k < (hi - lo) * sz := by
      have := (List.getElem?_eq_some_iff.1 hu).1
      rw [List.length_take] at this
      omega
    have hp : lo < hi := by
      rcases Nat.lt_or_ge lo hi with h' | h'
      · exact h'
      · have : hi - lo = 0 := by omega
        rw [this] at hk; omega
    rw [List.getElem?_take_of_lt hk, List.getElem?_drop] at hu
    have hc := h.cell _ u hu
    rw [(hA hp).2, bl_cut, Nat.add_assoc]
    exact hc

theorem Ints.cut {w : World} {kd : IntKind} {A : Option Addr} {n : Nat} {zs : List Int} (h : Ints kd w A n zs) {lo hi c : Nat} (h1 : lo ≤ hi) (h2 : hi ≤ n) (h3 : n ≤ c) : Ints kd w (cutA 1 A c lo) (hi - lo) ((zs.drop lo).take (hi - lo)) := by
  have := Seg.cut h h1 h2 h3
  rw [Nat.mul_one, Nat.mul_one, ← List.map_drop, ← List.map_take] at this
  exact this

theorem run_cut_lh {P : Program} {t e : TypeId} {z : Value} {sz bytes : Nat} (el : El P t e z sz bytes) (A : Option Addr) (n c : Nat) (kl kh : IntKind) (il ih : Int) (lo hi : Nat) (e1 : il = lo) (e2 : ih = hi) (h1 : lo ≤ hi) (h2 : hi ≤ c) :
    ∀ W : World, (Instr.sliceAt t (.slice A n c) (some (.int kl il)) (some (.int kh ih)) none).run P W = .ok (.slice (cutA sz A c lo) (hi - lo) (c - lo)) W := by
  intro W
  subst e1 e2
  obtain ⟨i, hi, hz, hs, hb⟩ := info_parts el.info
  have he : P.elem t = e := by simp [Program.elem, el.under]
  have ht : P.underlying t = some (.slice (P.elem t)) := by rw [he]; exact el.under
  rw [run_sliceAt_slice (h := ht), run_slice_lh (ht := ht) (h0 := by omega) (h1 := by omega) (h2 := by omega)]
  simp [he, sizeOf, typeInfo, hi, hs, sliced, cutA]
theorem run_cut_l {P : Program} {t e : TypeId} {z : Value} {sz bytes : Nat} (el : El P t e z sz bytes) (A : Option Addr) (n c : Nat) (kl : IntKind) (il : Int) (lo : Nat) (e1 : il = lo) (h1 : lo ≤ n) :
    ∀ W : World, (Instr.sliceAt t (.slice A n c) (some (.int kl il)) none none).run P W = .ok (.slice (cutA sz A c lo) (n - lo) (c - lo)) W := by
  intro W
  subst e1
  obtain ⟨i, hi, hz, hs, hb⟩ := info_parts el.info
  have he : P.elem t = e := by simp [Program.elem, el.under]
  have ht : P.underlying t = some (.slice (P.elem t)) := by rw [he]; exact el.under
  rw [run_sliceAt_slice (h := ht), run_slice_l (ht := ht) (h0 := by omega) (h1 := by omega)]
  simp [he, sizeOf, typeInfo, hi, hs, sliced, cutA]
theorem run_cut_h {P : Program} {t e : TypeId} {z : Value} {sz bytes : Nat} (el : El P t e z sz bytes) (A : Option Addr) (n c : Nat) (kh : IntKind) (ih : Int) (hi : Nat) (e2 : ih = hi) (h2 : hi ≤ c) :
    ∀ W : World, (Instr.sliceAt t (.slice A n c) none (some (.int kh ih)) none).run P W = .ok (.slice A hi c) W := by
  intro W
  subst e2
  obtain ⟨i, hi, hz, hs, hb⟩ := info_parts el.info
  have he : P.elem t = e := by simp [Program.elem, el.under]
  have ht : P.underlying t = some (.slice (P.elem t)) := by rw [he]; exact el.under
  rw [run_sliceAt_slice (h := ht), run_slice_h (ht := ht) (h0 := by omega) (h2 := by omega)]
  have ha : ∀ a : Addr, a.add 0 = a := fun a => by simp [Addr.add]
  cases A <;> simp [he, sizeOf, typeInfo, hi, sliced, ha]

/-- string(b), b a slice of bytes that reads, in any world in which it reads so. -/
theorem Ints.str {P : Program} {w : World} {A : Option Addr} {n : Nat} {zs : List Int} (h : Ints .u8 w A n zs) {src e dst : TypeId} (hs : P.underlying src = some (.slice e)) (he : P.underlying e = some (.int .u8)) (hd : P.underlying dst = some .string) (c : Nat) :
    (convert src dst (.slice A n c)).run P w = .ok (.string (strOfNums zs)) w := by
  have hl := h.len.out
  rcases Nat.eq_zero_or_pos n with h0 | h0
  · subst h0
    have hz : zs = [] := List.eq_nil_of_length_eq_zero hl
    subst hz
    cases A with
    | none => rw [run_convert_bytes_nil w src e hs he 0 c dst hd]; rfl
    | some a =>
      rw [run_convert_bytes_string w src dst e _ 0 c hs he hd, run_bytesToString w a 0 c [] (by simp [loadCells, loadCellsFrom])]
      rfl
  · have hA := Seg.at_ h h0
    have hc : ∀ i, i < n → w.cell? ⟨bl A, ofs A + i, none⟩ = some (.int .u8 (zs.getD i 0)) := fun i hi => by
      obtain ⟨x, hx, hcell⟩ := h.int hi
      rw [hcell]
      simp [List.getD, hx.out]
    generalize bl A = b at hA hc
    generalize ofs A = o at hA hc
    subst hA
    exact run_convert_bytes_arg w src e hs he b o n c zs hl hc dst hd

/-- The slice (A, n, c) owns the cells xs, sz an element of type e, in a block of its own from B on (nil: none). -/
def Own (w : World) (B : Nat) (e : TypeId) (sz : Nat) (A : Option Addr) (n c : Nat) (xs : List Value) : Prop := w.ownsRow B e sz (.slice A n c) n xs

section
variable {w w' : World} {B : Nat} {e : TypeId} {sz : Nat} {A : Option Addr} {n c : Nat} {xs : List Value} {L : List (Option Nat)}
theorem Own.cases (h : Own w B e sz A n c xs) : xs.length = n * sz ∧ n ≤ c ∧ c ≤ maxLen ∧ ((A = none ∧ n = 0 ∧ c = 0) ∨ ∃ g cur, A = some ⟨g, 0, none⟩ ∧ B ≤ g ∧ Blk w g e cur ∧ cur.size = c * sz ∧ cur.toList.take (n * sz) = xs) := by
  obtain ⟨h1, h2⟩ := h
  rcases h2 with ⟨hv, h0⟩ | ⟨g, cap, cur, hv, hg, hh, hn, hm, hs, ht⟩
  · injection hv with a b d
    subst a b d
    exact ⟨h1, Nat.le_refl _, by simp [maxLen], Or.inl ⟨rfl, rfl, rfl⟩⟩
  · injection hv with a b d
    subst a d
    exact ⟨h1, hn, hm, Or.inr ⟨g, cur, rfl, hg, hh, hs, ht⟩⟩
theorem Own.mk (h1 : xs.length = n * sz) (hn : n ≤ c) (hm : c ≤ maxLen) {g : Nat} {cur : Array Value} (hA : A = some ⟨g, 0, none⟩) (hg : B ≤ g) (hb : Blk w g e cur) (hs : cur.size = c * sz) (ht : cur.toList.take (n * sz) = xs) : Own w B e sz A n c xs :=
  ⟨h1, Or.inr ⟨g, c, cur, by rw [hA], hg, hb, hn, hm, hs, ht⟩⟩
theorem Own.nil (w : World) (B : Nat) (e : TypeId) (sz : Nat) : Own w B e sz none 0 0 [] := ⟨by simp, Or.inl ⟨rfl, rfl⟩⟩
theorem Own.le (h : Own w B e sz A n c xs) : n ≤ c := h.cases.2.1
theorem Own.max (h : Own w B e sz A n c xs) : c ≤ maxLen := h.cases.2.2.1
theorem Own.len (h : Own w B e sz A n c xs) : xs.length = n * sz := h.1
theorem Own.base (h : Own w B e sz A n c xs) {g : Nat} (hg : ob A = some g) : B ≤ g ∧ g < w.heap.size := by
  rcases h.cases.2.2.2 with ⟨rfl, _⟩ | ⟨g', cur, rfl, hB, hb, _⟩
  · cases hg
  · injection hg with hg; subst hg; exact ⟨hB, hb.lt⟩
theorem Own.keep (h : Own w B e sz A n c xs) (hk : ∀ g, ob A = some g → w'.heap[g]? = w.heap[g]?) : Own w' B e sz A n c xs := by
  obtain ⟨h1, hn, hm, h2⟩ := h.cases
  rcases h2 with ⟨rfl, rfl, rfl⟩ | ⟨g, cur, rfl, hB, hb, hs, ht⟩
  · exact ⟨h1, Or.inl ⟨rfl, rfl⟩⟩
  · exact Own.mk h1 hn hm rfl hB ((hk g rfl).trans hb) hs ht
theorem Own.upd (h : Own w B e sz A n c xs) (hu : Upd L w w') (hn : ∀ g, ob A = some g → some g ∉ L) : Own w' B e sz A n c xs := h.keep fun g hg => hu.block g (h.base hg).2 (hn g hg)
theorem Own.alloc (h : Own w B e sz A n c xs) (o : Obj) : Own (w.alloc o) B e sz A n c xs := h.keep fun g hg => Below.heap_alloc w o g (h.base hg).2
theorem Own.drew (h : Own w B e sz A n c xs) : Own w.drew B e sz A n c xs := h
theorem Own.drewN (h : Own w B e sz A n c xs) (k : Nat) : Own (w.drewN k) B e sz A n c xs := h
theorem Own.far (h : Own w B e sz A n c xs) {p : Addr} (hp : ob A ≠ some p.block) (u : Value) : Own (w.setCell p u) B e sz A n c xs := h.keep fun g hg => Below.heap_setCell w p u g (by rintro rfl; exact hp hg)
theorem Own.monoB {B' : Nat} (h : Own w B e sz A n c xs) (hB : B' ≤ B) : Own w B' e sz A n c xs := by
  obtain ⟨h1, hn, hm, h2⟩ := h.cases
  rcases h2 with ⟨rfl, rfl, rfl⟩ | ⟨g, cur, rfl, hB', hb, hs, ht⟩
  · exact ⟨h1, Or.inl ⟨rfl, rfl⟩⟩
  · exact Own.mk h1 hn hm rfl (by omega) hb hs ht
/-- An owned slice's base may be raised to whatever its block allows. -/
theorem Own.reB {B' : Nat} (h : Own w B e sz A n c xs) (hB : ∀ g, ob A = some g → B' ≤ g) : Own w B' e sz A n c xs := by
  obtain ⟨h1, hn, hm, h2⟩ := h.cases
  rcases h2 with ⟨rfl, rfl, rfl⟩ | ⟨g, cur, rfl, hB', hb, hs, ht⟩
  · exact ⟨h1, Or.inl ⟨rfl, rfl⟩⟩
  · exact Own.mk h1 hn hm rfl (hB g rfl) hb hs ht
theorem Own.seg (h : Own w B e sz A n c xs) : Seg w sz A n xs := by
  obtain ⟨h1, hn, hm, h2⟩ := h.cases
  refine ⟨h1, fun hp => ?_, fun k u hu => ?_⟩
  · rcases h2 with ⟨_, h0, _⟩ | ⟨g, cur, rfl, _⟩
    · omega
    · rfl
  · rcases h2 with ⟨rfl, rfl, rfl⟩ | ⟨g, cur, rfl, hB, hb, hs, ht⟩
    · have hk := (List.getElem?_eq_some_iff.1 hu).1
      rw [h1] at hk
      omega
    · subst ht
      have hk : k < n * sz := by have := (List.getElem?_eq_some_iff.1 hu).1; simp at this; omega
      rw [List.getElem?_take_of_lt hk, Array.getElem?_toList] at hu
      show w.cell? ⟨g, 0 + k, none⟩ = some u
      rw [Nat.zero_add, hb.cell]
      exact hu
theorem Own.frozen (h : Own w B e sz A n c xs) (hp : 0 < n) (k : Nat) : w.frozen? ⟨bl A, ofs A + k, none⟩ = false := by
  rcases h.cases.2.2.2 with ⟨_, h0, _⟩ | ⟨g, cur, rfl, hB, hb, _⟩
  · omega
  · exact hb.frozen _
theorem Own.obl (h : Own w B e sz A n c xs) (hp : 0 < n) : ob A = some (bl A) := by
  rcases h.cases.2.2.2 with ⟨_, h0, _⟩ | ⟨g, cur, rfl, _⟩
  · omega
  · rfl
theorem Own.set (h : Own w B e sz A n c xs) {k : Nat} (hk : k < n * sz) (u : Value) : Own (w.setCell ⟨bl A, ofs A + k, none⟩ u) B e sz A n c (xs.set k u) := by
  obtain ⟨h1, hn, hm, h2⟩ := h.cases
  rcases h2 with ⟨_, h0, _⟩ | ⟨g, cur, rfl, hB, hb, hs, ht⟩
  · subst h0; omega
  · subst ht
    refine Own.mk (by simpa using h1) hn hm rfl hB (hb.set _ u) (by simpa using hs) ?_
    show List.take (n * sz) (cur.setIfInBounds (0 + k) u).toList = _
    rw [Nat.zero_add, Array.toList_setIfInBounds, List.take_set]
end

/-- 'T{}' of a slice type: a block without cells. -/
theorem Own.empty (w : World) (B : Nat) (e : TypeId) (hB : B ≤ w.heap.size) : Own (w.alloc (.cells #[] e)) B e 1 (some ⟨w.heap.size, 0, none⟩) 0 0 [] :=
  Own.mk rfl (Nat.le_refl _) (by simp [maxLen]) rfl hB (Blk.new w e #[]) rfl rfl

theorem Ints.ofOwn {w : World} {B : Nat} {e : TypeId} {A : Option Addr} {n c : Nat} {kd : IntKind} {zs : List Int} (h : Own w B e 1 A n c (zs.map (Value.int kd))) : Ints kd w A n zs := h.seg

/-- An owned slice and a known block of another element type are apart. -/
theorem Own.neBlk {w : World} {B : Nat} {e t : TypeId} {sz : Nat} {A : Option Addr} {n c g : Nat} {xs : List Value} {cs : Array Value} (h : Own w B e sz A n c xs) (hb : Blk w g t cs) (hne : e ≠ t) : ob A ≠ some g := by
  rcases h.cases.2.2.2 with ⟨rfl, _⟩ | ⟨g', cur, rfl, _, hb', _⟩
  · intro h; cases h
  · intro h; injection h with h; exact (hb'.ne hb hne) h

/-- Two owned slices of different element types are apart. -/
theorem Own.neOwn {w : World} {B B' : Nat} {e e' : TypeId} {sz sz' : Nat} {A A' : Option Addr} {n c n' c' g : Nat} {xs xs' : List Value} (h : Own w B e sz A n c xs) (h' : Own w B' e' sz' A' n' c' xs') (hne : e ≠ e') (hg : ob A = some g) : ob A' ≠ some g := by
  rcases h.cases.2.2.2 with ⟨rfl, _⟩ | ⟨g1, cur, rfl, _, hb, _⟩
  · cases hg
  · injection hg with hg; subst hg; exact h'.neBlk hb (fun e => hne e.symm)

/-- The new slice lies where the old one lay, or in a block that is new to w. -/
def Fresh (w : World) (A A' : Option Addr) : Prop := ∀ g, ob A' = some g → ob A = some g ∨ w.heap.size ≤ g

theorem info_get {P : Program} {t e : TypeId} {z : Value} {sz bytes : Nat} (el : El P t e z sz bytes) : ∃ i, P.info? e = some i ∧ i.zero = some z ∧ i.size = sz ∧ i.bytes = bytes := info_parts el.info

/-- 'append(s, x...)' onto a slice of the call's own (or nil): the source any slice that reads. -/
theorem run_app {P : Program} {w : World} {B : Nat} {t ty e : TypeId} {z : Value} {sz bytes : Nat} (el : El P t e z sz bytes)
    {A : Option Addr} {n c : Nat} {xs : List Value} (hown : Own w B e sz A n c xs) {A2 : Option Addr} {m c2 : Nat} {news : List Value} (hr : Seg w sz A2 m news)
    (h1 : ∀ u ∈ news, u.oneCell' = true) (hmax : n + m ≤ maxLen) (hbytes : (n + m) * bytes ≤ 140737488355328) (hB : B ≤ w.heap.size) :
    ∃ A' c' w', (Builtin.append_ #[t, t] ty #[.slice A n c, .slice A2 m c2]).run P w = .ok (.slice A' (n + m) c') w' ∧ Own w' B e sz A' (n + m) c' (xs ++ news) ∧ Upd [ob A] w w' ∧ Fresh w A A' := by
  obtain ⟨i, hi, hz, hs, hb⟩ := info_get el
  rcases A2 with _ | ad
  · have hm : m = 0 := by
      rcases Nat.eq_zero_or_pos m with h0 | h0
      · exact h0
      · have := hr.at_ h0; cases this
    subst hm
    have hn : news = [] := List.eq_nil_of_length_eq_zero (by simpa using hr.len)
    subst hn
    refine ⟨A, c, w, ?_, by simpa using hown, Upd.refl _ _, fun g hg => Or.inl hg⟩
    rcases hown.cases.2.2.2 with ⟨rfl, rfl, rfl⟩ | ⟨g, cur, rfl, _⟩
    · simp [Builtin.append_, run_underlying el.under, sizeOf, typeInfo, hi, Builtin.lenOf, Builtin.firstCells]
    · simp [Builtin.append_, run_underlying el.under, sizeOf, typeInfo, hi, Builtin.lenOf, Builtin.firstCells, hown.le, storeCells]
  · have hcells : ∀ j u, news[j]? = some u → w.cell? (ad.add j) = some u := by
      intro j u hu
      have hl : j < news.length := (List.getElem?_eq_some_iff.1 hu).1
      have hp : 0 < m := by
        rcases Nat.eq_zero_or_pos m with h0 | h0
        · subst h0; rw [hr.len] at hl; omega
        · exact h0
      have hA := hr.at_ hp
      have hc := hr.cell j u hu
      injection hA with hA
      rw [hA, Addr.add_lit]
      exact hc
    obtain ⟨v', w', hrun, h2, h3, _, h5⟩ := run_append_own_at (P := P) w B t ty e i z sz bytes el.under hi hz hs hb el.zsz el.pos (.slice A n c) n xs hown ad m c2 news hr.len hcells h1 hmax hbytes hB
    have hrow : (Value.slice A n c).ownBlock = ob A := by cases A <;> rfl
    have hv : ∃ A' c', v' = .slice A' (n + m) c' := by
      rcases h2.2 with ⟨h, h0⟩ | ⟨g, cap, cur, h, _⟩
      · exact ⟨none, 0, by rw [h, h0]⟩
      · exact ⟨_, _, h⟩
    obtain ⟨A', c', rfl⟩ := hv
    have hrow' : (Value.slice A' (n + m) c').ownBlock = ob A' := by cases A' <;> rfl
    rw [hrow] at h3 h5
    rw [hrow'] at h5
    exact ⟨A', c', w', hrun, h2, Upd.ofGrown h3, fun g hg => by rcases h5 with h5 | h5 <;> rw [hg] at h5; exact Or.inl h5.symm; exact Or.inr (by injection h5 with h5; omega)⟩

theorem wp_app {P : Program} {w : World} {o : Oper} {a : Act} {K : Act → World → Prop} {Q : Exit → Act → World → Prop} {s x : Operand} {t : TypeId}
    (ho : o.op = .call { callee := .builtin .append, args := #[s, x], argTypes := #[t, t] })
    {B : Nat} {e : TypeId} {z : Value} {sz bytes : Nat} (el : El P t e z sz bytes)
    {A : Option Addr} {n c : Nat} {xs : List Value} (hs : a.eval s = .slice A n c) (hown : Own w B e sz A n c xs) {A2 : Option Addr} {m c2 : Nat} {news : List Value} (hx : a.eval x = .slice A2 m c2) (hr : Seg w sz A2 m news)
    (h1 : ∀ u ∈ news, u.oneCell' = true) (hmax : n + m ≤ maxLen) (hbytes : (n + m) * bytes ≤ 140737488355328) (hB : B ≤ w.heap.size)
    (h : ∀ A' c' w', Own w' B e sz A' (n + m) c' (xs ++ news) → Upd [ob A] w w' → Fresh w A A' → K (a.put o.dst (.slice A' (n + m) c')) w') : o.wp P a w K Q := by
  obtain ⟨A', c', w', hrun, h2, h3, h4⟩ := run_app (P := P) (ty := o.type) (c2 := c2) el hown hr h1 hmax hbytes hB
  unfold Oper.wp execOp
  simp only [ho, resolve, invoke, builtin, Sem.run_bind, Sem.run_pure, Result.andThen_ok, List.map_toArray, List.map_cons, List.map_nil, hs, hx, hrun]
  exact h A' c' w' h2 h3 h4

theorem wpList_app {P : Program} {w : World} {ops : Array Oper} {rest : List Oper} {o : Oper} {a : Act} {Q : Exit → Act → World → Prop} (hgd : o.guard = none) {s x : Operand} {t : TypeId}
    (ho : o.op = .call { callee := .builtin .append, args := #[s, x], argTypes := #[t, t] })
    {B : Nat} {e : TypeId} {z : Value} {sz bytes : Nat} (el : El P t e z sz bytes)
    {A : Option Addr} {n c : Nat} {xs : List Value} (hs : a.eval s = .slice A n c) (hown : Own w B e sz A n c xs) {A2 : Option Addr} {m c2 : Nat} {news : List Value} (hx : a.eval x = .slice A2 m c2) (hr : Seg w sz A2 m news)
    (h1 : ∀ u ∈ news, u.oneCell' = true) (hmax : n + m ≤ maxLen) (hbytes : (n + m) * bytes ≤ 140737488355328) (hB : B ≤ w.heap.size)
    (h : ∀ A' c' w', Own w' B e sz A' (n + m) c' (xs ++ news) → Upd [ob A] w w' → Fresh w A A' → wpList P ops Q rest (a.put o.dst (.slice A' (n + m) c')) w') : wpList P ops Q (o :: rest) a w :=
  wpList_plain hgd fun _ hK => wp_app ho el hs hown hx hr h1 hmax hbytes hB fun A' c' w' h2 h3 h4 => hK _ _ (h A' c' w' h2 h3 h4)

/-- 'append(s, x)' of one value: the value is laid in a block of its own first. -/
theorem Seg.one (w : World) (x : Value) (t : TypeId) : Seg (w.alloc (.cells #[x] t)) 1 (some ⟨w.heap.size, 0, none⟩) 1 [x] :=
  ⟨rfl, fun _ => rfl, fun k u hu => by
    match k, hu with
    | 0, hu => simp at hu; subst hu; simp [bl, ofs]⟩

/-- 'make([]T, n)': n zero elements of one cell. -/
theorem wpList_mk {P : Program} {w : World} {ops : Array Oper} {rest : List Oper} {o : Oper} {a : Act} {Q : Exit → Act → World → Prop}
    (hg : o.guard = none) {l c : Operand} {t : TypeId} (hop : o.op = Op.makeSlice t l c)
    (B : Nat) {e : TypeId} {z : Value} {bytes : Nat} (el : El P t e z 1 bytes)
    (n : Nat) {kl kc : IntKind} {L C : Int} (hl : a.eval l = .int kl L) (hc : a.eval c = .int kc C) (hL : L = (n : Int)) (hC : C = (n : Int)) (hz1 : z.cells = #[z]) (b2 : bytes * n ≤ 281474976710656) (b3 : n ≤ maxLen) (b4 : B ≤ w.heap.size)
    (hK : ∀ A' w', Own w' B e 1 A' n n (List.replicate n z) → Upd [] w w' → ob A' = some w.heap.size → wpList P ops Q rest (a.put o.dst (.slice A' n n)) w') :
    wpList P ops Q (o :: rest) a w := by
  obtain ⟨i, hi, hz, hs, hb⟩ := info_get el
  refine wpList_make_full (P := P) w hg l c t hop B e i z 1 el.under hi hz hs kl kc L C n hl hc hL hC (by rw [hb]; exact b2) b3 b4 fun w' h1 h2 => hK _ w' ?_ ⟨h2.os, h2.tape, h2.output, h2.size, fun k hk _ => h2.block k hk (by simp)⟩ rfl
  rw [hz1, Nat.mul_one, toList_madeCells_one] at h1
  exact h1

theorem ints_one (kd : IntKind) (zs : List Int) : ∀ u ∈ zs.map (Value.int kd), u.oneCell' = true := ints_oneCell kd zs

/-- A callee that leaves the world alone, in a region that draws its order. -/
theorem quietL {P : Program} {f : FuncId} {args : Array Value} {w : World} {n : Nat} {v : Value} (h : Calls P f args (w.drewN n) fun e w' => e = .returned v ∧ w.drewN n = w') :
    Calls P f args (w.drewN n) fun e w'' => e = .returned v ∧ ∃ m, w'' = w.drewN m := h.mono fun _ _ ⟨he, hm⟩ => ⟨he, n, hm.symm⟩
/-- A callee that draws alone, in a region that draws its order. -/
theorem quietD {P : Program} {f : FuncId} {args : Array Value} {w : World} {n : Nat} {v : Value} (h : Calls P f args (w.drewN n) fun e w' => e = .returned v ∧ ∃ m, w' = (w.drewN n).drewN m) :
    Calls P f args (w.drewN n) fun e w'' => e = .returned v ∧ ∃ m, w'' = w.drewN m := h.mono fun _ _ ⟨he, m, hm⟩ => ⟨he, n + m, by rw [hm, World.drewN_drewN]⟩

theorem ret_int {k : IntKind} {a b : Int} (h : a = b) : Ending.returned (.int k a) = .returned (.int k b) := by rw [h]
theorem ret_bool {a b : Bool} (h : a = b) : Ending.returned (.bool a) = .returned (.bool b) := by rw [h]

/-- Lists by their last element. -/
theorem snoc_ind {α : Type} {Q : List α → Prop} (h0 : Q []) (h1 : ∀ l x, Q l → Q (l ++ [x])) (l : List α) : Q l := by
  have h : ∀ l : List α, Q l.reverse := fun l => by
    induction l with
    | nil => exact h0
    | cons x l ih => rw [List.reverse_cons]; exact h1 _ _ ih
  have := h l.reverse
  rwa [List.reverse_reverse] at this

/-- The list of the values of a function at 0 .. n-1. -/
def tab {α : Type} (n : Nat) (f : Nat → α) : List α := (List.range n).map f
theorem tab_len {α : Type} (n : Nat) (f : Nat → α) : (tab n f).length = n := by simp [tab]
theorem tab_congr {α : Type} {n : Nat} {f g : Nat → α} (h : ∀ j, j < n → f j = g j) : tab n f = tab n g := List.map_congr_left fun j hj => h j (List.mem_range.1 hj)
theorem tab_get {α : Type} {n : Nat} (f : Nat → α) {j : Nat} (h : j < n) : (tab n f)[j]? = some (f j) := by simp [tab, h]
theorem tab_set {α : Type} (n : Nat) (f : Nat → α) (k : Nat) (v : α) : (tab n f).set k v = tab n fun j => if j = k then v else f j := by
  apply List.ext_getElem?
  intro i
  rw [List.getElem?_set]
  by_cases hi : i < n
  · by_cases hk : k = i
    · subst hk; simp [tab, hi]
    · rw [if_neg hk, tab_get _ hi, tab_get _ hi, if_neg (fun h => hk h.symm)]
  · have h1 : ∀ g : Nat → α, (tab n g)[i]? = none := fun g => List.getElem?_eq_none (by rw [tab_len]; omega)
    by_cases hk : k = i
    · subst hk; simp [tab, hi]
    · rw [if_neg hk, h1, h1]
theorem tab_map {α β : Type} (n : Nat) (f : Nat → α) (g : α → β) : (tab n f).map g = tab n fun j => g (f j) := by simp [tab]
theorem tab_rep {α : Type} (n : Nat) (x : α) : List.replicate n x = tab n fun _ => x := by
  apply List.ext_getElem (by simp [tab])
  intro i h1 h2
  simp [tab]
theorem tab_of {α : Type} (l : List α) (d : α) : l = tab l.length fun j => l.getD j d := by
  apply List.ext_getElem (by simp [tab])
  intro i h1 h2
  simp [tab, h1]

end Go.Dray
