/- Merged by wip/tools/merge.py: Base Elems Bits BitsB LawKit. -/
import Derived.WalkKit
import Derived.WalkSpells
import Derived.WalkLawsBesides
import Derived.Lib.Hide
import Derived.Maps.AppendAt
import Derived.Deep.QuietTactic
import Derived.BigQuiet
import Derived.Deep.Draws
import Derived.Test.YtolcdlopgbgilaaGreatDoorRows
import Derived.Laws.BitsAllLaws
import Derived.ProofKit
import Derived.OpenShut
import Derived.ShutString
import Derived.ChangeOld
import Derived.Deep.Slices

/-! Text Base. -/
namespace Go.Dray
open Go.RowKit

/-- The block of a slice's address; 0 at nil. -/
def bl (A : Option Addr) : Nat := (A.getD ⟨0, 0, none⟩).block
/-- The offset of a slice's address; 0 at nil. -/
def ofs (A : Option Addr) : Nat := (A.getD ⟨0, 0, none⟩).off
/-- The block of a slice's address, if it has one. -/
def ob (A : Option Addr) : Option Nat := A.map (·.block)

/-- The slice (A, n ..) reads as the cells xs, sz cells an element. -/
structure Seg (w : World) (sz : Nat) (A : Option Addr) (n : Nat) (xs : List Value) : Prop where
  len : xs.length = n * sz
  at_ : 0 < n → A = some ⟨bl A, ofs A, none⟩
  cell : ∀ k u, xs[k]? = some u → w.cell? ⟨bl A, ofs A + k, none⟩ = some u

/-- The slice reads as integers of a kind. -/
def Ints (k : IntKind) (w : World) (A : Option Addr) (n : Nat) (zs : List Int) : Prop := Seg w 1 A n (zs.map (Value.int k))

/-- What a program's tables say of a slice type t over elements e. -/
structure El (P : Program) (t e : TypeId) (z : Value) (sz bytes : Nat) : Prop where
  under : P.underlying t = some (.slice e)
  info : (P.info? e).map (fun i => (i.zero, i.size, i.bytes)) = some (some z, sz, bytes)
  zsz : z.cells.size = sz
  pos : 0 < sz

section
variable {w : World} {sz : Nat} {A : Option Addr} {n : Nat} {xs : List Value} {zs : List Int} {kd : IntKind}

theorem Ints.len (h : Ints kd w A n zs) : Hid (zs.length = n) := by
  have := Seg.len h
  rw [List.length_map] at this
  show _ = _
  omega

theorem Ints.int (h : Ints kd w A n zs) {i : Nat} (hi : i < n) : ∃ x, Hid (zs[i]? = some x) ∧ w.cell? ⟨bl A, ofs A + i, none⟩ = some (.int kd x) := by
  have hl := h.len.out
  refine ⟨zs[i], List.getElem?_eq_getElem (by omega), Seg.cell h i _ ?_⟩
  rw [List.getElem?_map, List.getElem?_eq_getElem (by omega)]
  rfl

theorem Ints.cell (h : Ints kd w A n zs) {i : Nat} {x : Int} (hx : zs[i]? = some x) : w.cell? ⟨bl A, ofs A + i, none⟩ = some (.int kd x) :=
  Seg.cell h i _ (by rw [List.getElem?_map, hx]; rfl)

/-- Indexing such a slice, in whatever world. -/
theorem Seg.index (h : Seg w sz A n xs) {P : Program} {t e : TypeId} {z : Value} {bytes : Nat} (el : El P t e z sz bytes) (c : Nat) (kd : IntKind) (k : Nat) (hk : k < n) :
    ∀ W : World, (Instr.indexAt t (.slice A n c) (.int kd k)).run P W = .ok (.pointer (some ⟨bl A, ofs A + k * sz, none⟩)) W := by
  intro W
  have hA := h.at_ (by omega)
  generalize bl A = b at hA ⊢
  generalize ofs A = o at hA ⊢
  subst hA
  obtain ⟨i, hi, hz, hs, hb⟩ := info_parts el.info
  have he : P.elem t = e := by simp [Program.elem, el.under]
  rw [run_indexAt_slice (h := by rw [he]; exact el.under)]
  simp [hk, he, sizeOf, typeInfo, hi, hs, Addr.add_lit]

theorem Ints.index (h : Ints kd w A n zs) {P : Program} {t e : TypeId} {z : Value} {bytes : Nat} (el : El P t e z 1 bytes) (c : Nat) (ki : IntKind) (k : Nat) (hk : k < n) :
    ∀ W : World, (Instr.indexAt t (.slice A n c) (.int ki k)).run P W = .ok (.pointer (some ⟨bl A, ofs A + k, none⟩)) W := by
  have := Seg.index h el c ki k hk
  simpa using this

theorem Ints.indexI (h : Ints kd w A n zs) {P : Program} {t e : TypeId} {z : Value} {bytes : Nat} (el : El P t e z 1 bytes) (c : Nat) (ki : IntKind) (i : Int) (k : Nat) (hi : i = k) (hk : k < n) :
    ∀ W : World, (Instr.indexAt t (.slice A n c) (.int ki i)).run P W = .ok (.pointer (some ⟨bl A, ofs A + k, none⟩)) W := by
  subst hi
  exact h.index el c ki k hk

theorem Seg.lt (h : Seg w sz A n xs) (hp : 0 < n) (hsz : 0 < sz) : bl A < w.heap.size := by
  have hl := h.len
  have h0 : 0 < xs.length := by rw [hl]; exact Nat.mul_pos hp hsz
  have hc := h.cell 0 xs[0] (List.getElem?_eq_getElem h0)
  rcases Nat.lt_or_ge (bl A) w.heap.size with h' | h'
  · exact h'
  · simp [World.cell?, Array.getElem?_eq_none h'] at hc

theorem Seg.keep {w' : World} (h : Seg w sz A n xs) (hk : 0 < n → w'.heap[bl A]? = w.heap[bl A]?) : Seg w' sz A n xs :=
  ⟨h.len, h.at_, fun k u hu => by
    have hl : k < xs.length := (List.getElem?_eq_some_iff.1 hu).1
    have hn : 0 < n := by
      rcases Nat.eq_zero_or_pos n with h0 | h0
      · subst h0; rw [h.len] at hl; omega
      · exact h0
    exact (World.cell?_of_block (a := ⟨bl A, ofs A + k, none⟩) (hk hn)).trans (h.cell k u hu)⟩

theorem Seg.below {B : Nat} {w' : World} (h : Seg w sz A n xs) (hb : Below B w w') (hB : 0 < n → bl A < B) : Seg w' sz A n xs := h.keep fun hn => hb.block _ (hB hn)

theorem Seg.nil (w : World) (sz : Nat) (A : Option Addr) : Seg w sz A 0 [] := ⟨by simp, fun h => by omega, fun k u hu => by simp at hu⟩
end

theorem Seg.pre {w : World} {sz : Nat} {A : Option Addr} {n : Nat} {xs : List Value} (h : Seg w sz A n xs) {k : Nat} (hk : k ≤ n) : Seg w sz A k (xs.take (k * sz)) :=
  ⟨by rw [List.length_take, h.len]; exact Nat.min_eq_left (Nat.mul_le_mul_right sz hk), fun hp => h.at_ (by omega), fun i u hu => h.cell i u (by
    have hi : i < k * sz := by have := (List.getElem?_eq_some_iff.1 hu).1; rw [List.length_take] at this; omega
    rw [List.getElem?_take_of_lt hi] at hu
    exact hu)⟩
theorem Ints.pre {w : World} {kd : IntKind} {A : Option Addr} {n : Nat} {zs : List Int} (h : Ints kd w A n zs) {k : Nat} (hk : k ≤ n) : Ints kd w A k (zs.take k) := by
  have := Seg.pre h hk
  rw [Nat.mul_one, ← List.map_take] at this
  exact this
theorem Seg.drewN {w : World} {sz : Nat} {A : Option Addr} {n : Nat} {xs : List Value} (h : Seg w sz A n xs) (q : Nat) : Seg (w.drewN q) sz A n xs := ⟨h.len, h.at_, h.cell⟩
theorem Ints.drewN {w : World} {kd : IntKind} {A : Option Addr} {n : Nat} {zs : List Int} (h : Ints kd w A n zs) (q : Nat) : Ints kd (w.drewN q) A n zs := Seg.drewN h q

/-- The frame of a step: nothing but the listed blocks, and new ones, has changed. -/
structure Upd (L : List (Option Nat)) (w w' : World) : Prop where
  os : w'.os = w.os
  tape : w'.tape = w.tape
  output : w'.output = w.output
  size : w.heap.size ≤ w'.heap.size
  block : ∀ k, k < w.heap.size → some k ∉ L → w'.heap[k]? = w.heap[k]?

section
variable {L L' : List (Option Nat)} {w w' w'' : World}
theorem Upd.refl (L : List (Option Nat)) (w : World) : Upd L w w := ⟨rfl, rfl, rfl, Nat.le_refl _, fun _ _ _ => rfl⟩
theorem Upd.trans (h : Upd L w w') (k : Upd L w' w'') : Upd L w w'' :=
  ⟨k.os.trans h.os, k.tape.trans h.tape, k.output.trans h.output, Nat.le_trans h.size k.size, fun i hi hn => (k.block i (Nat.lt_of_lt_of_le hi h.size) hn).trans (h.block i hi hn)⟩
/-- Two steps; the second's list may name blocks that are new to the first's world. -/
theorem Upd.then (h : Upd L w w') (k : Upd L' w' w'') (hl : ∀ b, some b ∈ L' → some b ∈ L ∨ w.heap.size ≤ b) : Upd L w w'' :=
  ⟨k.os.trans h.os, k.tape.trans h.tape, k.output.trans h.output, Nat.le_trans h.size k.size, fun i hi hn =>
    (k.block i (Nat.lt_of_lt_of_le hi h.size) (fun hm => by rcases hl i hm with h1 | h1; exact hn h1; omega)).trans (h.block i hi hn)⟩
theorem Upd.mono (h : Upd L w w') (hl : ∀ b, some b ∈ L → some b ∈ L') : Upd L' w w' := ⟨h.os, h.tape, h.output, h.size, fun k hk hn => h.block k hk (fun hm => hn (hl k hm))⟩
theorem Upd.drew (h : Upd L w w') : Upd L w w'.drew := ⟨h.os, h.tape, h.output, h.size, h.block⟩
theorem Upd.drewN (h : Upd L w w') (n : Nat) : Upd L w (w'.drewN n) := ⟨h.os, h.tape, h.output, h.size, h.block⟩
theorem Upd.alloc (h : Upd L w w') (o : Obj) : Upd L w (w'.alloc o) :=
  ⟨h.os, h.tape, h.output, by have := h.size; simp; omega, fun k hk hn => (Below.heap_alloc w' o k (by have := h.size; omega)).trans (h.block k hk hn)⟩
theorem Upd.setCell (h : Upd L w w') {p : Addr} (hp : some p.block ∈ L ∨ w.heap.size ≤ p.block) (u : Value) : Upd L w (w'.setCell p u) :=
  ⟨h.os, h.tape, h.output, by have := h.size; simp [World.setCell]; omega, fun k hk hn => (Below.heap_setCell w' p u k (by rintro rfl; rcases hp with h1 | h1; exact hn h1; omega)).trans (h.block k hk hn)⟩
theorem Upd.put (h : Upd L w w') {b o : Nat} (hp : w.heap.size ≤ b) (u : Value) : Upd L w (w'.setCell ⟨b, o, none⟩ u) := h.setCell (p := ⟨b, o, none⟩) (Or.inr hp) u
theorem Upd.putIn (h : Upd L w w') {b o : Nat} (hp : some b ∈ L) (u : Value) : Upd L w (w'.setCell ⟨b, o, none⟩ u) := h.setCell (p := ⟨b, o, none⟩) (Or.inl hp) u
theorem Upd.ofGrown {row : Option Nat} (h : w.grownBy w' row) : Upd [row] w w' := ⟨h.os, h.tape, h.output, h.size, fun k hk hn => h.block k hk (fun e => hn (by simp [e]))⟩
theorem Upd.below (h : Upd L w w') {B : Nat} (hB : B ≤ w.heap.size) (hl : ∀ b, some b ∈ L → B ≤ b) : Below B w w' :=
  ⟨h.os, h.tape, h.output, h.size, fun k hk => h.block k (by omega) (fun hm => by have := hl k hm; omega)⟩
theorem Upd.ofBelow {B : Nat} (h : Below B w w') (hB : w.heap.size ≤ B) : Upd L w w' := ⟨h.os, h.tape, h.output, h.size, fun k hk _ => h.block k (by omega)⟩
theorem Seg.upd {sz : Nat} {A : Option Addr} {n : Nat} {xs : List Value} (h : Seg w sz A n xs) (hu : Upd L w w') (hsz : 0 < sz) (hn : 0 < n → some (bl A) ∉ L) : Seg w' sz A n xs :=
  h.keep fun hp => hu.block _ (h.lt hp hsz) (hn hp)
theorem Ints.upd {kd : IntKind} {A : Option Addr} {n : Nat} {zs : List Int} (h : Ints kd w A n zs) (hu : Upd L w w') (hn : 0 < n → some (bl A) ∉ L) : Ints kd w' A n zs := Seg.upd h hu (by omega) hn
end

theorem cell_lt {w : World} {p : Addr} {v : Value} (h : w.cell? p = some v) : p.block < w.heap.size := by
  rcases Nat.lt_or_ge p.block w.heap.size with h' | h'
  · exact h'
  · simp [World.cell?, Array.getElem?_eq_none h'] at h
theorem Upd.cell {L : List (Option Nat)} {w w' : World} (hu : Upd L w w') {p : Addr} {v : Value} (h : w.cell? p = some v) (hn : some p.block ∉ L) : w'.cell? p = some v :=
  (World.cell?_of_block (hu.block _ (cell_lt h) hn)).trans h

/-- Indexing a slice whose address is known where it has elements. -/
theorem run_index {P : Program} {t e : TypeId} {z : Value} {sz bytes : Nat} (el : El P t e z sz bytes) {A : Option Addr} {n : Nat} (hA : 0 < n → A = some ⟨bl A, ofs A, none⟩) (c : Nat) (kd : IntKind) (k : Nat) (hk : k < n) :
    ∀ W : World, (Instr.indexAt t (.slice A n c) (.int kd k)).run P W = .ok (.pointer (some ⟨bl A, ofs A + k * sz, none⟩)) W := by
  intro W
  have hA := hA (by omega)
  generalize bl A = b at hA ⊢
  generalize ofs A = o at hA ⊢
  subst hA
  obtain ⟨i, hi, hz, hs, hb⟩ := info_parts el.info
  have he : P.elem t = e := by simp [Program.elem, el.under]
  rw [run_indexAt_slice (h := by rw [he]; exact el.under)]
  simp [hk, he, sizeOf, typeInfo, hi, hs, Addr.add_lit]

/-- Block g is just the cells cs of element type t, none frozen. -/
def Blk (w : World) (g : Nat) (t : TypeId) (cs : Array Value) : Prop := w.heap[g]? = some (.cells cs t (0, 0))

section
variable {w w' : World} {g : Nat} {t : TypeId} {cs : Array Value} {L : List (Option Nat)}
theorem Blk.lt (h : Blk w g t cs) : g < w.heap.size := by
  rcases Nat.lt_or_ge g w.heap.size with hlt | hge
  · exact hlt
  · unfold Blk at h; rw [Array.getElem?_eq_none hge] at h; cases h
theorem Blk.cell (h : Blk w g t cs) (i : Nat) : w.cell? ⟨g, i, none⟩ = cs[i]? := by unfold Blk at h; simp [World.cell?, h]
theorem Blk.frozen (h : Blk w g t cs) (i : Nat) : w.frozen? ⟨g, i, none⟩ = false := by unfold Blk at h; simp [World.frozen?, h]
theorem Blk.new (w : World) (t : TypeId) (cs : Array Value) : Blk (w.alloc (.cells cs t)) w.heap.size t cs := by
  show (w.heap.push _)[w.heap.size]? = _
  simp
theorem Blk.drew (h : Blk w g t cs) : Blk w.drew g t cs := h
theorem Blk.drewN (h : Blk w g t cs) (n : Nat) : Blk (w.drewN n) g t cs := h
theorem Blk.upd (h : Blk w g t cs) (hu : Upd L w w') (hg : some g ∉ L) : Blk w' g t cs := (hu.block g h.lt hg).trans h
theorem Blk.alloc (h : Blk w g t cs) (o : Obj) : Blk (w.alloc o) g t cs := (Below.heap_alloc w o g h.lt).trans h
theorem Blk.set (h : Blk w g t cs) (i : Nat) (u : Value) : Blk (w.setCell ⟨g, i, none⟩ u) g t (cs.setIfInBounds i u) := by
  unfold Blk at h ⊢
  simp [World.setCell, Array.getElem?_modify, h]
theorem Blk.far (h : Blk w g t cs) {p : Addr} (hp : g ≠ p.block) (u : Value) : Blk (w.setCell p u) g t cs := (Below.heap_setCell w p u g hp).trans h
theorem Blk.below {B : Nat} (h : Blk w g t cs) (hb : Below B w w') (hg : g < B) : Blk w' g t cs := (hb.block g hg).trans h
theorem Blk.ne {g' : Nat} {t' : TypeId} {cs' : Array Value} (h : Blk w g t cs) (h' : Blk w g' t' cs') (hne : t ≠ t') : g ≠ g' := by
  rintro rfl
  unfold Blk at h h'
  rw [h] at h'
  injection h' with h'
  injection h' with _ ht
  exact hne ht
end

theorem Blk.seg {w : World} {g : Nat} {t : TypeId} {cs : Array Value} (h : Blk w g t cs) : Seg w 1 (some ⟨g, 0, none⟩) cs.size cs.toList :=
  ⟨by simp, fun _ => rfl, fun k u hu => by
    show w.cell? ⟨g, 0 + k, none⟩ = _
    rw [Nat.zero_add, h.cell]
    simpa using hu⟩

/-- The address of a slice cut off at lo. -/
def cutA (sz : Nat) (A : Option Addr) (c lo : Nat) : Option Addr := if c = lo then A else A.map (·.add (lo * sz))

theorem bl_cut (sz : Nat) (A : Option Addr) (c lo : Nat) : bl (cutA sz A c lo) = bl A := by
  unfold cutA
  split
  · rfl
  · cases A with
    | none => rfl
    | some a => simp only [bl, Option.map_some, Option.getD_some, Addr.add]; split <;> rfl

theorem Seg.cut {w : World} {sz : Nat} {A : Option Addr} {n : Nat} {xs : List Value} (h : Seg w sz A n xs) {lo hi c : Nat} (h1 : lo ≤ hi) (h2 : hi ≤ n) (h3 : n ≤ c) :
    Seg w sz (cutA sz A c lo) (hi - lo) ((xs.drop (lo * sz)).take ((hi - lo) * sz)) := by
  have hl := h.len
  have e : lo * sz + (hi - lo) * sz = hi * sz := by rw [← Nat.add_mul]; congr 1; omega
  have e2 : hi * sz ≤ n * sz := Nat.mul_le_mul_right sz h2
  have hA : lo < hi → cutA sz A c lo = some ⟨bl A, ofs A + lo * sz, none⟩ ∧ ofs (cutA sz A c lo) = ofs A + lo * sz := fun hp => by
    have hA := h.at_ (by omega)
    have : cutA sz A c lo = some ⟨bl A, ofs A + lo * sz, none⟩ := by
      unfold cutA
      rw [if_neg (by omega)]
      generalize bl A = b at hA ⊢
      generalize ofs A = o at hA ⊢
      subst hA
      simp [Addr.add_lit]
    exact ⟨this, by rw [this]; rfl⟩
  refine ⟨by rw [List.length_take, List.length_drop]; omega, fun hp => ?_, fun k u hu => ?_⟩
  · have := hA (by omega)
    rw [this.2, bl_cut]
    exact this.1
  · have hk : k < (hi - lo) * sz := by
      have := (List.getElem?_eq_some_iff.1 hu).1
      rw [List.length_take] at this
      omega
    have hp : lo < hi := by
      rcases Nat.lt_or_ge lo hi with h' | h'
      · exact h'
      · have : hi - lo = 0 := by omega
        rw [this] at hk; omega
    rw [List.getElem?_take_of_lt hk, List.getElem?_drop] at hu
    have hc := h.cell _ u hu
    rw [(hA hp).2, bl_cut, Nat.add_assoc]
    exact hc

theorem Ints.cut {w : World} {kd : IntKind} {A : Option Addr} {n : Nat} {zs : List Int} (h : Ints kd w A n zs) {lo hi c : Nat} (h1 : lo ≤ hi) (h2 : hi ≤ n) (h3 : n ≤ c) : Ints kd w (cutA 1 A c lo) (hi - lo) ((zs.drop lo).take (hi - lo)) := by
  have := Seg.cut h h1 h2 h3
  rw [Nat.mul_one, Nat.mul_one, ← List.map_drop, ← List.map_take] at this
  exact this

theorem run_cut_lh {P : Program} {t e : TypeId} {z : Value} {sz bytes : Nat} (el : El P t e z sz bytes) (A : Option Addr) (n c : Nat) (kl kh : IntKind) (il ih : Int) (lo hi : Nat) (e1 : il = lo) (e2 : ih = hi) (h1 : lo ≤ hi) (h2 : hi ≤ c) :
    ∀ W : World, (Instr.sliceAt t (.slice A n c) (some (.int kl il)) (some (.int kh ih)) none).run P W = .ok (.slice (cutA sz A c lo) (hi - lo) (c - lo)) W := by
  intro W
  subst e1 e2
  obtain ⟨i, hi, hz, hs, hb⟩ := info_parts el.info
  have he : P.elem t = e := by simp [Program.elem, el.under]
  have ht : P.underlying t = some (.slice (P.elem t)) := by rw [he]; exact el.under
  rw [run_sliceAt_slice (h := ht), run_slice_lh (ht := ht) (h0 := by omega) (h1 := by omega) (h2 := by omega)]
  simp [he, sizeOf, typeInfo, hi, hs, sliced, cutA]
theorem run_cut_l {P : Program} {t e : TypeId} {z : Value} {sz bytes : Nat} (el : El P t e z sz bytes) (A : Option Addr) (n c : Nat) (kl : IntKind) (il : Int) (lo : Nat) (e1 : il = lo) (h1 : lo ≤ n) :
    ∀ W : World, (Instr.sliceAt t (.slice A n c) (some (.int kl il)) none none).run P W = .ok (.slice (cutA sz A c lo) (n - lo) (c - lo)) W := by
  intro W
  subst e1
  obtain ⟨i, hi, hz, hs, hb⟩ := info_parts el.info
  have he : P.elem t = e := by simp [Program.elem, el.under]
  have ht : P.underlying t = some (.slice (P.elem t)) := by rw [he]; exact el.under
  rw [run_sliceAt_slice (h := ht), run_slice_l (ht := ht) (h0 := by omega) (h1 := by omega)]
  simp [he, sizeOf, typeInfo, hi, hs, sliced, cutA]
theorem run_cut_h {P : Program} {t e : TypeId} {z : Value} {sz bytes : Nat} (el : El P t e z sz bytes) (A : Option Addr) (n c : Nat) (kh : IntKind) (ih : Int) (hi : Nat) (e2 : ih = hi) (h2 : hi ≤ c) :
    ∀ W : World, (Instr.sliceAt t (.slice A n c) none (some (.int kh ih)) none).run P W = .ok (.slice A hi c) W := by
  intro W
  subst e2
  obtain ⟨i, hi, hz, hs, hb⟩ := info_parts el.info
  have he : P.elem t = e := by simp [Program.elem, el.under]
  have ht : P.underlying t = some (.slice (P.elem t)) := by rw [he]; exact el.under
  rw [run_sliceAt_slice (h := ht), run_slice_h (ht := ht) (h0 := by omega) (h2 := by omega)]
  have ha : ∀ a : Addr, a.add 0 = a := fun a => by simp [Addr.add]
  cases A <;> simp [he, sizeOf, typeInfo, hi, sliced, ha]

/-- string(b), b a slice of bytes that reads, in any world in which it reads so. -/
theorem Ints.str {P : Program} {w : World} {A : Option Addr} {n : Nat} {zs : List Int} (h : Ints .u8 w A n zs) {src e dst : TypeId} (hs : P.underlying src = some (.slice e)) (he : P.underlying e = some (.int .u8)) (hd : P.underlying dst = some .string) (c : Nat) :
    (convert src dst (.slice A n c)).run P w = .ok (.string (strOfNums zs)) w := by
  have hl := h.len.out
  rcases Nat.eq_zero_or_pos n with h0 | h0
  · subst h0
    have hz : zs = [] := List.eq_nil_of_length_eq_zero hl
    subst hz
    cases A with
    | none => rw [run_convert_bytes_nil w src e hs he 0 c dst hd]; rfl
    | some a =>
      rw [run_convert_bytes_string w src dst e _ 0 c hs he hd, run_bytesToString w a 0 c [] (by simp [loadCells, loadCellsFrom])]
      rfl
  · have hA := Seg.at_ h h0
    have hc : ∀ i, i < n → w.cell? ⟨bl A, ofs A + i, none⟩ = some (.int .u8 (zs.getD i 0)) := fun i hi => by
      obtain ⟨x, hx, hcell⟩ := h.int hi
      rw [hcell]
      simp [List.getD, hx.out]
    generalize bl A = b at hA hc
    generalize ofs A = o at hA hc
    subst hA
    exact run_convert_bytes_arg w src e hs he b o n c zs hl hc dst hd

/-- The slice (A, n, c) owns the cells xs, sz an element of type e, in a block of its own from B on (nil: none). -/
def Own (w : World) (B : Nat) (e : TypeId) (sz : Nat) (A : Option Addr) (n c : Nat) (xs : List Value) : Prop := w.ownsRow B e sz (.slice A n c) n xs

section
variable {w w' : World} {B : Nat} {e : TypeId} {sz : Nat} {A : Option Addr} {n c : Nat} {xs : List Value} {L : List (Option Nat)}
theorem Own.cases (h : Own w B e sz A n c xs) : xs.length = n * sz ∧ n ≤ c ∧ c ≤ maxLen ∧ ((A = none ∧ n = 0 ∧ c = 0) ∨ ∃ g cur, A = some ⟨g, 0, none⟩ ∧ B ≤ g ∧ Blk w g e cur ∧ cur.size = c * sz ∧ cur.toList.take (n * sz) = xs) := by
  obtain ⟨h1, h2⟩ := h
  rcases h2 with ⟨hv, h0⟩ | ⟨g, cap, cur, hv, hg, hh, hn, hm, hs, ht⟩
  · injection hv with a b d
    subst a b d
    exact ⟨h1, Nat.le_refl _, by simp [maxLen], Or.inl ⟨rfl, rfl, rfl⟩⟩
  · injection hv with a b d
    subst a d
    exact ⟨h1, hn, hm, Or.inr ⟨g, cur, rfl, hg, hh, hs, ht⟩⟩
theorem Own.mk (h1 : xs.length = n * sz) (hn : n ≤ c) (hm : c ≤ maxLen) {g : Nat} {cur : Array Value} (hA : A = some ⟨g, 0, none⟩) (hg : B ≤ g) (hb : Blk w g e cur) (hs : cur.size = c * sz) (ht : cur.toList.take (n * sz) = xs) : Own w B e sz A n c xs :=
  ⟨h1, Or.inr ⟨g, c, cur, by rw [hA], hg, hb, hn, hm, hs, ht⟩⟩
theorem Own.nil (w : World) (B : Nat) (e : TypeId) (sz : Nat) : Own w B e sz none 0 0 [] := ⟨by simp, Or.inl ⟨rfl, rfl⟩⟩
theorem Own.le (h : Own w B e sz A n c xs) : n ≤ c := h.cases.2.1
theorem Own.max (h : Own w B e sz A n c xs) : c ≤ maxLen := h.cases.2.2.1
theorem Own.len (h : Own w B e sz A n c xs) : xs.length = n * sz := h.1
theorem Own.base (h : Own w B e sz A n c xs) {g : Nat} (hg : ob A = some g) : B ≤ g ∧ g < w.heap.size := by
  rcases h.cases.2.2.2 with ⟨rfl, _⟩ | ⟨g', cur, rfl, hB, hb, _⟩
  · cases hg
  · injection hg with hg; subst hg; exact ⟨hB, hb.lt⟩
theorem Own.keep (h : Own w B e sz A n c xs) (hk : ∀ g, ob A = some g → w'.heap[g]? = w.heap[g]?) : Own w' B e sz A n c xs := by
  obtain ⟨h1, hn, hm, h2⟩ := h.cases
  rcases h2 with ⟨rfl, rfl, rfl⟩ | ⟨g, cur, rfl, hB, hb, hs, ht⟩
  · exact ⟨h1, Or.inl ⟨rfl, rfl⟩⟩
  · exact Own.mk h1 hn hm rfl hB ((hk g rfl).trans hb) hs ht
theorem Own.upd (h : Own w B e sz A n c xs) (hu : Upd L w w') (hn : ∀ g, ob A = some g → some g ∉ L) : Own w' B e sz A n c xs := h.keep fun g hg => hu.block g (h.base hg).2 (hn g hg)
theorem Own.alloc (h : Own w B e sz A n c xs) (o : Obj) : Own (w.alloc o) B e sz A n c xs := h.keep fun g hg => Below.heap_alloc w o g (h.base hg).2
theorem Own.drew (h : Own w B e sz A n c xs) : Own w.drew B e sz A n c xs := h
theorem Own.drewN (h : Own w B e sz A n c xs) (k : Nat) : Own (w.drewN k) B e sz A n c xs := h
theorem Own.far (h : Own w B e sz A n c xs) {p : Addr} (hp : ob A ≠ some p.block) (u : Value) : Own (w.setCell p u) B e sz A n c xs := h.keep fun g hg => Below.heap_setCell w p u g (by rintro rfl; exact hp hg)
theorem Own.monoB {B' : Nat} (h : Own w B e sz A n c xs) (hB : B' ≤ B) : Own w B' e sz A n c xs := by
  obtain ⟨h1, hn, hm, h2⟩ := h.cases
  rcases h2 with ⟨rfl, rfl, rfl⟩ | ⟨g, cur, rfl, hB', hb, hs, ht⟩
  · exact ⟨h1, Or.inl ⟨rfl, rfl⟩⟩
  · exact Own.mk h1 hn hm rfl (by omega) hb hs ht
/-- An owned slice's base may be raised to whatever its block allows. -/
theorem Own.reB {B' : Nat} (h : Own w B e sz A n c xs) (hB : ∀ g, ob A = some g → B' ≤ g) : Own w B' e sz A n c xs := by
  obtain ⟨h1, hn, hm, h2⟩ := h.cases
  rcases h2 with ⟨rfl, rfl, rfl⟩ | ⟨g, cur, rfl, hB', hb, hs, ht⟩
  · exact ⟨h1, Or.inl ⟨rfl, rfl⟩⟩
  · exact Own.mk h1 hn hm rfl (hB g rfl) hb hs ht
theorem Own.seg (h : Own w B e sz A n c xs) : Seg w sz A n xs := by
  obtain ⟨h1, hn, hm, h2⟩ := h.cases
  refine ⟨h1, fun hp => ?_, fun k u hu => ?_⟩
  · rcases h2 with ⟨_, h0, _⟩ | ⟨g, cur, rfl, _⟩
    · omega
    · rfl
  · rcases h2 with ⟨rfl, rfl, rfl⟩ | ⟨g, cur, rfl, hB, hb, hs, ht⟩
    · have hk := (List.getElem?_eq_some_iff.1 hu).1
      rw [h1] at hk
      omega
    · subst ht
      have hk : k < n * sz := by have := (List.getElem?_eq_some_iff.1 hu).1; simp at this; omega
      rw [List.getElem?_take_of_lt hk, Array.getElem?_toList] at hu
      show w.cell? ⟨g, 0 + k, none⟩ = some u
      rw [Nat.zero_add, hb.cell]
      exact hu
theorem Own.frozen (h : Own w B e sz A n c xs) (hp : 0 < n) (k : Nat) : w.frozen? ⟨bl A, ofs A + k, none⟩ = false := by
  rcases h.cases.2.2.2 with ⟨_, h0, _⟩ | ⟨g, cur, rfl, hB, hb, _⟩
  · omega
  · exact hb.frozen _
theorem Own.obl (h : Own w B e sz A n c xs) (hp : 0 < n) : ob A = some (bl A) := by
  rcases h.cases.2.2.2 with ⟨_, h0, _⟩ | ⟨g, cur, rfl, _⟩
  · omega
  · rfl
theorem Own.set (h : Own w B e sz A n c xs) {k : Nat} (hk : k < n * sz) (u : Value) : Own (w.setCell ⟨bl A, ofs A + k, none⟩ u) B e sz A n c (xs.set k u) := by
  obtain ⟨h1, hn, hm, h2⟩ := h.cases
  rcases h2 with ⟨_, h0, _⟩ | ⟨g, cur, rfl, hB, hb, hs, ht⟩
  · subst h0; omega
  · subst ht
    refine Own.mk (by simpa using h1) hn hm rfl hB (hb.set _ u) (by simpa using hs) ?_
    show List.take (n * sz) (cur.setIfInBounds (0 + k) u).toList = _
    rw [Nat.zero_add, Array.toList_setIfInBounds, List.take_set]
end

/-- 'T{}' of a slice type: a block without cells. -/
theorem Own.empty (w : World) (B : Nat) (e : TypeId) (hB : B ≤ w.heap.size) : Own (w.alloc (.cells #[] e)) B e 1 (some ⟨w.heap.size, 0, none⟩) 0 0 [] :=
  Own.mk rfl (Nat.le_refl _) (by simp [maxLen]) rfl hB (Blk.new w e #[]) rfl rfl

theorem Ints.ofOwn {w : World} {B : Nat} {e : TypeId} {A : Option Addr} {n c : Nat} {kd : IntKind} {zs : List Int} (h : Own w B e 1 A n c (zs.map (Value.int kd))) : Ints kd w A n zs := h.seg

/-- An owned slice and a known block of another element type are apart. -/
theorem Own.neBlk {w : World} {B : Nat} {e t : TypeId} {sz : Nat} {A : Option Addr} {n c g : Nat} {xs : List Value} {cs : Array Value} (h : Own w B e sz A n c xs) (hb : Blk w g t cs) (hne : e ≠ t) : ob A ≠ some g := by
  rcases h.cases.2.2.2 with ⟨rfl, _⟩ | ⟨g', cur, rfl, _, hb', _⟩
  · intro h; cases h
  · intro h; injection h with h; exact (hb'.ne hb hne) h

/-- Two owned slices of different element types are apart. -/
theorem Own.neOwn {w : World} {B B' : Nat} {e e' : TypeId} {sz sz' : Nat} {A A' : Option Addr} {n c n' c' g : Nat} {xs xs' : List Value} (h : Own w B e sz A n c xs) (h' : Own w B' e' sz' A' n' c' xs') (hne : e ≠ e') (hg : ob A = some g) : ob A' ≠ some g := by
  rcases h.cases.2.2.2 with ⟨rfl, _⟩ | ⟨g1, cur, rfl, _, hb, _⟩
  · cases hg
  · injection hg with hg; subst hg; exact h'.neBlk hb (fun e => hne e.symm)

/-- The new slice lies where the old one lay, or in a block that is new to w. -/
def Fresh (w : World) (A A' : Option Addr) : Prop := ∀ g, ob A' = some g → ob A = some g ∨ w.heap.size ≤ g

theorem info_get {P : Program} {t e : TypeId} {z : Value} {sz bytes : Nat} (el : El P t e z sz bytes) : ∃ i, P.info? e = some i ∧ i.zero = some z ∧ i.size = sz ∧ i.bytes = bytes := info_parts el.info

/-- 'append(s, x...)' onto a slice of the call's own (or nil): the source any slice that reads. -/
theorem run_app {P : Program} {w : World} {B : Nat} {t ty e : TypeId} {z : Value} {sz bytes : Nat} (el : El P t e z sz bytes)
    {A : Option Addr} {n c : Nat} {xs : List Value} (hown : Own w B e sz A n c xs) {A2 : Option Addr} {m c2 : Nat} {news : List Value} (hr : Seg w sz A2 m news)
    (h1 : ∀ u ∈ news, u.oneCell' = true) (hmax : n + m ≤ maxLen) (hbytes : (n + m) * bytes ≤ 140737488355328) (hB : B ≤ w.heap.size) :
    ∃ A' c' w', (Builtin.append_ #[t, t] ty #[.slice A n c, .slice A2 m c2]).run P w = .ok (.slice A' (n + m) c') w' ∧ Own w' B e sz A' (n + m) c' (xs ++ news) ∧ Upd [ob A] w w' ∧ Fresh w A A' := by
  obtain ⟨i, hi, hz, hs, hb⟩ := info_get el
  rcases A2 with _ | ad
  · have hm : m = 0 := by
      rcases Nat.eq_zero_or_pos m with h0 | h0
      · exact h0
      · have := hr.at_ h0; cases this
    subst hm
    have hn : news = [] := List.eq_nil_of_length_eq_zero (by simpa using hr.len)
    subst hn
    refine ⟨A, c, w, ?_, by simpa using hown, Upd.refl _ _, fun g hg => Or.inl hg⟩
    rcases hown.cases.2.2.2 with ⟨rfl, rfl, rfl⟩ | ⟨g, cur, rfl, _⟩
    · simp [Builtin.append_, run_underlying el.under, sizeOf, typeInfo, hi, Builtin.lenOf, Builtin.firstCells]
    · simp [Builtin.append_, run_underlying el.under, sizeOf, typeInfo, hi, Builtin.lenOf, Builtin.firstCells, hown.le, storeCells]
  · have hcells : ∀ j u, news[j]? = some u → w.cell? (ad.add j) = some u := by
      intro j u hu
      have hl : j < news.length := (List.getElem?_eq_some_iff.1 hu).1
      have hp : 0 < m := by
        rcases Nat.eq_zero_or_pos m with h0 | h0
        · subst h0; rw [hr.len] at hl; omega
        · exact h0
      have hA := hr.at_ hp
      have hc := hr.cell j u hu
      injection hA with hA
      rw [hA, Addr.add_lit]
      exact hc
    obtain ⟨v', w', hrun, h2, h3, _, h5⟩ := run_append_own_at (P := P) w B t ty e i z sz bytes el.under hi hz hs hb el.zsz el.pos (.slice A n c) n xs hown ad m c2 news hr.len hcells h1 hmax hbytes hB
    have hrow : (Value.slice A n c).ownBlock = ob A := by cases A <;> rfl
    have hv : ∃ A' c', v' = .slice A' (n + m) c' := by
      rcases h2.2 with ⟨h, h0⟩ | ⟨g, cap, cur, h, _⟩
      · exact ⟨none, 0, by rw [h, h0]⟩
      · exact ⟨_, _, h⟩
    obtain ⟨A', c', rfl⟩ := hv
    have hrow' : (Value.slice A' (n + m) c').ownBlock = ob A' := by cases A' <;> rfl
    rw [hrow] at h3 h5
    rw [hrow'] at h5
    exact ⟨A', c', w', hrun, h2, Upd.ofGrown h3, fun g hg => by rcases h5 with h5 | h5 <;> rw [hg] at h5; exact Or.inl h5.symm; exact Or.inr (by injection h5 with h5; omega)⟩

theorem wp_app {P : Program} {w : World} {o : Oper} {a : Act} {K : Act → World → Prop} {Q : Exit → Act → World → Prop} {s x : Operand} {t : TypeId}
    (ho : o.op = .call { callee := .builtin .append, args := #[s, x], argTypes := #[t, t] })
    {B : Nat} {e : TypeId} {z : Value} {sz bytes : Nat} (el : El P t e z sz bytes)
    {A : Option Addr} {n c : Nat} {xs : List Value} (hs : a.eval s = .slice A n c) (hown : Own w B e sz A n c xs) {A2 : Option Addr} {m c2 : Nat} {news : List Value} (hx : a.eval x = .slice A2 m c2) (hr : Seg w sz A2 m news)
    (h1 : ∀ u ∈ news, u.oneCell' = true) (hmax : n + m ≤ maxLen) (hbytes : (n + m) * bytes ≤ 140737488355328) (hB : B ≤ w.heap.size)
    (h : ∀ A' c' w', Own w' B e sz A' (n + m) c' (xs ++ news) → Upd [ob A] w w' → Fresh w A A' → K (a.put o.dst (.slice A' (n + m) c')) w') : o.wp P a w K Q := by
  obtain ⟨A', c', w', hrun, h2, h3, h4⟩ := run_app (P := P) (ty := o.type) (c2 := c2) el hown hr h1 hmax hbytes hB
  unfold Oper.wp execOp
  simp only [ho, resolve, invoke, builtin, Sem.run_bind, Sem.run_pure, Result.andThen_ok, List.map_toArray, List.map_cons, List.map_nil, hs, hx, hrun]
  exact h A' c' w' h2 h3 h4

theorem wpList_app {P : Program} {w : World} {ops : Array Oper} {rest : List Oper} {o : Oper} {a : Act} {Q : Exit → Act → World → Prop} (hgd : o.guard = none) {s x : Operand} {t : TypeId}
    (ho : o.op = .call { callee := .builtin .append, args := #[s, x], argTypes := #[t, t] })
    {B : Nat} {e : TypeId} {z : Value} {sz bytes : Nat} (el : El P t e z sz bytes)
    {A : Option Addr} {n c : Nat} {xs : List Value} (hs : a.eval s = .slice A n c) (hown : Own w B e sz A n c xs) {A2 : Option Addr} {m c2 : Nat} {news : List Value} (hx : a.eval x = .slice A2 m c2) (hr : Seg w sz A2 m news)
    (h1 : ∀ u ∈ news, u.oneCell' = true) (hmax : n + m ≤ maxLen) (hbytes : (n + m) * bytes ≤ 140737488355328) (hB : B ≤ w.heap.size)
    (h : ∀ A' c' w', Own w' B e sz A' (n + m) c' (xs ++ news) → Upd [ob A] w w' → Fresh w A A' → wpList P ops Q rest (a.put o.dst (.slice A' (n + m) c')) w') : wpList P ops Q (o :: rest) a w :=
  wpList_plain hgd fun _ hK => wp_app ho el hs hown hx hr h1 hmax hbytes hB fun A' c' w' h2 h3 h4 => hK _ _ (h A' c' w' h2 h3 h4)

/-- 'append(s, x)' of one value: the value is laid in a block of its own first. -/
theorem Seg.one (w : World) (x : Value) (t : TypeId) : Seg (w.alloc (.cells #[x] t)) 1 (some ⟨w.heap.size, 0, none⟩) 1 [x] :=
  ⟨rfl, fun _ => rfl, fun k u hu => by
    match k, hu with
    | 0, hu => simp at hu; subst hu; simp [bl, ofs]⟩

/-- 'make([]T, n)': n zero elements of one cell. -/
theorem wpList_mk {P : Program} {w : World} {ops : Array Oper} {rest : List Oper} {o : Oper} {a : Act} {Q : Exit → Act → World → Prop}
    (hg : o.guard = none) {l c : Operand} {t : TypeId} (hop : o.op = Op.makeSlice t l c)
    (B : Nat) {e : TypeId} {z : Value} {bytes : Nat} (el : El P t e z 1 bytes)
    (n : Nat) {kl kc : IntKind} {L C : Int} (hl : a.eval l = .int kl L) (hc : a.eval c = .int kc C) (hL : L = (n : Int)) (hC : C = (n : Int)) (hz1 : z.cells = #[z]) (b2 : bytes * n ≤ 281474976710656) (b3 : n ≤ maxLen) (b4 : B ≤ w.heap.size)
    (hK : ∀ A' w', Own w' B e 1 A' n n (List.replicate n z) → Upd [] w w' → ob A' = some w.heap.size → wpList P ops Q rest (a.put o.dst (.slice A' n n)) w') :
    wpList P ops Q (o :: rest) a w := by
  obtain ⟨i, hi, hz, hs, hb⟩ := info_get el
  refine wpList_make_full (P := P) w hg l c t hop B e i z 1 el.under hi hz hs kl kc L C n hl hc hL hC (by rw [hb]; exact b2) b3 b4 fun w' h1 h2 => hK _ w' ?_ ⟨h2.os, h2.tape, h2.output, h2.size, fun k hk _ => h2.block k hk (by simp)⟩ rfl
  rw [hz1, Nat.mul_one, toList_madeCells_one] at h1
  exact h1

theorem ints_one (kd : IntKind) (zs : List Int) : ∀ u ∈ zs.map (Value.int kd), u.oneCell' = true := ints_oneCell kd zs

/-- A callee that leaves the world alone, in a region that draws its order. -/
theorem quietL {P : Program} {f : FuncId} {args : Array Value} {w : World} {n : Nat} {v : Value} (h : Calls P f args (w.drewN n) fun e w' => e = .returned v ∧ w.drewN n = w') :
    Calls P f args (w.drewN n) fun e w'' => e = .returned v ∧ ∃ m, w'' = w.drewN m := h.mono fun _ _ ⟨he, hm⟩ => ⟨he, n, hm.symm⟩
/-- A callee that draws alone, in a region that draws its order. -/
theorem quietD {P : Program} {f : FuncId} {args : Array Value} {w : World} {n : Nat} {v : Value} (h : Calls P f args (w.drewN n) fun e w' => e = .returned v ∧ ∃ m, w' = (w.drewN n).drewN m) :
    Calls P f args (w.drewN n) fun e w'' => e = .returned v ∧ ∃ m, w'' = w.drewN m := h.mono fun _ _ ⟨he, m, hm⟩ => ⟨he, n + m, by rw [hm, World.drewN_drewN]⟩

theorem ret_int {k : IntKind} {a b : Int} (h : a = b) : Ending.returned (.int k a) = .returned (.int k b) := by rw [h]
theorem ret_bool {a b : Bool} (h : a = b) : Ending.returned (.bool a) = .returned (.bool b) := by rw [h]

/-- Lists by their last element. -/
theorem snoc_ind {α : Type} {Q : List α → Prop} (h0 : Q []) (h1 : ∀ l x, Q l → Q (l ++ [x])) (l : List α) : Q l := by
  have h : ∀ l : List α, Q l.reverse := fun l => by
    induction l with
    | nil => exact h0
    | cons x l ih => rw [List.reverse_cons]; exact h1 _ _ ih
  have := h l.reverse
  rwa [List.reverse_reverse] at this

/-- The list of the values of a function at 0 .. n-1. -/
def tab {α : Type} (n : Nat) (f : Nat → α) : List α := (List.range n).map f
theorem tab_len {α : Type} (n : Nat) (f : Nat → α) : (tab n f).length = n := by simp [tab]
theorem tab_congr {α : Type} {n : Nat} {f g : Nat → α} (h : ∀ j, j < n → f j = g j) : tab n f = tab n g := List.map_congr_left fun j hj => h j (List.mem_range.1 hj)
theorem tab_get {α : Type} {n : Nat} (f : Nat → α) {j : Nat} (h : j < n) : (tab n f)[j]? = some (f j) := by simp [tab, h]
theorem tab_set {α : Type} (n : Nat) (f : Nat → α) (k : Nat) (v : α) : (tab n f).set k v = tab n fun j => if j = k then v else f j := by
  apply List.ext_getElem?
  intro i
  rw [List.getElem?_set]
  by_cases hi : i < n
  · by_cases hk : k = i
    · subst hk; simp [tab, hi]
    · rw [if_neg hk, tab_get _ hi, tab_get _ hi, if_neg (fun h => hk h.symm)]
  · have h1 : ∀ g : Nat → α, (tab n g)[i]? = none := fun g => List.getElem?_eq_none (by rw [tab_len]; omega)
    by_cases hk : k = i
    · subst hk; simp [tab, hi]
    · rw [if_neg hk, h1, h1]
theorem tab_map {α β : Type} (n : Nat) (f : Nat → α) (g : α → β) : (tab n f).map g = tab n fun j => g (f j) := by simp [tab]
theorem tab_rep {α : Type} (n : Nat) (x : α) : List.replicate n x = tab n fun _ => x := by
  apply List.ext_getElem (by simp [tab])
  intro i h1 h2
  simp [tab]
theorem tab_of {α : Type} (l : List α) (d : α) : l = tab l.length fun j => l.getD j d := by
  apply List.ext_getElem (by simp [tab])
  intro i h1 h2
  simp [tab, h1]

end Go.Dray

/-! Text Elems. -/
namespace Go.Proofs.YtolcdlopgbgilaaGreatDoor
open Go.RowKit Go.Dray

theorem el_int : El Tryz.prog 64 3 (.int .i64 0) 1 8 := ⟨Tryz.underlying64, by kernel_rfl, rfl, by omega⟩
theorem el_byte : El Tryz.prog 22 5 (.int .u8 0) 1 1 := ⟨Tryz.underlying22, by kernel_rfl, rfl, by omega⟩

end Go.Proofs.YtolcdlopgbgilaaGreatDoor

/-! Text Bits. -/
namespace Go.Dray
open Go.RowKit

def b2i (b : Bool) : Int := if b then 1 else 0
/-- The number of bits, the first the lowest. -/
def num : List Bool → Int
  | [] => 0
  | b :: r => b2i b + 2 * num r
/-- The i-th byte of bits, filled up by noughts. -/
def packB (bs : List Bool) (i : Nat) : Int := num ((bs.drop (8 * i)).take 8)
/-- The bytes of bits, filled up by noughts. -/
def pack (bs : List Bool) : List Int := tab ((bs.length + 7) / 8) (packB bs)

theorem b2i_bd (b : Bool) : 0 ≤ b2i b ∧ b2i b ≤ 1 := by cases b <;> simp [b2i]
theorem num_nonneg (l : List Bool) : 0 ≤ num l := by
  induction l with
  | nil => simp [num]
  | cons b r ih => have := b2i_bd b; simp only [num]; omega
theorem num_lt (l : List Bool) : num l < 2 ^ l.length := by
  induction l with
  | nil => simp [num]
  | cons b r ih => have := b2i_bd b; simp only [num, List.length_cons, Int.pow_succ]; omega
theorem num_append (l m : List Bool) : num (l ++ m) = num l + 2 ^ l.length * num m := by
  induction l with
  | nil => simp [num]
  | cons b r ih =>
    simp only [List.cons_append, num, ih, List.length_cons, Int.pow_succ]
    have e : (2 : Int) ^ r.length * 2 * num m = 2 * (2 ^ r.length * num m) := by rw [Int.mul_comm _ 2, Int.mul_assoc]
    rw [e]
    omega
theorem packB_bd (bs : List Bool) (i : Nat) : 0 ≤ packB bs i ∧ packB bs i ≤ 255 := by
  have h := num_lt ((bs.drop (8 * i)).take 8)
  have h2 : ((bs.drop (8 * i)).take 8).length ≤ 8 := List.length_take_le _ _
  have h3 := Nat.pow_le_pow_right (n := 2) (by omega) h2
  have e : ((2 ^ ((bs.drop (8 * i)).take 8).length : Nat) : Int) = (2 : Int) ^ ((bs.drop (8 * i)).take 8).length := by simp
  rw [← e] at h
  exact ⟨num_nonneg _, by unfold packB; omega⟩
theorem pack_len (bs : List Bool) : (pack bs).length = (bs.length + 7) / 8 := tab_len _ _
theorem pack_nil : pack [] = [] := rfl

theorem pack_new (bs : List Bool) (b : Bool) (h : bs.length % 8 = 0) : pack (bs ++ [b]) = pack bs ++ [b2i b] := by
  apply List.ext_getElem?
  intro i
  have hl : ((bs ++ [b]).length + 7) / 8 = (bs.length + 7) / 8 + 1 := by simp; omega
  have h8 : 8 * ((bs.length + 7) / 8) = bs.length := by omega
  rcases Nat.lt_trichotomy i ((bs.length + 7) / 8) with hi | hi | hi
  · rw [List.getElem?_append_left (by rw [pack_len]; exact hi)]
    unfold pack
    rw [tab_get _ (by omega), tab_get _ hi]
    unfold packB
    rw [List.drop_append_of_le_length (by omega), List.take_append_of_le_length (by rw [List.length_drop]; omega)]
  · subst hi
    rw [List.getElem?_append_right (by rw [pack_len]; omega), pack_len, Nat.sub_self]
    unfold pack
    rw [tab_get _ (by omega)]
    unfold packB
    rw [h8, List.drop_append_of_le_length (by omega), List.drop_length]
    simp [num]
  · rw [List.getElem?_eq_none (by rw [pack_len]; omega), List.getElem?_eq_none (by rw [List.length_append, pack_len]; simp; omega)]

theorem pack_old (bs : List Bool) (b : Bool) (h : bs.length % 8 ≠ 0) :
    pack (bs ++ [b]) = (pack bs).set ((bs.length + 7) / 8 - 1) (packB bs ((bs.length + 7) / 8 - 1) + b2i b * 2 ^ (bs.length % 8)) := by
  have hl : ((bs ++ [b]).length + 7) / 8 = (bs.length + 7) / 8 := by simp; omega
  unfold pack
  rw [hl, tab_set]
  refine tab_congr fun j hj => ?_
  by_cases e : j = (bs.length + 7) / 8 - 1
  · rw [if_pos e]
    subst e
    unfold packB
    have h1 : 8 * ((bs.length + 7) / 8 - 1) = bs.length - bs.length % 8 := by omega
    rw [h1, List.drop_append_of_le_length (by omega)]
    have h2 : (bs.drop (bs.length - bs.length % 8)).length = bs.length % 8 := by rw [List.length_drop]; omega
    rw [List.take_of_length_le (by rw [List.length_append, h2]; simp; omega), List.take_of_length_le (by rw [h2]; omega), num_append, h2]
    simp [num, Int.mul_comm]
  · rw [if_neg e]
    unfold packB
    rw [List.drop_append_of_le_length (by omega), List.take_append_of_le_length (by rw [List.length_drop]; omega)]

/-- The lowest bit of a number. -/
def low (v : Int) : Bool := v % 2 == 1
theorem b2i_low (v : Int) : b2i (low v) = v % 2 := by
  unfold b2i low
  by_cases h : v % 2 = 1
  · simp [h]
  · simp [h]; omega

theorem and_one_i64 (v : Int) : bits .and .i64 v 1 = v % 2 := by
  unfold bits
  have h1 : (BitVec.ofInt IntKind.i64.bits v &&& BitVec.ofInt IntKind.i64.bits 1).toNat = (v % 2).toNat := by
    rw [BitVec.toNat_and]
    show (BitVec.ofInt 64 v).toNat &&& (BitVec.ofInt 64 1).toNat = _
    rw [BitVec.toNat_ofInt, show (BitVec.ofInt 64 1).toNat = 1 from rfl, Nat.and_one_is_mod]
    omega
  simp only [h1]
  have h2 : 0 ≤ v % 2 ∧ v % 2 ≤ 1 := by omega
  simp only [IntKind.wrap_i64]
  omega

/-- Putting a bit behind k bits of a byte. -/
theorem or_bit (a x : Int) (k : Nat) (ha : 0 ≤ a) (hk : k < 8) (hak : a < 2 ^ k) (hx : 0 ≤ x) (hx1 : x ≤ 1) : bits .or .u8 a (x * 2 ^ k) = a + x * 2 ^ k := by
  have hp : (2 : Int) ^ k ≤ 128 := by
    have := Nat.pow_le_pow_right (n := 2) (by omega) (show k ≤ 7 by omega)
    have e : ((2 ^ k : Nat) : Int) = (2 : Int) ^ k := by simp
    rw [← e]; omega
  have hp0 : (0 : Int) < 2 ^ k := Int.pow_pos (by decide)
  have hx2 : 0 ≤ x * 2 ^ k ∧ x * 2 ^ k ≤ 128 := by
    rcases (show x = 0 ∨ x = 1 by omega) with rfl | rfl <;> omega
  rw [u8_or a _ ha (by omega) (by omega) (by omega), Nat.or_comm, nat_join k]
  · omega
  · obtain ⟨y, rfl⟩ := Int.eq_ofNat_of_zero_le hx
    have e : ((y : Int) * 2 ^ k).toNat = y * 2 ^ k := by
      have : ((y * 2 ^ k : Nat) : Int) = (y : Int) * 2 ^ k := by simp
      omega
    rw [e]
    exact Nat.mul_mod_left _ _
  · have e : ((2 ^ k : Nat) : Int) = (2 : Int) ^ k := by simp
    omega

theorem byte_step (y v : Int) (k : Nat) (hk : k < 8) (hy0 : 0 ≤ y) (hy : y < 2 ^ k) : bits .or .u8 y (bits .and .i64 v 1 % 256 * 2 ^ k % 256) = y + b2i (low v) * 2 ^ k := by
  have hp : (2 : Int) ^ k ≤ 128 := by
    have := Nat.pow_le_pow_right (n := 2) (by omega) (show k ≤ 7 by omega)
    have e : ((2 ^ k : Nat) : Int) = (2 : Int) ^ k := by simp
    rw [← e]; omega
  have hp0 : (0 : Int) < 2 ^ k := Int.pow_pos (by decide)
  rw [and_one_i64, b2i_low]
  have e1 : v % 2 % 256 = v % 2 := by omega
  have e2 : v % 2 * 2 ^ k % 256 = v % 2 * 2 ^ k := by
    rcases (show v % 2 = 0 ∨ v % 2 = 1 by omega) with h | h <;> rw [h] <;> omega
  rw [e1, e2]
  exact or_bit y (v % 2) k hy0 hk hy (by omega) (by omega)

theorem packB_lt (bs : List Bool) (h : bs.length % 8 ≠ 0) : packB bs ((bs.length + 7) / 8 - 1) < 2 ^ (bs.length % 8) := by
  have h1 : 8 * ((bs.length + 7) / 8 - 1) = bs.length - bs.length % 8 := by omega
  have h2 : (bs.drop (bs.length - bs.length % 8)).length = bs.length % 8 := by rw [List.length_drop]; omega
  unfold packB
  rw [h1, List.take_of_length_le (by rw [h2]; omega)]
  have := num_lt (bs.drop (bs.length - bs.length % 8))
  rw [h2] at this
  exact this

theorem pack_new' (bs : List Bool) (v : Int) (h : bs.length % 8 = 0) (y : Int) (hy : (pack bs ++ [0])[(bs.length + 7) / 8]? = some y) :
    (pack bs ++ [0]).set ((bs.length + 7) / 8) (bits .or .u8 y (bits .and .i64 v 1 % 256 * 2 ^ (bs.length % 8) % 256)) = pack (bs ++ [low v]) := by
  have hl := pack_len bs
  rw [List.getElem?_append_right (by omega), hl, Nat.sub_self] at hy
  simp at hy
  subst hy
  rw [byte_step 0 v _ (by omega) (by omega) (Int.pow_pos (by decide)), pack_new _ _ h, h, List.set_append_right _ _ (by omega), hl, Nat.sub_self]
  simp

theorem pack_old' (bs : List Bool) (v : Int) (h : bs.length % 8 ≠ 0) (y : Int) (hy : (pack bs)[(bs.length + 7) / 8 - 1]? = some y) :
    (pack bs).set ((bs.length + 7) / 8 - 1) (bits .or .u8 y (bits .and .i64 v 1 % 256 * 2 ^ (bs.length % 8) % 256)) = pack (bs ++ [low v]) := by
  have e : y = packB bs ((bs.length + 7) / 8 - 1) := by
    unfold pack at hy
    rw [tab_get _ (by omega)] at hy
    injection hy with hy
    exact hy.symm
  have h1 := packB_lt bs h
  have h2 := packB_bd bs ((bs.length + 7) / 8 - 1)
  rw [← e] at h1 h2
  rw [byte_step y v _ (by omega) h2.1 h1, pack_old _ _ h, e]

/-- The bits of bytes. -/
def bitsOf (zs : List Int) : List Bool := tab (8 * zs.length) fun i => low (zs.getD (i / 8) 0 / 2 ^ (i % 8))
theorem bitsOf_len (zs : List Int) : (bitsOf zs).length = 8 * zs.length := tab_len _ _

theorem pow2_bd (k : Nat) (h : k ≤ 24) : (1 : Int) ≤ 2 ^ k ∧ (2 : Int) ^ k ≤ 16777216 := by
  have h1 := Nat.pow_le_pow_right (n := 2) (by omega) h
  have e : ((2 ^ k : Nat) : Int) = (2 : Int) ^ k := by simp
  have h0 : 0 < 2 ^ k := Nat.pow_pos (by omega)
  rw [← e]; omega

theorem i64_or_nat (a b : Nat) (ha : a < 4611686018427387904) (hb : b < 4611686018427387904) : bits .or .i64 (a : Int) (b : Int) = ((a ||| b : Nat) : Int) := by
  have h1 : ∀ x : Nat, x < 4611686018427387904 → (BitVec.ofInt 64 (x : Int)).toNat = x := fun x hx => by rw [BitVec.toNat_ofInt]; omega
  have h3 : a ||| b < 2 ^ 62 := Nat.or_lt_two_pow (by omega) (by omega)
  unfold bits
  show IntKind.i64.wrap (((BitVec.ofInt 64 (a : Int) ||| BitVec.ofInt 64 (b : Int)).toNat : Nat) : Int) = _
  rw [BitVec.toNat_or, h1 a ha, h1 b hb, IntKind.wrap_i64]
  omega

/-- Reading a bit of a byte behind k bits. -/
theorem read_step (v z : Int) (j k : Nat) (hz0 : 0 ≤ z) (hz : z ≤ 255) (hk : k ≤ 24) (hv0 : 0 ≤ v) (hv : v < 2 ^ k) :
    bits .or .i64 v (wrap64 (wrap64 (bits .and .u8 (z / 2 ^ j) 1) * 2 ^ k)) = v + b2i (low (z / 2 ^ j)) * 2 ^ k := by
  have hp := pow2_bd k hk
  have hj : (0 : Int) < 2 ^ j := Int.pow_pos (by decide)
  have hq0 : 0 ≤ z / 2 ^ j := Int.ediv_nonneg hz0 (by omega)
  have hq1 : z / 2 ^ j ≤ z := Int.ediv_le_self _ hz0
  have e1 : bits .and .u8 (z / 2 ^ j) 1 = z / 2 ^ j % 2 := by
    rw [u8_and _ 1 hq0 (by omega) (by omega) (by omega)]
    show (((z / 2 ^ j).toNat &&& 1 : Nat) : Int) = _
    rw [nat_mask1]
    omega
  rw [e1, b2i_low]
  generalize z / 2 ^ j = x
  have hx : x % 2 = 0 ∨ x % 2 = 1 := by omega
  rw [IntWalk.wrap64_in (x % 2) (by omega), IntWalk.wrap64_in (x % 2 * 2 ^ k) (by rcases hx with h | h <;> rw [h] <;> omega)]
  obtain ⟨a, rfl⟩ := Int.eq_ofNat_of_zero_le hv0
  have e : ((2 ^ k : Nat) : Int) = (2 : Int) ^ k := by simp
  rw [← e] at hp hv ⊢
  rcases hx with h | h
  · rw [h, Int.zero_mul, Int.add_zero]
    have := i64_or_nat a 0 (by omega) (by omega)
    simpa using this
  · rw [h, Int.one_mul, i64_or_nat a (2 ^ k) (by omega) (by omega), Nat.or_comm, nat_join k _ _ (Nat.mod_self _) (by omega)]
    omega

theorem num_snoc (l : List Bool) (b : Bool) : num (l ++ [b]) = num l + b2i b * 2 ^ l.length := by
  rw [num_append]
  simp [num, Int.mul_comm]

theorem num_take_succ (bs : List Bool) (p k : Nat) (h : p + k < bs.length) : num ((bs.drop p).take (k + 1)) = num ((bs.drop p).take k) + b2i bs[p + k] * 2 ^ k := by
  have hl : k < (bs.drop p).length := by rw [List.length_drop]; omega
  rw [List.take_succ_eq_append_getElem hl, num_snoc, List.length_take, Nat.min_eq_left (by omega), List.getElem_drop]

theorem bitsOf_get (zs : List Int) (i : Nat) (h : i < (bitsOf zs).length) : (bitsOf zs)[i] = low (zs.getD (i / 8) 0 / 2 ^ (i % 8)) := by
  have h1 := tab_get (fun i => low (zs.getD (i / 8) 0 / 2 ^ (i % 8))) (by rw [bitsOf_len] at h; exact h)
  have h2 : (bitsOf zs)[i]? = some (bitsOf zs)[i] := List.getElem?_eq_getElem h
  unfold bitsOf at h2 ⊢
  rw [h1] at h2
  injection h2 with h2
  exact h2.symm

theorem take_step {zs : List Int} {p k : Nat} {z : Int} (hzs : ∀ z ∈ zs, 0 ≤ z ∧ z ≤ 255) (hk : k ≤ 24) (h : zs[(p + k) / 8]? = some z) :
    bits .or .i64 (num (((bitsOf zs).drop p).take k)) (wrap64 (wrap64 (bits .and .u8 (z / 2 ^ ((p + k) % 8)) 1) * 2 ^ k)) = num (((bitsOf zs).drop p).take (k + 1)) := by
  have hi : (p + k) / 8 < zs.length := (List.getElem?_eq_some_iff.1 h).1
  have hb := hzs z (List.mem_of_getElem? h)
  have hl : p + k < (bitsOf zs).length := by rw [bitsOf_len]; omega
  have hlen : (((bitsOf zs).drop p).take k).length = k := by rw [List.length_take, List.length_drop]; omega
  have hlt := num_lt (((bitsOf zs).drop p).take k)
  rw [hlen] at hlt
  rw [read_step _ z _ k hb.1 hb.2 hk (num_nonneg _) hlt, num_take_succ _ _ _ hl, bitsOf_get]
  simp [List.getD, h]

end Go.Dray

/-! Text BitsB. -/
namespace Go.Dray
open Go.RowKit

theorem num_bit (l : List Bool) (j : Nat) : low (num l / 2 ^ j) = l.getD j false := by
  induction l generalizing j with
  | nil => simp [num, low]
  | cons b r ih =>
    match j with
    | 0 =>
      rw [Int.pow_zero, Int.ediv_one]
      unfold low
      have hb := b2i_bd b
      simp only [num]
      cases b
      · simp [b2i]
      · simp [b2i]
    | j + 1 =>
      have e : num (b :: r) / 2 ^ (j + 1) = num r / 2 ^ j := by
        rw [Int.pow_succ, Int.mul_comm, ← Int.ediv_ediv_of_nonneg (by decide)]
        congr 1
        have hb := b2i_bd b
        simp only [num]
        omega
      rw [e, ih]
      simp [List.getD]

theorem pack_bd (bs : List Bool) : ∀ z ∈ pack bs, 0 ≤ z ∧ z ≤ 255 := by
  intro z hz
  unfold pack tab at hz
  obtain ⟨i, _, rfl⟩ := List.mem_map.1 hz
  exact packB_bd bs i

theorem bitsOf_pack (bs : List Bool) : bitsOf (pack bs) = bs ++ List.replicate (8 * ((bs.length + 7) / 8) - bs.length) false := by
  apply List.ext_getElem
  · rw [bitsOf_len, pack_len, List.length_append, List.length_replicate]
    omega
  · intro i h1 h2
    rw [bitsOf_get]
    have hl : i < 8 * ((bs.length + 7) / 8) := by rw [bitsOf_len, pack_len] at h1; exact h1
    have e : (pack bs).getD (i / 8) 0 = packB bs (i / 8) := by
      unfold pack
      simp only [List.getD]
      rw [tab_get _ (by omega)]
      rfl
    rw [e]
    unfold packB
    rw [num_bit]
    have e2 : ((bs.drop (8 * (i / 8))).take 8).getD (i % 8) false = bs.getD i false := by
      simp only [List.getD]
      rw [List.getElem?_take_of_lt (by omega), List.getElem?_drop, show 8 * (i / 8) + i % 8 = i from by omega]
    rw [e2]
    by_cases hi : i < bs.length
    · rw [List.getElem_append_left hi]
      simp [List.getD, hi]
    · rw [List.getElem_append_right (by omega)]
      simp [List.getD, hi]

end Go.Dray

/-! Text LawKit. -/
namespace Go.Proofs.YtolcdlopgbgilaaGreatDoor
open Go.ChangeShapes Go.WideShapes Go.ChangeAt Go.RowKit Go.Dray

theorem lk_own : ownKnob Tryz.prog.godebug = none := by kernel_rfl
theorem lk_laidOut : laidOutB Tryz.prog = true := by kernel_rfl

/-- A slice of integers that came in. -/
def InInts (k : IntKind) (W : World) (A : Option Addr) (n c : Nat) (zs : List Int) : Prop :=
  Ints k W A n zs ∧ n ≤ c ∧ c ≤ maxLen ∧ ∀ z ∈ zs, (Lit.int k z).wf = true

theorem open_in {H : Type} {enc : TypeId × Value → H} {W : World} {base : Nat} {sp : Nat → Bool} {held : Bool} {T E : TypeId} {k : IntKind} (hT : Tryz.prog.underlying T = some (.slice E)) (hE : Tryz.prog.underlying E = some (.int k)) (hc : Tryz.prog.cellsOf E = 1)
    {A : Option Addr} {n c : Nat} {d : DataW H} {p : List MemPlace} (h : DataW.Trod enc Tryz.prog W base sp held T (.slice A n c) d p) : ∃ zs, InInts k W A n c zs := by
  obtain ⟨fuel, hf⟩ := h
  rcases open_ints hT hE hc hf with ⟨hcs, _⟩ | ⟨x, l, c', zs, hcs, _, hl, hm, hz, _, hcell, hwz⟩
  · simp [Value.cells] at hcs
    obtain ⟨rfl, rfl, rfl⟩ := hcs
    exact ⟨[], Seg.nil _ _ _, Nat.le_refl _, by simp [maxLen], by simp⟩
  · simp [Value.cells] at hcs
    obtain ⟨rfl, rfl, rfl⟩ := hcs
    have hlz : n ≤ zs.length := by
      split at hz <;> omega
    have hget : ∀ i, i < n → zs[i]? = some (zs.getD i 0) := fun i hi => by
      rw [List.getElem?_eq_getElem (by omega)]
      simp [List.getD, show i < zs.length by omega]
    refine ⟨zs.take n, ⟨by simp; omega, fun hp => ?_, fun i u hu => ?_⟩, hl, hm, fun z hz => hwz z (List.mem_of_mem_take hz)⟩
    · have h0 := hcell 0 (by omega)
      obtain ⟨b, o, spt⟩ := x
      have hs : spt = none := by simpa [Addr.add] using World.cell?_spot h0
      subst hs
      rfl
    · have hi : i < n := by
        have := (List.getElem?_eq_some_iff.1 hu).1
        simp at this
        omega
      have hc1 := hcell i (by omega)
      rw [List.getElem?_map, List.getElem?_take_of_lt hi, hget i hi] at hu
      simp at hu
      subst hu
      obtain ⟨b, o, spt⟩ := x
      have h0 := hcell 0 (by omega)
      have hs : spt = none := by simpa [Addr.add] using World.cell?_spot h0
      subst hs
      rw [Addr.add_lit] at hc1
      simpa [bl, ofs, List.getD] using hc1

set_option maxRecDepth 100000 in
/-- A slice of whatever elements that came in: its cells, an element at a time, and each element's reading. -/
theorem open_deep {H : Type} {enc : TypeId × Value → H} {W : World} {base : Nat} {sp : Nat → Bool} {held : Bool} {T E : TypeId} (hT : Tryz.prog.underlying T = some (.slice E)) {C : Nat} (hC : Tryz.prog.cellsOf E = C) (hpos : 0 < C)
    {A : Option Addr} {n c : Nat} {d : DataW H} {p : List MemPlace} (h : DataW.Trod enc Tryz.prog W base sp held T (.slice A n c) d p) :
    n ≤ c ∧ c ≤ maxLen ∧ (0 < n → A = some ⟨bl A, ofs A, none⟩) ∧ ∀ i, i < n → ∃ cs fuel x, cs.length = C ∧ (∀ j, j < C → W.cell? ⟨bl A, ofs A + (i * C + j), none⟩ = cs[j]?) ∧ DataW.trod enc Tryz.prog W base sp held fuel E cs = some x := by
  obtain ⟨fuel, hf⟩ := h
  rcases Deep.open_slice hT hf with ⟨hcs, _⟩ | ⟨a, len, cap, m, fu, D, Pl, hcs, _, hl, hm, hmm, _, hi⟩
  · simp [Value.cells] at hcs
    obtain ⟨rfl, rfl, rfl⟩ := hcs
    exact ⟨Nat.le_refl _, by simp [maxLen], fun h => by omega, fun i h => by omega⟩
  · simp [Value.cells] at hcs
    obtain ⟨rfl, rfl, rfl⟩ := hcs
    have hnm : n ≤ m := by rw [hmm]; split <;> omega
    rw [hC] at hi
    have hat : 0 < n → some a = some (⟨bl (some a), ofs (some a), none⟩ : Addr) := fun hp => by
      obtain ⟨cs, hc, _⟩ := hi 0 (by omega)
      obtain ⟨_, hlen, hcell⟩ := World.cells?_some hc
      have h0 := hcell 0 (by omega)
      rw [List.getElem?_eq_getElem (by omega)] at h0
      obtain ⟨b, o, spt⟩ := a
      have hs : spt = none := by simpa [Addr.add] using World.cell?_spot h0
      subst hs
      rfl
    refine ⟨hl, hm, hat, fun i hin => ?_⟩
    obtain ⟨cs, hc, ht⟩ := hi i (by omega)
    obtain ⟨_, hlen, hcell⟩ := World.cells?_some hc
    refine ⟨cs, fu, _, hlen, fun j hj => ?_, ht⟩
    have h1 := hcell j (by omega)
    have h2 := hat (by omega)
    generalize bl (some a) = b at h2 ⊢
    generalize ofs (some a) = o at h2 ⊢
    injection h2 with h2
    subst h2
    rw [Addr.add_lit, Addr.add_lit, Nat.add_assoc] at h1
    exact h1

end Go.Proofs.YtolcdlopgbgilaaGreatDoor
