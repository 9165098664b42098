/- What a header is, as it is written; two slices of bytes that grow side by side. -/
import Derived.Test.YtogknbpbjgdldaaRhD
namespace Go.Proofs.Ytogknbpbjgdldaa
open Go.RowKit Go.Dray

/-- What a tag says. -/
def intsB (t : TagV) (k : Nat) : List Int := (t.ints.take k).flatMap fun z => beB z (sizeT t.typ)
def textsB (ss : List ByteArray) : List Int := ss.flatMap fun s => sb s ++ [0]
def bodyT (t : TagV) : List Int := intsB t t.ints.length ++ textsB t.texts ++ t.bytes
def cntT (t : TagV) : Nat := t.ints.length + t.texts.length + t.bytes.length
def padL (m s : Nat) : Nat := upN m s - m
/-- The data of tags. -/
def dataB (ts : List TagV) : List Int := ts.foldl (fun d t => d ++ List.replicate (padL d.length (sizeT t.typ)) 0 ++ bodyT t) []
/-- An index entry. -/
def entryB (ts : List TagV) (k : Nat) : List Int := match ts[k]? with
  | some t => be4s [t.tag, t.typ, (upN (dlen (ts.take k)) (sizeT t.typ) : Nat), (cntT t : Nat)]
  | none => []
def idxB (ts : List TagV) (k : Nat) : List Int := (List.range k).flatMap (entryB ts)
def printB (ts : List TagV) : List Int :=
  be4s [((ts.length + 1 : Nat) : Int), ((dlen ts + 16 : Nat) : Int)] ++ be4s [63, 7, ((dlen ts : Nat) : Int), 16] ++ idxB ts ts.length ++ dataB ts ++ be4s [63, 7, 4294967296 - 16 * ((ts.length + 1 : Nat) : Int), 16]

theorem intsB_len (t : TagV) (k : Nat) (h : k ≤ t.ints.length) : (intsB t k).length = k * sizeT t.typ := by
  unfold intsB
  have : ∀ l : List Int, (l.flatMap fun z => beB z (sizeT t.typ)).length = l.length * sizeT t.typ := by
    intro l
    induction l with
    | nil => simp
    | cons z l ih => rw [List.flatMap_cons, List.length_append, ih, beB_len, List.length_cons, Nat.succ_mul]; omega
  rw [this, List.length_take, Nat.min_eq_left h]
theorem intsB_succ (t : TagV) {k : Nat} {z : Int} (h : t.ints[k]? = some z) : intsB t (k + 1) = intsB t k ++ beB z (sizeT t.typ) := by
  obtain ⟨hk, he⟩ := List.getElem?_eq_some_iff.1 h
  unfold intsB
  rw [List.take_succ_eq_append_getElem hk, he]
  simp
theorem textsB_snoc (ss : List ByteArray) (s : ByteArray) : textsB (ss ++ [s]) = textsB ss ++ sb s ++ [0] := by simp [textsB]
theorem textsB_take {ss : List ByteArray} {k : Nat} {s : ByteArray} (h : ss[k]? = some s) : textsB (ss.take (k + 1)) = textsB (ss.take k) ++ sb s ++ [0] := by
  obtain ⟨hk, he⟩ := List.getElem?_eq_some_iff.1 h
  rw [List.take_succ_eq_append_getElem hk, he, textsB_snoc]
theorem textsB_len (ss : List ByteArray) : (textsB ss).length = textLen ss := by
  induction ss using snoc_ind with
  | h0 => rfl
  | h1 ss s ih => rw [textsB_snoc, textLen_snoc, List.length_append, List.length_append, ih, sb_len]; simp; omega
theorem bodyT_len (t : TagV) : (bodyT t).length = lenT t := by
  unfold bodyT lenT
  rw [List.length_append, List.length_append, intsB_len _ _ (Nat.le_refl _), textsB_len]
  omega
theorem upN_ge (m s : Nat) (h1 : 1 ≤ s) : m ≤ upN m s := by
  unfold upN
  have h := Nat.div_add_mod (m + s - 1) s
  have h2 := Nat.mod_lt (m + s - 1) (show 0 < s by omega)
  rw [Nat.mul_comm] at h
  omega
theorem upN_mod (m s : Nat) : upN m s % s = 0 := by unfold upN; exact Nat.mul_mod_left _ _
theorem dataB_snoc (ts : List TagV) (t : TagV) : dataB (ts ++ [t]) = dataB ts ++ List.replicate (padL (dataB ts).length (sizeT t.typ)) 0 ++ bodyT t := by simp [dataB]
theorem dataB_len (ts : List TagV) : (dataB ts).length = dlen ts := by
  induction ts using snoc_ind with
  | h0 => rfl
  | h1 ts t ih =>
    have h := upN_ge (dlen ts) (sizeT t.typ) (sizeT_bd t.typ).1
    rw [dataB_snoc, dlen_snoc, List.length_append, List.length_append, List.length_replicate, bodyT_len, ih]
    unfold padL
    omega
theorem dataB_take {ts : List TagV} {k : Nat} {t : TagV} (h : ts[k]? = some t) : dataB (ts.take (k + 1)) = dataB (ts.take k) ++ List.replicate (padL (dlen (ts.take k)) (sizeT t.typ)) 0 ++ bodyT t := by
  obtain ⟨hk, he⟩ := List.getElem?_eq_some_iff.1 h
  rw [List.take_succ_eq_append_getElem hk, he, dataB_snoc, dataB_len]
theorem idxB_succ {ts : List TagV} {k : Nat} {t : TagV} (h : ts[k]? = some t) : idxB ts (k + 1) = idxB ts k ++ be4s [t.tag, t.typ, (upN (dlen (ts.take k)) (sizeT t.typ) : Nat), (cntT t : Nat)] := by
  unfold idxB
  rw [List.range_succ, List.flatMap_append]
  simp [entryB, h]
theorem idxB_len {ts : List TagV} (k : Nat) (h : k ≤ ts.length) : (idxB ts k).length = 16 * k := by
  induction k with
  | zero => rfl
  | succ k ih =>
    rw [idxB_succ (List.getElem?_eq_getElem (by omega)), List.length_append, ih (by omega), be4s_len]
    simp
    omega
/-- Where filling up goes on, and where it ends. -/
theorem pad_more (m s j : Nat) (h1 : 1 ≤ s) (h : j < padL m s) : (m + j) % s ≠ 0 := by
  intro h0
  unfold padL at h
  obtain ⟨q, hq⟩ := Nat.dvd_of_mod_eq_zero h0
  have h2 : upN m s ≤ m + j := by
    unfold upN
    rw [hq, Nat.mul_comm s q]
    refine Nat.mul_le_mul_right s ?_
    rw [Nat.div_le_iff_le_mul (by omega)]
    rw [Nat.mul_comm] at hq
    omega
  omega
theorem pad_done (m s : Nat) (h1 : 1 ≤ s) : (m + padL m s) % s = 0 := by
  have h := upN_ge m s h1
  unfold padL
  rw [show m + (upN m s - m) = upN m s by omega]
  exact upN_mod m s

/-- Two slices of bytes of the call's own, side by side. -/
structure PR (w wr : World) (X : Option Addr) (a xc : Nat) (D : Option Addr) (b dc : Nat) (is ds : List Int) : Prop where
  idx : Own wr w.heap.size 5 1 X a xc (is.map (Value.int .u8))
  dat : Own wr w.heap.size 5 1 D b dc (ds.map (Value.int .u8))
  ne : ∀ g, ob X = some g → ob D ≠ some g
  upd : Upd [] w wr

section
variable {w wr w' : World} {X D : Option Addr} {a xc b dc : Nat} {is ds : List Int}
theorem PR.keep (h : PR w wr X a xc D b dc is ds) (hu : Upd [] wr w') : PR w w' X a xc D b dc is ds := ⟨h.idx.upd hu (by simp), h.dat.upd hu (by simp), h.ne, h.upd.trans hu⟩
theorem PR.moreD (h : PR w wr X a xc D b dc is ds) {D' : Option Addr} {b' dc' : Nat} {ds' : List Int} (ho : Own w' w.heap.size 5 1 D' b' dc' (ds'.map (Value.int .u8))) (hu : Upd [ob D] wr w') (hf : Fresh wr D D') : PR w w' X a xc D' b' dc' is ds' :=
  ⟨h.idx.upd hu (fun g hg => by simp; exact fun e => h.ne g hg e.symm), ho, fun g hg hd => by
    rcases hf g hd with h1 | h1
    · exact h.ne g hg h1
    · have := (h.idx.base hg).2
      omega, h.upd.then hu (fun g hg => by simp at hg; right; exact (h.dat.base hg.symm).1)⟩
theorem PR.moreX (h : PR w wr X a xc D b dc is ds) {X' : Option Addr} {a' xc' : Nat} {is' : List Int} (ho : Own w' w.heap.size 5 1 X' a' xc' (is'.map (Value.int .u8))) (hu : Upd [ob X] wr w') (hf : Fresh wr X X') : PR w w' X' a' xc' D b dc is' ds :=
  ⟨ho, h.dat.upd hu (fun g hg => by simp; exact fun e => h.ne g e.symm hg), fun g hg hd => by
    rcases hf g hg with h1 | h1
    · exact h.ne g h1 hd
    · have := (h.dat.base hd).2
      omega, h.upd.then hu (fun g hg => by simp at hg; right; exact (h.idx.base hg.symm).1)⟩
end

end Go.Proofs.Ytogknbpbjgdldaa
