/- Plain facts on tries of rows of bits, as lists of paths. No program. -/
import Derived.Test.YtolcdlopgbgilaaDoorBits
namespace Go.Dray
open Go.RowKit

/-- The place of a path among paths; 0: there is none (the root's own place). -/
def idx0 (P : List (List Bool)) (q : List Bool) : Nat := if q ∈ P then P.idxOf q else 0

/-- Paths as they come: the root first, no path twice. -/
structure Paths (P : List (List Bool)) : Prop where
  root : P[0]? = some []
  nodup : P.Nodup

theorem Paths.pos {P : List (List Bool)} (h : Paths P) : 0 < P.length := (List.getElem?_eq_some_iff.1 h.root).1

theorem idxOf_get {P : List (List Bool)} (hn : P.Nodup) {i : Nat} {q : List Bool} (h : P[i]? = some q) : P.idxOf q = i := by
  obtain ⟨hi, he⟩ := List.getElem?_eq_some_iff.1 h
  subst he
  exact hn.idxOf_getElem i hi

theorem get_idxOf {P : List (List Bool)} {q : List Bool} (h : q ∈ P) : P[P.idxOf q]? = some q := by
  have hi := List.idxOf_lt_length_of_mem h
  rw [List.getElem?_eq_getElem hi, List.getElem_idxOf hi]

/-- A path that is no root is among the paths just where its place is not 0. -/
theorem idx0_zero {P : List (List Bool)} (hp : Paths P) {q : List Bool} (hq : q ≠ []) : idx0 P q = 0 ↔ q ∉ P := by
  unfold idx0
  constructor
  · intro h hm
    rw [if_pos hm] at h
    have := get_idxOf hm
    rw [h, hp.root] at this
    injection this with this
    exact hq this.symm
  · intro h
    rw [if_neg h]

theorem idx0_get {P : List (List Bool)} {q : List Bool} (h : q ∈ P) : P[idx0 P q]? = some q := by
  unfold idx0
  rw [if_pos h]
  exact get_idxOf h

theorem idx0_lt {P : List (List Bool)} (hp : Paths P) (q : List Bool) : idx0 P q < P.length := by
  unfold idx0
  split
  · rename_i h; exact List.idxOf_lt_length_of_mem h
  · exact hp.pos

/-- One path more, at the end. -/
theorem Paths.snoc {P : List (List Bool)} (h : Paths P) {q : List Bool} (hq : q ∉ P) : Paths (P ++ [q]) :=
  ⟨by rw [List.getElem?_append_left h.pos]; exact h.root, by rw [List.nodup_append]; exact ⟨h.nodup, by simp, by intro a ha b hb; simp at hb; subst hb; rintro rfl; exact hq ha⟩⟩

theorem idx0_snoc {P : List (List Bool)} {q r : List Bool} (hq : q ∉ P) : idx0 (P ++ [q]) r = if r = q then P.length else idx0 P r := by
  unfold idx0
  by_cases h : r = q
  · subst h
    rw [if_pos rfl, if_pos (by simp), List.idxOf_append, if_neg hq]
    simp
  · rw [if_neg h]
    by_cases hm : r ∈ P
    · rw [if_pos (by simp [hm]), if_pos hm, List.idxOf_append, if_pos hm]
    · rw [if_neg (by simp [hm, h]), if_neg hm]

/-- The kid of the i-th path behind a bit. -/
def kid (P : List (List Bool)) (i : Nat) (b : Bool) : Nat := idx0 P (P.getD i [] ++ [b])

theorem kid_snoc {P : List (List Bool)} (hp : Paths P) {i : Nat} {b : Bool} (hi : i < P.length) (hk : kid P i b = 0) (j : Nat) (c : Bool) (hj : j < P.length) :
    kid (P ++ [P.getD i [] ++ [b]]) j c = if j = i ∧ c = b then P.length else kid P j c := by
  have hne : P.getD i [] ++ [b] ≠ [] := by simp
  have hq : P.getD i [] ++ [b] ∉ P := (idx0_zero hp hne).1 hk
  unfold kid
  have e : (P ++ [P.getD i [] ++ [b]]).getD j [] = P.getD j [] := by
    simp [List.getD, List.getElem?_append_left hj]
  rw [e, idx0_snoc hq]
  by_cases h : j = i ∧ c = b
  · rw [if_pos h, if_pos (by rw [h.1, h.2])]
  · rw [if_neg h, if_neg]
    intro he
    obtain ⟨h1, h2⟩ := List.append_inj' he rfl
    have h3 : j = i := by
      have a := idxOf_get hp.nodup (i := j) (q := P.getD j []) (by simp [List.getD, List.getElem?_eq_getElem hj])
      have b := idxOf_get hp.nodup (i := i) (q := P.getD i []) (by simp [List.getD, List.getElem?_eq_getElem hi])
      rw [h1] at a
      omega
    exact h ⟨h3, by simpa using h2⟩

theorem kid_new {P : List (List Bool)} (hp : Paths P) {i : Nat} {b : Bool} (hk : kid P i b = 0) (hcl : ∀ q c, q ++ [c] ∈ P → q ∈ P) (c : Bool) :
    kid (P ++ [P.getD i [] ++ [b]]) P.length c = 0 := by
  have hne : P.getD i [] ++ [b] ≠ [] := by simp
  have hq : P.getD i [] ++ [b] ∉ P := (idx0_zero hp hne).1 hk
  unfold kid
  have e : (P ++ [P.getD i [] ++ [b]]).getD P.length [] = P.getD i [] ++ [b] := by simp [List.getD]
  rw [e, idx0_zero (hp.snoc hq) (by simp)]
  intro h
  rw [List.mem_append] at h
  rcases h with h | h
  · exact hq (hcl _ _ h)
  · simp at h

/-- A bit as a place. -/
def b2n (b : Bool) : Nat := if b then 1 else 0
theorem b2n_le (b : Bool) : b2n b ≤ 1 := by cases b <;> simp [b2n]
theorem b2n_i (b : Bool) : ((b2n b : Nat) : Int) = b2i b := by cases b <;> rfl

/-- A node's cells: its two kids, whether a row ends there, the symbol. -/
def cellAt (P : List (List Bool)) (F : List Bool → Option Nat) (i j : Nat) : Value :=
  if j = 0 then .int .i64 (kid P i false) else if j = 1 then .int .i64 (kid P i true) else if j = 2 then .bool (F (P.getD i [])).isSome else .int .i64 ((F (P.getD i [])).getD 0 : Nat)
def trieCells (P : List (List Bool)) (F : List Bool → Option Nat) : List Value := tab (4 * P.length) fun t => cellAt P F (t / 4) (t % 4)

theorem trie_len (P : List (List Bool)) (F : List Bool → Option Nat) : (trieCells P F).length = P.length * 4 := by rw [trieCells, tab_len]; omega
theorem trie_get (P : List (List Bool)) (F : List Bool → Option Nat) {i j : Nat} (hi : i < P.length) (hj : j < 4) : (trieCells P F)[i * 4 + j]? = some (cellAt P F i j) := by
  unfold trieCells
  rw [tab_get _ (by omega), show (i * 4 + j) / 4 = i from by omega, show (i * 4 + j) % 4 = j from by omega]
theorem cell_kid (P : List (List Bool)) (F : List Bool → Option Nat) (i : Nat) (b : Bool) : cellAt P F i (b2n b) = .int .i64 (kid P i b) := by cases b <;> simp [cellAt, b2n]
theorem cell_leaf (P : List (List Bool)) (F : List Bool → Option Nat) (i : Nat) : cellAt P F i 2 = .bool (F (P.getD i [])).isSome := rfl
theorem cell_sym (P : List (List Bool)) (F : List Bool → Option Nat) (i : Nat) : cellAt P F i 3 = .int .i64 ((F (P.getD i [])).getD 0 : Nat) := rfl

def zeroNode : List Value := [.int .i64 0, .int .i64 0, .bool false, .int .i64 0]

theorem trie_one (F : List Bool → Option Nat) (h : F [] = none) : trieCells [[]] F = zeroNode := by
  have hk : ∀ b, kid [[]] 0 b = 0 := fun b => by simp [kid, idx0]
  have e : trieCells [[]] F = [cellAt [[]] F 0 0, cellAt [[]] F 0 1, cellAt [[]] F 0 2, cellAt [[]] F 0 3] := rfl
  rw [e]
  simp [cellAt, hk, h, zeroNode]

/-- A kid is made: the parent's cell is written, an empty node put behind. -/
theorem trie_grow {P : List (List Bool)} {F : List Bool → Option Nat} (hp : Paths P) (hcl : ∀ q c, q ++ [c] ∈ P → q ∈ P) {i : Nat} {b : Bool} (hi : i < P.length) (hk : kid P i b = 0) (hF : F (P.getD i [] ++ [b]) = none) :
    (trieCells P F).set (i * 4 + b2n b) (.int .i64 P.length) ++ zeroNode = trieCells (P ++ [P.getD i [] ++ [b]]) F := by
  have hb := b2n_le b
  have hcell : ∀ j c, j < P.length → c < 4 → cellAt (P ++ [P.getD i [] ++ [b]]) F j c = if j = i ∧ c = b2n b then .int .i64 P.length else cellAt P F j c := by
    intro j c hj hc
    have e : (P ++ [P.getD i [] ++ [b]]).getD j [] = P.getD j [] := by simp [List.getD, List.getElem?_append_left hj]
    have h0 := kid_snoc hp hi hk j false hj
    have h1 := kid_snoc hp hi hk j true hj
    unfold cellAt
    rw [h0, h1, e]
    match c, hc with
    | 0, _ => cases b <;> simp [b2n] <;> split <;> simp_all
    | 1, _ => cases b <;> simp [b2n] <;> split <;> simp_all
    | 2, _ => rw [if_neg (show ¬ (j = i ∧ 2 = b2n b) by omega)]; simp
    | 3, _ => rw [if_neg (show ¬ (j = i ∧ 3 = b2n b) by omega)]; simp
  apply List.ext_getElem?
  intro t
  rcases Nat.lt_or_ge t (P.length * 4) with ht | ht
  · rw [List.getElem?_append_left (by rw [List.length_set, trie_len]; exact ht)]
    unfold trieCells
    rw [tab_set, tab_get _ (by omega), tab_get _ (by simp; omega), hcell _ _ (by omega) (by omega)]
    congr 1
    by_cases h : t = i * 4 + b2n b
    · rw [if_pos h, if_pos (by omega)]
    · rw [if_neg h, if_neg (by omega)]
  · rw [List.getElem?_append_right (by rw [List.length_set, trie_len]; exact ht), List.length_set, trie_len]
    have hkn := kid_new hp hk hcl
    have en : (P ++ [P.getD i [] ++ [b]]).getD P.length [] = P.getD i [] ++ [b] := by simp [List.getD]
    have hnew : ∀ c, c < 4 → some (cellAt (P ++ [P.getD i [] ++ [b]]) F P.length c) = zeroNode[c]? := by
      intro c hc
      unfold cellAt
      rw [hkn, hkn, en, hF]
      match c, hc with
      | 0, _ | 1, _ | 2, _ | 3, _ => rfl
    rcases Nat.lt_or_ge t (P.length * 4 + 4) with ht2 | ht2
    · unfold trieCells
      rw [tab_get _ (by simp; omega), show t / 4 = P.length from by omega, hnew _ (by omega)]
      congr 1
      omega
    · rw [List.getElem?_eq_none (by simp [zeroNode]; omega), List.getElem?_eq_none (by rw [trie_len]; simp; omega)]

/-- A row ends at the i-th node. -/
theorem trie_leaf {P : List (List Bool)} {F G : List Bool → Option Nat} (hp : Paths P) {i s : Nat} (hi : i < P.length) (hG : ∀ q, G q = if q = P.getD i [] then some s else F q) :
    ((trieCells P F).set (i * 4 + 2) (.bool true)).set (i * 4 + 3) (.int .i64 s) = trieCells P G := by
  unfold trieCells
  rw [tab_set, tab_set]
  refine tab_congr fun t ht => ?_
  have hinj : ∀ j, j < P.length → (P.getD j [] = P.getD i [] ↔ j = i) := fun j hj => ⟨fun h => by
    have a := idxOf_get hp.nodup (i := j) (q := P.getD j []) (by simp [List.getD, List.getElem?_eq_getElem hj])
    have b := idxOf_get hp.nodup (i := i) (q := P.getD i []) (by simp [List.getD, List.getElem?_eq_getElem hi])
    rw [h] at a
    omega, fun h => by rw [h]⟩
  have hd : t % 4 < 4 := by omega
  have hq : t / 4 < P.length := by omega
  have et : t = t / 4 * 4 + t % 4 := by omega
  generalize t / 4 = j at hq et
  generalize t % 4 = c at hd et
  subst et
  unfold cellAt
  rw [hG]
  by_cases hj : j = i
  · subst hj
    match c, hd with
    | 0, _ => simp
    | 1, _ => simp
    | 2, _ => simp
    | 3, _ => simp
  · rw [if_neg (by omega), if_neg (by omega), if_neg (fun h => hj ((hinj j hq).1 h))]

end Go.Dray
