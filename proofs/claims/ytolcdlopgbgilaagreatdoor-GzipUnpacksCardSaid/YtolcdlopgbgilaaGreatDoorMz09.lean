/- Merged by wip/tools/merge.py: DefP LenP SortP. -/
import Derived.Test.YtolcdlopgbgilaaGreatDoorMz02
import Derived.Test.YtolcdlopgbgilaaGreatDoorMz05
import Derived.Test.YtolcdlopgbgilaaGreatDoorMz08

/-! Text DefP. -/
namespace Go.Proofs.YtolcdlopgbgilaaGreatDoor
open Go.RowKit Go.Dray

/-- A piece: a byte and 0, or a run's size and how far back it is. -/
abbrev Piece := Int × Int
def grow1 (o : List Int) (x : Piece) : List Int := if x.2 = 0 then o ++ [x.1] else o ++ cp o x.2.toNat x.1.toNat
def expand (ps : List Piece) (o : List Int) : List Int := ps.foldl grow1 o
def PieceOk (o : List Int) (x : Piece) : Prop := (x.2 = 0 ∧ 0 ≤ x.1 ∧ x.1 ≤ 255) ∨ (3 ≤ x.1 ∧ x.1 ≤ 258 ∧ 1 ≤ x.2 ∧ x.2 ≤ 32768 ∧ x.2 ≤ o.length)
def PiecesOk : List Piece → List Int → Prop
  | [], _ => True
  | x :: ps, o => PieceOk o x ∧ PiecesOk ps (grow1 o x)
theorem expand_nil (o : List Int) : expand [] o = o := rfl
theorem expand_cons (x : Piece) (ps : List Piece) (o : List Int) : expand (x :: ps) o = expand ps (grow1 o x) := rfl
theorem expand_snoc (ps : List Piece) (x : Piece) (o : List Int) : expand (ps ++ [x]) o = grow1 (expand ps o) x := by simp [expand]
theorem PiecesOk.snoc {ps : List Piece} {x : Piece} : ∀ {o : List Int}, PiecesOk ps o → PieceOk (expand ps o) x → PiecesOk (ps ++ [x]) o := by
  induction ps with
  | nil => intro o _ h; exact ⟨h, trivial⟩
  | cons y ps ih => intro o h h2; exact ⟨h.1, ih h.2 h2⟩
theorem grow1_len {o : List Int} {x : Piece} : o.length ≤ (grow1 o x).length := by
  unfold grow1
  split <;> rw [List.length_append] <;> omega
theorem expand_len (ps : List Piece) : ∀ o : List Int, o.length ≤ (expand ps o).length := by
  induction ps with
  | nil => intro o; exact Nat.le_refl _
  | cons x ps ih => intro o; exact Nat.le_trans grow1_len (ih _)

/-- The symbol of a run's size, the number behind it, and of how many bits. -/
def lsym (size : Int) : Int × Int × Nat :=
  if size = 258 then (285, 0, 0) else if size - 3 < 8 then (257 + (size - 3), 0, 0) else
    let k := (size - 3).toNat.log2 - 2
    (257 + 4 * ((k : Int) + 1) + (size - 3) / 2 ^ k - 4, (size - 3) % 2 ^ k, k)
def dsym (back : Int) : Int × Int × Nat :=
  if back - 1 < 4 then (back - 1, 0, 0) else
    let k := (back - 1).toNat.log2 - 1
    (2 * ((k : Int) + 1) + (back - 1) / 2 ^ k - 2, (back - 1) % 2 ^ k, k)

/-- What a size's symbol must say. -/
def lsymB (size : Int) : Bool :=
  let x := lsym size
  let i := x.1 - 257
  decide (0 ≤ i) && decide (i ≤ 28) && decide (0 ≤ x.2.1) && decide (x.2.1 < 2 ^ x.2.2) && decide (x.2.2 ≤ 5) &&
    (if i < 8 then decide (x.2.2 = 0) && decide (3 + i = size) else if i = 28 then decide (x.2.2 = 0) && decide (size = 258) else decide (x.2.2 = (i / 4 - 1).toNat) && decide (3 + (4 + i % 4) * 2 ^ (i / 4 - 1).toNat + x.2.1 = size))
theorem lsym_all : (List.range 256).all (fun n => lsymB ((n : Int) + 3)) = true := by decide +kernel
theorem lsym_ok {size : Int} (h1 : 3 ≤ size) (h2 : size ≤ 258) : lsymB size = true := by
  have h := List.all_eq_true.1 lsym_all (size - 3).toNat (by rw [List.mem_range]; omega)
  rw [show (((size - 3).toNat : Nat) : Int) + 3 = size from by omega] at h
  exact h
theorem lsym_bd {size : Int} (h1 : 3 ≤ size) (h2 : size ≤ 258) : 257 ≤ (lsym size).1 ∧ (lsym size).1 ≤ 285 ∧ 0 ≤ (lsym size).2.1 ∧ (lsym size).2.1 < 2 ^ (lsym size).2.2 ∧ (lsym size).2.2 ≤ 5 := by
  have h := lsym_ok h1 h2
  simp only [lsymB, Bool.and_eq_true, decide_eq_true_eq] at h
  obtain ⟨⟨⟨⟨⟨a, b⟩, c⟩, d⟩, e⟩, f⟩ := h
  exact ⟨by omega, by omega, c, d, e⟩

theorem log2_of {v k : Nat} (h1 : 2 ^ k ≤ v) (h2 : v < 2 ^ (k + 1)) : v.log2 = k := by
  have h0 : v ≠ 0 := by have := Nat.two_pow_pos k; omega
  have a := (Nat.le_log2 h0 (k := k)).2 h1
  have b := (Nat.log2_lt h0 (k := k + 1)).2 h2
  omega
/-- What a distance's symbol must say. -/
structure DsymOk (back : Int) : Prop where
  lo : 0 ≤ (dsym back).1
  hi : (dsym back).1 ≤ 29
  m0 : 0 ≤ (dsym back).2.1
  m1 : (dsym back).2.1 < 2 ^ (dsym back).2.2
  n13 : (dsym back).2.2 ≤ 13
  small : (dsym back).1 < 4 → (dsym back).2.2 = 0 ∧ 1 + (dsym back).1 = back
  big : 4 ≤ (dsym back).1 → (dsym back).2.2 = ((dsym back).1 / 2 - 1).toNat ∧ 1 + (2 + (dsym back).1 % 2) * 2 ^ ((dsym back).1 / 2 - 1).toNat + (dsym back).2.1 = back
theorem dsym_ok {back : Int} (h1 : 1 ≤ back) (h2 : back ≤ 32768) : DsymOk back := by
  by_cases h4 : back - 1 < 4
  · have e : dsym back = (back - 1, 0, 0) := by unfold dsym; rw [if_pos h4]
    constructor <;> rw [e] <;> (try simp only []) <;> (try omega)
    · intro _; constructor <;> first | trivial | omega
  · obtain ⟨v, hv⟩ : ∃ v : Nat, (v : Int) = back - 1 := ⟨(back - 1).toNat, by omega⟩
    obtain ⟨k, hk1, hk2, hk13⟩ : ∃ k : Nat, 2 ^ (k + 1) ≤ v ∧ v < 2 ^ (k + 2) ∧ (1 ≤ k ∧ k ≤ 13) := by
      have h0 : v ≠ 0 := by omega
      have a : 2 ≤ v.log2 := (Nat.le_log2 h0 (k := 2)).2 (by omega)
      have b : v.log2 < 15 := (Nat.log2_lt h0 (k := 15)).2 (by omega)
      refine ⟨v.log2 - 1, ?_, ?_, by omega, by omega⟩
      · rw [show v.log2 - 1 + 1 = v.log2 from by omega]; exact Nat.log2_self_le h0
      · rw [show v.log2 - 1 + 2 = v.log2 + 1 from by omega]; exact Nat.lt_log2_self
    have hlog : v.log2 = k + 1 := log2_of hk1 hk2
    have e : dsym back = (2 * ((k : Int) + 1) + (v : Int) / 2 ^ k - 2, (v : Int) % 2 ^ k, k) := by
      unfold dsym
      rw [if_neg h4, ← hv, Int.toNat_natCast, hlog]
      rfl
    have hq : (v : Int) / 2 ^ k = 2 ∨ (v : Int) / 2 ^ k = 3 := by
      have hp := Nat.two_pow_pos k
      have e1 : (2 : Nat) ^ (k + 1) = 2 ^ k * 2 := Nat.pow_succ ..
      have e2 : (2 : Nat) ^ (k + 2) = 2 ^ k * 4 := by rw [Nat.pow_add]
      have a : 2 ≤ v / 2 ^ k := (Nat.le_div_iff_mul_le hp).2 (by omega)
      have b : v / 2 ^ k < 4 := Nat.div_lt_of_lt_mul (by omega)
      have c : (v : Int) / 2 ^ k = ((v / 2 ^ k : Nat) : Int) := by simp
      omega
    have hp : (0 : Int) < 2 ^ k := Int.pow_pos (by decide)
    have hm0 := Int.emod_nonneg (v : Int) (Int.ne_of_gt hp)
    have hm1 := Int.emod_lt_of_pos (v : Int) hp
    have hd := Int.mul_ediv_add_emod (v : Int) (2 ^ k)
    constructor <;> rw [e] <;> (try simp only [])
    · omega
    · omega
    · exact hm0
    · exact hm1
    · omega
    · intro h; omega
    · intro _
      have e1 : ((2 * ((k : Int) + 1) + (v : Int) / 2 ^ k - 2) / 2 - 1).toNat = k := by rcases hq with h | h <;> rw [h] <;> omega
      rw [e1]
      refine ⟨rfl, ?_⟩
      rcases hq with h | h
      · rw [h] at hd ⊢
        rw [show (2 * ((k : Int) + 1) + 2 - 2) % 2 = 0 from by omega, show (2 : Int) + 0 = 2 from rfl, Int.mul_comm]
        omega
      · rw [h] at hd ⊢
        rw [show (2 * ((k : Int) + 1) + 3 - 2) % 2 = 1 from by omega, show (2 : Int) + 1 = 3 from rfl, Int.mul_comm 3]
        omega

/-- A symbol that has a row. -/
def Has (zs : List Int) (t : Nat) : Prop := t < zs.length ∧ 0 < zs.getD t 0

theorem next_row' {zs : List Int} (h : chk zs = 0) {t : Nat} (ht : Has zs t) (rest : List Bool) : NextIs zs (rowOf zs t ++ rest) (rowOf zs t).length t 0 := by
  obtain ⟨ht, hp⟩ := ht
  have hl := rowOf_len zs t
  refine ⟨by rw [List.length_append]; omega, fun j h1 h2 => ?_, Or.inr (Or.inr ⟨rfl, by omega, t, rfl, ?_⟩)⟩
  · rw [goesOn, List.take_append_of_le_length (by omega)]
    refine ⟨Or.inr ⟨t, ht, hp, List.take_prefix _ _⟩, leafF_none.2 fun u hu hup he => ?_⟩
    have e := rowOf_apart h ht hu hp hup (by rw [he]; exact List.take_prefix _ _)
    subst e
    have := congrArg List.length he
    rw [List.length_take] at this
    omega
  · rw [List.take_left']
    · exact leafF_row h ht hp
    · rfl

/-- The bits from p on begin with X. -/
def Beg (bs : List Bool) (p : Nat) (X : List Bool) : Prop := ∃ Y, bs.drop p = X ++ Y
theorem Beg.app {bs : List Bool} {p : Nat} {X Z : List Bool} (h : Beg bs p (X ++ Z)) : Beg bs p X ∧ Beg bs (p + X.length) Z := by
  obtain ⟨Y, hY⟩ := h
  refine ⟨⟨Z ++ Y, by rw [hY, List.append_assoc]⟩, ⟨Y, ?_⟩⟩
  rw [← List.drop_drop, hY, List.append_assoc, List.drop_left']
  rfl
theorem Beg.len {bs : List Bool} {p : Nat} {X : List Bool} (h : Beg bs p X) (hp : p ≤ bs.length) : p + X.length ≤ bs.length := by
  obtain ⟨Y, hY⟩ := h
  have := congrArg List.length hY
  rw [List.length_drop, List.length_append] at this
  omega

theorem run_next_row {bs : List Bool} {most p : Nat} {o : List Int} {zs : List Int} {k : Int → Pr} (h : chk zs = 0) {t : Nat} (ht : Has zs t) (hb : Beg bs p (rowOf zs t)) : run bs most (.next zs k) p o = run bs most (k t) (p + (rowOf zs t).length) o := by
  obtain ⟨Y, hY⟩ := hb
  have hn := nextF_eq (next_row' h ht Y)
  rw [run, hY, hn]
  exact if_pos rfl
theorem digits_len (v : Int) (n : Nat) : (digits v n).length = n := tab_len _ _
theorem run_take_dig {bs : List Bool} {most p : Nat} {o : List Int} {k : Int → Pr} {v : Int} {n : Nat} (h0 : 0 ≤ v) (h1 : v < 2 ^ n) (hp : p ≤ bs.length) (hb : Beg bs p (digits v n)) : run bs most (.take n k) p o = run bs most (k v) (p + n) o := by
  have hl := hb.len hp
  rw [digits_len] at hl
  obtain ⟨Y, hY⟩ := hb
  rw [run, if_pos hl, hY, List.take_left' (digits_len v n), digits_num, Int.emod_eq_of_lt h0 h1]

theorem run_len {bs : List Bool} {most p : Nat} {o : List Int} {k : Int → Pr} {size : Int} (h1 : 3 ≤ size) (h2 : size ≤ 258) (hp : p ≤ bs.length) (hb : Beg bs p (digits (lsym size).2.1 (lsym size).2.2)) :
    run bs most (lenPr ((lsym size).1 - 257) k) p o = run bs most (k size) (p + (lsym size).2.2) o := by
  have h := lsym_ok h1 h2
  simp only [lsymB, Bool.and_eq_true, decide_eq_true_eq] at h
  obtain ⟨⟨⟨⟨⟨a, b⟩, c⟩, d⟩, e⟩, f⟩ := h
  generalize lsym size = x at *
  unfold lenPr
  by_cases h8 : x.1 - 257 < 8
  · rw [if_pos h8] at f ⊢
    simp only [Bool.and_eq_true, decide_eq_true_eq] at f
    rw [f.1, f.2]
    rfl
  · rw [if_neg h8] at f ⊢
    by_cases h28 : x.1 - 257 = 28
    · rw [if_pos h28] at f ⊢
      simp only [Bool.and_eq_true, decide_eq_true_eq] at f
      rw [f.1, ← f.2]
      rfl
    · rw [if_neg h28] at f ⊢
      simp only [Bool.and_eq_true, decide_eq_true_eq] at f
      obtain ⟨f1, f2⟩ := f
      rw [← f1] at f2 ⊢
      rw [run_take_dig c d hp hb, f2]
theorem run_dist {bs : List Bool} {most p : Nat} {o : List Int} {k : Int → Pr} {back : Int} (h1 : 1 ≤ back) (h2 : back ≤ 32768) (hp : p ≤ bs.length) (hb : Beg bs p (digits (dsym back).2.1 (dsym back).2.2)) :
    run bs most (distPr (dsym back).1 k) p o = run bs most (k back) (p + (dsym back).2.2) o := by
  have h := dsym_ok h1 h2
  unfold distPr
  by_cases h4 : (dsym back).1 < 4
  · rw [if_pos h4, (h.small h4).1, (h.small h4).2]
    rfl
  · have hb2 := h.big (by omega)
    rw [if_neg h4, ← hb2.1]
    rw [run_take_dig h.m0 h.m1 hp hb]
    rw [← hb2.1] at hb2
    rw [hb2.2]

def pieceBits (lz dz : List Int) (x : Piece) : List Bool :=
  if x.2 = 0 then rowOf lz x.1.toNat else
    rowOf lz (lsym x.1).1.toNat ++ (digits (lsym x.1).2.1 (lsym x.1).2.2 ++ (rowOf dz (dsym x.2).1.toNat ++ digits (dsym x.2).2.1 (dsym x.2).2.2))
def piecesBits (lz dz : List Int) (ps : List Piece) : List Bool := ps.flatMap (pieceBits lz dz)
def blockBits (lz dz : List Int) (ps : List Piece) : List Bool := piecesBits lz dz ps ++ rowOf lz 256
theorem piecesBits_snoc (lz dz : List Int) (ps : List Piece) (x : Piece) : piecesBits lz dz (ps ++ [x]) = piecesBits lz dz ps ++ pieceBits lz dz x := by simp [piecesBits]
def PieceHas (lz dz : List Int) (x : Piece) : Prop := if x.2 = 0 then Has lz x.1.toNat else Has lz (lsym x.1).1.toNat ∧ Has dz (dsym x.2).1.toNat

theorem sym_back {bs : List Bool} {most : Nat} {lz dz : List Int} {k : Pr} (hl : chk lz = 0) (hd : chk dz = 0) (h256 : Has lz 256) (ps : List Piece) :
    ∀ (o : List Int) (p f : Nat), p ≤ bs.length → (∀ x ∈ ps, PieceHas lz dz x) → PiecesOk ps o → Beg bs p (blockBits lz dz ps) → ps.length < f → (expand ps o).length ≤ most →
      run bs most (symPr lz dz f k) p o = run bs most k (p + (blockBits lz dz ps).length) (expand ps o) := by
  induction ps with
  | nil =>
    intro o p f hp _ _ hb hf _
    obtain ⟨f, rfl⟩ : ∃ f', f = f' + 1 := ⟨f - 1, by simp at hf; omega⟩
    rw [symPr, run_next_row hl h256 hb, if_pos (show ((256 : Nat) : Int) = 256 from rfl)]
    rfl
  | cons x ps ih =>
    intro o p f hp hh hok hb hf hm
    obtain ⟨f, rfl⟩ : ∃ f', f = f' + 1 := ⟨f - 1, by simp at hf; omega⟩
    have hx := hh x (by simp)
    have hrest : ∀ y ∈ ps, PieceHas lz dz y := fun y hy => hh y (by simp [hy])
    have e0 : blockBits lz dz (x :: ps) = pieceBits lz dz x ++ blockBits lz dz ps := by simp [blockBits, piecesBits]
    rw [e0] at hb ⊢
    obtain ⟨hb1, hb2⟩ := hb.app
    have hlen1 := hb1.len hp
    rw [expand_cons] at hm ⊢
    have hgm : (grow1 o x).length ≤ most := Nat.le_trans (expand_len ps _) hm
    have hgo := ih (grow1 o x) (p + (pieceBits lz dz x).length) f hlen1 hrest hok.2 hb2 (by simp at hf; omega) hm
    rw [List.length_append, ← Nat.add_assoc, ← hgo]
    rcases hok.1 with ⟨h0, h1, h2⟩ | ⟨h1, h2, h3, h4, h5⟩
    · have eb : pieceBits lz dz x = rowOf lz x.1.toNat := by unfold pieceBits; rw [if_pos h0]
      have eg : grow1 o x = o ++ [x.1] := by unfold grow1; rw [if_pos h0]
      unfold PieceHas at hx
      rw [if_pos h0] at hx
      rw [eb] at hb1 ⊢
      rw [eg] at hgm ⊢
      rw [symPr, run_next_row hl hx hb1, if_neg (by omega), if_neg (by omega)]
      rw [run, if_pos (by rw [List.length_append] at hgm; exact hgm), show ((x.1.toNat : Nat) : Int) = x.1 from by omega]
    · have hn0 : ¬ x.2 = 0 := by omega
      have eb : pieceBits lz dz x = rowOf lz (lsym x.1).1.toNat ++ (digits (lsym x.1).2.1 (lsym x.1).2.2 ++ (rowOf dz (dsym x.2).1.toNat ++ digits (dsym x.2).2.1 (dsym x.2).2.2)) := by unfold pieceBits; rw [if_neg hn0]
      have eg : grow1 o x = o ++ cp o x.2.toNat x.1.toNat := by unfold grow1; rw [if_neg hn0]
      unfold PieceHas at hx
      rw [if_neg hn0] at hx
      have hls := lsym_bd h1 h2
      have hds := dsym_ok h3 h4
      rw [eb] at hb1 ⊢
      obtain ⟨c1, c2⟩ := hb1.app
      have l1 := c1.len hp
      obtain ⟨c2, c3⟩ := c2.app
      have l2 := c2.len l1
      rw [digits_len] at c3 l2
      obtain ⟨c3, c4⟩ := c3.app
      have l3 := c3.len l2
      rw [eg] at hgm ⊢
      rw [symPr, run_next_row hl hx.1 c1, show (((lsym x.1).1.toNat : Nat) : Int) = (lsym x.1).1 from by omega, if_neg (by omega), if_pos (by omega)]
      unfold againPr
      rw [if_neg (by omega), run_len h1 h2 l1 c2, run_next_row hd hx.2 c3, show (((dsym x.2).1.toNat : Nat) : Int) = (dsym x.2).1 from by have := hds.lo; omega, if_neg (by have := hds.hi; omega)]
      rw [run_dist h3 h4 l3 c4, run, if_neg (by omega), run, cp_len, if_pos (by rw [List.length_append, cp_len] at hgm; exact hgm)]
      simp only [List.length_append, digits_len, Nat.add_assoc]

end Go.Proofs.YtolcdlopgbgilaaGreatDoor

/-! Text LenP. -/
namespace Go.Proofs.YtolcdlopgbgilaaGreatDoor
open Go.RowKit Go.Dray

/-- The counts of the pairs of items. -/
def prs : List (Int × Bool) → List Int
  | a :: b :: r => (a.1 + b.1) :: prs r
  | _ => []
/-- Symbols and pairs by rising counts, symbols first. -/
def mrg : List (Int × Bool) → List Int → List (Int × Bool)
  | S, [] => S
  | [], p :: P => (p, false) :: mrg [] P
  | s :: S, p :: P => if s.1 ≤ p then s :: mrg S (p :: P) else (p, false) :: mrg (s :: S) P
termination_by S P => S.length + P.length
/-- How many are symbols. -/
def sy (l : List (Int × Bool)) : Nat := l.countP (·.2)
/-- The levels. -/
def lv (S : List (Int × Bool)) : Nat → List (Int × Bool)
  | 0 => S
  | k + 1 => mrg S (prs (lv S k))
def nth (B : List (Int × Bool)) (i : Nat) : Int := (B.getD i (0, false)).1
def Srt (l : List (Int × Bool)) : Prop := l.Pairwise fun a b => a.1 ≤ b.1

theorem getD_lt {α : Type} {l : List α} {i : Nat} (h : i < l.length) (d : α) : l.getD i d = l[i] := by simp [List.getD, h]
theorem prs_len (B : List (Int × Bool)) : (prs B).length = B.length / 2 := by
  induction B using prs.induct with
  | case1 a b r ih => simp only [prs, List.length_cons, ih]; omega
  | case2 l h => 
    match l, h with
    | [], _ => rfl
    | [a], _ => simp [prs]
    | a :: b :: r, h => exact absurd rfl (h a b r)
theorem prs_nth (B : List (Int × Bool)) : ∀ i, 2 * i + 1 < B.length → (prs B).getD i 0 = nth B (2 * i) + nth B (2 * i + 1) := by
  induction B using prs.induct with
  | case1 a b r ih =>
    intro i hi
    match i with
    | 0 => simp [prs, nth]
    | i + 1 =>
      simp only [List.length_cons] at hi
      have := ih i (by omega)
      rw [prs, List.getD_cons_succ, this]
      unfold nth
      rw [show 2 * (i + 1) = 2 * i + 1 + 1 from by omega, show 2 * i + 1 + 1 + 1 = (2 * i + 1) + 1 + 1 from rfl]
      simp only [List.getD_cons_succ]
  | case2 l h =>
    intro i hi
    match l, h with
    | [], _ => simp at hi
    | [a], _ => simp at hi
    | a :: b :: r, h => exact absurd rfl (h a b r)
theorem prs_mem {B : List (Int × Bool)} {x : Int} (h : x ∈ prs B) : ∃ c ∈ B, ∃ d ∈ B, x = c.1 + d.1 := by
  induction B using prs.induct with
  | case1 a b r ih =>
    rw [prs, List.mem_cons] at h
    rcases h with h | h
    · exact ⟨a, by simp, b, by simp, h⟩
    · obtain ⟨c, hc, d, hd, e⟩ := ih h
      exact ⟨c, by simp [hc], d, by simp [hd], e⟩
  | case2 l hl =>
    match l, hl with
    | [], _ => simp [prs] at h
    | [a], _ => simp [prs] at h
    | a :: b :: r, hl => exact absurd rfl (hl a b r)
theorem prs_sorted {B : List (Int × Bool)} (h : Srt B) : (prs B).Pairwise (· ≤ ·) := by
  induction B using prs.induct with
  | case1 a b r ih =>
    unfold Srt at h
    rw [List.pairwise_cons, List.pairwise_cons] at h
    obtain ⟨h1, h2, h3⟩ := h
    rw [prs, List.pairwise_cons]
    refine ⟨fun x hx => ?_, ih h3⟩
    obtain ⟨c, hc, d, hd, rfl⟩ := prs_mem hx
    have e1 := h1 c (by simp [hc])
    have e2 := h2 d hd
    omega
  | case2 l hl =>
    match l, hl with
    | [], _ => simp [prs]
    | [a], _ => simp [prs]
    | a :: b :: r, hl => exact absurd rfl (hl a b r)

theorem mrg_nil (S : List (Int × Bool)) : mrg S [] = S := by unfold mrg; rfl
theorem mrg_nil' (p : Int) (P : List Int) : mrg [] (p :: P) = (p, false) :: mrg [] P := by rw [mrg]
theorem mrg_le {s : Int × Bool} {p : Int} (h : s.1 ≤ p) (S : List (Int × Bool)) (P : List Int) : mrg (s :: S) (p :: P) = s :: mrg S (p :: P) := by rw [mrg, if_pos h]
theorem mrg_gt {s : Int × Bool} {p : Int} (h : ¬ s.1 ≤ p) (S : List (Int × Bool)) (P : List Int) : mrg (s :: S) (p :: P) = (p, false) :: mrg (s :: S) P := by rw [mrg, if_neg h]

theorem mrg_len (S : List (Int × Bool)) (P : List Int) : (mrg S P).length = S.length + P.length := by
  induction S, P using mrg.induct with
  | case1 S => rw [mrg_nil]; rfl
  | case2 p P ih => rw [mrg_nil', List.length_cons, ih]; simp
  | case3 s S p P h ih => rw [mrg_le h, List.length_cons, ih]; simp; omega
  | case4 s S p P h ih => rw [mrg_gt h, List.length_cons, ih]; simp; omega
theorem mrg_mem {S : List (Int × Bool)} {P : List Int} {y : Int × Bool} (h : y ∈ mrg S P) : y ∈ S ∨ ∃ p ∈ P, y = (p, false) := by
  induction S, P using mrg.induct with
  | case1 S => rw [mrg_nil] at h; exact Or.inl h
  | case2 p P ih =>
    rw [mrg_nil', List.mem_cons] at h
    rcases h with h | h
    · exact Or.inr ⟨p, by simp, h⟩
    · rcases ih h with h' | ⟨p', h1, h2⟩
      · exact Or.inl h'
      · exact Or.inr ⟨p', by simp [h1], h2⟩
  | case3 s S p P hle ih =>
    rw [mrg_le hle, List.mem_cons] at h
    rcases h with h | h
    · exact Or.inl (by simp [h])
    · rcases ih h with h' | h'
      · exact Or.inl (by simp [h'])
      · exact Or.inr h'
  | case4 s S p P hle ih =>
    rw [mrg_gt hle, List.mem_cons] at h
    rcases h with h | h
    · exact Or.inr ⟨p, by simp, h⟩
    · rcases ih h with h' | ⟨p', h1, h2⟩
      · exact Or.inl h'
      · exact Or.inr ⟨p', by simp [h1], h2⟩
theorem mrg_sorted {S : List (Int × Bool)} {P : List Int} (hS : Srt S) (hP : P.Pairwise (· ≤ ·)) : Srt (mrg S P) := by
  induction S, P using mrg.induct with
  | case1 S => rw [mrg_nil]; exact hS
  | case2 p P ih =>
    rw [List.pairwise_cons] at hP
    rw [mrg_nil', Srt, List.pairwise_cons]
    refine ⟨fun y hy => ?_, ih hS hP.2⟩
    rcases mrg_mem hy with h | ⟨p', h1, rfl⟩
    · simp at h
    · exact hP.1 p' h1
  | case3 s S p P hle ih =>
    have hS' := hS
    unfold Srt at hS
    rw [List.pairwise_cons] at hS
    rw [mrg_le hle, Srt, List.pairwise_cons]
    refine ⟨fun y hy => ?_, ih hS.2 hP⟩
    rcases mrg_mem hy with h | ⟨p', h1, rfl⟩
    · exact hS.1 y h
    · rw [List.mem_cons] at h1
      rcases h1 with rfl | h1
      · exact hle
      · rw [List.pairwise_cons] at hP
        have := hP.1 p' h1
        show s.1 ≤ p'
        omega
  | case4 s S p P hle ih =>
    have hS' := hS
    unfold Srt at hS
    rw [List.pairwise_cons] at hS
    rw [List.pairwise_cons] at hP
    rw [mrg_gt hle, Srt, List.pairwise_cons]
    refine ⟨fun y hy => ?_, ih hS' hP.2⟩
    show p ≤ y.1
    rcases mrg_mem hy with h | ⟨p', h1, rfl⟩
    · rw [List.mem_cons] at h
      rcases h with rfl | h
      · omega
      · have := hS.1 y h; omega
    · exact hP.1 p' h1
theorem mrg_filter {S : List (Int × Bool)} {P : List Int} (hS : ∀ s ∈ S, s.2 = true) : (mrg S P).filter (·.2) = S := by
  induction S, P using mrg.induct with
  | case1 S => rw [mrg_nil]; exact List.filter_eq_self.2 hS
  | case2 p P ih => rw [mrg_nil', List.filter_cons, ih hS]; rfl
  | case3 s S p P hle ih =>
    rw [mrg_le hle, List.filter_cons, ih fun x hx => hS x (by simp [hx]), if_pos (hS s (by simp))]
  | case4 s S p P hle ih => rw [mrg_gt hle, List.filter_cons, ih hS]; rfl

theorem sy_cons (s : Int × Bool) (l : List (Int × Bool)) : sy (s :: l) = sy l + if s.2 then 1 else 0 := by unfold sy; rw [List.countP_cons]
theorem sy_all {S : List (Int × Bool)} (hS : ∀ s ∈ S, s.2 = true) : sy S = S.length := by unfold sy; rw [List.countP_eq_length]; exact hS
theorem sy_le (l : List (Int × Bool)) : sy l ≤ l.length := List.countP_le_length

/-- Symbols that weigh no more than the last pair taken are taken too. -/
theorem mrg_take (S : List (Int × Bool)) (P : List Int) (hS : ∀ s ∈ S, s.2 = true) : ∀ t q k : Nat, t ≤ (mrg S P).length → sy ((mrg S P).take t) + (k + 1) = t → q ≤ S.length → (∀ s ∈ S.take q, s.1 ≤ P.getD k 0) → q ≤ sy ((mrg S P).take t) := by
  induction S, P using mrg.induct with
  | case1 S =>
    intro t q k ht hk hq hle
    rw [mrg_nil] at ht hk
    rw [sy_all (fun s hs => hS s (List.mem_of_mem_take hs)), List.length_take] at hk
    omega
  | case2 p P ih =>
    intro t q k ht hk hq hle
    simp at hq
    omega
  | case3 s S p P hle ih =>
    intro t q k ht hk hq hq2
    rw [mrg_le hle] at ht hk ⊢
    match t, hk with
    | t + 1, hk =>
      rw [List.take_succ_cons, sy_cons, if_pos (hS s (by simp))] at hk ⊢
      rw [List.length_cons] at ht
      match q, hq, hq2 with
      | 0, _, _ => omega
      | q + 1, hq, hq2 =>
        have := ih (fun x hx => hS x (by simp [hx])) t q k (by omega) (by omega) (by simpa using hq) fun x hx => hq2 x (by rw [List.take_succ_cons]; simp [hx])
        omega
  | case4 s S p P hle ih =>
    intro t q k ht hk hq hq2
    rw [mrg_gt hle] at ht hk ⊢
    match t, hk with
    | t + 1, hk =>
      rw [List.take_succ_cons, sy_cons] at hk ⊢
      simp only [Bool.false_eq_true, if_false, Nat.add_zero] at hk ⊢
      rw [List.length_cons] at ht
      match q, hq, hq2 with
      | 0, _, _ => omega
      | q + 1, hq, hq2 =>
        match k, hk, hq2 with
        | 0, hk, hq2 =>
          have := hq2 s (by rw [List.take_succ_cons]; simp)
          simp at this
          omega
        | k + 1, hk, hq2 => exact ih hS t (q + 1) k (by omega) (by omega) hq fun x hx => by have := hq2 x hx; rwa [List.getD_cons_succ] at this

theorem filter_take (l : List (Int × Bool)) (t : Nat) : (l.take t).filter (·.2) = (l.filter (·.2)).take (sy (l.take t)) := by
  have e : l.filter (·.2) = (l.take t).filter (·.2) ++ (l.drop t).filter (·.2) := by rw [← List.filter_append, List.take_append_drop]
  rw [e, List.take_left']
  unfold sy
  rw [List.countP_eq_length_filter]

/-- What is told of the symbols. -/
structure Syms (S : List (Int × Bool)) : Prop where
  all : ∀ s ∈ S, s.2 = true
  srt : Srt S
  pos : ∀ s ∈ S, 0 ≤ s.1 ∧ s.1 ≤ 4294967296

section
variable {S : List (Int × Bool)} (h : Syms S)
include h
theorem lv_bd (k : Nat) : ∀ x ∈ lv S k, 0 ≤ x.1 ∧ x.1 ≤ 4294967296 * 2 ^ k := by
  induction k with
  | zero => intro x hx; have := h.pos x hx; simpa using this
  | succ k ih =>
    intro x hx
    rcases mrg_mem hx with hx | ⟨p, hp, rfl⟩
    · have := h.pos x hx
      have h2 : (1 : Int) ≤ 2 ^ (k + 1) := by
        have := Nat.one_le_two_pow (n := k + 1)
        have e : ((2 ^ (k + 1) : Nat) : Int) = (2 : Int) ^ (k + 1) := by simp
        rw [← e]; omega
      omega
    · obtain ⟨c, hc, d, hd, rfl⟩ := prs_mem hp
      have h1 := ih c hc
      have h2 := ih d hd
      rw [Int.pow_succ]
      show 0 ≤ c.1 + d.1 ∧ c.1 + d.1 ≤ _
      omega
theorem lv_sorted (k : Nat) : Srt (lv S k) := by
  induction k with
  | zero => exact h.srt
  | succ k ih => exact mrg_sorted h.srt (prs_sorted ih)
theorem lv_filter (k : Nat) : (lv S k).filter (·.2) = S := by
  cases k with
  | zero => exact List.filter_eq_self.2 h.all
  | succ k => exact mrg_filter h.all
omit h in
theorem lv_len (k : Nat) : (lv S (k + 1)).length = S.length + (lv S k).length / 2 := by rw [lv, mrg_len, prs_len]
theorem lv_sy (k : Nat) : sy (lv S k) = S.length := by unfold sy; rw [List.countP_eq_length_filter, lv_filter h]
theorem lv_sy_take (k t : Nat) : sy ((lv S k).take t) ≤ S.length := by
  have e := filter_take (lv S k) t
  have h2 : ((lv S k).take t).countP (·.2) ≤ (lv S k).countP (·.2) := List.Sublist.countP_le (List.take_sublist t _)
  have := lv_sy h k
  unfold sy at this ⊢
  omega

omit h in
theorem srt_nth {B : List (Int × Bool)} (hB : Srt B) {i j : Nat} (hij : i ≤ j) (hj : j < B.length) : nth B i ≤ nth B j := by
  unfold nth
  rw [getD_lt (show i < B.length by omega), getD_lt hj]
  rcases Nat.lt_or_ge i j with h | h
  · exact List.pairwise_iff_getElem.1 hB i j (by omega) hj h
  · have : i = j := by omega
    subst this; omega

/-- What the first 2p items' symbols weigh, against the p-th pair. -/
theorem pair_ge (k p : Nat) (hp : 2 * p + 1 < (lv S k).length) : ∀ s ∈ S.take (sy ((lv S k).take (2 * p + 2))), s.1 ≤ (prs (lv S k)).getD p 0 := by
  intro s hs
  have e := filter_take (lv S k) (2 * p + 2)
  rw [lv_filter h] at e
  rw [← e] at hs
  have hm := (List.mem_filter.1 hs).1
  obtain ⟨i, hi, rfl⟩ := List.getElem_of_mem hm
  rw [List.length_take] at hi
  rw [List.getElem_take, prs_nth _ _ hp]
  have h1 := srt_nth (lv_sorted h k) (i := i) (j := 2 * p + 1) (by omega) hp
  have h2 : 0 ≤ nth (lv S k) (2 * p) := by
    unfold nth
    rw [getD_lt (show 2 * p < (lv S k).length by omega)]
    exact (lv_bd h k _ (List.getElem_mem _)).1
  have h3 : nth (lv S k) i = (lv S k)[i].1 := by unfold nth; rw [getD_lt (show i < (lv S k).length by omega)]
  omega

omit h in
theorem sy_take_le (k t : Nat) : sy ((lv S k).take t) ≤ t := Nat.le_trans (sy_le _) (List.length_take_le _ _)

/-- Of the level below no more symbols are taken. -/
theorem lv_nest (k t : Nat) (ht : t ≤ (lv S (k + 1)).length) : sy ((lv S k).take (2 * (t - sy ((lv S (k + 1)).take t)))) ≤ sy ((lv S (k + 1)).take t) := by
  have hle := sy_take_le (S := S) (k + 1) t
  rcases Nat.eq_zero_or_pos (t - sy ((lv S (k + 1)).take t)) with h0 | h0
  · rw [h0]; simp [sy]
  · obtain ⟨p, hp⟩ : ∃ p, t - sy ((lv S (k + 1)).take t) = p + 1 := ⟨t - sy ((lv S (k + 1)).take t) - 1, by omega⟩
    have hpl : p + 1 ≤ (lv S k).length / 2 := by
      have hd : ((lv S (k + 1)).take t).countP (fun x => !x.2) ≤ (lv S (k + 1)).countP (fun x => !x.2) := List.Sublist.countP_le (List.take_sublist t _)
      have e1 := List.length_eq_countP_add_countP (·.2) (l := lv S (k + 1))
      have e2 := List.length_eq_countP_add_countP (·.2) (l := (lv S (k + 1)).take t)
      have e3 := lv_sy h (k + 1)
      have e4 := lv_len (S := S) k
      rw [List.length_take] at e2
      simp only [Bool.not_eq_true, Bool.decide_eq_false] at e1 e2
      unfold sy at hp e3
      omega
    rw [hp, show 2 * (p + 1) = 2 * p + 2 from by omega]
    exact mrg_take S (prs (lv S k)) h.all t _ p ht (by show sy ((lv S (k + 1)).take t) + (p + 1) = t; omega) (lv_sy_take h k _) (pair_ge h k p (by omega))
/-- The pairs that are taken are there. -/
theorem lv_room (k t : Nat) (ht : t ≤ (lv S (k + 1)).length) : 2 * (t - sy ((lv S (k + 1)).take t)) ≤ (lv S k).length := by
  have hd : ((lv S (k + 1)).take t).countP (fun x => !x.2) ≤ (lv S (k + 1)).countP (fun x => !x.2) := List.Sublist.countP_le (List.take_sublist t _)
  have e1 := List.length_eq_countP_add_countP (·.2) (l := lv S (k + 1))
  have e2 := List.length_eq_countP_add_countP (·.2) (l := (lv S (k + 1)).take t)
  have e3 := lv_sy h (k + 1)
  have e4 := lv_len (S := S) k
  rw [List.length_take] at e2
  simp only [Bool.not_eq_true, Bool.decide_eq_false] at e1 e2
  unfold sy at e3 ⊢
  omega

omit h in
/-- A level's size. -/
theorem lv_size (k : Nat) (hm : 1 ≤ S.length) : (lv S k).length ≤ 2 * S.length - 1 ∧ 2 ^ k * (2 * S.length - (lv S k).length) < S.length + 2 ^ k := by
  induction k with
  | zero => simp [lv]; omega
  | succ k ih =>
    rw [lv_len]
    obtain ⟨h1, h2⟩ := ih
    refine ⟨by omega, ?_⟩
    obtain ⟨d, hd⟩ : ∃ d, 2 * S.length - (lv S k).length = d := ⟨_, rfl⟩
    rw [hd] at h2
    have hd2 : 2 * S.length - (S.length + (lv S k).length / 2) = (d + 1) / 2 := by omega
    rw [hd2, Nat.pow_succ]
    have h3 : 2 ^ k * 2 * ((d + 1) / 2) ≤ 2 ^ k * (d + 1) := by
      rw [Nat.mul_assoc]
      exact Nat.mul_le_mul_left _ (by omega)
    rw [Nat.mul_add] at h3
    have hp : 0 < 2 ^ k := Nat.two_pow_pos k
    omega
omit h in
theorem lv_top {k : Nat} (hm : 1 ≤ S.length) (hk : S.length ≤ 2 ^ (k + 1)) : 2 * S.length - 2 ≤ (lv S k).length := by
  obtain ⟨h1, h2⟩ := lv_size (S := S) k hm
  rcases Nat.lt_or_ge 2 (2 * S.length - (lv S k).length) with h3 | h3
  · have h4 : 2 ^ k * 3 ≤ 2 ^ k * (2 * S.length - (lv S k).length) := Nat.mul_le_mul_left _ (by omega)
    rw [Nat.pow_succ] at hk
    omega
  · omega

/-- At the top all symbols are taken. -/
theorem lv_all (k : Nat) (hm : 2 ≤ S.length) (hl : 2 * S.length - 2 ≤ (lv S k).length) : sy ((lv S k).take (2 * S.length - 2)) = S.length := by
  induction k with
  | zero =>
    have hl' : 2 * S.length - 2 ≤ S.length := hl
    show sy (S.take _) = _
    rw [sy_all (fun s hs => h.all s (List.mem_of_mem_take hs)), List.length_take]
    omega
  | succ k ih =>
    have hs := lv_size (S := S) (k + 1) (by omega)
    have hlen := lv_len (S := S) k
    rcases Nat.lt_or_ge (2 * S.length - 2) (lv S (k + 1)).length with hlt | hge
    · have ih' := ih (by omega)
      have hu := lv_sy_take h (k + 1) (2 * S.length - 2)
      rcases Nat.lt_or_ge (sy ((lv S (k + 1)).take (2 * S.length - 2))) S.length with hc | hc
      · exfalso
        -- then S.length - 1 pairs are taken
        have hcnt : ((lv S (k + 1)).take (2 * S.length - 2)).countP (fun x => !x.2) ≤ (lv S (k + 1)).countP (fun x => !x.2) := List.Sublist.countP_le (List.take_sublist _ _)
        have e1 := List.length_eq_countP_add_countP (·.2) (l := lv S (k + 1))
        have e2 := List.length_eq_countP_add_countP (·.2) (l := (lv S (k + 1)).take (2 * S.length - 2))
        have e3 := lv_sy h (k + 1)
        rw [List.length_take] at e2
        simp only [Bool.not_eq_true, Bool.decide_eq_false] at e1 e2
        have hsy : sy ((lv S (k + 1)).take (2 * S.length - 2)) = S.length - 1 := by
          unfold sy at hc e3 ⊢
          omega
        obtain ⟨p, hp⟩ : ∃ p, S.length = p + 2 := ⟨S.length - 2, by omega⟩
        have hq := pair_ge h k p (by omega)
        rw [show 2 * p + 2 = 2 * S.length - 2 from by omega, ih'] at hq
        have := mrg_take S (prs (lv S k)) h.all (2 * S.length - 2) S.length p hl (by show sy ((lv S (k + 1)).take (2 * S.length - 2)) + (p + 1) = _; omega) (Nat.le_refl _) hq
        have h5 : S.length ≤ sy ((lv S (k + 1)).take (2 * S.length - 2)) := this
        omega
      · omega
    · rw [List.take_of_length_le hge, lv_sy h]
end

/-- The sum of a function's values at 0 .. m-1. -/
def su (f : Nat → Int) : Nat → Int
  | 0 => 0
  | m + 1 => su f m + f m
theorem su_step {f f' : Nat → Int} {n : Nat} {c : Int} (h1 : ∀ j, j < n → f' j = f j - c) (h2 : ∀ j, n ≤ j → f' j = f j) : ∀ m, su f' m = su f m - (min n m : Nat) * c := by
  intro m
  induction m with
  | zero => simp [su]
  | succ m ih =>
    rw [su, su, ih]
    rcases Nat.lt_or_ge m n with h | h
    · rw [h1 m h, show min n (m + 1) = m + 1 from by omega, show min n m = m from by omega]
      rw [show ((m + 1 : Nat) : Int) = (m : Int) + 1 from by omega, Int.add_mul]
      omega
    · rw [h2 m h, show min n (m + 1) = n from by omega, show min n m = n from by omega]
      omega
theorem su_const (c : Int) (m : Nat) : su (fun _ => c) m = m * c := by
  induction m with
  | zero => simp [su]
  | succ m ih => rw [su, ih, show ((m + 1 : Nat) : Int) = (m : Int) + 1 from by omega, Int.add_mul]; omega

def stepG (n : Nat) (g : Nat → Int) : Nat → Int := fun j => if j < n then g j + 1 else g j
/-- The lengths by rising count, k levels to go, T items taken of the next. -/
def fin (S : List (Int × Bool)) : Nat → Nat → (Nat → Int) → Nat → Int
  | 0, _, g => g
  | k + 1, T, g => fin S k (2 * (T - sy ((lv S k).take T))) (stepG (sy ((lv S k).take T)) g)

/-- What is said of the lengths D levels deep. -/
structure LInv (m D T n : Nat) (g : Nat → Int) : Prop where
  le : n ≤ m
  deep : ∀ j, j < n → g j = D
  bd : ∀ j, 0 ≤ g j ∧ g j ≤ D
  anti : ∀ i j, i ≤ j → g j ≤ g i
  pos : 0 < D → ∀ j, j < m → 1 ≤ g j
  kraft : 2 * su (fun j => 2 ^ (15 - (g j).toNat)) m = 65536 + T * 2 ^ (15 - D)

theorem LInv.start (m : Nat) (hm : 1 ≤ m) : LInv m 0 (2 * m - 2) m (fun _ => 0) :=
  ⟨Nat.le_refl _, fun _ _ => rfl, fun _ => by omega, fun _ _ _ => by omega, fun h => by omega, by
    have e : (fun _ : Nat => (2 : Int) ^ (15 - ((0 : Int)).toNat)) = fun _ => 32768 := by funext j; decide
    rw [e, su_const]
    have : (2 : Int) ^ (15 - 0) = 32768 := by decide
    rw [this]
    omega⟩

theorem pow_half (D : Nat) (h : D < 15) : (2 : Int) ^ (15 - D) = 2 * 2 ^ (15 - (D + 1)) := by
  rw [show 15 - D = 15 - (D + 1) + 1 from by omega, Int.pow_succ]
  omega

theorem LInv.step {m D T n n' : Nat} {g : Nat → Int} (h : LInv m D T n g) (hn : n' ≤ n) (hT : n' ≤ T) (hD : D < 15) (h0 : D = 0 → n' = m) : LInv m (D + 1) (2 * (T - n')) n' (stepG n' g) :=
  ⟨by have := h.le; omega, fun j hj => by unfold stepG; rw [if_pos hj, h.deep j (by omega)]; omega,
   fun j => by have := h.bd j; unfold stepG; split <;> omega,
   fun i j hij => by
    have := h.anti i j hij
    unfold stepG
    by_cases h1 : i < n'
    · by_cases h2 : j < n'
      · rw [if_pos h1, if_pos h2]; omega
      · rw [if_pos h1, if_neg h2]; omega
    · rw [if_neg h1, if_neg (by omega)]; exact this,
   fun _ j hj => by
    unfold stepG
    by_cases h1 : j < n'
    · rw [if_pos h1]; have := h.bd j; omega
    · rw [if_neg h1]
      rcases Nat.eq_zero_or_pos D with hd | hd
      · have := h0 hd; omega
      · exact h.pos hd j hj,
   by
    have hs := su_step (f := fun j => 2 ^ (15 - (g j).toNat)) (f' := fun j => 2 ^ (15 - (stepG n' g j).toNat)) (n := n') (c := 2 ^ (15 - (D + 1)))
      (fun j hj => by
        show (2 : Int) ^ (15 - (stepG n' g j).toNat) = 2 ^ (15 - (g j).toNat) - 2 ^ (15 - (D + 1))
        unfold stepG
        rw [if_pos hj, h.deep j (by omega), show ((D : Int) + 1).toNat = D + 1 from by omega, show ((D : Int)).toNat = D from by omega, pow_half D hD]
        omega)
      (fun j hj => by
        show (2 : Int) ^ (15 - (stepG n' g j).toNat) = 2 ^ (15 - (g j).toNat)
        unfold stepG
        rw [if_neg (by omega)])
      m
    rw [hs, show min n' m = n' from by have := h.le; omega]
    have hk := h.kraft
    rw [pow_half D hD] at hk
    generalize (2 : Int) ^ (15 - (D + 1)) = c at hk ⊢
    rw [show ((2 * (T - n') : Nat) : Int) = 2 * ((T : Int) - n') from by omega]
    rw [Int.mul_sub, hk, Int.mul_assoc 2, Int.sub_mul]
    generalize (n' : Int) * c = y
    rw [show (T : Int) * (2 * c) = 2 * (T * c) from by rw [← Int.mul_assoc, Int.mul_comm (T : Int) 2, Int.mul_assoc]]
    omega⟩

/-- What the lengths are at last. -/
structure LEnd (m most : Nat) (g : Nat → Int) : Prop where
  bd : ∀ j, 0 ≤ g j ∧ g j ≤ most
  anti : ∀ i j, i ≤ j → g j ≤ g i
  pos : ∀ j, j < m → 1 ≤ g j
  kraft : su (fun j => 2 ^ (15 - (g j).toNat)) m = 32768

theorem fin_ok {S : List (Int × Bool)} (h : Syms S) (k : Nat) : ∀ (D T n : Nat) (g : Nat → Int), LInv S.length D T n g → D + (k + 1) ≤ 15 → T ≤ (lv S k).length → sy ((lv S k).take T) ≤ n → (D = 0 → sy ((lv S k).take T) = S.length) →
    LEnd S.length (D + (k + 1)) (fin S (k + 1) T g) := by
  induction k with
  | zero =>
    intro D T n g hi hD hT hn h0
    have hsy : sy ((lv S 0).take T) = T := by
      show sy (S.take T) = T
      have hT' : T ≤ S.length := hT
      rw [sy_all (fun s hs => h.all s (List.mem_of_mem_take hs)), List.length_take]; omega
    have hs := hi.step hn (by omega) (by omega) h0
    rw [fin, fin]
    refine ⟨hs.bd, hs.anti, hs.pos (by omega), ?_⟩
    have := hs.kraft
    rw [hsy] at this ⊢
    rw [Nat.sub_self] at this
    simp at this
    omega
  | succ k ih =>
    intro D T n g hi hD hT hn h0
    have hs := hi.step hn (sy_take_le (S := S) (k + 1) T) (by omega) h0
    rw [fin]
    have := ih (D + 1) _ _ _ hs (by omega) (lv_room h k T hT) (lv_nest h k T hT) (by omega)
    rw [show D + 1 + (k + 1) = D + (k + 1 + 1) from by omega] at this
    exact this

/-- The lengths by rising count. -/
def lensG (S : List (Int × Bool)) (most : Nat) : Nat → Int := fin S most (2 * S.length - 2) fun _ => 0
theorem lensG_ok {S : List (Int × Bool)} (h : Syms S) {most : Nat} (h1 : 1 ≤ most) (h2 : most ≤ 15) (hm : 2 ≤ S.length) (hf : S.length ≤ 2 ^ most) : LEnd S.length most (lensG S most) := by
  obtain ⟨k, rfl⟩ : ∃ k, most = k + 1 := ⟨most - 1, by omega⟩
  have ht := lv_top (S := S) (k := k) (by omega) hf
  have := fin_ok h k 0 (2 * S.length - 2) S.length _ (LInv.start _ (by omega)) (by omega) ht (lv_sy_take h k _) (fun _ => lv_all h k hm ht)
  rw [Nat.zero_add] at this
  exact this

theorem lensG_anti {S : List (Int × Bool)} (h : Syms S) {most : Nat} (h1 : 1 ≤ most) (h2 : most ≤ 15) (hm : 2 ≤ S.length) (hf : S.length ≤ 2 ^ most) {i j : Nat} (hij : i ≤ j) : lensG S most j ≤ lensG S most i := (lensG_ok h h1 h2 hm hf).anti i j hij

end Go.Proofs.YtolcdlopgbgilaaGreatDoor

/-! Text SortP. -/
namespace Go.Proofs.YtolcdlopgbgilaaGreatDoor
open Go.RowKit Go.Dray

def sw (d : Nat → Int) (i j : Nat) : Nat → Int := fun k => if k = i then d j else if k = j then d i else d k
def ind (x y : Int) : Int := if y = x then 1 else 0
/-- How often x comes. -/
def cn (d : Nat → Int) (n : Nat) (x : Int) : Int := su (fun k => ind x (d k)) n

theorem su_congr {f g : Nat → Int} {n : Nat} (h : ∀ k, k < n → f k = g k) : su f n = su g n := by
  induction n with
  | zero => rfl
  | succ n ih => rw [su, su, ih fun k hk => h k (by omega), h n (by omega)]
theorem su_upd (f : Nat → Int) (i : Nat) (v : Int) : ∀ n, i < n → su (fun k => if k = i then v else f k) n = su f n - f i + v := by
  intro n
  induction n with
  | zero => intro h; omega
  | succ n ih =>
    intro h
    rw [su, su]
    by_cases e : i = n
    · subst e
      rw [if_pos rfl, su_congr (g := f) fun k hk => if_neg (by omega)]
      omega
    · rw [ih (by omega), if_neg (by omega)]
      omega
theorem cn_sw (d : Nat → Int) {i j n : Nat} (hi : i < n) (hj : j < n) (x : Int) : cn (sw d i j) n x = cn d n x := by
  have e : (fun k => ind x (sw d i j k)) = fun k => if k = i then ind x (d j) else (fun k => if k = j then ind x (d i) else ind x (d k)) k := by
    funext k
    unfold sw
    by_cases h1 : k = i
    · simp [h1]
    · by_cases h2 : k = j
      · rw [if_neg h1, if_pos h2, if_neg h1]; exact (if_pos h2).symm
      · simp [h1, h2]
  unfold cn
  rw [e, su_upd (fun k => if k = j then ind x (d i) else ind x (d k)) i _ n hi, su_upd (fun k => ind x (d k)) j _ n hj]
  by_cases h : i = j
  · subst h; simp
  · simp [h]

/-- d' is d but for places from a up to b, which hold what stood there, in another order. -/
structure Mv (n a b : Nat) (d d' : Nat → Int) : Prop where
  out : ∀ k, k < a ∨ b ≤ k → d' k = d k
  frm : ∀ k, a ≤ k → k < b → ∃ k', a ≤ k' ∧ k' < b ∧ d' k = d k'
  perm : ∀ x, cn d' n x = cn d n x

theorem Mv.refl (n a b : Nat) (d : Nat → Int) : Mv n a b d d := ⟨fun _ _ => rfl, fun k h1 h2 => ⟨k, h1, h2, rfl⟩, fun _ => rfl⟩
theorem Mv.trans {n a b : Nat} {d d' d'' : Nat → Int} (h : Mv n a b d d') (h' : Mv n a b d' d'') : Mv n a b d d'' :=
  ⟨fun k hk => (h'.out k hk).trans (h.out k hk), fun k h1 h2 => by
    obtain ⟨k1, a1, a2, a3⟩ := h'.frm k h1 h2
    obtain ⟨k2, b1, b2, b3⟩ := h.frm k1 a1 a2
    exact ⟨k2, b1, b2, a3.trans b3⟩, fun x => (h'.perm x).trans (h.perm x)⟩
theorem Mv.mono {n a b a' b' : Nat} {d d' : Nat → Int} (h : Mv n a b d d') (ha : a' ≤ a) (hb : b ≤ b') : Mv n a' b' d d' :=
  ⟨fun k hk => h.out k (by omega), fun k h1 h2 => by
    by_cases hk : a ≤ k ∧ k < b
    · obtain ⟨k', h3, h4, h5⟩ := h.frm k hk.1 hk.2
      exact ⟨k', by omega, by omega, h5⟩
    · exact ⟨k, h1, h2, h.out k (by omega)⟩, h.perm⟩
theorem Mv.sw {n a b : Nat} (d : Nat → Int) {i j : Nat} (hi : a ≤ i ∧ i < b) (hj : a ≤ j ∧ j < b) (hb : b ≤ n) : Mv n a b d (sw d i j) :=
  ⟨fun k hk => by unfold Proofs.YtolcdlopgbgilaaGreatDoor.sw; rw [if_neg (by omega), if_neg (by omega)], fun k h1 h2 => by
    unfold Proofs.YtolcdlopgbgilaaGreatDoor.sw
    by_cases e1 : k = i
    · exact ⟨j, hj.1, hj.2, by rw [if_pos e1]⟩
    · by_cases e2 : k = j
      · exact ⟨i, hi.1, hi.2, by rw [if_neg e1, if_pos e2]⟩
      · exact ⟨k, h1, h2, by rw [if_neg e1, if_neg e2]⟩, fun x => cn_sw d (by omega) (by omega) x⟩

def swr (a b n : Nat) (d : Nat → Int) : Nat → Int := fun k => if a ≤ k ∧ k < a + n then d (k - a + b) else if b ≤ k ∧ k < b + n then d (k - b + a) else d k
def rot (a m b : Nat) (d : Nat → Int) : Nat → Int := fun k => if a ≤ k ∧ k < b then (if k < a + (b - m) then d (k + (m - a)) else d (k - (b - m))) else d k

theorem swr_zero (a b : Nat) (d : Nat → Int) : swr a b 0 d = d := by
  funext k
  unfold swr
  rw [if_neg (by omega), if_neg (by omega)]
theorem swr_succ {a b i : Nat} (h : a + (i + 1) ≤ b) (d : Nat → Int) : sw (swr a b i d) (a + i) (b + i) = swr a b (i + 1) d := by
  funext k
  unfold sw swr
  repeat' split
  all_goals first
    | omega
    | (congr 1; omega)
theorem rot_gt {m i j : Nat} (h1 : j < i) (h2 : i ≤ m) (d : Nat → Int) : rot (m - (i - j)) m (m + j) (swr (m - i) m j d) = rot (m - i) m (m + j) d := by
  funext k
  unfold rot swr
  repeat' split
  all_goals first
    | omega
    | (congr 1; omega)
theorem rot_lt {m i j : Nat} (h1 : i < j) (h2 : i ≤ m) (d : Nat → Int) : rot (m - i) m (m + (j - i)) (swr (m - i) (m + j - i) i d) = rot (m - i) m (m + j) d := by
  funext k
  unfold rot swr
  repeat' split
  all_goals first
    | omega
    | (congr 1; omega)
theorem rot_eq {m i : Nat} (h2 : i ≤ m) (d : Nat → Int) : swr (m - i) m i d = rot (m - i) m (m + i) d := by
  funext k
  unfold rot swr
  repeat' split
  all_goals first
    | omega
    | (congr 1; omega)
theorem rot_triv {s m e : Nat} (h1 : s ≤ m) (h2 : m ≤ e) (h : s = m ∨ m = e) (d : Nat → Int) : rot s m e d = d := by
  funext k
  unfold rot
  repeat' split
  all_goals first
    | omega
    | rfl
    | (congr 1; omega)
theorem rot_up {a k : Nat} (h : a ≤ k) (d : Nat → Int) : sw (rot a (a + 1) (k + 1) d) k (k + 1) = rot a (a + 1) (k + 2) d := by
  funext t
  unfold sw rot
  repeat' split
  all_goals first
    | omega
    | (congr 1; omega)
theorem rot_down {m k : Nat} (h : 1 ≤ k) (hk : k ≤ m) (d : Nat → Int) : sw (rot k m (m + 1) d) k (k - 1) = rot (k - 1) m (m + 1) d := by
  funext t
  unfold sw rot
  repeat' split
  all_goals first
    | omega
    | (congr 1; omega)
theorem rot_id1 (a : Nat) (d : Nat → Int) : rot a (a + 1) (a + 1) d = d := rot_triv (by omega) (by omega) (Or.inr rfl) d
theorem rot_id2 (m : Nat) (d : Nat → Int) : rot m m (m + 1) d = d := rot_triv (by omega) (by omega) (Or.inl rfl) d

/-- Sorted by a key. -/
def Sd (κ : Int → Int) (a b : Nat) (d : Nat → Int) : Prop := ∀ i j, a ≤ i → i ≤ j → j < b → κ (d i) ≤ κ (d j)

theorem Sd.nil {κ : Int → Int} {a b : Nat} {d : Nat → Int} (h : b ≤ a + 1) : Sd κ a b d := fun i j h1 h2 h3 => by
  have : i = j := by omega
  subst this; omega
theorem Sd.sub {κ : Int → Int} {a b a' b' : Nat} {d : Nat → Int} (h : Sd κ a b d) (ha : a ≤ a') (hb : b' ≤ b) : Sd κ a' b' d := fun i j h1 h2 h3 => h i j (by omega) h2 (by omega)

/-- While insertionSort carries place j down. -/
def InsInv (κ : Int → Int) (a i j : Nat) (d : Nat → Int) : Prop :=
  (∀ p q, a ≤ p → p ≤ q → q ≤ i → p ≠ j → q ≠ j → κ (d p) ≤ κ (d q)) ∧ ∀ q, j < q → q ≤ i → κ (d j) ≤ κ (d q)
theorem InsInv.start {κ : Int → Int} {a i : Nat} {d : Nat → Int} (h : Sd κ a i d) : InsInv κ a i i d :=
  ⟨fun p q h1 h2 h3 h4 h5 => h p q h1 h2 (by omega), fun q h1 h2 => by omega⟩
theorem InsInv.done {κ : Int → Int} {a i j : Nat} {d : Nat → Int} (h : InsInv κ a i j d) (hj : a ≤ j ∧ j ≤ i) (hs : j = a ∨ ¬ κ (d j) < κ (d (j - 1))) : Sd κ a (i + 1) d := by
  intro p q h1 h2 h3
  by_cases hp : p = j
  · by_cases hq : q = j
    · subst hp hq; omega
    · subst hp; exact h.2 q (by omega) (by omega)
  · by_cases hq : q = j
    · subst hq
      have := h.1 p (q - 1) h1 (by omega) (by omega) hp (by omega)
      omega
    · exact h.1 p q h1 h2 (by omega) hp hq
theorem InsInv.step {κ : Int → Int} {a i j : Nat} {d : Nat → Int} (h : InsInv κ a i j d) (hj : a < j ∧ j ≤ i) (hs : κ (d j) < κ (d (j - 1))) : InsInv κ a i (j - 1) (sw d j (j - 1)) := by
  have e1 : sw d j (j - 1) j = d (j - 1) := by unfold sw; rw [if_pos rfl]
  have e2 : sw d j (j - 1) (j - 1) = d j := by unfold sw; rw [if_neg (by omega), if_pos rfl]
  have e3 : ∀ k, k ≠ j → k ≠ j - 1 → sw d j (j - 1) k = d k := fun k h1 h2 => by unfold sw; rw [if_neg h1, if_neg h2]
  refine ⟨fun p q h1 h2 h3 h4 h5 => ?_, fun q h1 h2 => ?_⟩
  · by_cases hp : p = j
    · subst hp
      by_cases hq : q = p
      · subst hq; omega
      · rw [e1, e3 q hq h5]; exact h.1 (p - 1) q (by omega) (by omega) h3 (by omega) hq
    · by_cases hq : q = j
      · subst hq
        rw [e1, e3 p hp h4]; exact h.1 p (q - 1) h1 (by omega) (by omega) hp (by omega)
      · rw [e3 p hp h4, e3 q hq h5]; exact h.1 p q h1 h2 h3 hp hq
  · rw [e2]
    by_cases hq : q = j
    · subst hq; rw [e1]; omega
    · rw [e3 q hq (by omega)]; exact h.2 q (by omega) h2

/-- Two sorted parts, all of the first no more than all of the second. -/
theorem Sd.join {κ : Int → Int} {a m b : Nat} {d : Nat → Int} (h1 : Sd κ a m d) (h2 : Sd κ m b d) (h : ∀ i j, a ≤ i → i < m → m ≤ j → j < b → κ (d i) ≤ κ (d j)) : Sd κ a b d := by
  intro i j h3 h4 h5
  by_cases hi : i < m
  · by_cases hj : j < m
    · exact h1 i j h3 h4 hj
    · exact h i j h3 hi (by omega) h5
  · exact h2 i j (by omega) h4 h5

/-- One element ahead is carried to its place. -/
theorem one_up {κ : Int → Int} {a i b : Nat} {d : Nat → Int} (hs : Sd κ (a + 1) b d) (h1 : a + 1 ≤ i) (h2 : i ≤ b) (hl : i = a + 1 ∨ κ (d (i - 1)) < κ (d a)) (hr : i = b ∨ κ (d a) ≤ κ (d i)) : Sd κ a b (rot a (a + 1) i d) := by
  have e1 : ∀ k, a ≤ k → k < i - 1 → rot a (a + 1) i d k = d (k + 1) := fun k h3 h4 => by unfold rot; rw [if_pos (by omega), if_pos (by omega)]; congr 1; omega
  have e2 : rot a (a + 1) i d (i - 1) = d a := by unfold rot; rw [if_pos (by omega), if_neg (by omega)]; congr 1; omega
  have e3 : ∀ k, i ≤ k → rot a (a + 1) i d k = d k := fun k h3 => by unfold rot; rw [if_neg (by omega)]
  intro p q hp hpq hq
  rcases Nat.lt_trichotomy p (i - 1) with h | h | h
  · rw [e1 p hp h]
    rcases Nat.lt_trichotomy q (i - 1) with h' | h' | h'
    · rw [e1 q (by omega) h']; exact hs _ _ (by omega) (by omega) (by omega)
    · rw [h', e2]
      have := hs (p + 1) (i - 1) (by omega) (by omega) (by omega)
      omega
    · rw [e3 q (by omega)]; exact hs _ _ (by omega) (by omega) hq
  · rw [h, e2]
    rcases Nat.lt_or_ge q i with h' | h'
    · rw [show q = i - 1 from by omega, e2]; omega
    · rw [e3 q h']
      have := hs i q (by omega) h' hq
      omega
  · rw [e3 p (by omega), e3 q (by omega)]; exact hs _ _ (by omega) hpq hq
/-- One element behind is carried to its place. -/
theorem one_down {κ : Int → Int} {a i m : Nat} {d : Nat → Int} (hs : Sd κ a m d) (h1 : a ≤ i) (h2 : i ≤ m) (hl : i = a ∨ κ (d (i - 1)) ≤ κ (d m)) (hr : i = m ∨ κ (d m) < κ (d i)) : Sd κ a (m + 1) (rot i m (m + 1) d) := by
  have e1 : ∀ k, i < k → k < m + 1 → rot i m (m + 1) d k = d (k - 1) := fun k h3 h4 => by unfold rot; rw [if_pos (by omega), if_neg (by omega)]; congr 1; omega
  have e2 : rot i m (m + 1) d i = d m := by unfold rot; rw [if_pos (by omega), if_pos (by omega)]; congr 1; omega
  have e3 : ∀ k, k < i → rot i m (m + 1) d k = d k := fun k h3 => by unfold rot; rw [if_neg (by omega)]
  intro p q hp hpq hq
  rcases Nat.lt_trichotomy p i with h | h | h
  · rw [e3 p h]
    rcases Nat.lt_trichotomy q i with h' | h' | h'
    · rw [e3 q h']; exact hs _ _ hp hpq (by omega)
    · rw [h', e2]
      have := hs p (i - 1) hp (by omega) (by omega)
      omega
    · rw [e1 q h' (by omega)]; exact hs _ _ hp (by omega) (by omega)
  · subst h
    rw [e2]
    rcases Nat.eq_or_lt_of_le hpq with h' | h'
    · rw [← h', e2]; omega
    · rw [e1 q h' (by omega)]
      have := hs p (q - 1) (by omega) (by omega) (by omega)
      omega
  · rw [e1 p h (by omega), e1 q (by omega) (by omega)]; exact hs _ _ (by omega) (by omega) (by omega)

/-- Where symMerge cuts. -/
structure Cut (κ : Int → Int) (a m b mid s : Nat) (d : Nat → Int) : Prop where
  sa : a ≤ s
  sm : s ≤ m
  smid : s ≤ mid
  eb : mid + m - s ≤ b
  low : s = a ∨ mid + m - s = b ∨ κ (d (s - 1)) ≤ κ (d (mid + m - s))
  high : s = m ∨ s = mid ∨ κ (d (mid + m - 1 - s)) < κ (d s)

section
variable {κ : Int → Int} {a m b mid s : Nat} {d : Nat → Int}
theorem Cut.parts (h : Cut κ a m b mid s d) (h1 : Sd κ a m d) (h2 : Sd κ m b d) :
    Sd κ a s (rot s m (mid + m - s) d) ∧ Sd κ s mid (rot s m (mid + m - s) d) ∧ Sd κ mid (mid + m - s) (rot s m (mid + m - s) d) ∧ Sd κ (mid + m - s) b (rot s m (mid + m - s) d) ∧
    ∀ i j, a ≤ i → i < mid → mid ≤ j → j < b → κ (rot s m (mid + m - s) d i) ≤ κ (rot s m (mid + m - s) d j) := by
  obtain ⟨sa, sm, smid, eb, low, high⟩ := h
  have e0 : ∀ k, k < s → rot s m (mid + m - s) d k = d k := fun k h3 => by unfold rot; rw [if_neg (by omega)]
  have e1 : ∀ k, s ≤ k → k < mid → rot s m (mid + m - s) d k = d (k + (m - s)) := fun k h3 h4 => by unfold rot; rw [if_pos (by omega), if_pos (by omega)]
  have e2 : ∀ k, mid ≤ k → k < mid + m - s → rot s m (mid + m - s) d k = d (k - (mid - s)) := fun k h3 h4 => by unfold rot; rw [if_pos (by omega), if_neg (by omega)]; congr 1; omega
  have e3 : ∀ k, mid + m - s ≤ k → rot s m (mid + m - s) d k = d k := fun k h3 => by unfold rot; rw [if_neg (by omega)]
  refine ⟨?_, ?_, ?_, ?_, ?_⟩
  · intro i j hi hij hj; rw [e0 i (by omega), e0 j hj]; exact h1 i j hi hij (by omega)
  · intro i j hi hij hj; rw [e1 i hi (by omega), e1 j (by omega) hj]; exact h2 _ _ (by omega) (by omega) (by omega)
  · intro i j hi hij hj; rw [e2 i hi (by omega), e2 j (by omega) hj]; exact h1 _ _ (by omega) (by omega) (by omega)
  · intro i j hi hij hj; rw [e3 i hi, e3 j (by omega)]; exact h2 i j (by omega) hij hj
  · intro i j hi him hmj hj
    by_cases hi' : i < s
    · rw [e0 i hi']
      by_cases hj' : j < mid + m - s
      · rw [e2 j hmj hj']; exact h1 _ _ hi (by omega) (by omega)
      · rw [e3 j (by omega)]
        have a1 := h1 i (s - 1) hi (by omega) (by omega)
        have a2 := h2 (mid + m - s) j (by omega) (by omega) hj
        omega
    · rw [e1 i (by omega) him]
      by_cases hj' : j < mid + m - s
      · rw [e2 j hmj hj']
        have a1 := h2 (i + (m - s)) (mid + m - 1 - s) (by omega) (by omega) (by omega)
        have a2 := h1 s (j - (mid - s)) (by omega) (by omega) (by omega)
        omega
      · rw [e3 j (by omega)]; exact h2 _ _ (by omega) (by omega) hj

/-- The two halves sorted, all is. -/
theorem Cut.whole {n : Nat} {d1 d2 d3 : Nat → Int} (hx : ∀ i j, a ≤ i → i < mid → mid ≤ j → j < b → κ (d1 i) ≤ κ (d1 j)) (m1 : Mv n a mid d1 d2) (s1 : Sd κ a mid d2) (m2 : Mv n mid b d2 d3) (s2 : Sd κ mid b d3) : Sd κ a b d3 := by
  refine Sd.join (m := mid) ?_ s2 ?_
  · intro i j h1 h2 h3
    rw [m2.out i (by omega), m2.out j (by omega)]
    exact s1 i j h1 h2 h3
  · intro i j h1 h2 h3 h4
    obtain ⟨i', a1, a2, a3⟩ := m1.frm i h1 h2
    obtain ⟨j', b1, b2, b3⟩ := m2.frm j h3 h4
    rw [m2.out i (by omega), a3, b3, m1.out j' (by omega)]
    exact hx i' j' a1 a2 b1 b2
end

theorem Sd.mv {κ : Int → Int} {n a b x y : Nat} {d d' : Nat → Int} (h : Sd κ x y d) (hm : Mv n a b d d') (hx : b ≤ x) : Sd κ x y d' := fun i j h1 h2 h3 => by
  rw [hm.out i (by omega), hm.out j (by omega)]; exact h i j h1 h2 h3
/-- symMerge's end. -/
theorem sym_end {κ : Int → Int} {n a m b mid s : Nat} {d d1 d2 d3 : Nat → Int} (hc : Cut κ a m b mid s d) (h1 : Sd κ a m d) (h2 : Sd κ m b d) (ham : a ≤ mid) (hmb : mid ≤ b) (e1 : d1 = rot s m (mid + m - s) d) (m0 : Mv n a b d d1) (m1 : Mv n a mid d1 d2) (s1 : Sd κ a mid d2) (m2 : Mv n mid b d2 d3) (s2 : Sd κ mid b d3) : Mv n a b d d3 ∧ Sd κ a b d3 := by
  refine ⟨(m0.trans (m1.mono (Nat.le_refl _) hmb)).trans (m2.mono ham (Nat.le_refl _)), ?_⟩
  have hx := (hc.parts h1 h2).2.2.2.2
  rw [← e1] at hx
  exact Cut.whole hx m1 s1 m2 s2
theorem Mv.swr {n A B : Nat} {a b c : Nat} (h1 : A ≤ a) (h2 : b + c ≤ B) (h3 : B ≤ n) (h4 : a + c ≤ b) (d : Nat → Int) : Mv n A B d (swr a b c d) := by
  induction c with
  | zero => rw [swr_zero]; exact Mv.refl _ _ _ _
  | succ c ih =>
    rw [← swr_succ h4]
    exact (ih (by omega) (by omega)).trans (Mv.sw _ (by omega) (by omega) h3)

/-- Sorted in blocks. -/
def Bs (κ : Int → Int) (bs n : Nat) (d : Nat → Int) : Prop := ∀ i j, i ≤ j → j < n → i / bs = j / bs → κ (d i) ≤ κ (d j)
/-- Sorted in blocks of twice the size up to a, of the size from there on. -/
def Ms (κ : Int → Int) (bs a n : Nat) (d : Nat → Int) : Prop :=
  (∀ i j, i ≤ j → j < a → i / (2 * bs) = j / (2 * bs) → κ (d i) ≤ κ (d j)) ∧ ∀ i j, a ≤ i → i ≤ j → j < n → i / bs = j / bs → κ (d i) ≤ κ (d j)
def isBs (bs : Nat) : Prop := bs = 20 ∨ bs = 40 ∨ bs = 80 ∨ bs = 160

theorem Ms.start {κ : Int → Int} {bs n : Nat} {d : Nat → Int} (h : Bs κ bs n d) : Ms κ bs 0 n d := ⟨fun i j h1 h2 => by omega, fun i j _ h2 h3 h4 => h i j h2 h3 h4⟩
theorem Ms.halves {κ : Int → Int} {bs a n : Nat} {d : Nat → Int} (hb : isBs bs) (h : Ms κ bs a n d) (ha : a % (2 * bs) = 0) (b : Nat) (h2 : b ≤ n) (h3 : b ≤ a + 2 * bs) : Sd κ a (min (a + bs) b) d ∧ Sd κ (a + bs) b d := by
  refine ⟨fun i j h4 h5 h6 => h.2 i j h4 h5 (by omega) ?_, fun i j h4 h5 h6 => h.2 i j (by omega) h5 (by omega) ?_⟩ <;> rcases hb with rfl | rfl | rfl | rfl <;> omega
theorem Ms.step {κ : Int → Int} {bs a n : Nat} {d d' : Nat → Int} (hb : isBs bs) (h : Ms κ bs a n d) (ha : a % (2 * bs) = 0) (hn : a + 2 * bs ≤ n) (hm : Mv n a (a + 2 * bs) d d') (hs : Sd κ a (a + 2 * bs) d') : Ms κ bs (a + 2 * bs) n d' ∧ (a + 2 * bs) % (2 * bs) = 0 := by
  refine ⟨⟨fun i j h1 h2 h3 => ?_, fun i j h1 h2 h3 h4 => ?_⟩, by rcases hb with rfl | rfl | rfl | rfl <;> omega⟩
  · by_cases hi : a ≤ i
    · exact hs i j hi h1 h2
    · have : j < a := by rcases hb with rfl | rfl | rfl | rfl <;> omega
      rw [hm.out i (by omega), hm.out j (by omega)]
      exact h.1 i j h1 this h3
  · rw [hm.out i (by omega), hm.out j (by omega)]
    exact h.2 i j (by omega) h2 h3 h4
/-- The last, shorter part is sorted too. -/
theorem Ms.last {κ : Int → Int} {bs a n : Nat} {d d' : Nat → Int} (hb : isBs bs) (h : Ms κ bs a n d) (ha : a % (2 * bs) = 0) (han : a ≤ n) (hn : n < a + 2 * bs) (hm : Mv n a n d d') (hs : Sd κ a n d') : Bs κ (2 * bs) n d' := by
  intro i j h1 h2 h3
  by_cases hi : a ≤ i
  · exact hs i j hi h1 h2
  · have : j < a := by rcases hb with rfl | rfl | rfl | rfl <;> omega
    rw [hm.out i (by omega), hm.out j (by omega)]
    exact h.1 i j h1 this h3

end Go.Proofs.YtolcdlopgbgilaaGreatDoor
