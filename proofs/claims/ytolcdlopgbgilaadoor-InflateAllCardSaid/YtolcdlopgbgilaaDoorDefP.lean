/- Plain: what deflate writes of pieces is read back by inflate's questions (Pr): the symbols of a block. -/
import Derived.Test.YtolcdlopgbgilaaDoorInfP
import Derived.Test.YtolcdlopgbgilaaDoorKraft
namespace Go.Proofs.YtolcdlopgbgilaaDoor
open Go.RowKit Go.Dray

/-- A piece: a byte and 0, or a run's size and how far back it is. -/
abbrev Piece := Int × Int
def grow1 (o : List Int) (x : Piece) : List Int := if x.2 = 0 then o ++ [x.1] else o ++ cp o x.2.toNat x.1.toNat
def expand (ps : List Piece) (o : List Int) : List Int := ps.foldl grow1 o
def PieceOk (o : List Int) (x : Piece) : Prop := (x.2 = 0 ∧ 0 ≤ x.1 ∧ x.1 ≤ 255) ∨ (3 ≤ x.1 ∧ x.1 ≤ 258 ∧ 1 ≤ x.2 ∧ x.2 ≤ 32768 ∧ x.2 ≤ o.length)
def PiecesOk : List Piece → List Int → Prop
  | [], _ => True
  | x :: ps, o => PieceOk o x ∧ PiecesOk ps (grow1 o x)
theorem expand_nil (o : List Int) : expand [] o = o := rfl
theorem expand_cons (x : Piece) (ps : List Piece) (o : List Int) : expand (x :: ps) o = expand ps (grow1 o x) := rfl
theorem expand_snoc (ps : List Piece) (x : Piece) (o : List Int) : expand (ps ++ [x]) o = grow1 (expand ps o) x := by simp [expand]
theorem PiecesOk.snoc {ps : List Piece} {x : Piece} : ∀ {o : List Int}, PiecesOk ps o → PieceOk (expand ps o) x → PiecesOk (ps ++ [x]) o := by
  induction ps with
  | nil => intro o _ h; exact ⟨h, trivial⟩
  | cons y ps ih => intro o h h2; exact ⟨h.1, ih h.2 h2⟩
theorem grow1_len {o : List Int} {x : Piece} : o.length ≤ (grow1 o x).length := by
  unfold grow1
  split <;> rw [List.length_append] <;> omega
theorem expand_len (ps : List Piece) : ∀ o : List Int, o.length ≤ (expand ps o).length := by
  induction ps with
  | nil => intro o; exact Nat.le_refl _
  | cons x ps ih => intro o; exact Nat.le_trans grow1_len (ih _)

/-- The symbol of a run's size, the number behind it, and of how many bits. -/
def lsym (size : Int) : Int × Int × Nat :=
  if size = 258 then (285, 0, 0) else if size - 3 < 8 then (257 + (size - 3), 0, 0) else
    let k := (size - 3).toNat.log2 - 2
    (257 + 4 * ((k : Int) + 1) + (size - 3) / 2 ^ k - 4, (size - 3) % 2 ^ k, k)
def dsym (back : Int) : Int × Int × Nat :=
  if back - 1 < 4 then (back - 1, 0, 0) else
    let k := (back - 1).toNat.log2 - 1
    (2 * ((k : Int) + 1) + (back - 1) / 2 ^ k - 2, (back - 1) % 2 ^ k, k)

/-- What a size's symbol must say. -/
def lsymB (size : Int) : Bool :=
  let x := lsym size
  let i := x.1 - 257
  decide (0 ≤ i) && decide (i ≤ 28) && decide (0 ≤ x.2.1) && decide (x.2.1 < 2 ^ x.2.2) && decide (x.2.2 ≤ 5) &&
    (if i < 8 then decide (x.2.2 = 0) && decide (3 + i = size) else if i = 28 then decide (x.2.2 = 0) && decide (size = 258) else decide (x.2.2 = (i / 4 - 1).toNat) && decide (3 + (4 + i % 4) * 2 ^ (i / 4 - 1).toNat + x.2.1 = size))
theorem lsym_all : (List.range 256).all (fun n => lsymB ((n : Int) + 3)) = true := by decide +kernel
theorem lsym_ok {size : Int} (h1 : 3 ≤ size) (h2 : size ≤ 258) : lsymB size = true := by
  have h := List.all_eq_true.1 lsym_all (size - 3).toNat (by rw [List.mem_range]; omega)
  rw [show (((size - 3).toNat : Nat) : Int) + 3 = size from by omega] at h
  exact h
theorem lsym_bd {size : Int} (h1 : 3 ≤ size) (h2 : size ≤ 258) : 257 ≤ (lsym size).1 ∧ (lsym size).1 ≤ 285 ∧ 0 ≤ (lsym size).2.1 ∧ (lsym size).2.1 < 2 ^ (lsym size).2.2 ∧ (lsym size).2.2 ≤ 5 := by
  have h := lsym_ok h1 h2
  simp only [lsymB, Bool.and_eq_true, decide_eq_true_eq] at h
  obtain ⟨⟨⟨⟨⟨a, b⟩, c⟩, d⟩, e⟩, f⟩ := h
  exact ⟨by omega, by omega, c, d, e⟩

theorem log2_of {v k : Nat} (h1 : 2 ^ k ≤ v) (h2 : v < 2 ^ (k + 1)) : v.log2 = k := by
  have h0 : v ≠ 0 := by have := Nat.two_pow_pos k; omega
  have a := (Nat.le_log2 h0 (k := k)).2 h1
  have b := (Nat.log2_lt h0 (k := k + 1)).2 h2
  omega
/-- What a distance's symbol must say. -/
structure DsymOk (back : Int) : Prop where
  lo : 0 ≤ (dsym back).1
  hi : (dsym back).1 ≤ 29
  m0 : 0 ≤ (dsym back).2.1
  m1 : (dsym back).2.1 < 2 ^ (dsym back).2.2
  n13 : (dsym back).2.2 ≤ 13
  small : (dsym back).1 < 4 → (dsym back).2.2 = 0 ∧ 1 + (dsym back).1 = back
  big : 4 ≤ (dsym back).1 → (dsym back).2.2 = ((dsym back).1 / 2 - 1).toNat ∧ 1 + (2 + (dsym back).1 % 2) * 2 ^ ((dsym back).1 / 2 - 1).toNat + (dsym back).2.1 = back
theorem dsym_ok {back : Int} (h1 : 1 ≤ back) (h2 : back ≤ 32768) : DsymOk back := by
  by_cases h4 : back - 1 < 4
  · have e : dsym back = (back - 1, 0, 0) := by unfold dsym; rw [if_pos h4]
    constructor <;> rw [e] <;> (try simp only []) <;> (try omega)
    · intro _; constructor <;> first | trivial | omega
  · obtain ⟨v, hv⟩ : ∃ v : Nat, (v : Int) = back - 1 := ⟨(back - 1).toNat, by omega⟩
    obtain ⟨k, hk1, hk2, hk13⟩ : ∃ k : Nat, 2 ^ (k + 1) ≤ v ∧ v < 2 ^ (k + 2) ∧ (1 ≤ k ∧ k ≤ 13) := by
      have h0 : v ≠ 0 := by omega
      have a : 2 ≤ v.log2 := (Nat.le_log2 h0 (k := 2)).2 (by omega)
      have b : v.log2 < 15 := (Nat.log2_lt h0 (k := 15)).2 (by omega)
      refine ⟨v.log2 - 1, ?_, ?_, by omega, by omega⟩
      · rw [show v.log2 - 1 + 1 = v.log2 from by omega]; exact Nat.log2_self_le h0
      · rw [show v.log2 - 1 + 2 = v.log2 + 1 from by omega]; exact Nat.lt_log2_self
    have hlog : v.log2 = k + 1 := log2_of hk1 hk2
    have e : dsym back = (2 * ((k : Int) + 1) + (v : Int) / 2 ^ k - 2, (v : Int) % 2 ^ k, k) := by
      unfold dsym
      rw [if_neg h4, ← hv, Int.toNat_natCast, hlog]
      rfl
    have hq : (v : Int) / 2 ^ k = 2 ∨ (v : Int) / 2 ^ k = 3 := by
      have hp := Nat.two_pow_pos k
      have e1 : (2 : Nat) ^ (k + 1) = 2 ^ k * 2 := Nat.pow_succ ..
      have e2 : (2 : Nat) ^ (k + 2) = 2 ^ k * 4 := by rw [Nat.pow_add]
      have a : 2 ≤ v / 2 ^ k := (Nat.le_div_iff_mul_le hp).2 (by omega)
      have b : v / 2 ^ k < 4 := Nat.div_lt_of_lt_mul (by omega)
      have c : (v : Int) / 2 ^ k = ((v / 2 ^ k : Nat) : Int) := by simp
      omega
    have hp : (0 : Int) < 2 ^ k := Int.pow_pos (by decide)
    have hm0 := Int.emod_nonneg (v : Int) (Int.ne_of_gt hp)
    have hm1 := Int.emod_lt_of_pos (v : Int) hp
    have hd := Int.mul_ediv_add_emod (v : Int) (2 ^ k)
    constructor <;> rw [e] <;> (try simp only [])
    · omega
    · omega
    · exact hm0
    · exact hm1
    · omega
    · intro h; omega
    · intro _
      have e1 : ((2 * ((k : Int) + 1) + (v : Int) / 2 ^ k - 2) / 2 - 1).toNat = k := by rcases hq with h | h <;> rw [h] <;> omega
      rw [e1]
      refine ⟨rfl, ?_⟩
      rcases hq with h | h
      · rw [h] at hd ⊢
        rw [show (2 * ((k : Int) + 1) + 2 - 2) % 2 = 0 from by omega, show (2 : Int) + 0 = 2 from rfl, Int.mul_comm]
        omega
      · rw [h] at hd ⊢
        rw [show (2 * ((k : Int) + 1) + 3 - 2) % 2 = 1 from by omega, show (2 : Int) + 1 = 3 from rfl, Int.mul_comm 3]
        omega

/-- A symbol that has a row. -/
def Has (zs : List Int) (t : Nat) : Prop := t < zs.length ∧ 0 < zs.getD t 0

theorem next_row' {zs : List Int} (h : chk zs = 0) {t : Nat} (ht : Has zs t) (rest : List Bool) : NextIs zs (rowOf zs t ++ rest) (rowOf zs t).length t 0 := by
  obtain ⟨ht, hp⟩ := ht
  have hl := rowOf_len zs t
  refine ⟨by rw [List.length_append]; omega, fun j h1 h2 => ?_, Or.inr (Or.inr ⟨rfl, by omega, t, rfl, ?_⟩)⟩
  · rw [goesOn, List.take_append_of_le_length (by omega)]
    refine ⟨Or.inr ⟨t, ht, hp, List.take_prefix _ _⟩, leafF_none.2 fun u hu hup he => ?_⟩
    have e := rowOf_apart h ht hu hp hup (by rw [he]; exact List.take_prefix _ _)
    subst e
    have := congrArg List.length he
    rw [List.length_take] at this
    omega
  · rw [List.take_left']
    · exact leafF_row h ht hp
    · rfl

/-- The bits from p on begin with X. -/
def Beg (bs : List Bool) (p : Nat) (X : List Bool) : Prop := ∃ Y, bs.drop p = X ++ Y
theorem Beg.app {bs : List Bool} {p : Nat} {X Z : List Bool} (h : Beg bs p (X ++ Z)) : Beg bs p X ∧ Beg bs (p + X.length) Z := by
  obtain ⟨Y, hY⟩ := h
  refine ⟨⟨Z ++ Y, by rw [hY, List.append_assoc]⟩, ⟨Y, ?_⟩⟩
  rw [← List.drop_drop, hY, List.append_assoc, List.drop_left']
  rfl
theorem Beg.len {bs : List Bool} {p : Nat} {X : List Bool} (h : Beg bs p X) (hp : p ≤ bs.length) : p + X.length ≤ bs.length := by
  obtain ⟨Y, hY⟩ := h
  have := congrArg List.length hY
  rw [List.length_drop, List.length_append] at this
  omega

theorem run_next_row {bs : List Bool} {most p : Nat} {o : List Int} {zs : List Int} {k : Int → Pr} (h : chk zs = 0) {t : Nat} (ht : Has zs t) (hb : Beg bs p (rowOf zs t)) : run bs most (.next zs k) p o = run bs most (k t) (p + (rowOf zs t).length) o := by
  obtain ⟨Y, hY⟩ := hb
  have hn := nextF_eq (next_row' h ht Y)
  rw [run, hY, hn]
  exact if_pos rfl
theorem digits_len (v : Int) (n : Nat) : (digits v n).length = n := tab_len _ _
theorem run_take_dig {bs : List Bool} {most p : Nat} {o : List Int} {k : Int → Pr} {v : Int} {n : Nat} (h0 : 0 ≤ v) (h1 : v < 2 ^ n) (hp : p ≤ bs.length) (hb : Beg bs p (digits v n)) : run bs most (.take n k) p o = run bs most (k v) (p + n) o := by
  have hl := hb.len hp
  rw [digits_len] at hl
  obtain ⟨Y, hY⟩ := hb
  rw [run, if_pos hl, hY, List.take_left' (digits_len v n), digits_num, Int.emod_eq_of_lt h0 h1]

theorem run_len {bs : List Bool} {most p : Nat} {o : List Int} {k : Int → Pr} {size : Int} (h1 : 3 ≤ size) (h2 : size ≤ 258) (hp : p ≤ bs.length) (hb : Beg bs p (digits (lsym size).2.1 (lsym size).2.2)) :
    run bs most (lenPr ((lsym size).1 - 257) k) p o = run bs most (k size) (p + (lsym size).2.2) o := by
  have h := lsym_ok h1 h2
  simp only [lsymB, Bool.and_eq_true, decide_eq_true_eq] at h
  obtain ⟨⟨⟨⟨⟨a, b⟩, c⟩, d⟩, e⟩, f⟩ := h
  generalize lsym size = x at *
  unfold lenPr
  by_cases h8 : x.1 - 257 < 8
  · rw [if_pos h8] at f ⊢
    simp only [Bool.and_eq_true, decide_eq_true_eq] at f
    rw [f.1, f.2]
    rfl
  · rw [if_neg h8] at f ⊢
    by_cases h28 : x.1 - 257 = 28
    · rw [if_pos h28] at f ⊢
      simp only [Bool.and_eq_true, decide_eq_true_eq] at f
      rw [f.1, ← f.2]
      rfl
    · rw [if_neg h28] at f ⊢
      simp only [Bool.and_eq_true, decide_eq_true_eq] at f
      obtain ⟨f1, f2⟩ := f
      rw [← f1] at f2 ⊢
      rw [run_take_dig c d hp hb, f2]
theorem run_dist {bs : List Bool} {most p : Nat} {o : List Int} {k : Int → Pr} {back : Int} (h1 : 1 ≤ back) (h2 : back ≤ 32768) (hp : p ≤ bs.length) (hb : Beg bs p (digits (dsym back).2.1 (dsym back).2.2)) :
    run bs most (distPr (dsym back).1 k) p o = run bs most (k back) (p + (dsym back).2.2) o := by
  have h := dsym_ok h1 h2
  unfold distPr
  by_cases h4 : (dsym back).1 < 4
  · rw [if_pos h4, (h.small h4).1, (h.small h4).2]
    rfl
  · have hb2 := h.big (by omega)
    rw [if_neg h4, ← hb2.1]
    rw [run_take_dig h.m0 h.m1 hp hb]
    rw [← hb2.1] at hb2
    rw [hb2.2]

def pieceBits (lz dz : List Int) (x : Piece) : List Bool :=
  if x.2 = 0 then rowOf lz x.1.toNat else
    rowOf lz (lsym x.1).1.toNat ++ (digits (lsym x.1).2.1 (lsym x.1).2.2 ++ (rowOf dz (dsym x.2).1.toNat ++ digits (dsym x.2).2.1 (dsym x.2).2.2))
def piecesBits (lz dz : List Int) (ps : List Piece) : List Bool := ps.flatMap (pieceBits lz dz)
def blockBits (lz dz : List Int) (ps : List Piece) : List Bool := piecesBits lz dz ps ++ rowOf lz 256
theorem piecesBits_snoc (lz dz : List Int) (ps : List Piece) (x : Piece) : piecesBits lz dz (ps ++ [x]) = piecesBits lz dz ps ++ pieceBits lz dz x := by simp [piecesBits]
def PieceHas (lz dz : List Int) (x : Piece) : Prop := if x.2 = 0 then Has lz x.1.toNat else Has lz (lsym x.1).1.toNat ∧ Has dz (dsym x.2).1.toNat

theorem sym_back {bs : List Bool} {most : Nat} {lz dz : List Int} {k : Pr} (hl : chk lz = 0) (hd : chk dz = 0) (h256 : Has lz 256) (ps : List Piece) :
    ∀ (o : List Int) (p f : Nat), p ≤ bs.length → (∀ x ∈ ps, PieceHas lz dz x) → PiecesOk ps o → Beg bs p (blockBits lz dz ps) → ps.length < f → (expand ps o).length ≤ most →
      run bs most (symPr lz dz f k) p o = run bs most k (p + (blockBits lz dz ps).length) (expand ps o) := by
  induction ps with
  | nil =>
    intro o p f hp _ _ hb hf _
    obtain ⟨f, rfl⟩ : ∃ f', f = f' + 1 := ⟨f - 1, by simp at hf; omega⟩
    rw [symPr, run_next_row hl h256 hb, if_pos (show ((256 : Nat) : Int) = 256 from rfl)]
    rfl
  | cons x ps ih =>
    intro o p f hp hh hok hb hf hm
    obtain ⟨f, rfl⟩ : ∃ f', f = f' + 1 := ⟨f - 1, by simp at hf; omega⟩
    have hx := hh x (by simp)
    have hrest : ∀ y ∈ ps, PieceHas lz dz y := fun y hy => hh y (by simp [hy])
    have e0 : blockBits lz dz (x :: ps) = pieceBits lz dz x ++ blockBits lz dz ps := by simp [blockBits, piecesBits]
    rw [e0] at hb ⊢
    obtain ⟨hb1, hb2⟩ := hb.app
    have hlen1 := hb1.len hp
    rw [expand_cons] at hm ⊢
    have hgm : (grow1 o x).length ≤ most := Nat.le_trans (expand_len ps _) hm
    have hgo := ih (grow1 o x) (p + (pieceBits lz dz x).length) f hlen1 hrest hok.2 hb2 (by simp at hf; omega) hm
    rw [List.length_append, ← Nat.add_assoc, ← hgo]
    rcases hok.1 with ⟨h0, h1, h2⟩ | ⟨h1, h2, h3, h4, h5⟩
    · have eb : pieceBits lz dz x = rowOf lz x.1.toNat := by unfold pieceBits; rw [if_pos h0]
      have eg : grow1 o x = o ++ [x.1] := by unfold grow1; rw [if_pos h0]
      unfold PieceHas at hx
      rw [if_pos h0] at hx
      rw [eb] at hb1 ⊢
      rw [eg] at hgm ⊢
      rw [symPr, run_next_row hl hx hb1, if_neg (by omega), if_neg (by omega)]
      rw [run, if_pos (by rw [List.length_append] at hgm; exact hgm), show ((x.1.toNat : Nat) : Int) = x.1 from by omega]
    · have hn0 : ¬ x.2 = 0 := by omega
      have eb : pieceBits lz dz x = rowOf lz (lsym x.1).1.toNat ++ (digits (lsym x.1).2.1 (lsym x.1).2.2 ++ (rowOf dz (dsym x.2).1.toNat ++ digits (dsym x.2).2.1 (dsym x.2).2.2)) := by unfold pieceBits; rw [if_neg hn0]
      have eg : grow1 o x = o ++ cp o x.2.toNat x.1.toNat := by unfold grow1; rw [if_neg hn0]
      unfold PieceHas at hx
      rw [if_neg hn0] at hx
      have hls := lsym_bd h1 h2
      have hds := dsym_ok h3 h4
      rw [eb] at hb1 ⊢
      obtain ⟨c1, c2⟩ := hb1.app
      have l1 := c1.len hp
      obtain ⟨c2, c3⟩ := c2.app
      have l2 := c2.len l1
      rw [digits_len] at c3 l2
      obtain ⟨c3, c4⟩ := c3.app
      have l3 := c3.len l2
      rw [eg] at hgm ⊢
      rw [symPr, run_next_row hl hx.1 c1, show (((lsym x.1).1.toNat : Nat) : Int) = (lsym x.1).1 from by omega, if_neg (by omega), if_pos (by omega)]
      unfold againPr
      rw [if_neg (by omega), run_len h1 h2 l1 c2, run_next_row hd hx.2 c3, show (((dsym x.2).1.toNat : Nat) : Int) = (dsym x.2).1 from by have := hds.lo; omega, if_neg (by have := hds.hi; omega)]
      rw [run_dist h3 h4 l3 c4, run, if_neg (by omega), run, cp_len, if_pos (by rw [List.length_append, cp_len] at hgm; exact hgm)]
      simp only [List.length_append, digits_len, Nat.add_assoc]

end Go.Proofs.YtolcdlopgbgilaaDoor
