/- Plain: symbols and pairs merged level by level (package-merge), and the lengths that come of taking the first items of each level. -/
import Derived.Test.YtndgijcjpkoooaaHuffA
namespace Go.Proofs.Ytndgijcjpkoooaa
open Go.RowKit Go.Dray

/-- The counts of the pairs of items. -/
def prs : List (Int × Bool) → List Int
  | a :: b :: r => (a.1 + b.1) :: prs r
  | _ => []
/-- Symbols and pairs by rising counts, symbols first. -/
def mrg : List (Int × Bool) → List Int → List (Int × Bool)
  | S, [] => S
  | [], p :: P => (p, false) :: mrg [] P
  | s :: S, p :: P => if s.1 ≤ p then s :: mrg S (p :: P) else (p, false) :: mrg (s :: S) P
termination_by S P => S.length + P.length
/-- How many are symbols. -/
def sy (l : List (Int × Bool)) : Nat := l.countP (·.2)
/-- The levels. -/
def lv (S : List (Int × Bool)) : Nat → List (Int × Bool)
  | 0 => S
  | k + 1 => mrg S (prs (lv S k))
def nth (B : List (Int × Bool)) (i : Nat) : Int := (B.getD i (0, false)).1
def Srt (l : List (Int × Bool)) : Prop := l.Pairwise fun a b => a.1 ≤ b.1

theorem getD_lt {α : Type} {l : List α} {i : Nat} (h : i < l.length) (d : α) : l.getD i d = l[i] := by simp [List.getD, h]
theorem prs_len (B : List (Int × Bool)) : (prs B).length = B.length / 2 := by
  induction B using prs.induct with
  | case1 a b r ih => simp only [prs, List.length_cons, ih]; omega
  | case2 l h => 
    match l, h with
    | [], _ => rfl
    | [a], _ => simp [prs]
    | a :: b :: r, h => exact absurd rfl (h a b r)
theorem prs_nth (B : List (Int × Bool)) : ∀ i, 2 * i + 1 < B.length → (prs B).getD i 0 = nth B (2 * i) + nth B (2 * i + 1) := by
  induction B using prs.induct with
  | case1 a b r ih =>
    intro i hi
    match i with
    | 0 => simp [prs, nth]
    | i + 1 =>
      simp only [List.length_cons] at hi
      have := ih i (by omega)
      rw [prs, List.getD_cons_succ, this]
      unfold nth
      rw [show 2 * (i + 1) = 2 * i + 1 + 1 from by omega, show 2 * i + 1 + 1 + 1 = (2 * i + 1) + 1 + 1 from rfl]
      simp only [List.getD_cons_succ]
  | case2 l h =>
    intro i hi
    match l, h with
    | [], _ => simp at hi
    | [a], _ => simp at hi
    | a :: b :: r, h => exact absurd rfl (h a b r)
theorem prs_mem {B : List (Int × Bool)} {x : Int} (h : x ∈ prs B) : ∃ c ∈ B, ∃ d ∈ B, x = c.1 + d.1 := by
  induction B using prs.induct with
  | case1 a b r ih =>
    rw [prs, List.mem_cons] at h
    rcases h with h | h
    · exact ⟨a, by simp, b, by simp, h⟩
    · obtain ⟨c, hc, d, hd, e⟩ := ih h
      exact ⟨c, by simp [hc], d, by simp [hd], e⟩
  | case2 l hl =>
    match l, hl with
    | [], _ => simp [prs] at h
    | [a], _ => simp [prs] at h
    | a :: b :: r, hl => exact absurd rfl (hl a b r)
theorem prs_sorted {B : List (Int × Bool)} (h : Srt B) : (prs B).Pairwise (· ≤ ·) := by
  induction B using prs.induct with
  | case1 a b r ih =>
    unfold Srt at h
    rw [List.pairwise_cons, List.pairwise_cons] at h
    obtain ⟨h1, h2, h3⟩ := h
    rw [prs, List.pairwise_cons]
    refine ⟨fun x hx => ?_, ih h3⟩
    obtain ⟨c, hc, d, hd, rfl⟩ := prs_mem hx
    have e1 := h1 c (by simp [hc])
    have e2 := h2 d hd
    omega
  | case2 l hl =>
    match l, hl with
    | [], _ => simp [prs]
    | [a], _ => simp [prs]
    | a :: b :: r, hl => exact absurd rfl (hl a b r)

theorem mrg_nil (S : List (Int × Bool)) : mrg S [] = S := by unfold mrg; rfl
theorem mrg_nil' (p : Int) (P : List Int) : mrg [] (p :: P) = (p, false) :: mrg [] P := by rw [mrg]
theorem mrg_le {s : Int × Bool} {p : Int} (h : s.1 ≤ p) (S : List (Int × Bool)) (P : List Int) : mrg (s :: S) (p :: P) = s :: mrg S (p :: P) := by rw [mrg, if_pos h]
theorem mrg_gt {s : Int × Bool} {p : Int} (h : ¬ s.1 ≤ p) (S : List (Int × Bool)) (P : List Int) : mrg (s :: S) (p :: P) = (p, false) :: mrg (s :: S) P := by rw [mrg, if_neg h]

theorem mrg_len (S : List (Int × Bool)) (P : List Int) : (mrg S P).length = S.length + P.length := by
  induction S, P using mrg.induct with
  | case1 S => rw [mrg_nil]; rfl
  | case2 p P ih => rw [mrg_nil', List.length_cons, ih]; simp
  | case3 s S p P h ih => rw [mrg_le h, List.length_cons, ih]; simp; omega
  | case4 s S p P h ih => rw [mrg_gt h, List.length_cons, ih]; simp; omega
theorem mrg_mem {S : List (Int × Bool)} {P : List Int} {y : Int × Bool} (h : y ∈ mrg S P) : y ∈ S ∨ ∃ p ∈ P, y = (p, false) := by
  induction S, P using mrg.induct with
  | case1 S => rw [mrg_nil] at h; exact Or.inl h
  | case2 p P ih =>
    rw [mrg_nil', List.mem_cons] at h
    rcases h with h | h
    · exact Or.inr ⟨p, by simp, h⟩
    · rcases ih h with h' | ⟨p', h1, h2⟩
      · exact Or.inl h'
      · exact Or.inr ⟨p', by simp [h1], h2⟩
  | case3 s S p P hle ih =>
    rw [mrg_le hle, List.mem_cons] at h
    rcases h with h | h
    · exact Or.inl (by simp [h])
    · rcases ih h with h' | h'
      · exact Or.inl (by simp [h'])
      · exact Or.inr h'
  | case4 s S p P hle ih =>
    rw [mrg_gt hle, List.mem_cons] at h
    rcases h with h | h
    · exact Or.inr ⟨p, by simp, h⟩
    · rcases ih h with h' | ⟨p', h1, h2⟩
      · exact Or.inl h'
      · exact Or.inr ⟨p', by simp [h1], h2⟩
theorem mrg_sorted {S : List (Int × Bool)} {P : List Int} (hS : Srt S) (hP : P.Pairwise (· ≤ ·)) : Srt (mrg S P) := by
  induction S, P using mrg.induct with
  | case1 S => rw [mrg_nil]; exact hS
  | case2 p P ih =>
    rw [List.pairwise_cons] at hP
    rw [mrg_nil', Srt, List.pairwise_cons]
    refine ⟨fun y hy => ?_, ih hS hP.2⟩
    rcases mrg_mem hy with h | ⟨p', h1, rfl⟩
    · simp at h
    · exact hP.1 p' h1
  | case3 s S p P hle ih =>
    have hS' := hS
    unfold Srt at hS
    rw [List.pairwise_cons] at hS
    rw [mrg_le hle, Srt, List.pairwise_cons]
    refine ⟨fun y hy => ?_, ih hS.2 hP⟩
    rcases mrg_mem hy with h | ⟨p', h1, rfl⟩
    · exact hS.1 y h
    · rw [List.mem_cons] at h1
      rcases h1 with rfl | h1
      · exact hle
      · rw [List.pairwise_cons] at hP
        have := hP.1 p' h1
        show s.1 ≤ p'
        omega
  | case4 s S p P hle ih =>
    have hS' := hS
    unfold Srt at hS
    rw [List.pairwise_cons] at hS
    rw [List.pairwise_cons] at hP
    rw [mrg_gt hle, Srt, List.pairwise_cons]
    refine ⟨fun y hy => ?_, ih hS' hP.2⟩
    show p ≤ y.1
    rcases mrg_mem hy with h | ⟨p', h1, rfl⟩
    · rw [List.mem_cons] at h
      rcases h with rfl | h
      · omega
      · have := hS.1 y h; omega
    · exact hP.1 p' h1
theorem mrg_filter {S : List (Int × Bool)} {P : List Int} (hS : ∀ s ∈ S, s.2 = true) : (mrg S P).filter (·.2) = S := by
  induction S, P using mrg.induct with
  | case1 S => rw [mrg_nil]; exact List.filter_eq_self.2 hS
  | case2 p P ih => rw [mrg_nil', List.filter_cons, ih hS]; rfl
  | case3 s S p P hle ih =>
    rw [mrg_le hle, List.filter_cons, ih fun x hx => hS x (by simp [hx]), if_pos (hS s (by simp))]
  | case4 s S p P hle ih => rw [mrg_gt hle, List.filter_cons, ih hS]; rfl

theorem sy_cons (s : Int × Bool) (l : List (Int × Bool)) : sy (s :: l) = sy l + if s.2 then 1 else 0 := by unfold sy; rw [List.countP_cons]
theorem sy_all {S : List (Int × Bool)} (hS : ∀ s ∈ S, s.2 = true) : sy S = S.length := by unfold sy; rw [List.countP_eq_length]; exact hS
theorem sy_le (l : List (Int × Bool)) : sy l ≤ l.length := List.countP_le_length

/-- Symbols that weigh no more than the last pair taken are taken too. -/
theorem mrg_take (S : List (Int × Bool)) (P : List Int) (hS : ∀ s ∈ S, s.2 = true) : ∀ t q k : Nat, t ≤ (mrg S P).length → sy ((mrg S P).take t) + (k + 1) = t → q ≤ S.length → (∀ s ∈ S.take q, s.1 ≤ P.getD k 0) → q ≤ sy ((mrg S P).take t) := by
  induction S, P using mrg.induct with
  | case1 S =>
    intro t q k ht hk hq hle
    rw [mrg_nil] at ht hk
    rw [sy_all (fun s hs => hS s (List.mem_of_mem_take hs)), List.length_take] at hk
    omega
  | case2 p P ih =>
    intro t q k ht hk hq hle
    simp at hq
    omega
  | case3 s S p P hle ih =>
    intro t q k ht hk hq hq2
    rw [mrg_le hle] at ht hk ⊢
    match t, hk with
    | t + 1, hk =>
      rw [List.take_succ_cons, sy_cons, if_pos (hS s (by simp))] at hk ⊢
      rw [List.length_cons] at ht
      match q, hq, hq2 with
      | 0, _, _ => omega
      | q + 1, hq, hq2 =>
        have := ih (fun x hx => hS x (by simp [hx])) t q k (by omega) (by omega) (by simpa using hq) fun x hx => hq2 x (by rw [List.take_succ_cons]; simp [hx])
        omega
  | case4 s S p P hle ih =>
    intro t q k ht hk hq hq2
    rw [mrg_gt hle] at ht hk ⊢
    match t, hk with
    | t + 1, hk =>
      rw [List.take_succ_cons, sy_cons] at hk ⊢
      simp only [Bool.false_eq_true, if_false, Nat.add_zero] at hk ⊢
      rw [List.length_cons] at ht
      match q, hq, hq2 with
      | 0, _, _ => omega
      | q + 1, hq, hq2 =>
        match k, hk, hq2 with
        | 0, hk, hq2 =>
          have := hq2 s (by rw [List.take_succ_cons]; simp)
          simp at this
          omega
        | k + 1, hk, hq2 => exact ih hS t (q + 1) k (by omega) (by omega) hq fun x hx => by have := hq2 x hx; rwa [List.getD_cons_succ] at this

theorem filter_take (l : List (Int × Bool)) (t : Nat) : (l.take t).filter (·.2) = (l.filter (·.2)).take (sy (l.take t)) := by
  have e : l.filter (·.2) = (l.take t).filter (·.2) ++ (l.drop t).filter (·.2) := by rw [← List.filter_append, List.take_append_drop]
  rw [e, List.take_left']
  unfold sy
  rw [List.countP_eq_length_filter]

/-- What is told of the symbols. -/
structure Syms (S : List (Int × Bool)) : Prop where
  all : ∀ s ∈ S, s.2 = true
  srt : Srt S
  pos : ∀ s ∈ S, 0 ≤ s.1 ∧ s.1 ≤ 4294967296

section
variable {S : List (Int × Bool)} (h : Syms S)
include h
theorem lv_bd (k : Nat) : ∀ x ∈ lv S k, 0 ≤ x.1 ∧ x.1 ≤ 4294967296 * 2 ^ k := by
  induction k with
  | zero => intro x hx; have := h.pos x hx; simpa using this
  | succ k ih =>
    intro x hx
    rcases mrg_mem hx with hx | ⟨p, hp, rfl⟩
    · have := h.pos x hx
      have h2 : (1 : Int) ≤ 2 ^ (k + 1) := by
        have := Nat.one_le_two_pow (n := k + 1)
        have e : ((2 ^ (k + 1) : Nat) : Int) = (2 : Int) ^ (k + 1) := by simp
        rw [← e]; omega
      omega
    · obtain ⟨c, hc, d, hd, rfl⟩ := prs_mem hp
      have h1 := ih c hc
      have h2 := ih d hd
      rw [Int.pow_succ]
      show 0 ≤ c.1 + d.1 ∧ c.1 + d.1 ≤ _
      omega
theorem lv_sorted (k : Nat) : Srt (lv S k) := by
  induction k with
  | zero => exact h.srt
  | succ k ih => exact mrg_sorted h.srt (prs_sorted ih)
theorem lv_filter (k : Nat) : (lv S k).filter (·.2) = S := by
  cases k with
  | zero => exact List.filter_eq_self.2 h.all
  | succ k => exact mrg_filter h.all
omit h in
theorem lv_len (k : Nat) : (lv S (k + 1)).length = S.length + (lv S k).length / 2 := by rw [lv, mrg_len, prs_len]
theorem lv_sy (k : Nat) : sy (lv S k) = S.length := by unfold sy; rw [List.countP_eq_length_filter, lv_filter h]
theorem lv_sy_take (k t : Nat) : sy ((lv S k).take t) ≤ S.length := by
  have e := filter_take (lv S k) t
  have h2 : ((lv S k).take t).countP (·.2) ≤ (lv S k).countP (·.2) := List.Sublist.countP_le (List.take_sublist t _)
  have := lv_sy h k
  unfold sy at this ⊢
  omega

omit h in
theorem srt_nth {B : List (Int × Bool)} (hB : Srt B) {i j : Nat} (hij : i ≤ j) (hj : j < B.length) : nth B i ≤ nth B j := by
  unfold nth
  rw [getD_lt (show i < B.length by omega), getD_lt hj]
  rcases Nat.lt_or_ge i j with h | h
  · exact List.pairwise_iff_getElem.1 hB i j (by omega) hj h
  · have : i = j := by omega
    subst this; omega

/-- What the first 2p items' symbols weigh, against the p-th pair. -/
theorem pair_ge (k p : Nat) (hp : 2 * p + 1 < (lv S k).length) : ∀ s ∈ S.take (sy ((lv S k).take (2 * p + 2))), s.1 ≤ (prs (lv S k)).getD p 0 := by
  intro s hs
  have e := filter_take (lv S k) (2 * p + 2)
  rw [lv_filter h] at e
  rw [← e] at hs
  have hm := (List.mem_filter.1 hs).1
  obtain ⟨i, hi, rfl⟩ := List.getElem_of_mem hm
  rw [List.length_take] at hi
  rw [List.getElem_take, prs_nth _ _ hp]
  have h1 := srt_nth (lv_sorted h k) (i := i) (j := 2 * p + 1) (by omega) hp
  have h2 : 0 ≤ nth (lv S k) (2 * p) := by
    unfold nth
    rw [getD_lt (show 2 * p < (lv S k).length by omega)]
    exact (lv_bd h k _ (List.getElem_mem _)).1
  have h3 : nth (lv S k) i = (lv S k)[i].1 := by unfold nth; rw [getD_lt (show i < (lv S k).length by omega)]
  omega

omit h in
theorem sy_take_le (k t : Nat) : sy ((lv S k).take t) ≤ t := Nat.le_trans (sy_le _) (List.length_take_le _ _)

/-- Of the level below no more symbols are taken. -/
theorem lv_nest (k t : Nat) (ht : t ≤ (lv S (k + 1)).length) : sy ((lv S k).take (2 * (t - sy ((lv S (k + 1)).take t)))) ≤ sy ((lv S (k + 1)).take t) := by
  have hle := sy_take_le (S := S) (k + 1) t
  rcases Nat.eq_zero_or_pos (t - sy ((lv S (k + 1)).take t)) with h0 | h0
  · rw [h0]; simp [sy]
  · obtain ⟨p, hp⟩ : ∃ p, t - sy ((lv S (k + 1)).take t) = p + 1 := ⟨t - sy ((lv S (k + 1)).take t) - 1, by omega⟩
    have hpl : p + 1 ≤ (lv S k).length / 2 := by
      have hd : ((lv S (k + 1)).take t).countP (fun x => !x.2) ≤ (lv S (k + 1)).countP (fun x => !x.2) := List.Sublist.countP_le (List.take_sublist t _)
      have e1 := List.length_eq_countP_add_countP (·.2) (l := lv S (k + 1))
      have e2 := List.length_eq_countP_add_countP (·.2) (l := (lv S (k + 1)).take t)
      have e3 := lv_sy h (k + 1)
      have e4 := lv_len (S := S) k
      rw [List.length_take] at e2
      simp only [Bool.not_eq_true, Bool.decide_eq_false] at e1 e2
      unfold sy at hp e3
      omega
    rw [hp, show 2 * (p + 1) = 2 * p + 2 from by omega]
    exact mrg_take S (prs (lv S k)) h.all t _ p ht (by show sy ((lv S (k + 1)).take t) + (p + 1) = t; omega) (lv_sy_take h k _) (pair_ge h k p (by omega))
/-- The pairs that are taken are there. -/
theorem lv_room (k t : Nat) (ht : t ≤ (lv S (k + 1)).length) : 2 * (t - sy ((lv S (k + 1)).take t)) ≤ (lv S k).length := by
  have hd : ((lv S (k + 1)).take t).countP (fun x => !x.2) ≤ (lv S (k + 1)).countP (fun x => !x.2) := List.Sublist.countP_le (List.take_sublist t _)
  have e1 := List.length_eq_countP_add_countP (·.2) (l := lv S (k + 1))
  have e2 := List.length_eq_countP_add_countP (·.2) (l := (lv S (k + 1)).take t)
  have e3 := lv_sy h (k + 1)
  have e4 := lv_len (S := S) k
  rw [List.length_take] at e2
  simp only [Bool.not_eq_true, Bool.decide_eq_false] at e1 e2
  unfold sy at e3 ⊢
  omega

omit h in
/-- A level's size. -/
theorem lv_size (k : Nat) (hm : 1 ≤ S.length) : (lv S k).length ≤ 2 * S.length - 1 ∧ 2 ^ k * (2 * S.length - (lv S k).length) < S.length + 2 ^ k := by
  induction k with
  | zero => simp [lv]; omega
  | succ k ih =>
    rw [lv_len]
    obtain ⟨h1, h2⟩ := ih
    refine ⟨by omega, ?_⟩
    obtain ⟨d, hd⟩ : ∃ d, 2 * S.length - (lv S k).length = d := ⟨_, rfl⟩
    rw [hd] at h2
    have hd2 : 2 * S.length - (S.length + (lv S k).length / 2) = (d + 1) / 2 := by omega
    rw [hd2, Nat.pow_succ]
    have h3 : 2 ^ k * 2 * ((d + 1) / 2) ≤ 2 ^ k * (d + 1) := by
      rw [Nat.mul_assoc]
      exact Nat.mul_le_mul_left _ (by omega)
    rw [Nat.mul_add] at h3
    have hp : 0 < 2 ^ k := Nat.two_pow_pos k
    omega
omit h in
theorem lv_top {k : Nat} (hm : 1 ≤ S.length) (hk : S.length ≤ 2 ^ (k + 1)) : 2 * S.length - 2 ≤ (lv S k).length := by
  obtain ⟨h1, h2⟩ := lv_size (S := S) k hm
  rcases Nat.lt_or_ge 2 (2 * S.length - (lv S k).length) with h3 | h3
  · have h4 : 2 ^ k * 3 ≤ 2 ^ k * (2 * S.length - (lv S k).length) := Nat.mul_le_mul_left _ (by omega)
    rw [Nat.pow_succ] at hk
    omega
  · omega

/-- At the top all symbols are taken. -/
theorem lv_all (k : Nat) (hm : 2 ≤ S.length) (hl : 2 * S.length - 2 ≤ (lv S k).length) : sy ((lv S k).take (2 * S.length - 2)) = S.length := by
  induction k with
  | zero =>
    have hl' : 2 * S.length - 2 ≤ S.length := hl
    show sy (S.take _) = _
    rw [sy_all (fun s hs => h.all s (List.mem_of_mem_take hs)), List.length_take]
    omega
  | succ k ih =>
    have hs := lv_size (S := S) (k + 1) (by omega)
    have hlen := lv_len (S := S) k
    rcases Nat.lt_or_ge (2 * S.length - 2) (lv S (k + 1)).length with hlt | hge
    · have ih' := ih (by omega)
      have hu := lv_sy_take h (k + 1) (2 * S.length - 2)
      rcases Nat.lt_or_ge (sy ((lv S (k + 1)).take (2 * S.length - 2))) S.length with hc | hc
      · exfalso
        -- then S.length - 1 pairs are taken
        have hcnt : ((lv S (k + 1)).take (2 * S.length - 2)).countP (fun x => !x.2) ≤ (lv S (k + 1)).countP (fun x => !x.2) := List.Sublist.countP_le (List.take_sublist _ _)
        have e1 := List.length_eq_countP_add_countP (·.2) (l := lv S (k + 1))
        have e2 := List.length_eq_countP_add_countP (·.2) (l := (lv S (k + 1)).take (2 * S.length - 2))
        have e3 := lv_sy h (k + 1)
        rw [List.length_take] at e2
        simp only [Bool.not_eq_true, Bool.decide_eq_false] at e1 e2
        have hsy : sy ((lv S (k + 1)).take (2 * S.length - 2)) = S.length - 1 := by
          unfold sy at hc e3 ⊢
          omega
        obtain ⟨p, hp⟩ : ∃ p, S.length = p + 2 := ⟨S.length - 2, by omega⟩
        have hq := pair_ge h k p (by omega)
        rw [show 2 * p + 2 = 2 * S.length - 2 from by omega, ih'] at hq
        have := mrg_take S (prs (lv S k)) h.all (2 * S.length - 2) S.length p hl (by show sy ((lv S (k + 1)).take (2 * S.length - 2)) + (p + 1) = _; omega) (Nat.le_refl _) hq
        have h5 : S.length ≤ sy ((lv S (k + 1)).take (2 * S.length - 2)) := this
        omega
      · omega
    · rw [List.take_of_length_le hge, lv_sy h]
end

/-- The sum of a function's values at 0 .. m-1. -/
def su (f : Nat → Int) : Nat → Int
  | 0 => 0
  | m + 1 => su f m + f m
theorem su_step {f f' : Nat → Int} {n : Nat} {c : Int} (h1 : ∀ j, j < n → f' j = f j - c) (h2 : ∀ j, n ≤ j → f' j = f j) : ∀ m, su f' m = su f m - (min n m : Nat) * c := by
  intro m
  induction m with
  | zero => simp [su]
  | succ m ih =>
    rw [su, su, ih]
    rcases Nat.lt_or_ge m n with h | h
    · rw [h1 m h, show min n (m + 1) = m + 1 from by omega, show min n m = m from by omega]
      rw [show ((m + 1 : Nat) : Int) = (m : Int) + 1 from by omega, Int.add_mul]
      omega
    · rw [h2 m h, show min n (m + 1) = n from by omega, show min n m = n from by omega]
      omega
theorem su_const (c : Int) (m : Nat) : su (fun _ => c) m = m * c := by
  induction m with
  | zero => simp [su]
  | succ m ih => rw [su, ih, show ((m + 1 : Nat) : Int) = (m : Int) + 1 from by omega, Int.add_mul]; omega

def stepG (n : Nat) (g : Nat → Int) : Nat → Int := fun j => if j < n then g j + 1 else g j
/-- The lengths by rising count, k levels to go, T items taken of the next. -/
def fin (S : List (Int × Bool)) : Nat → Nat → (Nat → Int) → Nat → Int
  | 0, _, g => g
  | k + 1, T, g => fin S k (2 * (T - sy ((lv S k).take T))) (stepG (sy ((lv S k).take T)) g)

/-- What is said of the lengths D levels deep. -/
structure LInv (m D T n : Nat) (g : Nat → Int) : Prop where
  le : n ≤ m
  deep : ∀ j, j < n → g j = D
  bd : ∀ j, 0 ≤ g j ∧ g j ≤ D
  anti : ∀ i j, i ≤ j → g j ≤ g i
  pos : 0 < D → ∀ j, j < m → 1 ≤ g j
  kraft : 2 * su (fun j => 2 ^ (15 - (g j).toNat)) m = 65536 + T * 2 ^ (15 - D)

theorem LInv.start (m : Nat) (hm : 1 ≤ m) : LInv m 0 (2 * m - 2) m (fun _ => 0) :=
  ⟨Nat.le_refl _, fun _ _ => rfl, fun _ => by omega, fun _ _ _ => by omega, fun h => by omega, by
    have e : (fun _ : Nat => (2 : Int) ^ (15 - ((0 : Int)).toNat)) = fun _ => 32768 := by funext j; decide
    rw [e, su_const]
    have : (2 : Int) ^ (15 - 0) = 32768 := by decide
    rw [this]
    omega⟩

theorem pow_half (D : Nat) (h : D < 15) : (2 : Int) ^ (15 - D) = 2 * 2 ^ (15 - (D + 1)) := by
  rw [show 15 - D = 15 - (D + 1) + 1 from by omega, Int.pow_succ]
  omega

theorem LInv.step {m D T n n' : Nat} {g : Nat → Int} (h : LInv m D T n g) (hn : n' ≤ n) (hT : n' ≤ T) (hD : D < 15) (h0 : D = 0 → n' = m) : LInv m (D + 1) (2 * (T - n')) n' (stepG n' g) :=
  ⟨by have := h.le; omega, fun j hj => by unfold stepG; rw [if_pos hj, h.deep j (by omega)]; omega,
   fun j => by have := h.bd j; unfold stepG; split <;> omega,
   fun i j hij => by
    have := h.anti i j hij
    unfold stepG
    by_cases h1 : i < n'
    · by_cases h2 : j < n'
      · rw [if_pos h1, if_pos h2]; omega
      · rw [if_pos h1, if_neg h2]; omega
    · rw [if_neg h1, if_neg (by omega)]; exact this,
   fun _ j hj => by
    unfold stepG
    by_cases h1 : j < n'
    · rw [if_pos h1]; have := h.bd j; omega
    · rw [if_neg h1]
      rcases Nat.eq_zero_or_pos D with hd | hd
      · have := h0 hd; omega
      · exact h.pos hd j hj,
   by
    have hs := su_step (f := fun j => 2 ^ (15 - (g j).toNat)) (f' := fun j => 2 ^ (15 - (stepG n' g j).toNat)) (n := n') (c := 2 ^ (15 - (D + 1)))
      (fun j hj => by
        show (2 : Int) ^ (15 - (stepG n' g j).toNat) = 2 ^ (15 - (g j).toNat) - 2 ^ (15 - (D + 1))
        unfold stepG
        rw [if_pos hj, h.deep j (by omega), show ((D : Int) + 1).toNat = D + 1 from by omega, show ((D : Int)).toNat = D from by omega, pow_half D hD]
        omega)
      (fun j hj => by
        show (2 : Int) ^ (15 - (stepG n' g j).toNat) = 2 ^ (15 - (g j).toNat)
        unfold stepG
        rw [if_neg (by omega)])
      m
    rw [hs, show min n' m = n' from by have := h.le; omega]
    have hk := h.kraft
    rw [pow_half D hD] at hk
    generalize (2 : Int) ^ (15 - (D + 1)) = c at hk ⊢
    rw [show ((2 * (T - n') : Nat) : Int) = 2 * ((T : Int) - n') from by omega]
    rw [Int.mul_sub, hk, Int.mul_assoc 2, Int.sub_mul]
    generalize (n' : Int) * c = y
    rw [show (T : Int) * (2 * c) = 2 * (T * c) from by rw [← Int.mul_assoc, Int.mul_comm (T : Int) 2, Int.mul_assoc]]
    omega⟩

/-- What the lengths are at last. -/
structure LEnd (m most : Nat) (g : Nat → Int) : Prop where
  bd : ∀ j, 0 ≤ g j ∧ g j ≤ most
  anti : ∀ i j, i ≤ j → g j ≤ g i
  pos : ∀ j, j < m → 1 ≤ g j
  kraft : su (fun j => 2 ^ (15 - (g j).toNat)) m = 32768

theorem fin_ok {S : List (Int × Bool)} (h : Syms S) (k : Nat) : ∀ (D T n : Nat) (g : Nat → Int), LInv S.length D T n g → D + (k + 1) ≤ 15 → T ≤ (lv S k).length → sy ((lv S k).take T) ≤ n → (D = 0 → sy ((lv S k).take T) = S.length) →
    LEnd S.length (D + (k + 1)) (fin S (k + 1) T g) := by
  induction k with
  | zero =>
    intro D T n g hi hD hT hn h0
    have hsy : sy ((lv S 0).take T) = T := by
      show sy (S.take T) = T
      have hT' : T ≤ S.length := hT
      rw [sy_all (fun s hs => h.all s (List.mem_of_mem_take hs)), List.length_take]; omega
    have hs := hi.step hn (by omega) (by omega) h0
    rw [fin, fin]
    refine ⟨hs.bd, hs.anti, hs.pos (by omega), ?_⟩
    have := hs.kraft
    rw [hsy] at this ⊢
    rw [Nat.sub_self] at this
    simp at this
    omega
  | succ k ih =>
    intro D T n g hi hD hT hn h0
    have hs := hi.step hn (sy_take_le (S := S) (k + 1) T) (by omega) h0
    rw [fin]
    have := ih (D + 1) _ _ _ hs (by omega) (lv_room h k T hT) (lv_nest h k T hT) (by omega)
    rw [show D + 1 + (k + 1) = D + (k + 1 + 1) from by omega] at this
    exact this

/-- The lengths by rising count. -/
def lensG (S : List (Int × Bool)) (most : Nat) : Nat → Int := fin S most (2 * S.length - 2) fun _ => 0
theorem lensG_ok {S : List (Int × Bool)} (h : Syms S) {most : Nat} (h1 : 1 ≤ most) (h2 : most ≤ 15) (hm : 2 ≤ S.length) (hf : S.length ≤ 2 ^ most) : LEnd S.length most (lensG S most) := by
  obtain ⟨k, rfl⟩ : ∃ k, most = k + 1 := ⟨most - 1, by omega⟩
  have ht := lv_top (S := S) (k := k) (by omega) hf
  have := fin_ok h k 0 (2 * S.length - 2) S.length _ (LInv.start _ (by omega)) (by omega) ht (lv_sy_take h k _) (fun _ => lv_all h k hm ht)
  rw [Nat.zero_add] at this
  exact this

theorem lensG_anti {S : List (Int × Bool)} (h : Syms S) {most : Nat} (h1 : 1 ≤ most) (h2 : most ≤ 15) (hm : 2 ≤ S.length) (hf : S.length ≤ 2 ^ most) {i j : Nat} (hij : i ≤ j) : lensG S most j ≤ lensG S most i := (lensG_ok h h1 h2 hm hf).anti i j hij

end Go.Proofs.Ytndgijcjpkoooaa
