/- Plain: what is read of bits, as a tree of questions (Pr); how it runs (run); that room, what stands behind, and a cut change nothing else. -/
import Derived.Test.YtolcdlopgbgilaaDoorHuffT
namespace Go.Proofs.YtolcdlopgbgilaaDoor
open Go.RowKit Go.Dray

open Classical in
/-- What Next tells of bits: how many it reads, the symbol, the error; j bits are gone. -/
noncomputable def nx (zs : List Int) (bs : List Bool) : Nat → Nat → Nat × Int × Int
  | 0, j => (j, 0, 2)
  | f + 1, j => match leafF zs zs.length (bs.take (j + 1)) with
    | some t => (j + 1, (t : Int), 0)
    | none => if inT zs zs.length (bs.take (j + 1)) then nx zs bs f (j + 1) else (j + 1, 0, 3)
noncomputable def nextF (zs : List Int) (bs : List Bool) : Nat × Int × Int := nx zs bs bs.length 0

theorem nx_is (zs : List Int) (bs : List Bool) : ∀ f j, j + f = bs.length → (∀ i, 1 ≤ i → i ≤ j → goesOn zs bs i) → NextIs zs bs (nx zs bs f j).1 (nx zs bs f j).2.1 (nx zs bs f j).2.2 := by
  intro f
  induction f with
  | zero =>
    intro j hj hg
    exact ⟨by show j ≤ _; omega, fun i h1 h2 => hg i h1 (by have h2' : i < j := h2; omega), Or.inl ⟨rfl, rfl, by show j = _; omega, fun h1 => hg j h1 (Nat.le_refl _)⟩⟩
  | succ f ih =>
    intro j hj hg
    cases hl : leafF zs zs.length (bs.take (j + 1)) with
    | some t =>
      have e : nx zs bs (f + 1) j = (j + 1, (t : Int), 0) := by rw [nx, hl]
      rw [e]
      exact ⟨by show j + 1 ≤ _; omega, fun i h1 h2 => hg i h1 (by have h2' : i < j + 1 := h2; omega), Or.inr (Or.inr ⟨rfl, by show 1 ≤ j + 1; omega, t, rfl, hl⟩)⟩
    | none =>
      by_cases hin : inT zs zs.length (bs.take (j + 1))
      · have e : nx zs bs (f + 1) j = nx zs bs f (j + 1) := by rw [nx, hl]; exact if_pos hin
        rw [e]
        exact ih (j + 1) (by omega) fun i h1 h2 => by
          by_cases hi : i = j + 1
          · subst hi; exact ⟨hin, hl⟩
          · exact hg i h1 (by omega)
      · have e : nx zs bs (f + 1) j = (j + 1, 0, 3) := by rw [nx, hl]; exact if_neg hin
        rw [e]
        exact ⟨by show j + 1 ≤ _; omega, fun i h1 h2 => hg i h1 (by have h2' : i < j + 1 := h2; omega), Or.inr (Or.inl ⟨rfl, rfl, by show 1 ≤ j + 1; omega, hin⟩)⟩
theorem nextF_is (zs : List Int) (bs : List Bool) : NextIs zs bs (nextF zs bs).1 (nextF zs bs).2.1 (nextF zs bs).2.2 := nx_is zs bs bs.length 0 (by omega) fun i h1 h2 => by omega
theorem nextF_eq {zs : List Int} {bs : List Bool} {k : Nat} {sym err : Int} (h : NextIs zs bs k sym err) : nextF zs bs = (k, sym, err) := by
  obtain ⟨h1, h2, h3⟩ := NextIs.unique (nextF_is zs bs) h
  rw [← h1, ← h2, ← h3]

/-- A symbol that is read of the first k bits is read of whatever begins with them. -/
theorem NextIs.ext {zs : List Int} {bs bs' : List Bool} {k : Nat} {sym : Int} (h : NextIs zs bs k sym 0) (he : bs'.take k = bs.take k) (hl : k ≤ bs'.length) : NextIs zs bs' k sym 0 := by
  have ht : ∀ j, j ≤ k → bs'.take j = bs.take j := fun j hj => by
    have := congrArg (List.take j) he
    rw [List.take_take, List.take_take, show min j k = j from by omega] at this
    exact this
  refine ⟨hl, fun j h1 h2 => ?_, ?_⟩
  · have := h.2.1 j h1 h2
    unfold goesOn at this ⊢
    rw [ht j (by omega)]
    exact this
  · rcases h.2.2 with ⟨h1, _⟩ | ⟨h1, _⟩ | ⟨h1, h2, t, h3, h4⟩
    · omega
    · omega
    · exact Or.inr (Or.inr ⟨rfl, h2, t, h3, by rw [ht k (Nat.le_refl _)]; exact h4⟩)
/-- Cut off ahead of that, the bits are too short. -/
theorem NextIs.cut {zs : List Int} {bs bs' : List Bool} {k : Nat} {sym : Int} (h : NextIs zs bs k sym 0) (hl : bs'.length < k) (he : bs' = bs.take bs'.length) : NextIs zs bs' bs'.length 0 2 := by
  have ht : ∀ j, j ≤ bs'.length → bs'.take j = bs.take j := fun j hj => by
    rw [he, List.take_take, show min j bs'.length = j from by omega]
  have hg : ∀ j, 1 ≤ j → j ≤ bs'.length → goesOn zs bs' j := fun j h1 h2 => by
    have := h.2.1 j h1 (by omega)
    unfold goesOn at this ⊢
    rw [ht j h2]
    exact this
  exact ⟨Nat.le_refl _, fun j h1 h2 => hg j h1 (by omega), Or.inl ⟨rfl, rfl, rfl, fun h1 => hg _ h1 (Nat.le_refl _)⟩⟩

/-- What is asked of bits, and done. -/
inductive Pr : Type
  | done : Pr
  | fail (e : Int) : Pr
  | take (n : Nat) (k : Int → Pr) : Pr
  | next (zs : List Int) (k : Int → Pr) : Pr
  | align (k : Pr) : Pr
  | bytes (n : Nat) (k : List Int → Pr) : Pr
  | look (k : List Int → Pr) : Pr
  | emit (l : List Int) (k : Pr) : Pr
inductive Res : Type
  | ok (out : List Int) (p : Nat) : Res
  | err (e : Int) : Res

/-- n bytes from a place on. -/
def bytesAt (bs : List Bool) (p n : Nat) : List Int := tab n fun i => num ((bs.drop (p + 8 * i)).take 8)

noncomputable def run (bs : List Bool) (most : Nat) : Pr → Nat → List Int → Res
  | .done, p, out => .ok out p
  | .fail e, _, _ => .err e
  | .take n k, p, out => if p + n ≤ bs.length then run bs most (k (num ((bs.drop p).take n))) (p + n) out else .err 2
  | .next zs k, p, out => if (nextF zs (bs.drop p)).2.2 = 0 then run bs most (k (nextF zs (bs.drop p)).2.1) (p + (nextF zs (bs.drop p)).1) out else .err (nextF zs (bs.drop p)).2.2
  | .align k, p, out => run bs most k (alignUp p) out
  | .bytes n k, p, out => if alignUp p + 8 * n ≤ bs.length then run bs most (k (bytesAt bs (alignUp p) n)) (alignUp p + 8 * n) out else .err 2
  | .look k, p, out => run bs most (k out) p out
  | .emit l k, p, out => if out.length + l.length ≤ most then run bs most k p (out ++ l) else .err 4

theorem alignUp_ge (p : Nat) : p ≤ alignUp p := by unfold alignUp; omega
theorem alignUp_le {p c : Nat} (h : p ≤ 8 * c) : alignUp p ≤ 8 * c := by unfold alignUp; omega

/-- Where it ends. -/
theorem run_ge {bs : List Bool} {most : Nat} (X : Pr) : ∀ {p : Nat} {out out' : List Int} {q : Nat}, run bs most X p out = .ok out' q → p ≤ q ∧ out.length ≤ out'.length ∧ (out.length ≤ most → out'.length ≤ most) := by
  induction X with
  | done => intro p out out' q h; rw [run] at h; injection h with h1 h2; subst h1 h2; exact ⟨Nat.le_refl _, Nat.le_refl _, id⟩
  | fail e => intro p out out' q h; rw [run] at h; cases h
  | take n k ih =>
    intro p out out' q h
    rw [run] at h
    split at h
    · have := ih _ h; exact ⟨by omega, this.2⟩
    · cases h
  | next zs k ih =>
    intro p out out' q h
    rw [run] at h
    split at h
    · have := ih _ h; exact ⟨by omega, this.2⟩
    · cases h
  | align k ih => intro p out out' q h; rw [run] at h; have := ih h; have := alignUp_ge p; exact ⟨by omega, by omega, (ih h).2.2⟩
  | bytes n k ih =>
    intro p out out' q h
    rw [run] at h
    split at h
    · have := ih _ h; have := alignUp_ge p; exact ⟨by omega, (ih _ h).2⟩
    · cases h
  | look k ih => intro p out out' q h; rw [run] at h; exact ih _ h
  | emit l k ih =>
    intro p out out' q h
    rw [run] at h
    split at h
    · rename_i hr
      have := ih h
      rw [List.length_append] at this
      exact ⟨this.1, by omega, fun _ => this.2.2 hr⟩
    · cases h
theorem run_le {bs : List Bool} {most n : Nat} (hb : bs.length = 8 * n) (X : Pr) : ∀ {p : Nat} {out out' : List Int} {q : Nat}, p ≤ 8 * n → run bs most X p out = .ok out' q → q ≤ 8 * n := by
  induction X with
  | done => intro p out out' q hp h; rw [run] at h; injection h with h1 h2; omega
  | fail e => intro p out out' q hp h; rw [run] at h; cases h
  | take m k ih =>
    intro p out out' q hp h
    rw [run] at h
    split at h
    · exact ih _ (by omega) h
    · cases h
  | next zs k ih =>
    intro p out out' q hp h
    rw [run] at h
    split at h
    · have := (nextF_is zs (bs.drop p)).1
      rw [List.length_drop] at this
      exact ih _ (by omega) h
    · cases h
  | align k ih => intro p out out' q hp h; rw [run] at h; exact ih (alignUp_le hp) h
  | bytes m k ih =>
    intro p out out' q hp h
    rw [run] at h
    split at h
    · exact ih _ (by omega) h
    · cases h
  | look k ih => intro p out out' q hp h; rw [run] at h; exact ih _ hp h
  | emit l k ih =>
    intro p out out' q hp h
    rw [run] at h
    split at h
    · exact ih hp h
    · cases h

theorem take_drop_eq {bs bs' : List Bool} {q p n : Nat} (h : bs'.take q = bs.take q) (hp : p + n ≤ q) : (bs'.drop p).take n = (bs.drop p).take n := by
  have e : ∀ l : List Bool, (l.drop p).take n = ((l.take q).drop p).take n := fun l => by
    rw [List.drop_take, List.take_take, show min n (q - p) = n from by omega]
  rw [e bs', e bs, h]

/-- What stands behind changes nothing. -/
theorem run_ext {bs bs' : List Bool} {most : Nat} (X : Pr) : ∀ {p : Nat} {out out' : List Int} {q : Nat}, run bs most X p out = .ok out' q → bs'.take q = bs.take q → q ≤ bs'.length → run bs' most X p out = .ok out' q := by
  induction X with
  | done => intro p out out' q h _ _; rw [run] at h ⊢; exact h
  | fail e => intro p out out' q h; rw [run] at h; cases h
  | take n k ih =>
    intro p out out' q h he hl
    rw [run] at h
    split at h
    · have hq := (run_ge _ h).1
      rw [run, if_pos (by omega), take_drop_eq he hq]
      exact ih _ h he hl
    · cases h
  | next zs k ih =>
    intro p out out' q h he hl
    rw [run] at h
    split at h
    · rename_i h0
      have hq := (run_ge _ h).1
      have hn := nextF_is zs (bs.drop p)
      rw [h0] at hn
      have hn' := hn.ext (bs' := bs'.drop p) (take_drop_eq he hq) (by rw [List.length_drop]; omega)
      rw [run, nextF_eq hn', if_pos rfl]
      exact ih _ h he hl
    · cases h
  | align k ih => intro p out out' q h he hl; rw [run] at h ⊢; exact ih h he hl
  | bytes n k ih =>
    intro p out out' q h he hl
    rw [run] at h
    split at h
    · have hq := (run_ge _ h).1
      have e : bytesAt bs' (alignUp p) n = bytesAt bs (alignUp p) n := by
        unfold bytesAt
        exact tab_congr fun i hi => by rw [take_drop_eq he (by omega)]
      rw [run, if_pos (by omega), e]
      exact ih _ h he hl
    · cases h
  | look k ih => intro p out out' q h he hl; rw [run] at h ⊢; exact ih _ h he hl
  | emit l k ih =>
    intro p out out' q h he hl
    rw [run] at h
    split at h
    · rename_i hr
      rw [run, if_pos hr]
      exact ih h he hl
    · cases h

/-- With room enough the same comes out; with too little it is told. -/
theorem run_most {bs : List Bool} {most most' : Nat} (X : Pr) : ∀ {p : Nat} {out out' : List Int} {q : Nat}, run bs most X p out = .ok out' q → out.length ≤ most' → run bs most' X p out = if out'.length ≤ most' then .ok out' q else .err 4 := by
  induction X with
  | done => intro p out out' q h hm; rw [run] at h ⊢; injection h with h1 h2; subst h1 h2; rw [if_pos hm]
  | fail e => intro p out out' q h; rw [run] at h; cases h
  | take n k ih =>
    intro p out out' q h hm
    rw [run] at h
    split at h
    · rename_i hr
      rw [run, if_pos hr]
      exact ih _ h hm
    · cases h
  | next zs k ih =>
    intro p out out' q h hm
    rw [run] at h
    split at h
    · rename_i h0
      rw [run, if_pos h0]
      exact ih _ h hm
    · cases h
  | align k ih => intro p out out' q h hm; rw [run] at h ⊢; exact ih h hm
  | bytes n k ih =>
    intro p out out' q h hm
    rw [run] at h
    split at h
    · rename_i hr
      rw [run, if_pos hr]
      exact ih _ h hm
    · cases h
  | look k ih => intro p out out' q h hm; rw [run] at h ⊢; exact ih _ h hm
  | emit l k ih =>
    intro p out out' q h hm
    rw [run] at h
    split at h
    · have hq := (run_ge _ h).2.1
      rw [List.length_append] at hq
      rw [run]
      by_cases hr' : out.length + l.length ≤ most'
      · rw [if_pos hr']
        exact ih h (by rw [List.length_append]; exact hr')
      · rw [if_neg hr', if_neg (by omega)]
    · cases h

/-- Cut off ahead of the end, it is too short. -/
theorem run_cut {bs : List Bool} {most c : Nat} (X : Pr) : ∀ {p : Nat} {out out' : List Int} {q : Nat}, run bs most X p out = .ok out' q → p ≤ 8 * c → 8 * c < q → 8 * c ≤ bs.length → run (bs.take (8 * c)) most X p out = .err 2 := by
  induction X with
  | done => intro p out out' q h h1 h2; rw [run] at h; injection h with h3 h4; omega
  | fail e => intro p out out' q h; rw [run] at h; cases h
  | take n k ih =>
    intro p out out' q h h1 h2 h3
    rw [run] at h
    split at h
    · rw [run, List.length_take, show min (8 * c) bs.length = 8 * c from by omega]
      by_cases hr : p + n ≤ 8 * c
      · rw [if_pos hr, take_drop_eq (bs := bs) (q := 8 * c) (by rw [List.take_take, Nat.min_self]) hr]
        exact ih _ h hr h2 h3
      · rw [if_neg hr]
    · cases h
  | next zs k ih =>
    intro p out out' q h h1 h2 h3
    rw [run] at h
    split at h
    · rename_i h0
      have hn := nextF_is zs (bs.drop p)
      rw [h0] at hn
      by_cases hr : p + (nextF zs (bs.drop p)).1 ≤ 8 * c
      · have hn' := hn.ext (bs' := (bs.take (8 * c)).drop p) (take_drop_eq (bs := bs) (q := 8 * c) (by rw [List.take_take, Nat.min_self]) hr) (by rw [List.length_drop, List.length_take]; omega)
        rw [run, nextF_eq hn', if_pos rfl]
        exact ih _ h hr h2 h3
      · have hlen : ((bs.take (8 * c)).drop p).length = 8 * c - p := by rw [List.length_drop, List.length_take]; omega
        have hn' := hn.cut (bs' := (bs.take (8 * c)).drop p) (by rw [hlen]; omega) (by rw [hlen, List.drop_take])
        rw [run, nextF_eq hn', if_neg (show ¬ ((2 : Int) = 0) by decide)]
    · cases h
  | align k ih => intro p out out' q h h1 h2 h3; rw [run] at h ⊢; exact ih h (alignUp_le h1) h2 h3
  | bytes n k ih =>
    intro p out out' q h h1 h2 h3
    rw [run] at h
    split at h
    · rw [run, List.length_take, show min (8 * c) bs.length = 8 * c from by omega]
      by_cases hr : alignUp p + 8 * n ≤ 8 * c
      · have e : bytesAt (bs.take (8 * c)) (alignUp p) n = bytesAt bs (alignUp p) n := by
          unfold bytesAt
          exact tab_congr fun i hi => by rw [take_drop_eq (bs := bs) (q := 8 * c) (by rw [List.take_take, Nat.min_self]) (by omega)]
        rw [if_pos hr, e]
        exact ih _ h hr h2 h3
      · rw [if_neg hr]
    · cases h
  | look k ih => intro p out out' q h h1 h2 h3; rw [run] at h ⊢; exact ih _ h h1 h2 h3
  | emit l k ih =>
    intro p out out' q h h1 h2 h3
    rw [run] at h
    split at h
    · rename_i hr
      rw [run, if_pos hr]
      exact ih h h1 h2 h3
    · cases h

/-- The bytes that came, from so far back on, as many as are asked for. -/
def cp (out : List Int) (back : Nat) : Nat → List Int
  | 0 => []
  | n + 1 => cp out back n ++ [(out ++ cp out back n).getD ((out ++ cp out back n).length - back) 0]
theorem cp_len (out : List Int) (back n : Nat) : (cp out back n).length = n := by
  induction n with
  | zero => rfl
  | succ n ih => rw [cp, List.length_append, ih]; rfl

/-- A length by its symbol. -/
def lenPr (i : Int) (k : Int → Pr) : Pr := if i < 8 then k (3 + i) else if i = 28 then k 258 else .take (i / 4 - 1).toNat fun v => k (3 + (4 + i % 4) * 2 ^ (i / 4 - 1).toNat + v)
/-- A distance by its symbol. -/
def distPr (t : Int) (k : Int → Pr) : Pr := if t < 4 then k (1 + t) else .take (t / 2 - 1).toNat fun v => k (1 + (2 + t % 2) * 2 ^ (t / 2 - 1).toNat + v)
def againPr (s : Int) (dz : List Int) (k : Pr) : Pr :=
  if 286 ≤ s then .fail 3 else lenPr (s - 257) fun cnt => .next dz fun t => if 30 ≤ t then .fail 3 else distPr t fun back => .look fun out => if (out.length : Int) < back then .fail 3 else .emit (cp out back.toNat cnt.toNat) k
def symPr (lz dz : List Int) : Nat → Pr → Pr
  | 0, _ => .fail 99
  | f + 1, k => .next lz fun s => if s = 256 then k else if 256 < s then againPr s dz (symPr lz dz f k) else .emit [s] (symPr lz dz f k)
/-- What a symbol of the third code says: the length, how often at least, how many bits tell more. -/
def stepOf (s : Int) (row : List Int) : Int × Int × Nat := if s = 16 then (row.getLastD 0, 3, 2) else if s = 17 then (0, 3, 3) else if s = 18 then (0, 11, 7) else (s, 1, 0)
def rowPr (tz : List Int) (count : Nat) : Nat → List Int → (List Int → Pr) → Pr
  | 0, _, _ => .fail 99
  | f + 1, row, k => if count ≤ row.length then k row else .next tz fun s => if s = 16 ∧ row.length = 0 then .fail 3 else
      .take (stepOf s row).2.2 fun more => if (count : Int) - row.length < (stepOf s row).2.1 + more then .fail 3 else rowPr tz count f (row ++ List.replicate ((stepOf s row).2.1 + more).toNat (stepOf s row).1) k
def orderL : List Nat := [16, 17, 18, 0, 8, 7, 9, 6, 10, 5, 11, 4, 12, 3, 13, 2, 14, 1, 15]
/-- The lengths of the third code, as the first of them are told. -/
def thirdOf (acc : List Int) : List Int := tab 19 fun j => if orderL.idxOf j < acc.length then acc.getD (orderL.idxOf j) 0 else 0
def tk3 : Nat → List Int → (List Int → Pr) → Pr
  | 0, acc, k => k acc
  | n + 1, acc, k => .take 3 fun v => tk3 n (acc ++ [v]) k
def loneB (l : List Int) : Bool := decide (l.sum ≤ 1)
def lensPr (F : Nat) (k : List Int → List Int → Pr) : Pr :=
  .take 5 fun l => .take 5 fun d => .take 4 fun c => if 286 < l + 257 ∨ 30 < d + 1 then .fail 3 else tk3 (c + 4).toNat [] fun acc =>
    if fullB (thirdOf acc) = false then .fail 3 else rowPr (thirdOf acc) (l + 257 + (d + 1)).toNat F [] fun row =>
      if row.getD 256 0 = 0 ∨ fullB (row.take (l + 257).toNat) = false then .fail 3 else
      if fullB (row.drop (l + 257).toNat) = false ∧ loneB (row.drop (l + 257).toNat) = false then .fail 3 else k (row.take (l + 257).toNat) (row.drop (l + 257).toNat)
def fixedL : List Int := List.replicate 144 8 ++ List.replicate 112 9 ++ List.replicate 24 7 ++ List.replicate 8 8
def fixedD : List Int := List.replicate 32 5
def storedPr (k : Pr) : Pr := .align (.take 16 fun n => .take 16 fun m => if m ≠ 65535 - n then .fail 3 else .bytes n.toNat fun b => .emit b k)
def blockPr (F : Nat) (k : Pr) : Pr := .take 2 fun kind => if kind = 0 then storedPr k else if kind = 1 then symPr fixedL fixedD F k else if kind = 2 then lensPr F fun lits dists => symPr lits dists F k else .fail 3
def infPr (F : Nat) : Nat → Pr
  | 0 => .fail 99
  | f + 1 => .take 1 fun last => blockPr F (if last = 0 then infPr F f else .done)

end Go.Proofs.YtolcdlopgbgilaaDoor
