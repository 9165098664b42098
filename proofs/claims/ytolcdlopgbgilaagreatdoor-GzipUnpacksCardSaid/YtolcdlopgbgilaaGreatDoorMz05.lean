/- Merged by wip/tools/merge.py: InfP InfA Calm InfB. -/
import Derived.Deep.RegionLaw
import Derived.Deep.RegionHeld3
import Derived.Test.YtolcdlopgbgilaaGreatDoorMz01
import Derived.Test.YtolcdlopgbgilaaGreatDoorMz04

/-! Text InfP. -/
namespace Go.Proofs.YtolcdlopgbgilaaGreatDoor
open Go.RowKit Go.Dray

open Classical in
/-- What Next tells of bits: how many it reads, the symbol, the error; j bits are gone. -/
noncomputable def nx (zs : List Int) (bs : List Bool) : Nat → Nat → Nat × Int × Int
  | 0, j => (j, 0, 2)
  | f + 1, j => match leafF zs zs.length (bs.take (j + 1)) with
    | some t => (j + 1, (t : Int), 0)
    | none => if inT zs zs.length (bs.take (j + 1)) then nx zs bs f (j + 1) else (j + 1, 0, 3)
noncomputable def nextF (zs : List Int) (bs : List Bool) : Nat × Int × Int := nx zs bs bs.length 0

theorem nx_is (zs : List Int) (bs : List Bool) : ∀ f j, j + f = bs.length → (∀ i, 1 ≤ i → i ≤ j → goesOn zs bs i) → NextIs zs bs (nx zs bs f j).1 (nx zs bs f j).2.1 (nx zs bs f j).2.2 := by
  intro f
  induction f with
  | zero =>
    intro j hj hg
    exact ⟨by show j ≤ _; omega, fun i h1 h2 => hg i h1 (by have h2' : i < j := h2; omega), Or.inl ⟨rfl, rfl, by show j = _; omega, fun h1 => hg j h1 (Nat.le_refl _)⟩⟩
  | succ f ih =>
    intro j hj hg
    cases hl : leafF zs zs.length (bs.take (j + 1)) with
    | some t =>
      have e : nx zs bs (f + 1) j = (j + 1, (t : Int), 0) := by rw [nx, hl]
      rw [e]
      exact ⟨by show j + 1 ≤ _; omega, fun i h1 h2 => hg i h1 (by have h2' : i < j + 1 := h2; omega), Or.inr (Or.inr ⟨rfl, by show 1 ≤ j + 1; omega, t, rfl, hl⟩)⟩
    | none =>
      by_cases hin : inT zs zs.length (bs.take (j + 1))
      · have e : nx zs bs (f + 1) j = nx zs bs f (j + 1) := by rw [nx, hl]; exact if_pos hin
        rw [e]
        exact ih (j + 1) (by omega) fun i h1 h2 => by
          by_cases hi : i = j + 1
          · subst hi; exact ⟨hin, hl⟩
          · exact hg i h1 (by omega)
      · have e : nx zs bs (f + 1) j = (j + 1, 0, 3) := by rw [nx, hl]; exact if_neg hin
        rw [e]
        exact ⟨by show j + 1 ≤ _; omega, fun i h1 h2 => hg i h1 (by have h2' : i < j + 1 := h2; omega), Or.inr (Or.inl ⟨rfl, rfl, by show 1 ≤ j + 1; omega, hin⟩)⟩
theorem nextF_is (zs : List Int) (bs : List Bool) : NextIs zs bs (nextF zs bs).1 (nextF zs bs).2.1 (nextF zs bs).2.2 := nx_is zs bs bs.length 0 (by omega) fun i h1 h2 => by omega
theorem nextF_eq {zs : List Int} {bs : List Bool} {k : Nat} {sym err : Int} (h : NextIs zs bs k sym err) : nextF zs bs = (k, sym, err) := by
  obtain ⟨h1, h2, h3⟩ := NextIs.unique (nextF_is zs bs) h
  rw [← h1, ← h2, ← h3]

/-- A symbol that is read of the first k bits is read of whatever begins with them. -/
theorem NextIs.ext {zs : List Int} {bs bs' : List Bool} {k : Nat} {sym : Int} (h : NextIs zs bs k sym 0) (he : bs'.take k = bs.take k) (hl : k ≤ bs'.length) : NextIs zs bs' k sym 0 := by
  have ht : ∀ j, j ≤ k → bs'.take j = bs.take j := fun j hj => by
    have := congrArg (List.take j) he
    rw [List.take_take, List.take_take, show min j k = j from by omega] at this
    exact this
  refine ⟨hl, fun j h1 h2 => ?_, ?_⟩
  · have := h.2.1 j h1 h2
    unfold goesOn at this ⊢
    rw [ht j (by omega)]
    exact this
  · rcases h.2.2 with ⟨h1, _⟩ | ⟨h1, _⟩ | ⟨h1, h2, t, h3, h4⟩
    · omega
    · omega
    · exact Or.inr (Or.inr ⟨rfl, h2, t, h3, by rw [ht k (Nat.le_refl _)]; exact h4⟩)
/-- Cut off ahead of that, the bits are too short. -/
theorem NextIs.cut {zs : List Int} {bs bs' : List Bool} {k : Nat} {sym : Int} (h : NextIs zs bs k sym 0) (hl : bs'.length < k) (he : bs' = bs.take bs'.length) : NextIs zs bs' bs'.length 0 2 := by
  have ht : ∀ j, j ≤ bs'.length → bs'.take j = bs.take j := fun j hj => by
    rw [he, List.take_take, show min j bs'.length = j from by omega]
  have hg : ∀ j, 1 ≤ j → j ≤ bs'.length → goesOn zs bs' j := fun j h1 h2 => by
    have := h.2.1 j h1 (by omega)
    unfold goesOn at this ⊢
    rw [ht j h2]
    exact this
  exact ⟨Nat.le_refl _, fun j h1 h2 => hg j h1 (by omega), Or.inl ⟨rfl, rfl, rfl, fun h1 => hg _ h1 (Nat.le_refl _)⟩⟩

/-- What is asked of bits, and done. -/
inductive Pr : Type
  | done : Pr
  | fail (e : Int) : Pr
  | take (n : Nat) (k : Int → Pr) : Pr
  | next (zs : List Int) (k : Int → Pr) : Pr
  | align (k : Pr) : Pr
  | bytes (n : Nat) (k : List Int → Pr) : Pr
  | look (k : List Int → Pr) : Pr
  | emit (l : List Int) (k : Pr) : Pr
inductive Res : Type
  | ok (out : List Int) (p : Nat) : Res
  | err (e : Int) : Res

/-- n bytes from a place on. -/
def bytesAt (bs : List Bool) (p n : Nat) : List Int := tab n fun i => num ((bs.drop (p + 8 * i)).take 8)

noncomputable def run (bs : List Bool) (most : Nat) : Pr → Nat → List Int → Res
  | .done, p, out => .ok out p
  | .fail e, _, _ => .err e
  | .take n k, p, out => if p + n ≤ bs.length then run bs most (k (num ((bs.drop p).take n))) (p + n) out else .err 2
  | .next zs k, p, out => if (nextF zs (bs.drop p)).2.2 = 0 then run bs most (k (nextF zs (bs.drop p)).2.1) (p + (nextF zs (bs.drop p)).1) out else .err (nextF zs (bs.drop p)).2.2
  | .align k, p, out => run bs most k (alignUp p) out
  | .bytes n k, p, out => if alignUp p + 8 * n ≤ bs.length then run bs most (k (bytesAt bs (alignUp p) n)) (alignUp p + 8 * n) out else .err 2
  | .look k, p, out => run bs most (k out) p out
  | .emit l k, p, out => if out.length + l.length ≤ most then run bs most k p (out ++ l) else .err 4

theorem alignUp_ge (p : Nat) : p ≤ alignUp p := by unfold alignUp; omega
theorem alignUp_le {p c : Nat} (h : p ≤ 8 * c) : alignUp p ≤ 8 * c := by unfold alignUp; omega

/-- Where it ends. -/
theorem run_ge {bs : List Bool} {most : Nat} (X : Pr) : ∀ {p : Nat} {out out' : List Int} {q : Nat}, run bs most X p out = .ok out' q → p ≤ q ∧ out.length ≤ out'.length ∧ (out.length ≤ most → out'.length ≤ most) := by
  induction X with
  | done => intro p out out' q h; rw [run] at h; injection h with h1 h2; subst h1 h2; exact ⟨Nat.le_refl _, Nat.le_refl _, id⟩
  | fail e => intro p out out' q h; rw [run] at h; cases h
  | take n k ih =>
    intro p out out' q h
    rw [run] at h
    split at h
    · have := ih _ h; exact ⟨by omega, this.2⟩
    · cases h
  | next zs k ih =>
    intro p out out' q h
    rw [run] at h
    split at h
    · have := ih _ h; exact ⟨by omega, this.2⟩
    · cases h
  | align k ih => intro p out out' q h; rw [run] at h; have := ih h; have := alignUp_ge p; exact ⟨by omega, by omega, (ih h).2.2⟩
  | bytes n k ih =>
    intro p out out' q h
    rw [run] at h
    split at h
    · have := ih _ h; have := alignUp_ge p; exact ⟨by omega, (ih _ h).2⟩
    · cases h
  | look k ih => intro p out out' q h; rw [run] at h; exact ih _ h
  | emit l k ih =>
    intro p out out' q h
    rw [run] at h
    split at h
    · rename_i hr
      have := ih h
      rw [List.length_append] at this
      exact ⟨this.1, by omega, fun _ => this.2.2 hr⟩
    · cases h
theorem run_le {bs : List Bool} {most n : Nat} (hb : bs.length = 8 * n) (X : Pr) : ∀ {p : Nat} {out out' : List Int} {q : Nat}, p ≤ 8 * n → run bs most X p out = .ok out' q → q ≤ 8 * n := by
  induction X with
  | done => intro p out out' q hp h; rw [run] at h; injection h with h1 h2; omega
  | fail e => intro p out out' q hp h; rw [run] at h; cases h
  | take m k ih =>
    intro p out out' q hp h
    rw [run] at h
    split at h
    · exact ih _ (by omega) h
    · cases h
  | next zs k ih =>
    intro p out out' q hp h
    rw [run] at h
    split at h
    · have := (nextF_is zs (bs.drop p)).1
      rw [List.length_drop] at this
      exact ih _ (by omega) h
    · cases h
  | align k ih => intro p out out' q hp h; rw [run] at h; exact ih (alignUp_le hp) h
  | bytes m k ih =>
    intro p out out' q hp h
    rw [run] at h
    split at h
    · exact ih _ (by omega) h
    · cases h
  | look k ih => intro p out out' q hp h; rw [run] at h; exact ih _ hp h
  | emit l k ih =>
    intro p out out' q hp h
    rw [run] at h
    split at h
    · exact ih hp h
    · cases h

theorem take_drop_eq {bs bs' : List Bool} {q p n : Nat} (h : bs'.take q = bs.take q) (hp : p + n ≤ q) : (bs'.drop p).take n = (bs.drop p).take n := by
  have e : ∀ l : List Bool, (l.drop p).take n = ((l.take q).drop p).take n := fun l => by
    rw [List.drop_take, List.take_take, show min n (q - p) = n from by omega]
  rw [e bs', e bs, h]

/-- What stands behind changes nothing. -/
theorem run_ext {bs bs' : List Bool} {most : Nat} (X : Pr) : ∀ {p : Nat} {out out' : List Int} {q : Nat}, run bs most X p out = .ok out' q → bs'.take q = bs.take q → q ≤ bs'.length → run bs' most X p out = .ok out' q := by
  induction X with
  | done => intro p out out' q h _ _; rw [run] at h ⊢; exact h
  | fail e => intro p out out' q h; rw [run] at h; cases h
  | take n k ih =>
    intro p out out' q h he hl
    rw [run] at h
    split at h
    · have hq := (run_ge _ h).1
      rw [run, if_pos (by omega), take_drop_eq he hq]
      exact ih _ h he hl
    · cases h
  | next zs k ih =>
    intro p out out' q h he hl
    rw [run] at h
    split at h
    · rename_i h0
      have hq := (run_ge _ h).1
      have hn := nextF_is zs (bs.drop p)
      rw [h0] at hn
      have hn' := hn.ext (bs' := bs'.drop p) (take_drop_eq he hq) (by rw [List.length_drop]; omega)
      rw [run, nextF_eq hn', if_pos rfl]
      exact ih _ h he hl
    · cases h
  | align k ih => intro p out out' q h he hl; rw [run] at h ⊢; exact ih h he hl
  | bytes n k ih =>
    intro p out out' q h he hl
    rw [run] at h
    split at h
    · have hq := (run_ge _ h).1
      have e : bytesAt bs' (alignUp p) n = bytesAt bs (alignUp p) n := by
        unfold bytesAt
        exact tab_congr fun i hi => by rw [take_drop_eq he (by omega)]
      rw [run, if_pos (by omega), e]
      exact ih _ h he hl
    · cases h
  | look k ih => intro p out out' q h he hl; rw [run] at h ⊢; exact ih _ h he hl
  | emit l k ih =>
    intro p out out' q h he hl
    rw [run] at h
    split at h
    · rename_i hr
      rw [run, if_pos hr]
      exact ih h he hl
    · cases h

/-- With room enough the same comes out; with too little it is told. -/
theorem run_most {bs : List Bool} {most most' : Nat} (X : Pr) : ∀ {p : Nat} {out out' : List Int} {q : Nat}, run bs most X p out = .ok out' q → out.length ≤ most' → run bs most' X p out = if out'.length ≤ most' then .ok out' q else .err 4 := by
  induction X with
  | done => intro p out out' q h hm; rw [run] at h ⊢; injection h with h1 h2; subst h1 h2; rw [if_pos hm]
  | fail e => intro p out out' q h; rw [run] at h; cases h
  | take n k ih =>
    intro p out out' q h hm
    rw [run] at h
    split at h
    · rename_i hr
      rw [run, if_pos hr]
      exact ih _ h hm
    · cases h
  | next zs k ih =>
    intro p out out' q h hm
    rw [run] at h
    split at h
    · rename_i h0
      rw [run, if_pos h0]
      exact ih _ h hm
    · cases h
  | align k ih => intro p out out' q h hm; rw [run] at h ⊢; exact ih h hm
  | bytes n k ih =>
    intro p out out' q h hm
    rw [run] at h
    split at h
    · rename_i hr
      rw [run, if_pos hr]
      exact ih _ h hm
    · cases h
  | look k ih => intro p out out' q h hm; rw [run] at h ⊢; exact ih _ h hm
  | emit l k ih =>
    intro p out out' q h hm
    rw [run] at h
    split at h
    · have hq := (run_ge _ h).2.1
      rw [List.length_append] at hq
      rw [run]
      by_cases hr' : out.length + l.length ≤ most'
      · rw [if_pos hr']
        exact ih h (by rw [List.length_append]; exact hr')
      · rw [if_neg hr', if_neg (by omega)]
    · cases h

/-- Cut off ahead of the end, it is too short. -/
theorem run_cut {bs : List Bool} {most c : Nat} (X : Pr) : ∀ {p : Nat} {out out' : List Int} {q : Nat}, run bs most X p out = .ok out' q → p ≤ 8 * c → 8 * c < q → 8 * c ≤ bs.length → run (bs.take (8 * c)) most X p out = .err 2 := by
  induction X with
  | done => intro p out out' q h h1 h2; rw [run] at h; injection h with h3 h4; omega
  | fail e => intro p out out' q h; rw [run] at h; cases h
  | take n k ih =>
    intro p out out' q h h1 h2 h3
    rw [run] at h
    split at h
    · rw [run, List.length_take, show min (8 * c) bs.length = 8 * c from by omega]
      by_cases hr : p + n ≤ 8 * c
      · rw [if_pos hr, take_drop_eq (bs := bs) (q := 8 * c) (by rw [List.take_take, Nat.min_self]) hr]
        exact ih _ h hr h2 h3
      · rw [if_neg hr]
    · cases h
  | next zs k ih =>
    intro p out out' q h h1 h2 h3
    rw [run] at h
    split at h
    · rename_i h0
      have hn := nextF_is zs (bs.drop p)
      rw [h0] at hn
      by_cases hr : p + (nextF zs (bs.drop p)).1 ≤ 8 * c
      · have hn' := hn.ext (bs' := (bs.take (8 * c)).drop p) (take_drop_eq (bs := bs) (q := 8 * c) (by rw [List.take_take, Nat.min_self]) hr) (by rw [List.length_drop, List.length_take]; omega)
        rw [run, nextF_eq hn', if_pos rfl]
        exact ih _ h hr h2 h3
      · have hlen : ((bs.take (8 * c)).drop p).length = 8 * c - p := by rw [List.length_drop, List.length_take]; omega
        have hn' := hn.cut (bs' := (bs.take (8 * c)).drop p) (by rw [hlen]; omega) (by rw [hlen, List.drop_take])
        rw [run, nextF_eq hn', if_neg (show ¬ ((2 : Int) = 0) by decide)]
    · cases h
  | align k ih => intro p out out' q h h1 h2 h3; rw [run] at h ⊢; exact ih h (alignUp_le h1) h2 h3
  | bytes n k ih =>
    intro p out out' q h h1 h2 h3
    rw [run] at h
    split at h
    · rw [run, List.length_take, show min (8 * c) bs.length = 8 * c from by omega]
      by_cases hr : alignUp p + 8 * n ≤ 8 * c
      · have e : bytesAt (bs.take (8 * c)) (alignUp p) n = bytesAt bs (alignUp p) n := by
          unfold bytesAt
          exact tab_congr fun i hi => by rw [take_drop_eq (bs := bs) (q := 8 * c) (by rw [List.take_take, Nat.min_self]) (by omega)]
        rw [if_pos hr, e]
        exact ih _ h hr h2 h3
      · rw [if_neg hr]
    · cases h
  | look k ih => intro p out out' q h h1 h2 h3; rw [run] at h ⊢; exact ih _ h h1 h2 h3
  | emit l k ih =>
    intro p out out' q h h1 h2 h3
    rw [run] at h
    split at h
    · rename_i hr
      rw [run, if_pos hr]
      exact ih h h1 h2 h3
    · cases h

/-- The bytes that came, from so far back on, as many as are asked for. -/
def cp (out : List Int) (back : Nat) : Nat → List Int
  | 0 => []
  | n + 1 => cp out back n ++ [(out ++ cp out back n).getD ((out ++ cp out back n).length - back) 0]
theorem cp_len (out : List Int) (back n : Nat) : (cp out back n).length = n := by
  induction n with
  | zero => rfl
  | succ n ih => rw [cp, List.length_append, ih]; rfl

/-- A length by its symbol. -/
def lenPr (i : Int) (k : Int → Pr) : Pr := if i < 8 then k (3 + i) else if i = 28 then k 258 else .take (i / 4 - 1).toNat fun v => k (3 + (4 + i % 4) * 2 ^ (i / 4 - 1).toNat + v)
/-- A distance by its symbol. -/
def distPr (t : Int) (k : Int → Pr) : Pr := if t < 4 then k (1 + t) else .take (t / 2 - 1).toNat fun v => k (1 + (2 + t % 2) * 2 ^ (t / 2 - 1).toNat + v)
def againPr (s : Int) (dz : List Int) (k : Pr) : Pr :=
  if 286 ≤ s then .fail 3 else lenPr (s - 257) fun cnt => .next dz fun t => if 30 ≤ t then .fail 3 else distPr t fun back => .look fun out => if (out.length : Int) < back then .fail 3 else .emit (cp out back.toNat cnt.toNat) k
def symPr (lz dz : List Int) : Nat → Pr → Pr
  | 0, _ => .fail 99
  | f + 1, k => .next lz fun s => if s = 256 then k else if 256 < s then againPr s dz (symPr lz dz f k) else .emit [s] (symPr lz dz f k)
/-- What a symbol of the third code says: the length, how often at least, how many bits tell more. -/
def stepOf (s : Int) (row : List Int) : Int × Int × Nat := if s = 16 then (row.getLastD 0, 3, 2) else if s = 17 then (0, 3, 3) else if s = 18 then (0, 11, 7) else (s, 1, 0)
def rowPr (tz : List Int) (count : Nat) : Nat → List Int → (List Int → Pr) → Pr
  | 0, _, _ => .fail 99
  | f + 1, row, k => if count ≤ row.length then k row else .next tz fun s => if s = 16 ∧ row.length = 0 then .fail 3 else
      .take (stepOf s row).2.2 fun more => if (count : Int) - row.length < (stepOf s row).2.1 + more then .fail 3 else rowPr tz count f (row ++ List.replicate ((stepOf s row).2.1 + more).toNat (stepOf s row).1) k
def orderL : List Nat := [16, 17, 18, 0, 8, 7, 9, 6, 10, 5, 11, 4, 12, 3, 13, 2, 14, 1, 15]
/-- The lengths of the third code, as the first of them are told. -/
def thirdOf (acc : List Int) : List Int := tab 19 fun j => if orderL.idxOf j < acc.length then acc.getD (orderL.idxOf j) 0 else 0
def tk3 : Nat → List Int → (List Int → Pr) → Pr
  | 0, acc, k => k acc
  | n + 1, acc, k => .take 3 fun v => tk3 n (acc ++ [v]) k
def loneB (l : List Int) : Bool := decide (l.sum ≤ 1)
def lensPr (F : Nat) (k : List Int → List Int → Pr) : Pr :=
  .take 5 fun l => .take 5 fun d => .take 4 fun c => if 286 < l + 257 ∨ 30 < d + 1 then .fail 3 else tk3 (c + 4).toNat [] fun acc =>
    if fullB (thirdOf acc) = false then .fail 3 else rowPr (thirdOf acc) (l + 257 + (d + 1)).toNat F [] fun row =>
      if row.getD 256 0 = 0 ∨ fullB (row.take (l + 257).toNat) = false then .fail 3 else
      if fullB (row.drop (l + 257).toNat) = false ∧ loneB (row.drop (l + 257).toNat) = false then .fail 3 else k (row.take (l + 257).toNat) (row.drop (l + 257).toNat)
def fixedL : List Int := List.replicate 144 8 ++ List.replicate 112 9 ++ List.replicate 24 7 ++ List.replicate 8 8
def fixedD : List Int := List.replicate 32 5
def storedPr (k : Pr) : Pr := .align (.take 16 fun n => .take 16 fun m => if m ≠ 65535 - n then .fail 3 else .bytes n.toNat fun b => .emit b k)
def blockPr (F : Nat) (k : Pr) : Pr := .take 2 fun kind => if kind = 0 then storedPr k else if kind = 1 then symPr fixedL fixedD F k else if kind = 2 then lensPr F fun lits dists => symPr lits dists F k else .fail 3
def infPr (F : Nat) : Nat → Pr
  | 0 => .fail 99
  | f + 1 => .take 1 fun last => blockPr F (if last = 0 then infPr F f else .done)

end Go.Proofs.YtolcdlopgbgilaaGreatDoor

/-! Text InfA. -/
namespace Go.Proofs.YtolcdlopgbgilaaGreatDoor
open Go.RowKit Go.Dray

/-- An unpacker at block u: its reader at block g behind p bits of the bytes ys; what came: o. -/
structure USt (w : World) (B u g : Nat) (RA : Option Addr) (rn rc : Nat) (ys : List Int) (most : Nat) (p : Nat) (OA : Option Addr) (on oc : Nat) (o : List Int) : Prop where
  blk : Blk w u 80 #[.pointer (some ⟨g, 0, none⟩), .slice OA on oc, .int .i64 most]
  rd : Rd w B g RA rn rc ys p
  own : Own w B 5 1 OA on oc (o.map (Value.int .u8))
  sep : ∀ x, ob OA = some x → ob RA ≠ some x
  pos : p ≤ 8 * rn
  room : on ≤ most
  yb : ∀ z ∈ ys, 0 ≤ z ∧ z ≤ 255
  rb : rn ≤ 1000000000000
  mb : most ≤ 16777216
  obd : ∀ z ∈ o, 0 ≤ z ∧ z ≤ 255
  bw : B ≤ w.heap.size

section
variable {w w' : World} {B u g : Nat} {RA : Option Addr} {rn rc : Nat} {ys : List Int} {most p : Nat} {OA : Option Addr} {on oc : Nat} {o : List Int}
theorem USt.olen (h : USt w B u g RA rn rc ys most p OA on oc o) : o.length = on := by have := h.own.len; rw [List.length_map] at this; omega
theorem USt.bits (h : USt w B u g RA rn rc ys most p OA on oc o) : (bitsOf ys).length = 8 * rn := by
  have := h.rd.2.len
  rw [List.length_map] at this
  rw [bitsOf_len]
  omega
theorem USt.ug (h : USt w B u g RA rn rc ys most p OA on oc o) : u ≠ g := h.blk.ne h.rd.1 (by decide)
/-- The reader has gone on. -/
theorem USt.read (h : USt w B u g RA rn rc ys most p OA on oc o) {p' : Nat} (hr : Rd w' B g RA rn rc ys p') (hu : Upd [some g] w w') (hp : p' ≤ 8 * rn) : USt w' B u g RA rn rc ys most p' OA on oc o :=
  ⟨h.blk.upd hu (by simp; exact h.ug), hr, h.own.upd hu (by intro x hx; simp; rintro rfl; exact h.own.neBlk h.rd.1 (by decide) hx), h.sep, hp, h.room, h.yb, h.rb, h.mb, h.obd, Nat.le_trans h.bw hu.size⟩
theorem USt.drewN (h : USt w B u g RA rn rc ys most p OA on oc o) (q : Nat) : USt (w.drewN q) B u g RA rn rc ys most p OA on oc o := ⟨h.blk, h.rd.drewN q, h.own.drewN q, h.sep, h.pos, h.room, h.yb, h.rb, h.mb, h.obd, h.bw⟩
theorem USt.grow (h : USt w B u g RA rn rc ys most p OA on oc o) (hu : Upd [] w w') : USt w' B u g RA rn rc ys most p OA on oc o :=
  ⟨h.blk.upd hu (by simp), h.rd.upd hu (by simp) (by simp), h.own.upd hu (by simp), h.sep, h.pos, h.room, h.yb, h.rb, h.mb, h.obd, Nat.le_trans h.bw hu.size⟩
end

/-- Take, whatever is left. -/
def TkPost (w : World) (B g : Nat) (RA : Option Addr) (rn rc : Nat) (ys : List Int) (p m : Nat) (e : Ending) (w' : World) : Prop :=
  (p + m ≤ 8 * rn ∧ RdPost w B g RA rn rc ys (p + m) (.tuple #[.int .i64 (num (((bitsOf ys).drop p).take m)), .bool true]) e w') ∨ (8 * rn < p + m ∧ RdPost w B g RA rn rc ys p (.tuple #[.int .i64 0, .bool false]) e w')
theorem take_any {w : World} {B u g : Nat} {RA : Option Addr} {rn rc : Nat} {ys : List Int} {most p : Nat} {OA : Option Addr} {on oc : Nat} {o : List Int} (h : USt w B u g RA rn rc ys most p OA on oc o) (m : Nat) (hm : m ≤ 24) :
    Calls Tryz.prog 38 #[.pointer (some ⟨g, 0, none⟩), .int .i64 m] w (TkPost w B g RA rn rc ys p m) := by
  have hb := h.rb
  by_cases hl : p + m ≤ 8 * rn
  · exact (take_ok m h.rd (by omega) hm hl h.yb).mono fun e w' he => Or.inl ⟨hl, he⟩
  · exact (take_no m h.rd h.pos (by omega) (by omega)).mono fun e w' he => Or.inr ⟨by omega, he⟩

theorem run_take_ok {bs : List Bool} {most n p : Nat} {k : Int → Pr} {o : List Int} (h : p + n ≤ bs.length) : run bs most (.take n k) p o = run bs most (k (num ((bs.drop p).take n))) (p + n) o := by rw [run, if_pos h]
theorem run_take_no {bs : List Bool} {most n p : Nat} {k : Int → Pr} {o : List Int} (h : bs.length < p + n) : run bs most (.take n k) p o = .err 2 := by rw [run, if_neg (by omega)]
theorem num_bd (l : List Bool) (n m : Nat) (h : n ≤ m) : 0 ≤ num (l.take n) ∧ num (l.take n) < 2 ^ m := by
  refine ⟨num_nonneg _, ?_⟩
  have h1 := num_lt (l.take n)
  have h2 : (l.take n).length ≤ m := by rw [List.length_take]; omega
  have h3 := Nat.pow_le_pow_right (n := 2) (by omega) h2
  have e1 : ((2 ^ (l.take n).length : Nat) : Int) = (2 : Int) ^ (l.take n).length := by simp
  have e2 : ((2 ^ m : Nat) : Int) = (2 : Int) ^ m := by simp
  rw [← e1] at h1
  rw [← e2]
  omega

/-- What a number read tells, or an error. -/
def ValPost (w : World) (B u g : Nat) (RA : Option Addr) (rn rc : Nat) (ys : List Int) (most p : Nat) (OA : Option Addr) (on oc : Nat) (o : List Int) (X : (Int → Pr) → Pr) (lo hi : Int) (e : Ending) (w' : World) : Prop :=
  ∃ v err p', e = .returned (.tuple #[.int .i64 v, .int .i64 err]) ∧ USt w' B u g RA rn rc ys most p' OA on oc o ∧ Upd [some g] w w' ∧ p ≤ p' ∧
    ((err ≠ 0 ∧ ∀ k, run (bitsOf ys) most (X k) p o = .err err) ∨ (err = 0 ∧ lo ≤ v ∧ v ≤ hi ∧ ∀ k, run (bitsOf ys) most (X k) p o = run (bitsOf ys) most (k v) p' o))

set_option maxHeartbeats 1000000 in
theorem length_any {w : World} {B u g : Nat} {RA : Option Addr} {rn rc : Nat} {ys : List Int} {most p : Nat} {OA : Option Addr} {on oc : Nat} {o : List Int} (h : USt w B u g RA rn rc ys most p OA on oc o) (i : Int) (h0 : 0 ≤ i) (h1 : i ≤ 28) :
    Calls Tryz.prog 117 #[.pointer (some ⟨u, 0, none⟩), .int .i64 i] w (ValPost w B u g RA rn rc ys most p OA on oc o (lenPr i) 3 258) := by
  have HU := Lib.hid h
  have hc0 := h.blk.cell 0
  simp at hc0
  clear h
  by_cases h8 : i < 8
  · go_enter Tryz.func117, Tryz.ntmps117
    go_wp2
    go_ret2
    exact ⟨3 + i, 0, p, rfl, HU.out, Upd.refl _ _, Nat.le_refl _, Or.inr ⟨rfl, by omega, by omega, fun k => by unfold lenPr; rw [if_pos h8]⟩⟩
  · by_cases h28 : i = 28
    · subst h28
      go_enter Tryz.func117, Tryz.ntmps117
      go_wp2
      go_ret2
      exact ⟨258, 0, p, rfl, HU.out, Upd.refl _ _, Nat.le_refl _, Or.inr ⟨rfl, by omega, by omega, fun k => rfl⟩⟩
    · have hd : (i == 28) = false := by simp [h28]
      obtain ⟨n, hn⟩ : ∃ n : Nat, (n : Int) = i / 4 - 1 := ⟨(i / 4 - 1).toNat, by omega⟩
      have hn5 : 1 ≤ n ∧ n ≤ 5 := by omega
      have HN : Hid (i / 4 - 1 = (n : Int)) := hn.symm
      have HX : Hid (∀ k, lenPr i k = .take n fun v => k (3 + (4 + i % 4) * 2 ^ n + v)) := fun k => by
        unfold lenPr
        rw [if_neg h8, if_neg h28, ← hn]
        rfl
      have h8' : 8 ≤ i := by omega
      clear hn h8
      go_enter Tryz.func117, Tryz.ntmps117
      go_wp2_with fail
      rw [HN.out]
      refine (take_any HU.out n (by omega)).mono ?_
      rintro e w1 (⟨hl, rfl, hr, hu⟩ | ⟨hl, rfl, hr, hu⟩)
      · have hnb := num_bd ((bitsOf ys).drop p) n n (Nat.le_refl _)
        obtain ⟨v, hv⟩ : ∃ v, v = num (((bitsOf ys).drop p).take n) := ⟨_, rfl⟩
        rw [← hv] at hnb ⊢
        have HV := Lib.hid hv
        have hmul : 0 ≤ (4 + i % 4) * (2 : Int) ^ n ∧ (4 + i % 4) * (2 : Int) ^ n + v ≤ 255 := by
          obtain ⟨a, b⟩ := hn5
          match n, a, b with
          | 1, _, _ | 2, _, _ | 3, _, _ | 4, _, _ | 5, _, _ => first | omega | (simp at hnb; omega)
        have hnb0 := hnb.1
        clear hv hnb
        go_wp2
        go_ret2
        exact ⟨3 + (4 + i % 4) * 2 ^ n + v, 0, p + n, rfl, HU.out.read hr hu hl, hu, by omega, Or.inr ⟨rfl, by omega, by omega, fun k => by rw [HX.out, run_take_ok (by rw [HU.out.bits]; exact hl), ← HV.out]⟩⟩
      · go_wp2
        go_ret2
        exact ⟨0, 2, p, rfl, HU.out.read hr hu HU.out.pos, hu, Nat.le_refl _, Or.inl ⟨by decide, fun k => by rw [HX.out, run_take_no (by rw [HU.out.bits]; omega)]⟩⟩

set_option maxHeartbeats 1000000 in
theorem distance_any {w : World} {B u g : Nat} {RA : Option Addr} {rn rc : Nat} {ys : List Int} {most p : Nat} {OA : Option Addr} {on oc : Nat} {o : List Int} (h : USt w B u g RA rn rc ys most p OA on oc o) (i : Int) (h0 : 0 ≤ i) (h1 : i ≤ 29) :
    Calls Tryz.prog 118 #[.pointer (some ⟨u, 0, none⟩), .int .i64 i] w (ValPost w B u g RA rn rc ys most p OA on oc o (distPr i) 1 32768) := by
  have HU := Lib.hid h
  have hc0 := h.blk.cell 0
  simp at hc0
  clear h
  by_cases h8 : i < 4
  · go_enter Tryz.func118, Tryz.ntmps118
    go_wp2
    go_ret2
    exact ⟨1 + i, 0, p, rfl, HU.out, Upd.refl _ _, Nat.le_refl _, Or.inr ⟨rfl, by omega, by omega, fun k => by unfold distPr; rw [if_pos h8]⟩⟩
  · obtain ⟨n, hn⟩ : ∃ n : Nat, (n : Int) = i / 2 - 1 := ⟨(i / 2 - 1).toNat, by omega⟩
    have hn5 : 1 ≤ n ∧ n ≤ 13 := by omega
    have HN : Hid (i / 2 - 1 = (n : Int)) := hn.symm
    have HX : Hid (∀ k, distPr i k = .take n fun v => k (1 + (2 + i % 2) * 2 ^ n + v)) := fun k => by
      unfold distPr
      rw [if_neg h8, ← hn]
      rfl
    have h8' : 4 ≤ i := by omega
    clear hn h8
    go_enter Tryz.func118, Tryz.ntmps118
    go_wp2_with fail
    rw [HN.out]
    refine (take_any HU.out n (by omega)).mono ?_
    rintro e w1 (⟨hl, rfl, hr, hu⟩ | ⟨hl, rfl, hr, hu⟩)
    · have hnb := num_bd ((bitsOf ys).drop p) n n (Nat.le_refl _)
      obtain ⟨v, hv⟩ : ∃ v, v = num (((bitsOf ys).drop p).take n) := ⟨_, rfl⟩
      rw [← hv] at hnb ⊢
      have HV := Lib.hid hv
      have hmul : 0 ≤ (2 + i % 2) * (2 : Int) ^ n ∧ (2 + i % 2) * (2 : Int) ^ n + v ≤ 32767 := by
        obtain ⟨a, b⟩ := hn5
        match n, a, b with
        | 1, _, _ | 2, _, _ | 3, _, _ | 4, _, _ | 5, _, _ | 6, _, _ | 7, _, _ | 8, _, _ | 9, _, _ | 10, _, _ | 11, _, _ | 12, _, _ | 13, _, _ => first | omega | (simp at hnb; omega)
      have hnb0 := hnb.1
      clear hv hnb
      go_wp2
      go_ret2
      exact ⟨1 + (2 + i % 2) * 2 ^ n + v, 0, p + n, rfl, HU.out.read hr hu hl, hu, by omega, Or.inr ⟨rfl, by omega, by omega, fun k => by rw [HX.out, run_take_ok (by rw [HU.out.bits]; exact hl), ← HV.out]⟩⟩
    · go_wp2
      go_ret2
      exact ⟨0, 2, p, rfl, HU.out.read hr hu HU.out.pos, hu, Nat.le_refl _, Or.inl ⟨by decide, fun k => by rw [HX.out, run_take_no (by rw [HU.out.bits]; omega)]⟩⟩

theorem sum_snoc (zs : List Int) (k : Nat) (x : Int) (h : zs[k]? = some x) : (zs.take (k + 1)).sum = (zs.take k).sum + x := by
  have hk : k < zs.length := (List.getElem?_eq_some_iff.1 h).1
  have hx : zs[k] = x := (List.getElem?_eq_some_iff.1 h).2
  rw [List.take_succ_eq_append_getElem hk, hx, List.sum_append]
  simp
theorem sum_bd (zs : List Int) (h : ∀ z ∈ zs, 0 ≤ z ∧ z ≤ 15) : 0 ≤ zs.sum ∧ zs.sum ≤ 15 * zs.length := by
  induction zs with
  | nil => simp
  | cons z zs ih =>
    have h1 := h z (by simp)
    have h2 := ih fun y hy => h y (by simp [hy])
    rw [List.sum_cons, List.length_cons]
    omega

set_option maxHeartbeats 400000 in
theorem lone_any (A : Option Addr) (n c : Nat) (zs : List Int) (w : World) (hs : Ints .i64 w A n zs) (hb : ∀ z ∈ zs, 0 ≤ z ∧ z ≤ 15) (hn : n ≤ 1000) :
    Calls Tryz.prog 102 #[.slice A n c] w fun e w' => e = .returned (.bool (loneB zs)) ∧ w = w' := by
  have HB := Lib.hid hb
  clear hb
  have HL := hs.len
  go_enter Tryz.func102, Tryz.ntmps102
  go_wp2
  go_loop [3, 8] (fun t i => ∃ k : Nat, k ≤ n ∧ i = .int .i64 k ∧ t = .int .i64 ((zs.take k).sum)) (fun _ i => n - (intOf i).toNat)
  case atStart => exact ⟨0, Nat.zero_le _, rfl, rfl⟩
  case round =>
    obtain ⟨k, hk, rfl, rfl⟩ := hrel
    have hbd := sum_bd (zs.take k) fun z hz => HB.out z (List.mem_of_mem_take hz)
    have hlt : (zs.take k).length ≤ k := List.length_take_le _ _
    obtain ⟨s, hs0⟩ : ∃ s, s = (zs.take k).sum := ⟨_, rfl⟩
    have HS := Lib.hid hs0
    rw [← hs0] at hbd ⊢
    clear hs0
    by_cases h : k < n
    · obtain ⟨x, HX, hcell⟩ := hs.int h
      have hix := hs.index el_int c .i64 k h
      obtain ⟨hx0, hx1⟩ := HB.out x (List.mem_of_getElem? HX.out)
      clear hs
      go_wp2
      go_round
      case rel => exact ⟨k + 1, by omega, by go_num, by rw [sum_snoc zs k x HX.out, ← HS.out]⟩
      case measure => simp [intOf]; omega
    · obtain rfl : k = n := by omega
      have HE : Hid (loneB zs = decide (s ≤ 1)) := by show _ = _; unfold loneB; rw [HS.out, List.take_of_length_le (by rw [HL.out]; omega)]
      go_wp2
      go_ret
      exact ⟨by rw [HE.out]; rfl, rfl⟩

end Go.Proofs.YtolcdlopgbgilaaGreatDoor

/-! Text Calm. -/
namespace Go.Dray
open Go.RowKit

/-- A world that has come out of w by new blocks (and draws) alone. -/
structure Ltr (w : World) where
  to : World
  upd : Upd [] w to
instance (w : World) : Nonempty (Ltr w) := ⟨⟨w, Upd.refl _ _⟩⟩
def later (w : World) (x : Ltr w) : World := x.to
theorem later_upd (w : World) (x : Ltr w) : Upd [] w (later w x) := x.upd
theorem later_cell {w : World} {p : Addr} {v : Value} (h : w.cell? p = some v) (x : Ltr w) : (later w x).cell? p = some v := (later_upd w x).cell h (by simp)

theorem wp_region_later {P : Program} {id : Nat} {Q : Exit → Act → World → Prop} {a : Act} {w : World} {l : List Oper} (hm : P.follows .mixedOrders = true) (hB : Region.lexB .any l.toArray = true)
    (h : wpQuiet P l.toArray (fun w' => ∃ x, w' = later w x) (fun a' => ∀ w', (∃ x, w' = later w x) → Q .normal a' w') l a) : (Code.region id l.toArray true).wp P Q a w :=
  wp_region_quiet (C := fun w' => ∃ x, w' = later w x) hm hB ⟨⟨w.drew, (Upd.refl _ _).drew⟩, rfl⟩ (by simpa using h)

/-- A callee that lays new blocks alone. -/
theorem laterU {P : Program} {f : FuncId} {args : Array Value} {w : World} {x : Ltr w} {v : Value} (h : Calls P f args (later w x) fun e w' => e = .returned v ∧ Upd [] (later w x) w') :
    Calls P f args (later w x) fun e w'' => e = .returned v ∧ ∃ m, w'' = later w m := h.mono fun _ w' ⟨he, hm⟩ => ⟨he, ⟨w', (later_upd w x).trans hm⟩, rfl⟩
/-- A callee that leaves the world alone. -/
theorem laterL {P : Program} {f : FuncId} {args : Array Value} {w : World} {x : Ltr w} {v : Value} (h : Calls P f args (later w x) fun e w' => e = .returned v ∧ later w x = w') :
    Calls P f args (later w x) fun e w'' => e = .returned v ∧ ∃ m, w'' = later w m := h.mono fun _ _ ⟨he, hm⟩ => ⟨he, x, hm.symm⟩

/-- 'append' as a step of a region that draws its order (for go_region_law). -/
theorem step_app {P : Program} {w : World} {ops : Array Oper} {o : Oper} {a : Act} {K : Act → World → Prop} {Q : Exit → Act → World → Prop} {E : Prop} (hgd : o.guard = none) {s x : Operand} {t : TypeId}
    (ho : o.op = .call { callee := .builtin .append, args := #[s, x], argTypes := #[t, t] })
    {B : Nat} {e : TypeId} {z : Value} {sz bytes : Nat} (el : El P t e z sz bytes)
    {A : Option Addr} {n c : Nat} {xs : List Value} (hs : a.eval s = .slice A n c) (hown : Own w B e sz A n c xs) {A2 : Option Addr} {m c2 : Nat} {news : List Value} (hx : a.eval x = .slice A2 m c2) (hr : Seg w sz A2 m news)
    (h1 : ∀ u ∈ news, u.oneCell' = true) (hmax : n + m ≤ maxLen) (hbytes : (n + m) * bytes ≤ 140737488355328) (hB : B ≤ w.heap.size)
    (h : ∀ A' c' w', Own w' B e sz A' (n + m) c' (xs ++ news) → Upd [ob A] w w' → Fresh w A A' → K (a.put o.dst (.slice A' (n + m) c')) w') :
    if Region.wanted o (yielded ops a.tmps) = true then Oper.wp P o a w K Q else E := by
  rw [if_pos (by simp [Region.wanted, hgd])]
  exact wp_app ho el hs hown hx hr h1 hmax hbytes hB h

end Go.Dray

/-! Text InfB. -/
namespace Go.Proofs.YtolcdlopgbgilaaGreatDoor
open Go.RowKit Go.Dray

/-- What a step that may write leaves: an error, or where it has come to. -/
def GoPost (w : World) (B u g : Nat) (RA : Option Addr) (rn rc : Nat) (ys : List Int) (most p : Nat) (OA : Option Addr) (o : List Int) (X : Pr → Pr) (e : Ending) (w' : World) : Prop :=
  ∃ err p' OA' on' oc' o', e = .returned (.int .i64 err) ∧ USt w' B u g RA rn rc ys most p' OA' on' oc' o' ∧ Upd [some u, some g, ob OA] w w' ∧ Fresh w OA OA' ∧
    ((err ≠ 0 ∧ ∀ k, run (bitsOf ys) most (X k) p o = .err err) ∨ (err = 0 ∧ p ≤ p' ∧ ∀ k, run (bitsOf ys) most (X k) p o = run (bitsOf ys) most k p' o'))

/-- A byte that came is put behind. -/
theorem USt.push {w w1 : World} {B u g : Nat} {RA : Option Addr} {rn rc : Nat} {ys : List Int} {most p : Nat} {OA : Option Addr} {on oc : Nat} {o : List Int} (h : USt w B u g RA rn rc ys most p OA on oc o) {X : Option Addr} {c m : Nat} {l : List Int}
    (hown : Own w1 B 5 1 X (on + m) c (o.map (Value.int .u8) ++ l.map (Value.int .u8))) (hu : Upd [ob OA] w w1) (hf : Fresh w OA X) (hr : on + m ≤ most) (hb : ∀ z ∈ l, 0 ≤ z ∧ z ≤ 255) :
    USt (w1.setCell ⟨u, 1, none⟩ (.slice X (on + m) c)) B u g RA rn rc ys most p X (on + m) c (o ++ l) ∧ Upd [some u, some g, ob OA] w (w1.setCell ⟨u, 1, none⟩ (.slice X (on + m) c)) := by
  have hou : ob OA ≠ some u := h.own.neBlk h.blk (by decide)
  have hog : ob OA ≠ some g := h.own.neBlk h.rd.1 (by decide)
  have hb1 := h.blk.upd hu (by simp; exact fun e => hou e.symm)
  have hr1 := h.rd.upd hu (by simp; exact fun e => hog e.symm) (by intro k hk; simp; intro e; exact h.sep k e.symm hk)
  have hxu : ob X ≠ some u := hown.neBlk hb1 (by decide)
  refine ⟨⟨?_, ?_, ?_, ?_, h.pos, hr, h.yb, h.rb, h.mb, ?_, ?_⟩, ?_⟩
  · exact hb1.set 1 _
  · exact ⟨hr1.1.far (p := ⟨u, 1, none⟩) (fun e => h.ug e.symm) _, hr1.2.far (p := ⟨u, 1, none⟩) (hr1.2.neBlk hb1 (by decide)) _⟩
  · rw [List.map_append]; exact hown.far (p := ⟨u, 1, none⟩) hxu _
  · intro x hx e
    rcases hf x hx with h' | h'
    · exact h.sep x h' e
    · have := (h.rd.2.base e).2; omega
  · intro z hz
    rcases List.mem_append.1 hz with h' | h'
    · exact h.obd z h'
    · exact hb z h'
  · have h1 := h.bw; have h2 := hu.size; simp; omega
  · exact (hu.mono (by intro b hb; simp at hb ⊢; exact Or.inr (Or.inr hb))).putIn (by simp) _

set_option maxRecDepth 100000 in
set_option maxHeartbeats 20000000 in
theorem again_any {w : World} {B u g : Nat} {RA : Option Addr} {rn rc : Nat} {ys : List Int} {most p : Nat} {OA : Option Addr} {on oc : Nat} {o : List Int} (h : USt w B u g RA rn rc ys most p OA on oc o)
    {B' gt : Nat} {TA : Option Addr} {tn tc : Nat} {dz : List Int} {P : List (List Bool)} (ht : Tree w B' gt TA tn tc dz P) (hdz : dz.length ≤ 320) (s : Int) (hs : 257 ≤ s) (hs2 : s ≤ 1000) :
    Calls Tryz.prog 99 #[.pointer (some ⟨u, 0, none⟩), .int .i64 s, .pointer (some ⟨gt, 0, none⟩)] w (GoPost w B u g RA rn rc ys most p OA o (againPr s dz)) := by
  have HU := Lib.hid h
  have HT := Lib.hid ht
  have HDZ := Lib.hid hdz
  have HX0 : Hid (o.length = on) := h.olen
  clear h ht hdz
  by_cases h286 : 286 ≤ s
  · go_enter Tryz.func99, Tryz.ntmps99
    go_wp2
    go_ret
    exact ⟨3, p, OA, on, oc, o, rfl, HU.out, Upd.refl _ _, fun x hx => Or.inl hx, Or.inl ⟨by decide, fun k => by unfold againPr; rw [if_pos h286]; rfl⟩⟩
  · have hd1 : decide (286 ≤ s) = false := by simp; omega
    go_enter Tryz.func99, Tryz.ntmps99
    go_wp2_with fail
    have es : s - 256 - 1 = s - 257 := by omega
    rw [es]
    refine (length_any HU.out (s - 257) (by omega) (by omega)).mono ?_
    rintro e w1 ⟨cnt, err, p1, rfl, hu1, hv1, hp1, ⟨he, hrun⟩ | ⟨rfl, hc3, hc258, hrun⟩⟩
    · have hd2 : (err != 0) = true := by simp [he]
      go_wp2
      go_ret
      exact ⟨err, p1, OA, on, oc, o, rfl, hu1, hv1.mono (by intro b hb; simp at hb ⊢; exact Or.inr (Or.inl hb)), fun x hx => Or.inl hx, Or.inl ⟨he, fun k => by unfold againPr; rw [if_neg (by omega), hrun]⟩⟩
    · have HU1 := Lib.hid hu1
      have HRUN1 := Lib.hid hrun
      have HV1 := Lib.hid hv1
      have hT1 : Tree w1 B' gt TA tn tc dz P := ⟨HT.out.1.upd hv1 (by simp; exact HT.out.1.ne HU.out.rd.1 (by decide)), HT.out.2.1.upd hv1 (by intro x hx; simp; rintro rfl; exact HT.out.2.1.neBlk HU.out.rd.1 (by decide) hx), HT.out.2.2⟩
      have hc0 := hu1.blk.cell 0
      simp at hc0
      have hrb := hu1.rb
      clear hu1 hrun hv1
      go_wp2_with fail
      refine (next_any hT1 HU1.out.rd HU1.out.pos (by omega) HU1.out.yb).mono ?_
      rintro e w2 ⟨j, t, err, rfl, hnx, hr2, hv2⟩
      have hj : p1 + j ≤ 8 * rn := by have := hnx.1; rw [List.length_drop, HU1.out.bits] at this; have := HU1.out.pos; omega
      have HU2 := Lib.hid (HU1.out.read hr2 hv2 hj)
      have HV2 := Lib.hid (HV1.out.trans hv2)
      have HNX := Lib.hid (nextF_eq hnx)
      have HNI := Lib.hid hnx
      clear hr2 hv2 hT1 hc0 hnx
      by_cases he : err = 0
      · subst he
        have HC : Hid (∀ k, run (bitsOf ys) most (againPr s dz k) p o = run (bitsOf ys) most (if 30 ≤ t then .fail 3 else distPr t fun back => .look fun out => if (out.length : Int) < back then .fail 3 else .emit (cp out back.toNat cnt.toNat) k) (p1 + j) o) := fun k => by
          unfold againPr
          rw [if_neg (by omega), HRUN1.out, run, HNX.out, if_pos rfl]
        have ht0 : 0 ≤ t := by
          rcases HNI.out.2.2 with ⟨h1, _⟩ | ⟨h1, _⟩ | ⟨_, _, t', h3, _⟩ <;> omega
        have htb : t ≤ 1000000 := by
          rcases HNI.out.2.2 with ⟨h1, _⟩ | ⟨h1, _⟩ | ⟨_, _, t', h3, h4⟩
          · omega
          · omega
          · have := (leafF_in h4).1
            have hl := HDZ.out
            omega
        clear HRUN1 HNX HNI
        by_cases h30 : 30 ≤ t
        · go_wp2
          go_ret
          exact ⟨3, p1 + j, OA, on, oc, o, rfl, HU2.out, HV2.out.mono (by intro b hb; simp at hb ⊢; exact Or.inr (Or.inl hb)), fun x hx => Or.inl hx, Or.inl ⟨by decide, fun k => by rw [HC.out, if_pos h30, run]⟩⟩
        · have hd3 : decide (30 ≤ t) = false := by simp; omega
          go_wp2_with fail
          refine (distance_any HU2.out t ht0 (by omega)).mono ?_
          rintro e w3 ⟨back, err, p3, rfl, hu3, hv3, hp3, ⟨he, hrun⟩ | ⟨rfl, hb1, hb2, hrun⟩⟩
          · have hd2 : (err != 0) = true := by simp [he]
            go_wp2
            go_ret
            exact ⟨err, p3, OA, on, oc, o, rfl, hu3, (HV2.out.trans hv3).mono (by intro b hb; simp at hb ⊢; exact Or.inr (Or.inl hb)), fun x hx => Or.inl hx, Or.inl ⟨he, fun k => by rw [HC.out, if_neg (by omega), hrun]⟩⟩
          · have HU3 := Lib.hid hu3
            have HV3 : Hid (Upd [some u, some g, ob OA] w w3) := (HV2.out.trans hv3).mono (by intro b hb; simp at hb ⊢; exact Or.inr (Or.inl hb))
            have HSZ3 : Hid (w.heap.size ≤ w3.heap.size) := HV3.out.size
            have HC3 : Hid (∀ k, run (bitsOf ys) most (againPr s dz k) p o = run (bitsOf ys) most (if (on : Int) < back then .fail 3 else .emit (cp o back.toNat cnt.toNat) k) p3 o) := fun k => by
              rw [HC.out, if_neg (by omega), hrun, run, hu3.olen]
            have HP3 : Hid (p ≤ p3) := by show _ ≤ _; omega
            have hc1 := hu3.blk.cell 1
            have hc2 := hu3.blk.cell 2
            simp at hc1 hc2
            have hmb := hu3.mb
            have hroom := hu3.room
            clear hu3 hv3 hrun HC HU2 HV2 HU1 HV1
            by_cases hbk : (on : Int) < back
            · go_wp2
              go_ret
              exact ⟨3, p3, OA, on, oc, o, rfl, HU3.out, HV3.out, fun x hx => Or.inl hx, Or.inl ⟨by decide, fun k => by rw [HC3.out, if_pos hbk, run]⟩⟩
            · have hd4 : decide ((on : Int) < back) = false := by simp; omega
              by_cases hlg : (most : Int) - on < cnt
              · have hd5 : decide ((most : Int) - on < cnt) = true := by simp; omega
                go_wp2
                go_quiet (fail)
                go_wp2
                go_ret
                exact ⟨4, p3, OA, on, oc, o, rfl, HU3.out.drewN _, HV3.out.drewN _, fun x hx => Or.inl hx, Or.inl ⟨by decide, fun k => by rw [HC3.out, if_neg (by omega), run, cp_len, HU3.out.olen, if_neg (by omega)]⟩⟩
              · have hd5 : decide ((most : Int) - on < cnt) = false := by simp; omega
                go_wp2
                go_quiet (fail)
                have HU4 : Hid (USt (w3.drewN nq) B u g RA rn rc ys most p3 OA on oc o) := HU3.out.drewN nq
                have HV4 : Hid (Upd [some u, some g, ob OA] w (w3.drewN nq)) := HV3.out.drewN nq
                generalize w3.drewN nq = w4 at HU4 HV4 ⊢
                obtain ⟨N, rfl⟩ := Int.eq_ofNat_of_zero_le (show 0 ≤ cnt by omega)
                obtain ⟨bk, rfl⟩ := Int.eq_ofNat_of_zero_le (show 0 ≤ back by omega)
                clear hc1 hc2 HU3 HV3
                go_wp2
                go_loopw [67] (fun i wr => ∃ k : Nat, k ≤ N ∧ i = .int .i64 k ∧ ∃ OX xc, Hid (USt wr B u g RA rn rc ys most p3 OX (on + k) xc (o ++ cp o bk k)) ∧ Hid (Upd [some u, some g, ob OA] w wr ∧ Fresh w OA OX)) (fun i _ => N - (intOf i).toNat)
                case atStart => exact ⟨0, by omega, rfl, OA, oc, by simp only [cp, List.append_nil]; exact HU4, ⟨HV4.out, fun x hx => Or.inl hx⟩⟩
                case round =>
                  clear HU4 HV4
                  obtain ⟨k, hk, rfl, OX, xc, HX, HF⟩ := hrel
                  by_cases hkN : k < N
                  · obtain ⟨ox, hox⟩ : ∃ ox, ox = o ++ cp o bk k := ⟨_, rfl⟩
                    obtain ⟨xn, hxn⟩ : ∃ xn, xn = on + k := ⟨_, rfl⟩
                    rw [← hox, ← hxn] at HX
                    have HOX := Lib.hid hox
                    have HXN := Lib.hid hxn
                    have hlen := HX.out.olen
                    obtain ⟨v, hv⟩ : ∃ v, ox[xn - bk]? = some v := ⟨_, List.getElem?_eq_getElem (by omega)⟩
                    have hvb := HX.out.obd v (List.mem_of_getElem? hv)
                    have HVG : Hid (ox.getD (ox.length - bk) 0 = v) := by show _ = _; rw [hlen, List.getD, hv]; rfl
                    have hc1 := HX.out.blk.cell 1
                    have hf1 := HX.out.blk.frozen 1
                    simp at hc1
                    obtain ⟨q, hq⟩ : ∃ q, q + bk = xn := ⟨xn - bk, by omega⟩
                    have hvc := (Ints.ofOwn HX.out.own).cell hv
                    have hix := (Ints.ofOwn HX.out.own).indexI el_byte xc .i64 ((xn : Int) - bk) (xn - bk) (by omega) (by omega)
                    have hxb : xn ≤ 16777216 := by have := HX.out.room; have := HX.out.mb; omega
                    clear hv hox hxn hlen
                    go_wp2_with fail
                    have hwr : IntKind.i64.wrap ((xn : Int) - bk) = (xn : Int) - bk := by rw [IntKind.wrap_i64]; omega
                    have hbw := HX.out.bw
                    have HPU : Hid (∀ (X3 : Option Addr) (c3 : Nat) (w5 : World), Own w5 B 5 1 X3 (xn + 1) c3 (ox.map (Value.int .u8) ++ [.int .u8 v]) → Upd [ob OX] (wr.alloc (.cells #[.int .u8 v] 5)).drew w5 → Fresh (wr.alloc (.cells #[.int .u8 v] 5)).drew OX X3 →
                        USt (w5.setCell ⟨u, 1, none⟩ (.slice X3 (xn + 1) c3)) B u g RA rn rc ys most p3 X3 (xn + 1) c3 (ox ++ [v]) ∧ Upd [some u, some g, ob OA] w (w5.setCell ⟨u, 1, none⟩ (.slice X3 (xn + 1) c3)) ∧ Fresh w OA X3) := fun X3 c3 w5 h1 h2 h3 => by
                      have hga : Upd [] wr (wr.alloc (.cells #[.int .u8 v] 5)).drew := ((Upd.refl [] wr).alloc _).drew
                      have hpu := (HX.out.grow hga).push (l := [v]) (m := 1) h1 h2 h3 (by rw [HXN.out]; omega) (by intro z hz; rw [List.mem_singleton] at hz; subst hz; exact hvb)
                      refine ⟨hpu.1, ((HF.out.1.trans (hga.mono (by simp))).then hpu.2 ?_), ?_⟩
                      · intro b hb
                        simp at hb
                        rcases hb with rfl | rfl | hb
                        · left; simp
                        · left; simp
                        · rcases HF.out.2 b hb.symm with h4 | h4
                          · left; simp [h4]
                          · right; exact h4
                      · intro x hx
                        rcases h3 x hx with h4 | h4
                        · exact HF.out.2 x h4
                        · right
                          have h5 := HF.out.1.size
                          have h6 := hga.size
                          omega
                    have hc1' : (wr.alloc (.cells #[.int .u8 v] 5)).cell? ⟨u, 1, none⟩ = some (.slice OX xn xc) := ((Upd.refl [] wr).alloc _).cell hc1 (by simp)
                    go_region_law (first | (refine step_app rfl rfl el_byte rfl ((HX.out.own.alloc _).drew) rfl ((Seg.one wr _ _).drewN 1) (by simp [Value.oneCell']) (by simp only [maxLen]; omega) (by omega) (by simp; omega) ?_; intro X3 c3 w5 hown5 hu5 hfr5; have HB5 := Lib.hid (((HX.out.blk.alloc _).drew).upd hu5 (by have := HX.out.own.neBlk HX.out.blk (by decide); simp; exact fun e => this e.symm)); have k1 : w5.cell? ⟨u, 1, none⟩ = some (.slice OX xn xc) := (by rw [HB5.out.cell]; rfl); have kf := HB5.out.frozen 1))
                    all_goals
                      have hp := Lib.hid (HPU.out _ _ _ hown5 hu5 hfr5)
                      clear hown5 hu5 hfr5 HB5 k1 kf
                      generalize w5.setCell ⟨u, 1, none⟩ (.slice X3 (xn + 1) c3) = w6 at hp ⊢
                      go_wp2
                      go_roundw
                      case rel =>
                        refine ⟨k + 1, by omega, by go_num, X3, c3, ?_, ⟨hp.out.2.1, hp.out.2.2⟩⟩
                        have h1 := hp.out.1
                        rw [cp, ← List.append_assoc, ← HOX.out, HVG.out, show on + (k + 1) = xn + 1 from by rw [HXN.out]; omega]
                        exact h1
                      case measure => simp [intOf]; omega
                  · obtain rfl : k = N := by omega
                    go_wp2
                    go_ret
                    refine ⟨0, p3, OX, on + k, xc, o ++ cp o bk k, rfl, HX.out, HF.out.1, HF.out.2, Or.inr ⟨rfl, HP3.out, fun kk => ?_⟩⟩
                    rw [HC3.out, if_neg (by omega), run, cp_len, Int.toNat_natCast, Int.toNat_natCast, if_pos (by have := HX.out.room; rw [HX0.out]; omega)]
      · have hd2 : (err != 0) = true := by simp [he]
        go_wp2
        go_ret
        exact ⟨err, p1 + j, OA, on, oc, o, rfl, HU2.out, HV2.out.mono (by intro b hb; simp at hb ⊢; exact Or.inr (Or.inl hb)), fun x hx => Or.inl hx, Or.inl ⟨he, fun k => by unfold againPr; rw [if_neg (by omega), HRUN1.out, run, HNX.out, if_neg he]⟩⟩

end Go.Proofs.YtolcdlopgbgilaaGreatDoor
