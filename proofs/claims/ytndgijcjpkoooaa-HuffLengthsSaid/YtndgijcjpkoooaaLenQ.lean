/- Plain: what huff.Lengths tells is right: the lengths by rising count, laid where the symbols stand. -/
import Derived.Test.YtndgijcjpkoooaaSortP
namespace Go.Proofs.Ytndgijcjpkoooaa
open Go.RowKit Go.Dray

def keyOf (zs : List Int) (x : Int) : Int := zs.getD x.toNat 0

/-- The symbols below k that come at all. -/
def usedI (zs : List Int) (k : Nat) : List Int := ((List.range k).filter fun i => decide (0 < zs.getD i 0)).map fun i : Nat => (i : Int)
theorem usedI_zero (zs : List Int) : usedI zs 0 = [] := rfl
theorem usedI_succ (zs : List Int) (k : Nat) : usedI zs (k + 1) = usedI zs k ++ if 0 < zs.getD k 0 then [(k : Int)] else [] := by
  unfold usedI
  rw [List.range_succ, List.filter_append, List.map_append]
  by_cases h : 0 < zs.getD k 0
  · simp only [h, decide_true, List.filter_cons_of_pos, List.filter_nil, List.map_cons, List.map_nil, if_true]
  · rw [if_neg h, List.filter_cons_of_neg (by rw [decide_eq_true_eq]; exact h)]
    rfl
theorem usedI_mem {zs : List Int} {k : Nat} {x : Int} : x ∈ usedI zs k ↔ 0 ≤ x ∧ x < k ∧ 0 < keyOf zs x := by
  unfold usedI keyOf
  rw [List.mem_map]
  constructor
  · rintro ⟨i, hi, rfl⟩
    rw [List.mem_filter, List.mem_range] at hi
    exact ⟨by omega, by omega, by simpa using hi.2⟩
  · rintro ⟨h1, h2, h3⟩
    refine ⟨x.toNat, ?_, by omega⟩
    rw [List.mem_filter, List.mem_range]
    exact ⟨by omega, by simpa using h3⟩
theorem usedI_nodup (zs : List Int) (k : Nat) : (usedI zs k).Nodup := by
  unfold usedI
  have h : (List.range k).Nodup := List.nodup_range
  have h2 := h.filter fun i => decide (0 < zs.getD i 0)
  rw [List.Nodup, List.pairwise_map]
  exact h2.imp fun hab e => hab (by omega)
theorem usedI_le (zs : List Int) (k : Nat) : (usedI zs k).length ≤ k := by
  unfold usedI
  rw [List.length_map]
  exact Nat.le_trans (List.length_filter_le _ _) (by simp)

theorem tab_snoc {α : Type} (n : Nat) (f : Nat → α) : tab (n + 1) f = tab n f ++ [f n] := by unfold tab; rw [List.range_succ, List.map_append]; rfl
theorem count_tab (d : Nat → Int) (n : Nat) (x : Int) : ((List.count x (tab n d) : Nat) : Int) = cn d n x := by
  induction n with
  | zero => rfl
  | succ n ih =>
    unfold cn at ih ⊢
    rw [tab_snoc, List.count_append, su, ← ih, List.count_singleton]
    unfold ind
    by_cases h : d n = x
    · simp [h]
    · simp [h]
theorem perm_of_mv {n a b : Nat} {d d' : Nat → Int} (h : Mv n a b d d') : (tab n d').Perm (tab n d) := by
  rw [List.perm_iff_count]
  intro x
  have h1 := count_tab d n x
  have h2 := count_tab d' n x
  have h3 := h.perm x
  omega

/-- Lengths laid where the symbols stand. -/
def LF (u : List Int) (g : Nat → Int) (i : Nat) : Int := if (i : Int) ∈ u then g (u.idxOf (i : Int)) else 0
theorem LF_zero (u : List Int) (i : Nat) : LF u (fun _ => 0) i = 0 := by unfold LF; split <;> rfl
theorem idx_of {u : List Int} (hn : u.Nodup) {j : Nat} {x : Int} (h : u[j]? = some x) : u.idxOf x = j := by
  obtain ⟨hj, hx⟩ := List.getElem?_eq_some_iff.1 h
  subst hx
  exact hn.idxOf_getElem j hj
theorem LF_at {u : List Int} (hn : u.Nodup) {j i : Nat} (h : u[j]? = some (i : Int)) (g : Nat → Int) : LF u g i = g j := by
  unfold LF
  rw [if_pos (List.mem_of_getElem? h), idx_of hn h]
theorem LF_step {u : List Int} (hn : u.Nodup) {t p : Nat} (h : u[t]? = some (p : Int)) (g : Nat → Int) (i : Nat) : (if i = p then LF u (stepG t g) p + 1 else LF u (stepG t g) i) = LF u (stepG (t + 1) g) i := by
  by_cases hi : i = p
  · subst hi
    rw [if_pos rfl, LF_at hn h, LF_at hn h]
    unfold stepG
    rw [if_neg (by omega), if_pos (by omega)]
  · rw [if_neg hi]
    unfold LF
    by_cases hm : (i : Int) ∈ u
    · rw [if_pos hm, if_pos hm]
      have hne : u.idxOf (i : Int) ≠ t := fun e => by
        have hlt := List.idxOf_lt_length_iff.2 hm
        have h2 := List.getElem_idxOf hlt
        have h3 : u[u.idxOf (i : Int)]? = some (i : Int) := by rw [List.getElem?_eq_getElem hlt, h2]
        rw [e, h] at h3
        injection h3 with h3
        omega
      unfold stepG
      by_cases h1 : u.idxOf (i : Int) < t
      · rw [if_pos h1, if_pos (by omega)]
      · rw [if_neg h1, if_neg (by omega)]
    · rw [if_neg hm, if_neg hm]

def okC (z : Int) : Bool := decide (0 ≤ z) && decide (z ≤ 4294967296)
/-- Why Lengths refuses; 0: it does not. -/
def badL (zs : List Int) (most : Int) : Int :=
  if most < 1 ∨ 15 < most then 1 else if 320 < zs.length then 4 else if zs.all okC then (if 2 ^ most.toNat < (usedI zs zs.length).length then 4 else 0) else 1

/-- What the lengths must be. -/
structure LensOk (zs : List Int) (most : Nat) (L : List Int) : Prop where
  len : L.length = zs.length
  bd : ∀ i, i < zs.length → 0 ≤ L.getD i 0 ∧ L.getD i 0 ≤ most
  pos : ∀ i, i < zs.length → (0 < L.getD i 0 ↔ 0 < zs.getD i 0)
  mono : ∀ i k, i < zs.length → k < zs.length → 0 < L.getD i 0 → 0 < L.getD k 0 → zs.getD i 0 < zs.getD k 0 → L.getD k 0 ≤ L.getD i 0
  full : 2 ≤ (usedI zs zs.length).length → wsum L = 32768
  one : (usedI zs zs.length).length < 2 → ∀ i, i < zs.length → L.getD i 0 ≤ 1

/-- The symbols by rising count, as items. -/
def itemsOf (zs : List Int) (u : List Int) : List (Int × Bool) := u.map fun x => (keyOf zs x, true)

theorem syms_of {zs : List Int} {m : Nat} {d : Nat → Int} (hs : Sd (keyOf zs) 0 m d) (hp : ∀ k, k < m → 0 ≤ keyOf zs (d k) ∧ keyOf zs (d k) ≤ 4294967296) : Syms (itemsOf zs (tab m d)) := by
  refine ⟨fun s h => ?_, ?_, fun s h => ?_⟩
  · unfold itemsOf at h
    obtain ⟨x, _, rfl⟩ := List.mem_map.1 h
    rfl
  · unfold Srt itemsOf
    rw [List.pairwise_map, List.pairwise_iff_getElem]
    intro i j hi hj hij
    rw [tab_len] at hi hj
    have e : ∀ k (hk : k < (tab m d).length), (tab m d)[k] = d k := fun k hk => by simp [tab]
    rw [e, e]
    exact hs i j (by omega) (by omega) hj
  · unfold itemsOf tab at h
    rw [List.map_map] at h
    obtain ⟨x, hx, rfl⟩ := List.mem_map.1 h
    exact hp x (List.mem_range.1 hx)

theorem getD_tab {n : Nat} (f : Nat → Int) {i : Nat} (h : i < n) : (tab n f).getD i 0 = f i := by rw [List.getD, tab_get f h]; rfl

theorem su_range (f : Nat → Int) (n : Nat) : (tab n f).sum = su f n := by
  induction n with
  | zero => rfl
  | succ n ih => rw [tab_snoc, List.sum_append, ih, su]; simp

/-- The sum over the places is the sum over the symbols. -/
theorem su_LF (N : Nat) (h : Int → Int) (h0 : h 0 = 0) (g : Nat → Int) : ∀ (m : Nat) (d : Nat → Int), (tab m d).Nodup → (∀ k, k < m → 0 ≤ d k ∧ d k < N) → su (fun i => h (LF (tab m d) g i)) N = su (fun j => h (g j)) m := by
  intro m
  induction m with
  | zero =>
    intro d _ _
    rw [su_congr (g := fun _ => 0) fun k _ => by unfold LF; rw [if_neg (by simp [tab])]; exact h0, su_const, su]
    omega
  | succ m ih =>
    intro d hn hd
    rw [tab_snoc] at hn
    have hn' := hn
    rw [List.nodup_append] at hn
    obtain ⟨n1, _, n3⟩ := hn
    have hdm := hd m (by omega)
    obtain ⟨x, hx⟩ := Int.eq_ofNat_of_zero_le hdm.1
    have hxn : (x : Int) ∉ tab m d := fun hm => n3 _ hm _ (by rw [List.mem_singleton]; exact hx.symm) rfl
    have e : (fun i => h (LF (tab (m + 1) d) g i)) = fun i => if i = x then h (g m) else (fun i => h (LF (tab m d) g i)) i := by
      funext i
      rw [tab_snoc]
      by_cases hi : i = x
      · rw [if_pos hi]
        rw [LF_at hn' (j := m) (by rw [List.getElem?_append_right (by rw [tab_len]; omega), tab_len, Nat.sub_self, hi, hx]; rfl)]
      · rw [if_neg hi]
        show h (LF (tab m d ++ [d m]) g i) = h (LF (tab m d) g i)
        congr 1
        unfold LF
        by_cases hm : (i : Int) ∈ tab m d
        · rw [if_pos hm, if_pos (List.mem_append_left _ hm), List.idxOf_append, if_pos hm]
        · rw [if_neg hm, if_neg]
          rw [List.mem_append, List.mem_singleton]
          rintro (h1 | h1)
          · exact hm h1
          · omega
    rw [e, su_upd _ x _ N (by omega), ih d n1 fun k hk => hd k (by omega), su]
    have : LF (tab m d) g x = 0 := by unfold LF; rw [if_neg hxn]
    rw [this, h0]
    omega

theorem wt_eq (x : Int) (h : 1 ≤ x) : wt x = 2 ^ (15 - x.toNat) := by
  rw [wt_pos x (by omega)]
  congr 1
  omega

/-- The lengths are right. -/
theorem lens_ok {zs : List Int} {most : Nat} (h1 : 1 ≤ most) (h2 : most ≤ 15) {m : Nat} {d : Nat → Int} (hp : (tab m d).Perm (usedI zs zs.length)) (hs : Sd (keyOf zs) 0 m d) (hb : ∀ z ∈ zs, 0 ≤ z ∧ z ≤ 4294967296) (hm : 2 ≤ m) (hf : m ≤ 2 ^ most) :
    LensOk zs most (tab zs.length (LF (tab m d) (lensG (itemsOf zs (tab m d)) most))) := by
  have hnd : (tab m d).Nodup := hp.nodup_iff.2 (usedI_nodup _ _)
  have hmem : ∀ x, x ∈ tab m d ↔ 0 ≤ x ∧ x < zs.length ∧ 0 < keyOf zs x := fun x => by rw [hp.mem_iff, usedI_mem]
  have hdm : ∀ k, k < m → d k ∈ tab m d := fun k hk => List.mem_of_getElem? (tab_get d hk)
  have hgetm : ∀ x : Int, 0 ≤ keyOf zs x ∧ keyOf zs x ≤ 4294967296 := fun x => by
    unfold keyOf
    rw [List.getD]
    cases hx : zs[x.toNat]? with
    | none => simp
    | some z => exact hb z (List.mem_of_getElem? hx)
  have hsy := syms_of hs fun k _ => hgetm (d k)
  have hl : (itemsOf zs (tab m d)).length = m := by unfold itemsOf; rw [List.length_map, tab_len]
  have hend := lensG_ok hsy h1 h2 (by omega) (by omega)
  rw [hl] at hend
  generalize hg : lensG (itemsOf zs (tab m d)) most = g at hend ⊢
  have hidx : ∀ i : Nat, (i : Int) ∈ tab m d → (tab m d).idxOf (i : Int) < m ∧ d ((tab m d).idxOf (i : Int)) = i := fun i hi => by
    have hlt := List.idxOf_lt_length_iff.2 hi
    have h2 := List.getElem_idxOf hlt
    have h3 := hlt
    rw [tab_len] at h3
    refine ⟨h3, ?_⟩
    have h4 := tab_get d h3
    rw [List.getElem?_eq_getElem hlt, h2] at h4
    injection h4 with h4
    exact h4.symm
  have hpos : ∀ i, i < zs.length → (0 < LF (tab m d) g i ↔ 0 < zs.getD i 0) := fun i hi => by
    have hk : keyOf zs (i : Int) = zs.getD i 0 := by unfold keyOf; rw [Int.toNat_natCast]
    unfold LF
    by_cases hm' : (i : Int) ∈ tab m d
    · rw [if_pos hm']
      have h3 := hend.pos _ (hidx i hm').1
      have h4 := ((hmem i).1 hm').2.2
      rw [hk] at h4
      exact ⟨fun _ => h4, fun _ => by omega⟩
    · rw [if_neg hm']
      constructor
      · intro h; omega
      · intro h; exact absurd ((hmem i).2 ⟨by omega, by omega, by rw [hk]; exact h⟩) hm'
  refine ⟨tab_len _ _, fun i hi => ?_, fun i hi => ?_, fun i k hi hk h3 h4 h5 => ?_, fun _ => ?_, fun hlt => ?_⟩
  · rw [getD_tab _ hi]
    unfold LF
    split
    · exact hend.bd _
    · omega
  · rw [getD_tab _ hi]; exact hpos i hi
  · rw [getD_tab _ hi] at h3 ⊢
    rw [getD_tab _ hk] at h4 ⊢
    have mi : (i : Int) ∈ tab m d := by
      unfold LF at h3
      split at h3
      · assumption
      · omega
    have mk : (k : Int) ∈ tab m d := by
      unfold LF at h4
      split at h4
      · assumption
      · omega
    unfold LF
    rw [if_pos mi, if_pos mk]
    obtain ⟨a1, a2⟩ := hidx i mi
    obtain ⟨b1, b2⟩ := hidx k mk
    apply hend.anti
    rcases Nat.le_total ((tab m d).idxOf (i : Int)) ((tab m d).idxOf (k : Int)) with h | h
    · exact h
    · have := hs _ _ (by omega) h a1
      rw [a2, b2] at this
      unfold keyOf at this
      rw [Int.toNat_natCast, Int.toNat_natCast] at this
      omega
  · have e : wsum (tab zs.length (LF (tab m d) g)) = su (fun i => wt (LF (tab m d) g i)) zs.length := by
      unfold wsum
      rw [tab_map, su_range]
    rw [e, su_LF zs.length wt rfl g m d hnd fun k hk => by have := (hmem _).1 (hdm k hk); exact ⟨this.1, this.2.1⟩]
    rw [su_congr (g := fun j => 2 ^ (15 - (g j).toNat)) fun k hk => wt_eq _ (hend.pos k hk)]
    exact hend.kraft
  · have := hp.length_eq
    rw [tab_len] at this
    omega

end Go.Proofs.Ytndgijcjpkoooaa
