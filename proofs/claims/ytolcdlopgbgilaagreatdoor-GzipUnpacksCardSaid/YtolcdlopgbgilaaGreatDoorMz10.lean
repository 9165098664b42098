/- Merged by wip/tools/merge.py: LenQ SortQ SortW SortX SortY. -/
import Derived.BigRegion
import Derived.Test.YtolcdlopgbgilaaGreatDoorMz01
import Derived.Test.YtolcdlopgbgilaaGreatDoorMz09

/-! Text LenQ. -/
namespace Go.Proofs.YtolcdlopgbgilaaGreatDoor
open Go.RowKit Go.Dray

def keyOf (zs : List Int) (x : Int) : Int := zs.getD x.toNat 0

/-- The symbols below k that come at all. -/
def usedI (zs : List Int) (k : Nat) : List Int := ((List.range k).filter fun i => decide (0 < zs.getD i 0)).map fun i : Nat => (i : Int)
theorem usedI_zero (zs : List Int) : usedI zs 0 = [] := rfl
theorem usedI_succ (zs : List Int) (k : Nat) : usedI zs (k + 1) = usedI zs k ++ if 0 < zs.getD k 0 then [(k : Int)] else [] := by
  unfold usedI
  rw [List.range_succ, List.filter_append, List.map_append]
  by_cases h : 0 < zs.getD k 0
  · simp only [h, decide_true, List.filter_cons_of_pos, List.filter_nil, List.map_cons, List.map_nil, if_true]
  · rw [if_neg h, List.filter_cons_of_neg (by rw [decide_eq_true_eq]; exact h)]
    rfl
theorem usedI_mem {zs : List Int} {k : Nat} {x : Int} : x ∈ usedI zs k ↔ 0 ≤ x ∧ x < k ∧ 0 < keyOf zs x := by
  unfold usedI keyOf
  rw [List.mem_map]
  constructor
  · rintro ⟨i, hi, rfl⟩
    rw [List.mem_filter, List.mem_range] at hi
    exact ⟨by omega, by omega, by simpa using hi.2⟩
  · rintro ⟨h1, h2, h3⟩
    refine ⟨x.toNat, ?_, by omega⟩
    rw [List.mem_filter, List.mem_range]
    exact ⟨by omega, by simpa using h3⟩
theorem usedI_nodup (zs : List Int) (k : Nat) : (usedI zs k).Nodup := by
  unfold usedI
  have h : (List.range k).Nodup := List.nodup_range
  have h2 := h.filter fun i => decide (0 < zs.getD i 0)
  rw [List.Nodup, List.pairwise_map]
  exact h2.imp fun hab e => hab (by omega)
theorem usedI_le (zs : List Int) (k : Nat) : (usedI zs k).length ≤ k := by
  unfold usedI
  rw [List.length_map]
  exact Nat.le_trans (List.length_filter_le _ _) (by simp)

theorem tab_snoc {α : Type} (n : Nat) (f : Nat → α) : tab (n + 1) f = tab n f ++ [f n] := by unfold tab; rw [List.range_succ, List.map_append]; rfl
theorem count_tab (d : Nat → Int) (n : Nat) (x : Int) : ((List.count x (tab n d) : Nat) : Int) = cn d n x := by
  induction n with
  | zero => rfl
  | succ n ih =>
    unfold cn at ih ⊢
    rw [tab_snoc, List.count_append, su, ← ih, List.count_singleton]
    unfold ind
    by_cases h : d n = x
    · simp [h]
    · simp [h]
theorem perm_of_mv {n a b : Nat} {d d' : Nat → Int} (h : Mv n a b d d') : (tab n d').Perm (tab n d) := by
  rw [List.perm_iff_count]
  intro x
  have h1 := count_tab d n x
  have h2 := count_tab d' n x
  have h3 := h.perm x
  omega

/-- Lengths laid where the symbols stand. -/
def LF (u : List Int) (g : Nat → Int) (i : Nat) : Int := if (i : Int) ∈ u then g (u.idxOf (i : Int)) else 0
theorem LF_zero (u : List Int) (i : Nat) : LF u (fun _ => 0) i = 0 := by unfold LF; split <;> rfl
theorem idx_of {u : List Int} (hn : u.Nodup) {j : Nat} {x : Int} (h : u[j]? = some x) : u.idxOf x = j := by
  obtain ⟨hj, hx⟩ := List.getElem?_eq_some_iff.1 h
  subst hx
  exact hn.idxOf_getElem j hj
theorem LF_at {u : List Int} (hn : u.Nodup) {j i : Nat} (h : u[j]? = some (i : Int)) (g : Nat → Int) : LF u g i = g j := by
  unfold LF
  rw [if_pos (List.mem_of_getElem? h), idx_of hn h]
theorem LF_step {u : List Int} (hn : u.Nodup) {t p : Nat} (h : u[t]? = some (p : Int)) (g : Nat → Int) (i : Nat) : (if i = p then LF u (stepG t g) p + 1 else LF u (stepG t g) i) = LF u (stepG (t + 1) g) i := by
  by_cases hi : i = p
  · subst hi
    rw [if_pos rfl, LF_at hn h, LF_at hn h]
    unfold stepG
    rw [if_neg (by omega), if_pos (by omega)]
  · rw [if_neg hi]
    unfold LF
    by_cases hm : (i : Int) ∈ u
    · rw [if_pos hm, if_pos hm]
      have hne : u.idxOf (i : Int) ≠ t := fun e => by
        have hlt := List.idxOf_lt_length_iff.2 hm
        have h2 := List.getElem_idxOf hlt
        have h3 : u[u.idxOf (i : Int)]? = some (i : Int) := by rw [List.getElem?_eq_getElem hlt, h2]
        rw [e, h] at h3
        injection h3 with h3
        omega
      unfold stepG
      by_cases h1 : u.idxOf (i : Int) < t
      · rw [if_pos h1, if_pos (by omega)]
      · rw [if_neg h1, if_neg (by omega)]
    · rw [if_neg hm, if_neg hm]

def okC (z : Int) : Bool := decide (0 ≤ z) && decide (z ≤ 4294967296)
/-- Why Lengths refuses; 0: it does not. -/
def badL (zs : List Int) (most : Int) : Int :=
  if most < 1 ∨ 15 < most then 1 else if 320 < zs.length then 4 else if zs.all okC then (if 2 ^ most.toNat < (usedI zs zs.length).length then 4 else 0) else 1

/-- The key by which a stable sort of an ascending row sorts: the count, then the symbol. -/
def key2 (zs : List Int) (x : Int) : Int := keyOf zs x * 1000 + x
theorem key2_of {zs : List Int} {x y : Int} (h : key2 zs x ≤ key2 zs y) (hx : 0 ≤ x) (hy : y < 1000) : keyOf zs x ≤ keyOf zs y := by
  unfold key2 at h
  omega
theorem key2_inj {zs : List Int} {x y : Int} (h : key2 zs x ≤ key2 zs y) (h' : key2 zs y ≤ key2 zs x) (hx : 0 ≤ x ∧ x < 1000) (hy : 0 ≤ y ∧ y < 1000) : x = y := by
  unfold key2 at h h'
  omega
theorem usedI_lt {zs : List Int} {k i j : Nat} (h : i < j) (hj : j < (usedI zs k).length) : (usedI zs k).getD i 0 < (usedI zs k).getD j 0 := by
  have hp : (usedI zs k).Pairwise (· < ·) := by
    unfold usedI
    rw [List.pairwise_map]
    exact (List.pairwise_lt_range.filter _).imp fun h => by omega
  rw [List.pairwise_iff_getElem] at hp
  have := hp i j (by omega) hj h
  rw [List.getD, List.getD, List.getElem?_eq_getElem (by omega), List.getElem?_eq_getElem hj]
  exact this
/-- The symbols that come, by that key. -/
def srt (zs : List Int) : List Int := (usedI zs zs.length).mergeSort fun x y => decide (key2 zs x ≤ key2 zs y)
theorem srt_eq {zs : List Int} (hl : zs.length ≤ 1000) {m : Nat} {d : Nat → Int} (hp : (tab m d).Perm (usedI zs zs.length)) (hs : Sd (key2 zs) 0 m d) : tab m d = srt zs := by
  have hb : ∀ x ∈ usedI zs zs.length, 0 ≤ x ∧ x < 1000 := fun x hx => by have := usedI_mem.1 hx; omega
  have hp2 : (srt zs).Perm (usedI zs zs.length) := List.mergeSort_perm _ _
  have s1 : (tab m d).Pairwise fun x y => key2 zs x ≤ key2 zs y := by
    rw [List.pairwise_iff_getElem]
    intro i j hi hj hij
    rw [tab_len] at hi hj
    have e1 := tab_get d hi
    have e2 := tab_get d hj
    rw [List.getElem?_eq_getElem (by rw [tab_len]; exact hi)] at e1
    rw [List.getElem?_eq_getElem (by rw [tab_len]; exact hj)] at e2
    injection e1 with e1
    injection e2 with e2
    rw [e1, e2]
    exact hs i j (Nat.zero_le _) (by omega) hj
  have s2 : (srt zs).Pairwise fun x y => key2 zs x ≤ key2 zs y := by
    have := List.pairwise_mergeSort (le := fun x y => decide (key2 zs x ≤ key2 zs y)) (fun a b c h1 h2 => by simp at h1 h2 ⊢; omega) (fun a b => by simp; omega) (usedI zs zs.length)
    exact this.imp fun h => by simpa using h
  refine List.Perm.eq_of_pairwise (fun a b ha hb' h1 h2 => key2_inj h1 h2 (hb a (hp.mem_iff.1 ha)) (hb b (hp2.mem_iff.1 hb'))) s1 s2 (hp.trans hp2.symm)
/-- The symbols by rising count, as items. -/
def itemsOf (zs : List Int) (u : List Int) : List (Int × Bool) := u.map fun x => (keyOf zs x, true)
/-- The lengths, exactly. -/
def lensF (zs : List Int) (most : Nat) : List Int := if (usedI zs zs.length).length < 2 then tab zs.length (LF (usedI zs zs.length) fun _ => 1) else tab zs.length (LF (srt zs) (lensG (itemsOf zs (srt zs)) most))
/-- What the lengths must be. -/
structure LensOk (zs : List Int) (most : Nat) (L : List Int) : Prop where
  len : L.length = zs.length
  bd : ∀ i, i < zs.length → 0 ≤ L.getD i 0 ∧ L.getD i 0 ≤ most
  pos : ∀ i, i < zs.length → (0 < L.getD i 0 ↔ 0 < zs.getD i 0)
  mono : ∀ i k, i < zs.length → k < zs.length → 0 < L.getD i 0 → 0 < L.getD k 0 → zs.getD i 0 < zs.getD k 0 → L.getD k 0 ≤ L.getD i 0
  full : 2 ≤ (usedI zs zs.length).length → wsum L = 32768
  one : (usedI zs zs.length).length < 2 → ∀ i, i < zs.length → L.getD i 0 ≤ 1
  eq : L = lensF zs most


theorem syms_of {zs : List Int} {m : Nat} {d : Nat → Int} (hs : Sd (keyOf zs) 0 m d) (hp : ∀ k, k < m → 0 ≤ keyOf zs (d k) ∧ keyOf zs (d k) ≤ 4294967296) : Syms (itemsOf zs (tab m d)) := by
  refine ⟨fun s h => ?_, ?_, fun s h => ?_⟩
  · unfold itemsOf at h
    obtain ⟨x, _, rfl⟩ := List.mem_map.1 h
    rfl
  · unfold Srt itemsOf
    rw [List.pairwise_map, List.pairwise_iff_getElem]
    intro i j hi hj hij
    rw [tab_len] at hi hj
    have e : ∀ k (hk : k < (tab m d).length), (tab m d)[k] = d k := fun k hk => by simp [tab]
    rw [e, e]
    exact hs i j (by omega) (by omega) hj
  · unfold itemsOf tab at h
    rw [List.map_map] at h
    obtain ⟨x, hx, rfl⟩ := List.mem_map.1 h
    exact hp x (List.mem_range.1 hx)

theorem getD_tab {n : Nat} (f : Nat → Int) {i : Nat} (h : i < n) : (tab n f).getD i 0 = f i := by rw [List.getD, tab_get f h]; rfl

theorem su_range (f : Nat → Int) (n : Nat) : (tab n f).sum = su f n := by
  induction n with
  | zero => rfl
  | succ n ih => rw [tab_snoc, List.sum_append, ih, su]; simp

/-- The sum over the places is the sum over the symbols. -/
theorem su_LF (N : Nat) (h : Int → Int) (h0 : h 0 = 0) (g : Nat → Int) : ∀ (m : Nat) (d : Nat → Int), (tab m d).Nodup → (∀ k, k < m → 0 ≤ d k ∧ d k < N) → su (fun i => h (LF (tab m d) g i)) N = su (fun j => h (g j)) m := by
  intro m
  induction m with
  | zero =>
    intro d _ _
    rw [su_congr (g := fun _ => 0) fun k _ => by unfold LF; rw [if_neg (by simp [tab])]; exact h0, su_const, su]
    omega
  | succ m ih =>
    intro d hn hd
    rw [tab_snoc] at hn
    have hn' := hn
    rw [List.nodup_append] at hn
    obtain ⟨n1, _, n3⟩ := hn
    have hdm := hd m (by omega)
    obtain ⟨x, hx⟩ := Int.eq_ofNat_of_zero_le hdm.1
    have hxn : (x : Int) ∉ tab m d := fun hm => n3 _ hm _ (by rw [List.mem_singleton]; exact hx.symm) rfl
    have e : (fun i => h (LF (tab (m + 1) d) g i)) = fun i => if i = x then h (g m) else (fun i => h (LF (tab m d) g i)) i := by
      funext i
      rw [tab_snoc]
      by_cases hi : i = x
      · rw [if_pos hi]
        rw [LF_at hn' (j := m) (by rw [List.getElem?_append_right (by rw [tab_len]; omega), tab_len, Nat.sub_self, hi, hx]; rfl)]
      · rw [if_neg hi]
        show h (LF (tab m d ++ [d m]) g i) = h (LF (tab m d) g i)
        congr 1
        unfold LF
        by_cases hm : (i : Int) ∈ tab m d
        · rw [if_pos hm, if_pos (List.mem_append_left _ hm), List.idxOf_append, if_pos hm]
        · rw [if_neg hm, if_neg]
          rw [List.mem_append, List.mem_singleton]
          rintro (h1 | h1)
          · exact hm h1
          · omega
    rw [e, su_upd _ x _ N (by omega), ih d n1 fun k hk => hd k (by omega), su]
    have : LF (tab m d) g x = 0 := by unfold LF; rw [if_neg hxn]
    rw [this, h0]
    omega

theorem wt_eq (x : Int) (h : 1 ≤ x) : wt x = 2 ^ (15 - x.toNat) := by
  rw [wt_pos x (by omega)]
  congr 1
  omega

/-- The lengths are right. -/
theorem lens_ok {zs : List Int} {most : Nat} (h1 : 1 ≤ most) (h2 : most ≤ 15) {m : Nat} {d : Nat → Int} (hp : (tab m d).Perm (usedI zs zs.length)) (hs2 : Sd (key2 zs) 0 m d) (hlen : zs.length ≤ 1000) (hb : ∀ z ∈ zs, 0 ≤ z ∧ z ≤ 4294967296) (hm : 2 ≤ m) (hf : m ≤ 2 ^ most) :
    LensOk zs most (tab zs.length (LF (tab m d) (lensG (itemsOf zs (tab m d)) most))) := by
  have hnd : (tab m d).Nodup := hp.nodup_iff.2 (usedI_nodup _ _)
  have hs : Sd (keyOf zs) 0 m d := fun i j h1 h2 h3 => by
    have g1 := usedI_mem.1 (hp.mem_iff.1 (List.mem_of_getElem? (tab_get d (show i < m by omega))))
    have g2 := usedI_mem.1 (hp.mem_iff.1 (List.mem_of_getElem? (tab_get d h3)))
    exact key2_of (hs2 i j h1 h2 h3) g1.1 (by omega)
  have heq : tab zs.length (LF (tab m d) (lensG (itemsOf zs (tab m d)) most)) = lensF zs most := by
    have hne : ¬ (usedI zs zs.length).length < 2 := by
      have := hp.length_eq
      rw [tab_len] at this
      omega
    unfold lensF
    rw [if_neg hne, srt_eq hlen hp hs2]
  have hmem : ∀ x, x ∈ tab m d ↔ 0 ≤ x ∧ x < zs.length ∧ 0 < keyOf zs x := fun x => by rw [hp.mem_iff, usedI_mem]
  have hdm : ∀ k, k < m → d k ∈ tab m d := fun k hk => List.mem_of_getElem? (tab_get d hk)
  have hgetm : ∀ x : Int, 0 ≤ keyOf zs x ∧ keyOf zs x ≤ 4294967296 := fun x => by
    unfold keyOf
    rw [List.getD]
    cases hx : zs[x.toNat]? with
    | none => simp
    | some z => exact hb z (List.mem_of_getElem? hx)
  have hsy := syms_of hs fun k _ => hgetm (d k)
  have hl : (itemsOf zs (tab m d)).length = m := by unfold itemsOf; rw [List.length_map, tab_len]
  have hend := lensG_ok hsy h1 h2 (by omega) (by omega)
  rw [hl] at hend
  generalize hg : lensG (itemsOf zs (tab m d)) most = g at hend ⊢
  have hidx : ∀ i : Nat, (i : Int) ∈ tab m d → (tab m d).idxOf (i : Int) < m ∧ d ((tab m d).idxOf (i : Int)) = i := fun i hi => by
    have hlt := List.idxOf_lt_length_iff.2 hi
    have h2 := List.getElem_idxOf hlt
    have h3 := hlt
    rw [tab_len] at h3
    refine ⟨h3, ?_⟩
    have h4 := tab_get d h3
    rw [List.getElem?_eq_getElem hlt, h2] at h4
    injection h4 with h4
    exact h4.symm
  have hpos : ∀ i, i < zs.length → (0 < LF (tab m d) g i ↔ 0 < zs.getD i 0) := fun i hi => by
    have hk : keyOf zs (i : Int) = zs.getD i 0 := by unfold keyOf; rw [Int.toNat_natCast]
    unfold LF
    by_cases hm' : (i : Int) ∈ tab m d
    · rw [if_pos hm']
      have h3 := hend.pos _ (hidx i hm').1
      have h4 := ((hmem i).1 hm').2.2
      rw [hk] at h4
      exact ⟨fun _ => h4, fun _ => by omega⟩
    · rw [if_neg hm']
      constructor
      · intro h; omega
      · intro h; exact absurd ((hmem i).2 ⟨by omega, by omega, by rw [hk]; exact h⟩) hm'
  refine ⟨tab_len _ _, fun i hi => ?_, fun i hi => ?_, fun i k hi hk h3 h4 h5 => ?_, fun _ => ?_, fun hlt => ?_, by rw [← hg] at *; exact heq⟩
  · rw [getD_tab _ hi]
    unfold LF
    split
    · exact hend.bd _
    · omega
  · rw [getD_tab _ hi]; exact hpos i hi
  · rw [getD_tab _ hi] at h3 ⊢
    rw [getD_tab _ hk] at h4 ⊢
    have mi : (i : Int) ∈ tab m d := by
      unfold LF at h3
      split at h3
      · assumption
      · omega
    have mk : (k : Int) ∈ tab m d := by
      unfold LF at h4
      split at h4
      · assumption
      · omega
    unfold LF
    rw [if_pos mi, if_pos mk]
    obtain ⟨a1, a2⟩ := hidx i mi
    obtain ⟨b1, b2⟩ := hidx k mk
    apply hend.anti
    rcases Nat.le_total ((tab m d).idxOf (i : Int)) ((tab m d).idxOf (k : Int)) with h | h
    · exact h
    · have := hs _ _ (by omega) h a1
      rw [a2, b2] at this
      unfold keyOf at this
      rw [Int.toNat_natCast, Int.toNat_natCast] at this
      omega
  · have e : wsum (tab zs.length (LF (tab m d) g)) = su (fun i => wt (LF (tab m d) g i)) zs.length := by
      unfold wsum
      rw [tab_map, su_range]
    rw [e, su_LF zs.length wt rfl g m d hnd fun k hk => by have := (hmem _).1 (hdm k hk); exact ⟨this.1, this.2.1⟩]
    rw [su_congr (g := fun j => 2 ^ (15 - (g j).toNat)) fun k hk => wt_eq _ (hend.pos k hk)]
    exact hend.kraft
  · have := hp.length_eq
    rw [tab_len] at this
    omega

end Go.Proofs.YtolcdlopgbgilaaGreatDoor

/-! Text SortQ. -/
namespace Go.Proofs.YtolcdlopgbgilaaGreatDoor
open Go.RowKit Go.Dray

theorem key2_lt {zs : List Int} {x y : Int} (h : keyOf zs x < keyOf zs y) (hx : x < 1000) (hy : 0 ≤ y) : key2 zs x < key2 zs y := by
  unfold key2
  omega
theorem key2_le {zs : List Int} {x y : Int} (h : keyOf zs x ≤ keyOf zs y) (hxy : x < y) : key2 zs x ≤ key2 zs y := by
  unfold key2
  omega
/-- All of the first part are below all of the second. -/
def Lo (a m b : Nat) (d : Nat → Int) : Prop := ∀ i j, a ≤ i → i < m → m ≤ j → j < b → d i < d j
/-- From i on each is above all ahead of it. -/
def Tl (a i b : Nat) (d : Nat → Int) : Prop := ∀ p q, a ≤ p → p < q → i ≤ q → q < b → d p < d q
/-- All up to j are below what stands there. -/
def Bel (a j : Nat) (d : Nat → Int) : Prop := ∀ p, a ≤ p → p < j → d p < d j
theorem Tl.up {a i i' b : Nat} {d : Nat → Int} (h : Tl a i b d) (hi : i ≤ i') : Tl a i' b d := fun p q h1 h2 h3 h4 => h p q h1 h2 (by omega) h4
theorem Tl.bel {a i b : Nat} {d : Nat → Int} (h : Tl a i b d) (hi : i < b) : Bel a i d := fun p h1 h2 => h p i h1 h2 (Nat.le_refl _) hi
theorem Tl.step {a i b j : Nat} {d : Nat → Int} (h : Tl a i b d) (hj : a < j) (hji : j < i) : Tl a i b (sw d j (j - 1)) := by
  intro p q h1 h2 h3 h4
  have e : sw d j (j - 1) q = d q := by unfold sw; rw [if_neg (by omega), if_neg (by omega)]
  rw [e]
  unfold sw
  split
  · exact h (j - 1) q (by omega) (by omega) h3 h4
  · split
    · exact h j q (by omega) (by omega) h3 h4
    · exact h p q h1 h2 h3 h4
theorem Bel.step {a j : Nat} {d : Nat → Int} (h : Bel a j d) (hj : a < j) : Bel a (j - 1) (sw d j (j - 1)) := by
  intro p h1 h2
  unfold sw
  rw [if_neg (by omega), if_neg (by omega), if_neg (by omega), if_pos rfl]
  exact h p h1 (by omega)
theorem Cut.los {κ : Int → Int} {a m b mid s : Nat} {d : Nat → Int} (h : Cut κ a m b mid s d) (hl : Lo a m b d) : Lo a s mid (rot s m (mid + m - s) d) ∧ Lo mid (mid + m - s) b (rot s m (mid + m - s) d) := by
  obtain ⟨sa, sm, smid, eb, _, _⟩ := h
  refine ⟨fun i j h1 h2 h3 h4 => ?_, fun i j h1 h2 h3 h4 => ?_⟩
  · have e0 : rot s m (mid + m - s) d i = d i := by unfold rot; rw [if_neg (by omega)]
    have e1 : rot s m (mid + m - s) d j = d (j + (m - s)) := by unfold rot; rw [if_pos (by omega), if_pos (by omega)]
    rw [e0, e1]
    exact hl _ _ (by omega) (by omega) (by omega) (by omega)
  · have e2 : rot s m (mid + m - s) d i = d (i - (mid - s)) := by unfold rot; rw [if_pos (by omega), if_neg (by omega)]; congr 1; omega
    have e3 : rot s m (mid + m - s) d j = d j := by unfold rot; rw [if_neg (by omega)]
    rw [e2, e3]
    exact hl _ _ (by omega) (by omega) (by omega) (by omega)
theorem Lo.mv {n a m b x y : Nat} {d d' : Nat → Int} (h : Lo x m y d) (hm : Mv n a b d d') (hx : b ≤ x) : Lo x m y d' := fun i j h1 h2 h3 h4 => by
  rw [hm.out i (by omega), hm.out j (by omega)]; exact h i j h1 h2 h3 h4
/-- Blocks of bs: each block's are below the next ones'. -/
def Bls (bs n : Nat) (d : Nat → Int) : Prop := ∀ i j, i < j → j < n → i / bs < j / bs → d i < d j
theorem Bls.mv {bs n N a b : Nat} {d d' : Nat → Int} (h : Bls bs n d) (hm : Mv N a b d d') (hab : ∀ i j, a ≤ i → i < b → a ≤ j → j < b → i / bs = j / bs) (hb : b ≤ n) : Bls bs n d' := by
  intro i j h1 h2 h3
  by_cases hi : a ≤ i ∧ i < b
  · obtain ⟨i', a1, a2, a3⟩ := hm.frm i hi.1 hi.2
    have ei := hab i i' hi.1 hi.2 a1 a2
    by_cases hj : a ≤ j ∧ j < b
    · have := hab i j hi.1 hi.2 hj.1 hj.2
      omega
    · rw [a3, hm.out j (by omega)]
      exact h i' j (by omega) h2 (by omega)
  · rw [hm.out i (by omega)]
    by_cases hj : a ≤ j ∧ j < b
    · obtain ⟨j', a1, a2, a3⟩ := hm.frm j hj.1 hj.2
      have ej := hab j j' hj.1 hj.2 a1 a2
      rw [a3]
      refine h i j' ?_ (by omega) (by omega)
      rcases Nat.lt_or_ge i j' with hlt | hge
      · exact hlt
      · have : j' / bs ≤ i / bs := Nat.div_le_div_right hge
        omega
    · rw [hm.out j (by omega)]
      exact h i j h1 h2 h3
/-- Blocks of twice the size, if those of the size are so. -/
theorem Bls.twice {bs n : Nat} {d : Nat → Int} (hb : isBs bs) (h : Bls bs n d) : Bls (2 * bs) n d := fun i j h1 h2 h3 => h i j h1 h2 (by rcases hb with rfl | rfl | rfl | rfl <;> omega)
theorem Bls.lo {bs n a b : Nat} {d : Nat → Int} (hb : isBs bs) (h : Bls bs n d) (ha : a % (2 * bs) = 0) (h2 : b ≤ n) : Lo a (a + bs) b d := fun i j h3 h4 h5 h6 => h i j (by omega) (by omega) (by rcases hb with rfl | rfl | rfl | rfl <;> omega)
/-- The same from a on. -/
def BlsT (bs a n : Nat) (d : Nat → Int) : Prop := ∀ i j, a ≤ i → i < j → j < n → i / bs < j / bs → d i < d j
theorem BlsT.lo {bs n a b : Nat} {d : Nat → Int} (hb : isBs bs) (h : BlsT bs a n d) (ha : a % (2 * bs) = 0) (h2 : b ≤ n) : Lo a (a + bs) b d := fun i j h3 h4 h5 h6 => h i j h3 (by omega) (by omega) (by rcases hb with rfl | rfl | rfl | rfl <;> omega)
theorem BlsT.mv {bs n N a b : Nat} {d d' : Nat → Int} (h : BlsT bs a n d) (hm : Mv N a b d d') (hab : a ≤ b) : BlsT bs b n d' := fun i j h1 h2 h3 h4 => by
  rw [hm.out i (by omega), hm.out j (by omega)]; exact h i j (by omega) h2 h3 h4
theorem Bls.start {bs n : Nat} {d : Nat → Int} (h : Bls bs n d) : BlsT bs 0 n d := fun i j _ h2 h3 h4 => h i j h2 h3 h4
theorem same2 {bs a b : Nat} (hb : isBs bs) (ha : a % (2 * bs) = 0) (h : b ≤ a + 2 * bs) (i j : Nat) (h1 : a ≤ i) (h2 : i < b) (h3 : a ≤ j) (h4 : j < b) : i / (2 * bs) = j / (2 * bs) := by
  rcases hb with rfl | rfl | rfl | rfl <;> omega
theorem same20 {a b : Nat} (ha : a % 20 = 0) (h : b ≤ a + 20) (i j : Nat) (h1 : a ≤ i) (h2 : i < b) (h3 : a ≤ j) (h4 : j < b) : i / 20 = j / 20 := by
  omega
theorem Tl.sub {a i b b' : Nat} {d : Nat → Int} (h : Tl a i b d) (hb : b' ≤ b) : Tl a i b' d := fun p q h1 h2 h3 h4 => h p q h1 h2 h3 (by omega)
theorem Tl.mv {N a b n : Nat} {d d' : Nat → Int} (h : Tl a a n d) (hm : Mv N a b d d') (hab : a ≤ b) : Tl b b n d' := fun p q h1 h2 h3 h4 => by
  rw [hm.out p (by omega), hm.out q (by omega)]; exact h p q (by omega) h2 (by omega) h4
/-- An ascending row. -/
def Asc (n : Nat) (d : Nat → Int) : Prop := ∀ i j, i < j → j < n → d i < d j
theorem Asc.tl {n : Nat} {d : Nat → Int} (h : Asc n d) : Tl 0 0 n d := fun p q _ h2 _ h4 => h p q h2 h4
theorem Asc.bls {n : Nat} {d : Nat → Int} (h : Asc n d) (bs : Nat) : Bls bs n d := fun i j h1 h2 _ => h i j h1 h2

end Go.Proofs.YtolcdlopgbgilaaGreatDoor

/-! Text SortW. -/
namespace Go.Proofs.YtolcdlopgbgilaaGreatDoor
open Go.RowKit Go.Dray

def cmpI (a b : Int) : Int := if a < b then -1 else if b < a then 1 else 0
set_option maxRecDepth 100000 in
theorem cmpI_neg (a b : Int) : (cmpI a b < 0) = (a < b) := by
  unfold cmpI
  by_cases h : a < b
  · simp [h]
  · by_cases h2 : b < a
    · simp [h, h2]
    · simp [h, h2]

set_option maxRecDepth 100000 in
set_option maxHeartbeats 400000 in
theorem isNaN_any (x : Int) (w : World) : Calls Tryz.prog 116 #[.int .i64 x] w fun e w' => e = .returned (.bool false) ∧ w = w' := by
  have h : (x != x) = false := by simp
  go_enter Tryz.func116, Tryz.ntmps116
  go_wp2
  go_ret
  exact ⟨rfl, rfl⟩

set_option maxRecDepth 100000 in
set_option maxHeartbeats 400000 in
theorem compare_any (x y : Int) (w : World) : Calls Tryz.prog 93 #[.int .i64 x, .int .i64 y] w fun e w' => e = .returned (.int .i64 (cmpI x y)) ∧ w = w' := by
  by_cases h : x < y
  · have HE : Hid (cmpI x y = -1) := by simp [Hid, cmpI, h]
    go_enter Tryz.func93, Tryz.ntmps93
    go_wp2_with (first
      | (go_at_call 116; refine (isNaN_any x _).mono ?_; rintro e w' ⟨rfl, rfl⟩)
      | (go_at_call 116; refine (isNaN_any y _).mono ?_; rintro e w' ⟨rfl, rfl⟩))
    go_ret
    exact ⟨by rw [HE.out]; rfl, rfl⟩
  · by_cases h2 : y < x
    · have HE : Hid (cmpI x y = 1) := by simp [Hid, cmpI, h, h2]
      have h3 : y ≤ x := by omega
      go_enter Tryz.func93, Tryz.ntmps93
      go_wp2_with (first
        | (go_at_call 116; refine (isNaN_any x _).mono ?_; rintro e w' ⟨rfl, rfl⟩)
        | (go_at_call 116; refine (isNaN_any y _).mono ?_; rintro e w' ⟨rfl, rfl⟩))
      go_ret
      exact ⟨by rw [HE.out]; rfl, rfl⟩
    · have HE : Hid (cmpI x y = 0) := by simp [Hid, cmpI, h, h2]
      have h3 : y ≤ x := by omega
      have h4 : x ≤ y := by omega
      go_enter Tryz.func93, Tryz.ntmps93
      go_wp2_with (first
        | (go_at_call 116; refine (isNaN_any x _).mono ?_; rintro e w' ⟨rfl, rfl⟩)
        | (go_at_call 116; refine (isNaN_any y _).mono ?_; rintro e w' ⟨rfl, rfl⟩))
      go_ret
      exact ⟨by rw [HE.out]; rfl, rfl⟩

theorem getD_of2 {zs : List Int} {i : Nat} {x : Int} (h : zs[i]? = some x) : zs.getD i 0 = x := by simp [List.getD, h]

/-- The counts that the closure has captured: in a box. -/
def Cmps (w : World) (bx : Nat) (CA : Option Addr) (cn cc : Nat) (zs : List Int) : Prop := w.cell? ⟨bx, 0, none⟩ = some (.slice CA cn cc) ∧ Ints .i64 w CA cn zs
theorem Cmps.drewN {w : World} {bx : Nat} {CA : Option Addr} {cn cc : Nat} {zs : List Int} (h : Cmps w bx CA cn cc zs) (q : Nat) : Cmps (w.drewN q) bx CA cn cc zs := ⟨h.1, h.2.drewN q⟩
theorem Cmps.upd {w w' : World} {bx : Nat} {CA : Option Addr} {cn cc : Nat} {zs : List Int} {L : List (Option Nat)} (h : Cmps w bx CA cn cc zs) (hu : Upd L w w') (h1 : some bx ∉ L) (h2 : 0 < cn → some (bl CA) ∉ L) : Cmps w' bx CA cn cc zs := ⟨hu.cell h.1 h1, h.2.upd hu h2⟩



set_option maxRecDepth 100000 in
set_option maxHeartbeats 400000 in
theorem closure_any {w : World} {bx : Nat} {CA : Option Addr} {cn cc : Nat} {zs : List Int} (h : Cmps w bx CA cn cc zs) (x y : Int) (hx : 0 ≤ x ∧ x < cn) (hy : 0 ≤ y ∧ y < cn) :
    Calls Tryz.prog 92 #[.int .i64 x, .int .i64 y, .pointer (some ⟨bx, 0, none⟩)] w fun e w' => e = .returned (.int .i64 (cmpI (keyOf zs x) (keyOf zs y))) ∧ ∃ q, w' = w.drewN q := by
  obtain ⟨hc, hi⟩ := h
  obtain ⟨x, rfl⟩ := Int.eq_ofNat_of_zero_le hx.1
  obtain ⟨y, rfl⟩ := Int.eq_ofNat_of_zero_le hy.1
  obtain ⟨u, HU, cx⟩ := hi.int (i := x) (by omega)
  obtain ⟨v, HV, cy⟩ := hi.int (i := y) (by omega)
  have ix := hi.index el_int cc .i64 x (by omega)
  have iy := hi.index el_int cc .i64 y (by omega)
  have HX : Hid (keyOf zs x = u) := by unfold keyOf; exact getD_of2 HU.out
  have HY : Hid (keyOf zs y = v) := by unfold keyOf; exact getD_of2 HV.out
  clear hi HU HV
  go_enter Tryz.func92, Tryz.ntmps92
  go_wp2
  go_quiet (first | (go_at_call 93; refine quietL (compare_any u v _)))
  go_wp2
  go_ret
  exact ⟨by rw [HX.out, HY.out]; rfl, _, rfl⟩

/-- What is said of memory while the row d is sorted. -/
structure SS (w0 wr : World) (B : Nat) (A : Option Addr) (n c bx : Nat) (CA : Option Addr) (cn cc : Nat) (zs : List Int) (d : Nat → Int) : Prop where
  own : Own wr B 3 1 A n c ((tab n d).map (Value.int .i64))
  cmp : Cmps wr bx CA cn cc zs
  upd : Upd [ob A] w0 wr
  far : ob A ≠ some bx
  far2 : 0 < cn → ob A ≠ some (bl CA)
  good : ∀ k, k < n → 0 ≤ d k ∧ d k < cn
  few : cn ≤ 1000

section
variable {w0 wr : World} {B : Nat} {A : Option Addr} {n c bx : Nat} {CA : Option Addr} {cn cc : Nat} {zs : List Int} {d : Nat → Int}
theorem SS.drewN (h : SS w0 wr B A n c bx CA cn cc zs d) (q : Nat) : SS w0 (wr.drewN q) B A n c bx CA cn cc zs d :=
  ⟨h.own.drewN q, h.cmp.drewN q, h.upd.drewN q, h.far, h.far2, h.good, h.few⟩
theorem SS.drew (h : SS w0 wr B A n c bx CA cn cc zs d) : SS w0 wr.drew B A n c bx CA cn cc zs d := h.drewN 1
theorem SS.put (h : SS w0 wr B A n c bx CA cn cc zs d) {i : Nat} (hi : i < n) (v : Int) (hv : 0 ≤ v ∧ v < cn) : SS w0 (wr.setCell ⟨bl A, ofs A + i, none⟩ (.int .i64 v)) B A n c bx CA cn cc zs (fun k => if k = i then v else d k) := by
  have hob := h.own.obl (by omega)
  have hu : Upd [ob A] wr (wr.setCell ⟨bl A, ofs A + i, none⟩ (.int .i64 v)) := (Upd.refl _ wr).setCell (p := ⟨bl A, ofs A + i, none⟩) (Or.inl (by simp [hob])) _
  refine ⟨?_, h.cmp.upd hu (by simp; exact fun e => h.far e.symm) (fun hp => by simp; exact fun e => h.far2 hp e.symm), h.upd.trans hu, h.far, h.far2, fun k hk => ?_, h.few⟩
  · have := h.own.set (k := i) (by omega) (.int .i64 v)
    rw [← List.map_set, tab_set] at this
    exact this
  · show 0 ≤ (if k = i then v else d k) ∧ (if k = i then v else d k) < cn
    split
    · exact hv
    · exact h.good k hk
theorem SS.swap (h : SS w0 wr B A n c bx CA cn cc zs d) {i j : Nat} (hi : i < n) (hj : j < n) : SS w0 ((wr.setCell ⟨bl A, ofs A + i, none⟩ (.int .i64 (d j))).setCell ⟨bl A, ofs A + j, none⟩ (.int .i64 (d i))) B A n c bx CA cn cc zs (sw d i j) := by
  have := (h.put hi (d j) (h.good j hj)).put hj (d i) (h.good i hi)
  have e : (fun k => if k = j then d i else if k = i then d j else d k) = sw d i j := by
    funext k
    unfold sw
    by_cases h1 : k = i
    · by_cases h2 : k = j
      · rw [if_pos h2, if_pos h1, ← h1, ← h2]
      · rw [if_neg h2, if_pos h1, if_pos h1]
    · by_cases h2 : k = j
      · rw [if_pos h2, if_neg h1, if_pos h2]
      · rw [if_neg h2, if_neg h1, if_neg h1, if_neg h2]
  rw [e] at this
  exact this
theorem SS.cell (h : SS w0 wr B A n c bx CA cn cc zs d) {i : Nat} (hi : i < n) : wr.cell? ⟨bl A, ofs A + i, none⟩ = some (.int .i64 (d i)) := (Ints.ofOwn h.own).cell (tab_get d hi)
theorem SS.index (h : SS w0 wr B A n c bx CA cn cc zs d) {i : Nat} (hi : i < n) (v : Int) (hv : v = i) : ∀ W : World, (Instr.indexAt 64 (.slice A n c) (.int .i64 v)).run Tryz.prog W = .ok (.pointer (some ⟨bl A, ofs A + i, none⟩)) W := (Ints.ofOwn h.own).indexI el_int c .i64 v i hv hi
theorem SS.fz (h : SS w0 wr B A n c bx CA cn cc zs d) {i : Nat} (hi : i < n) : wr.frozen? ⟨bl A, ofs A + i, none⟩ = false := h.own.frozen (by omega) i
/-- The second place behind the first one's store. -/
theorem SS.cell2 (h : SS w0 wr B A n c bx CA cn cc zs d) {i j : Nat} (hi : i < n) (hj : j < n) (v : Int) : ∃ u, (wr.setCell ⟨bl A, ofs A + i, none⟩ (.int .i64 v)).cell? ⟨bl A, ofs A + j, none⟩ = some u := by
  by_cases e : i = j
  · subst e; exact ⟨_, World.cell?_setCell_same _ _ _ (h.cell hi)⟩
  · exact ⟨_, (World.cell?_setCell_other _ _ _ _ (by intro e'; simp only [Addr.mk.injEq] at e'; omega)).trans (h.cell hj)⟩
end

/-- What a part of the sort leaves. -/
def SPost (w0 : World) (B : Nat) (A : Option Addr) (n c bx : Nat) (CA : Option Addr) (cn cc : Nat) (zs : List Int) (Q : (Nat → Int) → Prop) (e : Ending) (w' : World) : Prop :=
  ∃ d', e = .returned (.tuple #[]) ∧ SS w0 w' B A n c bx CA cn cc zs d' ∧ Q d'

set_option maxRecDepth 100000 in
set_option maxHeartbeats 1000000 in
theorem swapRange_any {w0 w : World} {B : Nat} {A : Option Addr} {n c bx : Nat} {CA : Option Addr} {cn cc : Nat} {zs : List Int} {d : Nat → Int} (h : SS w0 w B A n c bx CA cn cc zs d) (a b m : Nat) (ha : a + m ≤ b) (hb : b + m ≤ n) (hn : n ≤ 1000) (fv : Value) :
    Calls Tryz.prog 124 #[.slice A n c, .int .i64 a, .int .i64 b, .int .i64 m, fv] w (SPost w0 B A n c bx CA cn cc zs fun d' => d' = swr a b m d) := by
  have HS := Lib.hid h
  clear h
  go_enter Tryz.func124, Tryz.ntmps124
  go_wp2
  go_loopw [10] (fun v wr => ∃ i : Nat, i ≤ m ∧ v = .int .i64 i ∧ Hid (SS w0 wr B A n c bx CA cn cc zs (swr a b i d))) (fun v _ => m - (intOf v).toNat)
  case atStart => exact ⟨0, by omega, rfl, by rw [swr_zero]; exact HS⟩
  case round =>
    clear HS
    obtain ⟨i, hi, rfl, HI⟩ := hrel
    by_cases hlt : i < m
    · obtain ⟨dk, hdk⟩ : ∃ dk, dk = swr a b i d := ⟨_, rfl⟩
      rw [← hdk] at HI
      have HDK := Lib.hid hdk
      clear hdk
      have c1 := HI.out.cell (i := a + i) (by omega)
      have c2 := HI.out.cell (i := b + i) (by omega)
      have f1 := HI.out.fz (i := a + i) (by omega)
      have f2 := HI.out.fz (i := b + i) (by omega)
      have i1 := HI.out.index (i := a + i) (by omega) ((a : Int) + i) (by omega)
      have i2 := HI.out.index (i := b + i) (by omega) ((b : Int) + i) (by omega)
      obtain ⟨u3, c3⟩ := HI.out.cell2 (i := a + i) (j := b + i) (by omega) (by omega) (dk (b + i))
      have hsw := Lib.hid (HI.out.swap (i := a + i) (j := b + i) (by omega) (by omega)).drew
      obtain ⟨x, hx⟩ : ∃ x, x = dk (a + i) := ⟨_, rfl⟩
      obtain ⟨y, hy⟩ : ∃ y, y = dk (b + i) := ⟨_, rfl⟩
      rw [← hx] at c1 hsw
      rw [← hy] at c2 c3 hsw
      obtain ⟨p, hp⟩ : ∃ p, p = ofs A + (a + i) := ⟨_, rfl⟩
      obtain ⟨q, hq⟩ : ∃ q, q = ofs A + (b + i) := ⟨_, rfl⟩
      rw [← hp] at c1 f1 i1 c3 hsw
      rw [← hq] at c2 f2 i2 c3 hsw
      clear hx hy hp hq HI
      go_wp2
      go_region
      clear c1 c2 c3 f1 f2 i1 i2
      generalize ((wr.setCell ⟨bl A, p, none⟩ (.int .i64 y)).setCell ⟨bl A, q, none⟩ (.int .i64 x)).drew = w3 at hsw ⊢
      go_wp2
      go_roundw
      case rel => exact ⟨i + 1, by omega, by go_num, by rw [← swr_succ (by omega), ← HDK.out]; exact hsw⟩
      case measure => simp [intOf]; omega
    · obtain rfl : i = m := by omega
      go_wp2
      go_end0
      exact ⟨_, rfl, HI.out, rfl⟩

end Go.Proofs.YtolcdlopgbgilaaGreatDoor

/-! Text SortX. -/
namespace Go.Proofs.YtolcdlopgbgilaaGreatDoor
open Go.RowKit Go.Dray

set_option maxHeartbeats 1000000 in
theorem rotate_any {w0 w : World} {B : Nat} {A : Option Addr} {n c bx : Nat} {CA : Option Addr} {cn cc : Nat} {zs : List Int} {d : Nat → Int} (h : SS w0 w B A n c bx CA cn cc zs d) (a m b : Nat) (ha : a < m) (hm : m < b) (hb : b ≤ n) (hn : n ≤ 1000) (fv : Value) :
    Calls Tryz.prog 123 #[.slice A n c, .int .i64 a, .int .i64 m, .int .i64 b, fv] w (SPost w0 B A n c bx CA cn cc zs fun d' => d' = rot a m b d ∧ Mv n a b d d') := by
  have HS := Lib.hid h
  clear h
  go_enter Tryz.func123, Tryz.ntmps123
  go_wp2
  go_loopw [10, 11] (fun v u wr => ∃ i j : Nat, 1 ≤ i ∧ 1 ≤ j ∧ a + i ≤ m ∧ m + j ≤ b ∧ v = .int .i64 i ∧ u = .int .i64 j ∧ ∃ dk, Hid (SS w0 wr B A n c bx CA cn cc zs dk) ∧ Hid (rot (m - i) m (m + j) dk = rot a m b d ∧ Mv n a b d dk)) (fun v u _ => (intOf v).toNat + (intOf u).toNat)
  case atStart => exact ⟨m - a, b - m, by omega, by omega, by omega, by omega, by go_num, by go_num, d, HS, ⟨by rw [show m - (m - a) = a from by omega, show m + (b - m) = b from by omega], Mv.refl _ _ _ _⟩⟩
  case round =>
    clear HS
    obtain ⟨i, j, hi, hj, hai, hjb, rfl, rfl, dk, HI, HM⟩ := hrel
    by_cases hne : i = j
    · subst hne
      have hd : ((i : Int) != i) = false := by simp
      go_wp2_with fail
      have e1 : (m : Int) - i = ((m - i : Nat) : Int) := by omega
      rw [e1]
      refine (swapRange_any HI.out (m - i) m i (by omega) (by omega) hn fv).mono ?_
      rintro e w1 ⟨d', rfl, hs', rfl⟩
      go_wp2
      go_end0
      refine ⟨_, rfl, hs', ?_, ?_⟩
      · rw [rot_eq (by omega), HM.out.1]
      · exact HM.out.2.trans (Mv.swr (by omega) (by omega) hb (by omega) dk)
    · have hd : ((i : Int) != j) = true := by simp; omega
      by_cases hgt : j < i
      · go_wp2_with fail
        have e1 : (m : Int) - i = ((m - i : Nat) : Int) := by omega
        rw [e1]
        refine (swapRange_any HI.out (m - i) m j (by omega) (by omega) hn fv).mono ?_
        rintro e w1 ⟨d', rfl, hs', HD⟩
        have HS' := Lib.hid hs'
        have HD' := Lib.hid HD
        clear hs' HD
        go_wp2
        go_roundw
        case rel =>
          refine ⟨i - j, j, by omega, hj, by omega, hjb, by go_num, rfl, d', HS', ?_, ?_⟩
          · rw [HD'.out, rot_gt hgt (by omega), HM.out.1]
          · rw [HD'.out]; exact HM.out.2.trans (Mv.swr (by omega) (by omega) hb (by omega) dk)
        case measure => simp [intOf]; omega
      · have hgt2 : i < j := by omega
        go_wp2_with fail
        have e1 : (m : Int) - i = ((m - i : Nat) : Int) := by omega
        have e2 : (m : Int) + j - i = ((m + j - i : Nat) : Int) := by omega
        rw [e1, e2]
        refine (swapRange_any HI.out (m - i) (m + j - i) i (by omega) (by omega) hn fv).mono ?_
        rintro e w1 ⟨d', rfl, hs', HD⟩
        have HS' := Lib.hid hs'
        have HD' := Lib.hid HD
        clear hs' HD
        go_wp2
        go_roundw
        case rel =>
          refine ⟨i, j - i, hi, by omega, hai, by omega, rfl, by go_num, d', HS', ?_, ?_⟩
          · rw [HD'.out, rot_lt hgt2 (by omega), HM.out.1]
          · rw [HD'.out]; exact HM.out.2.trans (Mv.swr (by omega) (by omega) hb (by omega) dk)
        case measure => simp [intOf]; omega

set_option maxHeartbeats 2000000 in
theorem insertion_any {w0 w : World} {B : Nat} {A : Option Addr} {n c bx : Nat} {CA : Option Addr} {cn cc : Nat} {zs : List Int} {d : Nat → Int} (h : SS w0 w B A n c bx CA cn cc zs d) (a b : Nat) (hab : a ≤ b) (hb : b ≤ n) (hn : n ≤ 1000) (hasc : Tl a a b d) :
    Calls Tryz.prog 121 #[.slice A n c, .int .i64 a, .int .i64 b, .func (.func 92) #[] #[.pointer (some ⟨bx, 0, none⟩)]] w (SPost w0 B A n c bx CA cn cc zs fun d' => Mv n a b d d' ∧ Sd (key2 zs) a b d') := by
  have HS := Lib.hid h
  clear h
  go_enter Tryz.func121, Tryz.ntmps121
  go_wp2
  go_loopw [8] (fun v wr => ∃ i : Nat, a + 1 ≤ i ∧ i ≤ b + 1 ∧ v = .int .i64 i ∧ ∃ dk, Hid (SS w0 wr B A n c bx CA cn cc zs dk) ∧ Hid (Mv n a b d dk ∧ Sd (key2 zs) a i dk) ∧ Hid (Tl a i b dk)) (fun v _ => b + 1 - (intOf v).toNat)
  case atStart => exact ⟨a + 1, by omega, by omega, by go_num, d, HS, ⟨Mv.refl _ _ _ _, Sd.nil (by omega)⟩, hasc.up (by omega)⟩
  case round =>
    clear HS
    obtain ⟨i, hi, hib, rfl, dk, HI, HM, HT⟩ := hrel
    by_cases hlt : i < b
    · go_wp2
      obtain ⟨wo, rfl⟩ : ∃ wo : World, wo = wr := ⟨_, rfl⟩
      go_loopw [9] (fun v wr => ∃ j : Nat, a ≤ j ∧ j ≤ i ∧ v = .int .i64 j ∧ ∃ dj, Hid (SS w0 wr B A n c bx CA cn cc zs dj) ∧ Hid (Mv n a b d dj ∧ InsInv (key2 zs) a i j dj) ∧ Hid (Bel a j dj ∧ Tl a (i + 1) b dj)) (fun v _ => (intOf v).toNat)
      case atStart => exact ⟨i, by omega, by omega, rfl, dk, HI, ⟨HM.out.1, InsInv.start HM.out.2⟩, ⟨HT.out.bel hlt, HT.out.up (by omega)⟩⟩
      case round =>
        clear HI HM HT dk
        obtain ⟨j, haj, hji, rfl, dj, HJ, HMJ, HTJ⟩ := hrel
        by_cases hja : a < j
        · obtain ⟨jp, rfl⟩ : ∃ jp, j = jp + 1 := ⟨j - 1, by omega⟩
          have hg : decide ((a : Int) < (jp : Int) + 1) = true := by simp; omega
          have c1 := HJ.out.cell (i := jp + 1) (by omega)
          have c2 := HJ.out.cell (i := jp) (by omega)
          have f1 := HJ.out.fz (i := jp + 1) (by omega)
          have f2 := HJ.out.fz (i := jp) (by omega)
          have i1 := HJ.out.index (i := jp + 1) (by omega) ((jp : Int) + 1) (by omega)
          have i2 := HJ.out.index (i := jp) (by omega) (jp : Int) rfl
          have g1 := HJ.out.good (jp + 1) (by omega)
          have g2 := HJ.out.good jp (by omega)
          obtain ⟨u3, c3⟩ := HJ.out.cell2 (i := jp + 1) (j := jp) (by omega) (by omega) (dj jp)
          have hsw := Lib.hid (fun q => ((HJ.out.drewN q).swap (i := jp + 1) (j := jp) (by omega) (by omega)).drew)
          have hcmp := HJ.out.cmp
          have hfew := HJ.out.few
          obtain ⟨x, hx⟩ : ∃ x, x = dj (jp + 1) := ⟨_, rfl⟩
          obtain ⟨y, hy⟩ : ∃ y, y = dj jp := ⟨_, rfl⟩
          have HX := Lib.hid hx
          have HY := Lib.hid hy
          rw [← hx] at c1 hsw g1
          rw [← hy] at c2 c3 hsw g2
          obtain ⟨p, hp⟩ : ∃ p, p = ofs A + (jp + 1) := ⟨_, rfl⟩
          obtain ⟨q, hq⟩ : ∃ q, q = ofs A + jp := ⟨_, rfl⟩
          rw [← hp] at c1 f1 i1 c3 hsw
          rw [← hq] at c2 f2 i2 c3 hsw
          clear hx hy hp hq
          have hcl := fun q => closure_any (hcmp.drewN q) x y g1 g2
          obtain ⟨r, hr⟩ : ∃ r, r = cmpI (keyOf zs x) (keyOf zs y) := ⟨_, rfl⟩
          rw [← hr] at hcl
          by_cases hneg : r < 0
          · have hkey : keyOf zs x < keyOf zs y := by rw [hr, cmpI_neg] at hneg; exact hneg
            have HK : Hid (key2 zs x < key2 zs y) := key2_lt hkey (by omega) (by omega)
            have hdr : decide (r < 0) = true := by simp [hneg]
            have HSJ := HJ
            clear hkey hr hneg HJ hcmp
            go_wp2
            go_quiet (first | (go_at_call 92; refine quietD (hcl _)))
            clear hcl
            go_wp2
            have hsw2 := Lib.hid (hsw.out nq)
            have C1 : (wr.drewN nq).cell? ⟨bl A, p, none⟩ = some (.int .i64 x) := c1
            have C2 : (wr.drewN nq).cell? ⟨bl A, q, none⟩ = some (.int .i64 y) := c2
            have C3 : ((wr.drewN nq).setCell ⟨bl A, p, none⟩ (.int .i64 y)).cell? ⟨bl A, q, none⟩ = some u3 := c3
            have F1 : (wr.drewN nq).frozen? ⟨bl A, p, none⟩ = false := f1
            have F2 : (wr.drewN nq).frozen? ⟨bl A, q, none⟩ = false := f2
            clear c1 c2 c3 f1 f2 hsw
            generalize wr.drewN nq = w2 at C1 C2 C3 F1 F2 hsw2 ⊢
            go_region
            clear C1 C2 C3 F1 F2 i1 i2
            generalize ((w2.setCell ⟨bl A, p, none⟩ (.int .i64 y)).setCell ⟨bl A, q, none⟩ (.int .i64 x)).drew = w3 at hsw2 ⊢
            go_wp2
            go_roundw
            case rel =>
              have hk := HK.out
              rw [HX.out, HY.out] at hk
              exact ⟨jp, by omega, by omega, by go_num, sw dj (jp + 1) jp, hsw2, ⟨HMJ.out.1.trans (Mv.sw dj (by omega) (by omega) hb), by
                have := HMJ.out.2.step (by omega) (by simpa using hk)
                simpa using this⟩, ⟨by simpa using HTJ.out.1.step (show a < jp + 1 by omega), by simpa using HTJ.out.2.step (show a < jp + 1 by omega) (by omega)⟩⟩
            case measure => simp [intOf]
          · have hkey : ¬ keyOf zs x < keyOf zs y := by rw [hr, cmpI_neg] at hneg; exact hneg
            have HK : Hid (key2 zs y ≤ key2 zs x) := key2_le (by omega) (by
              have h1 := HTJ.out.1 jp (by omega) (by omega)
              rw [← HX.out, ← HY.out] at h1
              exact h1)
            have hdr : decide (r < 0) = false := by simp; omega
            have HSJ := HJ
            clear hkey hr hneg HJ hcmp
            go_wp2
            go_quiet (first | (go_at_call 92; refine quietD (hcl _)))
            clear hcl
            go_wp2
            go_roundw
            case rel =>
              have hk := HK.out
              rw [HX.out, HY.out] at hk
              exact ⟨i + 1, by omega, by omega, by go_num, dj, HSJ.out.drewN _, ⟨HMJ.out.1, HMJ.out.2.done ⟨by omega, hji⟩ (Or.inr (by have := hk; simp; omega))⟩, HTJ.out.2⟩
            case measure => simp [intOf]; omega
        · obtain rfl : j = a := by omega
          have hg : decide ((j : Int) < j) = false := by simp
          go_wp2
          go_quiet (fail)
          go_wp2
          go_roundw
          case rel => exact ⟨i + 1, by omega, by omega, by go_num, dj, HJ.out.drewN _, ⟨HMJ.out.1, HMJ.out.2.done ⟨by omega, hji⟩ (Or.inl rfl)⟩, HTJ.out.2⟩
          case measure => simp [intOf]; omega
    · go_wp2
      go_end0
      exact ⟨dk, rfl, HI.out, HM.out.1, HM.out.2.sub (Nat.le_refl _) (by omega)⟩

end Go.Proofs.YtolcdlopgbgilaaGreatDoor

/-! Text SortY. -/
namespace Go.Proofs.YtolcdlopgbgilaaGreatDoor
open Go.RowKit Go.Dray

theorem half_eq (i j : Nat) : ((i : Int) + j) / 2 = (((i + j) / 2 : Nat) : Int) := by omega

set_option maxRecDepth 100000 in
set_option maxHeartbeats 4000000 in
theorem symMerge_one {w0 w : World} {B : Nat} {A : Option Addr} {n c bx : Nat} {CA : Option Addr} {cn cc : Nat} {zs : List Int} {d : Nat → Int} (h : SS w0 w B A n c bx CA cn cc zs d) (a b : Nat) (hab : a + 1 < b) (hb : b ≤ n) (hn : n ≤ 1000) (hs : Sd (key2 zs) (a + 1) b d) (hlo : Lo a (a + 1) b d) :
    Calls Tryz.prog 122 #[.slice A n c, .int .i64 a, .int .i64 ((a : Int) + 1), .int .i64 b, .func (.func 92) #[] #[.pointer (some ⟨bx, 0, none⟩)]] w (SPost w0 B A n c bx CA cn cc zs fun d' => Mv n a b d d' ∧ Sd (key2 zs) a b d') := by
  have HS := Lib.hid h
  have HSD := Lib.hid hs
  have HLo := Lib.hid hlo
  clear h hs hlo
  have hone : ((a : Int) + 1 - a == 1) = true := by simp; omega
  go_enter Tryz.func122, Tryz.ntmps122
  go_wp2
  go_loopw [10, 11] (fun v u wr => ∃ i j : Nat, a + 1 ≤ i ∧ i ≤ j ∧ j ≤ b ∧ v = .int .i64 i ∧ u = .int .i64 j ∧ Hid (SS w0 wr B A n c bx CA cn cc zs d) ∧ Hid ((i = a + 1 ∨ key2 zs (d (i - 1)) < key2 zs (d a)) ∧ (j = b ∨ key2 zs (d a) ≤ key2 zs (d j)))) (fun v u _ => (intOf u).toNat - (intOf v).toNat)
  case atStart => exact ⟨a + 1, b, by omega, by omega, by omega, by go_num, rfl, HS, ⟨Or.inl rfl, Or.inl rfl⟩⟩
  case round =>
    clear HS
    obtain ⟨i, j, hi, hij, hjb, rfl, rfl, HI, HM⟩ := hrel
    by_cases hlt : i < j
    · obtain ⟨hh, hhe⟩ : ∃ hh, hh = (i + j) / 2 := ⟨_, rfl⟩
      have c1 := HI.out.cell (i := hh) (by omega)
      have c2 := HI.out.cell (i := a) (by omega)
      have i1 := HI.out.index (i := hh) (by omega) (((i : Int) + j) / 2) (by omega)
      have i2 := HI.out.index (i := a) (by omega) ((a : Int)) (by omega)
      obtain ⟨x, hx⟩ : ∃ x, x = d (hh) := ⟨_, rfl⟩
      obtain ⟨y, hy⟩ : ∃ y, y = d (a) := ⟨_, rfl⟩
      have HX := Lib.hid hx
      have HY := Lib.hid hy
      have g1 := HI.out.good (hh) (by omega)
      have g2 := HI.out.good (a) (by omega)
      have hcmp := HI.out.cmp
      have hfew := HI.out.few
      have HYX : Hid (y < x) := by
        have h1 := HLo.out (a) (hh) (by omega) (by omega) (by omega) (by omega)
        rw [← hx, ← hy] at h1
        exact h1
      rw [← hx] at c1 g1
      rw [← hy] at c2 g2
      obtain ⟨p, hp⟩ : ∃ p, p = ofs A + (hh) := ⟨_, rfl⟩
      obtain ⟨q, hq⟩ : ∃ q, q = ofs A + (a) := ⟨_, rfl⟩
      rw [← hp] at c1 i1
      rw [← hq] at c2 i2
      have hcl := fun q => closure_any (hcmp.drewN q) x y g1 g2
      obtain ⟨r, hr⟩ : ∃ r, r = cmpI (keyOf zs x) (keyOf zs y) := ⟨_, rfl⟩
      rw [← hr] at hcl
      clear hx hy hp hq hcmp
      by_cases hneg : r < 0
      · have hkey : keyOf zs x < keyOf zs y := by rw [hr, cmpI_neg] at hneg; omega
        have HK : Hid (key2 zs x < key2 zs y) := key2_lt hkey (by omega) (by omega)
        have hdr : decide (r < 0) = true := by simp [hneg]
        clear hkey hr hneg
        go_wp2
        go_quiet (first | (go_at_call 92; refine quietD (hcl _)))
        clear hcl c1 c2 i1 i2
        go_wp2
        go_roundw
        case rel =>
          have hk := HK.out
          rw [HX.out, HY.out] at hk
          exact ⟨hh + 1, j, by omega, by omega, hjb, by go_num, rfl, HI.out.drewN _, ⟨Or.inr (by simpa using hk), HM.out.2⟩⟩
        case measure => simp [intOf]; omega
      · have hkey : keyOf zs y ≤ keyOf zs x := by rw [hr, cmpI_neg] at hneg; omega
        have HK : Hid (key2 zs y ≤ key2 zs x) := key2_le hkey HYX.out
        have hdr : decide (r < 0) = false := by simp; omega
        clear hkey hr hneg
        go_wp2
        go_quiet (first | (go_at_call 92; refine quietD (hcl _)))
        clear hcl c1 c2 i1 i2
        go_wp2
        go_roundw
        case rel =>
          have hk := HK.out
          rw [HX.out, HY.out] at hk
          exact ⟨i, hh, hi, by omega, by omega, rfl, by go_num, HI.out.drewN _, ⟨HM.out.1, Or.inr hk⟩⟩
        case measure => simp [intOf]; omega
    · obtain rfl : i = j := by omega
      go_wp2
      go_loopw [13] (fun v wr => ∃ k : Nat, a ≤ k ∧ k < i ∧ v = .int .i64 k ∧ Hid (SS w0 wr B A n c bx CA cn cc zs (rot a (a + 1) (k + 1) d)) ∧ Hid (Mv n a b d (rot a (a + 1) (k + 1) d))) (fun v _ => i - (intOf v).toNat)
      case atStart => exact ⟨a, by omega, by omega, rfl, by rw [rot_id1]; exact HI, by rw [rot_id1]; exact Mv.refl _ _ _ _⟩
      case round =>
        clear HI
        obtain ⟨k, hak, hki, rfl, HK, HV⟩ := hrel
        by_cases hk : k < i - 1
        · have hk' : (k : Int) < (i : Int) - 1 := by omega
          obtain ⟨dk, hdk⟩ : ∃ dk, dk = rot a (a + 1) (k + 1) d := ⟨_, rfl⟩
          rw [← hdk] at HK HV
          have HDK := Lib.hid hdk
          clear hdk
          have c1 := HK.out.cell (i := k) (by omega)
          have c2 := HK.out.cell (i := k + 1) (by omega)
          have i1 := HK.out.index (i := k) (by omega) ((k : Int)) (by omega)
          have i2 := HK.out.index (i := k + 1) (by omega) ((k : Int) + 1) (by omega)
          obtain ⟨x, hx⟩ : ∃ x, x = dk (k) := ⟨_, rfl⟩
          obtain ⟨y, hy⟩ : ∃ y, y = dk (k + 1) := ⟨_, rfl⟩
          have HX := Lib.hid hx
          have HY := Lib.hid hy
          have f1 := HK.out.fz (i := k) (by omega)
          have f2 := HK.out.fz (i := k + 1) (by omega)
          obtain ⟨u3, c3⟩ := HK.out.cell2 (i := k) (j := k + 1) (by omega) (by omega) (dk (k + 1))
          have hsw := Lib.hid (HK.out.swap (i := k) (j := k + 1) (by omega) (by omega)).drew
          rw [← hx] at c1 hsw
          rw [← hy] at c2 c3 hsw
          obtain ⟨p, hp⟩ : ∃ p, p = ofs A + (k) := ⟨_, rfl⟩
          obtain ⟨q, hq⟩ : ∃ q, q = ofs A + (k + 1) := ⟨_, rfl⟩
          rw [← hp] at c1 f1 i1 c3 hsw
          rw [← hq] at c2 f2 i2 c3 hsw
          clear hx hy hp hq HK
          go_wp2
          go_region
          clear c1 c2 c3 f1 f2 i1 i2
          generalize ((wr.setCell ⟨bl A, p, none⟩ (.int .i64 y)).setCell ⟨bl A, q, none⟩ (.int .i64 x)).drew = w3 at hsw ⊢
          go_wp2
          go_roundw
          case rel => exact ⟨k + 1, by omega, by omega, by go_num, by rw [show k + 1 + 1 = k + 2 from rfl, ← rot_up hak, ← HDK.out]; exact hsw, by rw [show k + 1 + 1 = k + 2 from rfl, ← rot_up hak, ← HDK.out]; exact HV.out.trans (Mv.sw dk (by omega) (by omega) hb)⟩
          case measure => simp [intOf]; omega
        · have hk' : (i : Int) - 1 ≤ (k : Int) := by omega
          have hki2 : k + 1 = i := by omega
          go_wp2
          first | go_end0 | go_ret
          refine ⟨_, rfl, HK.out, HV.out, ?_⟩
          rw [hki2]
          exact one_up HSD.out hi hjb HM.out.1 HM.out.2

set_option maxRecDepth 100000 in
set_option maxHeartbeats 4000000 in
theorem symMerge_last {w0 w : World} {B : Nat} {A : Option Addr} {n c bx : Nat} {CA : Option Addr} {cn cc : Nat} {zs : List Int} {d : Nat → Int} (h : SS w0 w B A n c bx CA cn cc zs d) (a m : Nat) (ham : a + 1 < m) (hb : m + 1 ≤ n) (hn : n ≤ 1000) (hs : Sd (key2 zs) a m d) (hlo : Lo a m (m + 1) d) :
    Calls Tryz.prog 122 #[.slice A n c, .int .i64 a, .int .i64 m, .int .i64 ((m : Int) + 1), .func (.func 92) #[] #[.pointer (some ⟨bx, 0, none⟩)]] w (SPost w0 B A n c bx CA cn cc zs fun d' => Mv n a (m + 1) d d' ∧ Sd (key2 zs) a (m + 1) d') := by
  have HS := Lib.hid h
  have HSD := Lib.hid hs
  have HLo := Lib.hid hlo
  clear h hs hlo
  have hone0 : ((m : Int) - a == 1) = false := by simp; omega
  have hone : ((m : Int) + 1 - m == 1) = true := by simp; omega
  go_enter Tryz.func122, Tryz.ntmps122
  go_wp2
  go_loopw [14, 15] (fun v u wr => ∃ i j : Nat, a ≤ i ∧ i ≤ j ∧ j ≤ m ∧ v = .int .i64 i ∧ u = .int .i64 j ∧ Hid (SS w0 wr B A n c bx CA cn cc zs d) ∧ Hid ((i = a ∨ key2 zs (d (i - 1)) ≤ key2 zs (d m)) ∧ (j = m ∨ key2 zs (d m) < key2 zs (d j)))) (fun v u _ => (intOf u).toNat - (intOf v).toNat)
  case atStart => exact ⟨a, m, by omega, by omega, by omega, rfl, rfl, HS, ⟨Or.inl rfl, Or.inl rfl⟩⟩
  case round =>
    clear HS
    obtain ⟨i, j, hi, hij, hjb, rfl, rfl, HI, HM⟩ := hrel
    by_cases hlt : i < j
    · obtain ⟨hh, hhe⟩ : ∃ hh, hh = (i + j) / 2 := ⟨_, rfl⟩
      have c1 := HI.out.cell (i := m) (by omega)
      have c2 := HI.out.cell (i := hh) (by omega)
      have i1 := HI.out.index (i := m) (by omega) ((m : Int)) (by omega)
      have i2 := HI.out.index (i := hh) (by omega) (((i : Int) + j) / 2) (by omega)
      obtain ⟨x, hx⟩ : ∃ x, x = d (m) := ⟨_, rfl⟩
      obtain ⟨y, hy⟩ : ∃ y, y = d (hh) := ⟨_, rfl⟩
      have HX := Lib.hid hx
      have HY := Lib.hid hy
      have g1 := HI.out.good (m) (by omega)
      have g2 := HI.out.good (hh) (by omega)
      have hcmp := HI.out.cmp
      have hfew := HI.out.few
      have HYX : Hid (y < x) := by
        have h1 := HLo.out (hh) (m) (by omega) (by omega) (by omega) (by omega)
        rw [← hx, ← hy] at h1
        exact h1
      rw [← hx] at c1 g1
      rw [← hy] at c2 g2
      obtain ⟨p, hp⟩ : ∃ p, p = ofs A + (m) := ⟨_, rfl⟩
      obtain ⟨q, hq⟩ : ∃ q, q = ofs A + (hh) := ⟨_, rfl⟩
      rw [← hp] at c1 i1
      rw [← hq] at c2 i2
      have hcl := fun q => closure_any (hcmp.drewN q) x y g1 g2
      obtain ⟨r, hr⟩ : ∃ r, r = cmpI (keyOf zs x) (keyOf zs y) := ⟨_, rfl⟩
      rw [← hr] at hcl
      clear hx hy hp hq hcmp
      by_cases hneg : r < 0
      · have hkey : keyOf zs x < keyOf zs y := by rw [hr, cmpI_neg] at hneg; omega
        have HK : Hid (key2 zs x < key2 zs y) := key2_lt hkey (by omega) (by omega)
        have hdr : decide (r < 0) = true := by simp [hneg]
        clear hkey hr hneg
        go_wp2
        go_quiet (first | (go_at_call 92; refine quietD (hcl _)))
        clear hcl c1 c2 i1 i2
        go_wp2
        go_roundw
        case rel =>
          have hk := HK.out
          rw [HX.out, HY.out] at hk
          exact ⟨i, hh, hi, by omega, by omega, rfl, by go_num, HI.out.drewN _, ⟨HM.out.1, Or.inr hk⟩⟩
        case measure => simp [intOf]; omega
      · have hkey : keyOf zs y ≤ keyOf zs x := by rw [hr, cmpI_neg] at hneg; omega
        have HK : Hid (key2 zs y ≤ key2 zs x) := key2_le hkey HYX.out
        have hdr : decide (r < 0) = false := by simp; omega
        clear hkey hr hneg
        go_wp2
        go_quiet (first | (go_at_call 92; refine quietD (hcl _)))
        clear hcl c1 c2 i1 i2
        go_wp2
        go_roundw
        case rel =>
          have hk := HK.out
          rw [HX.out, HY.out] at hk
          exact ⟨hh + 1, j, by omega, by omega, hjb, by go_num, rfl, HI.out.drewN _, ⟨Or.inr (by simpa using hk), HM.out.2⟩⟩
        case measure => simp [intOf]; omega
    · obtain rfl : i = j := by omega
      go_wp2
      go_loopw [17] (fun v wr => ∃ k : Nat, i ≤ k ∧ k ≤ m ∧ v = .int .i64 k ∧ Hid (SS w0 wr B A n c bx CA cn cc zs (rot k m (m + 1) d)) ∧ Hid (Mv n a (m + 1) d (rot k m (m + 1) d))) (fun v _ => (intOf v).toNat)
      case atStart => exact ⟨m, by omega, by omega, rfl, by rw [rot_id2]; exact HI, by rw [rot_id2]; exact Mv.refl _ _ _ _⟩
      case round =>
        clear HI
        obtain ⟨k, hak, hki, rfl, HK, HV⟩ := hrel
        by_cases hk : i < k
        · obtain ⟨dk, hdk⟩ : ∃ dk, dk = rot k m (m + 1) d := ⟨_, rfl⟩
          rw [← hdk] at HK HV
          have HDK := Lib.hid hdk
          clear hdk
          obtain ⟨kp, rfl⟩ : ∃ kp, k = kp + 1 := ⟨k - 1, by omega⟩
          have hk' : (i : Int) < (kp : Int) + 1 := by omega
          have c1 := HK.out.cell (i := kp + 1) (by omega)
          have c2 := HK.out.cell (i := kp) (by omega)
          have i1 := HK.out.index (i := kp + 1) (by omega) ((kp : Int) + 1) (by omega)
          have i2 := HK.out.index (i := kp) (by omega) ((kp : Int)) (by omega)
          obtain ⟨x, hx⟩ : ∃ x, x = dk (kp + 1) := ⟨_, rfl⟩
          obtain ⟨y, hy⟩ : ∃ y, y = dk (kp) := ⟨_, rfl⟩
          have HX := Lib.hid hx
          have HY := Lib.hid hy
          have f1 := HK.out.fz (i := kp + 1) (by omega)
          have f2 := HK.out.fz (i := kp) (by omega)
          obtain ⟨u3, c3⟩ := HK.out.cell2 (i := kp + 1) (j := kp) (by omega) (by omega) (dk (kp))
          have hsw := Lib.hid (HK.out.swap (i := kp + 1) (j := kp) (by omega) (by omega)).drew
          rw [← hx] at c1 hsw
          rw [← hy] at c2 c3 hsw
          obtain ⟨p, hp⟩ : ∃ p, p = ofs A + (kp + 1) := ⟨_, rfl⟩
          obtain ⟨q, hq⟩ : ∃ q, q = ofs A + (kp) := ⟨_, rfl⟩
          rw [← hp] at c1 f1 i1 c3 hsw
          rw [← hq] at c2 f2 i2 c3 hsw
          clear hx hy hp hq HK
          go_wp2
          go_region
          clear c1 c2 c3 f1 f2 i1 i2
          generalize ((wr.setCell ⟨bl A, p, none⟩ (.int .i64 y)).setCell ⟨bl A, q, none⟩ (.int .i64 x)).drew = w3 at hsw ⊢
          go_wp2
          go_roundw
          case rel => exact ⟨kp, by omega, by omega, by go_num, by have e := rot_down (m := m) (k := kp + 1) (by omega) hki d; rw [← HDK.out] at e; rw [show kp = kp + 1 - 1 from rfl, ← e]; exact hsw, by have e := rot_down (m := m) (k := kp + 1) (by omega) hki d; rw [← HDK.out] at e; rw [show kp = kp + 1 - 1 from rfl, ← e]; exact HV.out.trans (Mv.sw dk (by omega) (by omega) hb)⟩
          case measure => simp [intOf]
        · obtain rfl : i = k := by omega
          go_wp2
          first | go_end0 | go_ret
          refine ⟨_, rfl, HK.out, HV.out, ?_⟩
          exact one_down HSD.out hi hjb HM.out.1 HM.out.2

end Go.Proofs.YtolcdlopgbgilaaGreatDoor
