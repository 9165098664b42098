/- Plain: places of a row exchanged, rotated and merged; what is sorted by a key. -/
import Derived.Test.YtndgijcjpkoooaaLenP
namespace Go.Proofs.Ytndgijcjpkoooaa
open Go.RowKit Go.Dray

def sw (d : Nat → Int) (i j : Nat) : Nat → Int := fun k => if k = i then d j else if k = j then d i else d k
def ind (x y : Int) : Int := if y = x then 1 else 0
/-- How often x comes. -/
def cn (d : Nat → Int) (n : Nat) (x : Int) : Int := su (fun k => ind x (d k)) n

theorem su_congr {f g : Nat → Int} {n : Nat} (h : ∀ k, k < n → f k = g k) : su f n = su g n := by
  induction n with
  | zero => rfl
  | succ n ih => rw [su, su, ih fun k hk => h k (by omega), h n (by omega)]
theorem su_upd (f : Nat → Int) (i : Nat) (v : Int) : ∀ n, i < n → su (fun k => if k = i then v else f k) n = su f n - f i + v := by
  intro n
  induction n with
  | zero => intro h; omega
  | succ n ih =>
    intro h
    rw [su, su]
    by_cases e : i = n
    · subst e
      rw [if_pos rfl, su_congr (g := f) fun k hk => if_neg (by omega)]
      omega
    · rw [ih (by omega), if_neg (by omega)]
      omega
theorem cn_sw (d : Nat → Int) {i j n : Nat} (hi : i < n) (hj : j < n) (x : Int) : cn (sw d i j) n x = cn d n x := by
  have e : (fun k => ind x (sw d i j k)) = fun k => if k = i then ind x (d j) else (fun k => if k = j then ind x (d i) else ind x (d k)) k := by
    funext k
    unfold sw
    by_cases h1 : k = i
    · simp [h1]
    · by_cases h2 : k = j
      · rw [if_neg h1, if_pos h2, if_neg h1]; exact (if_pos h2).symm
      · simp [h1, h2]
  unfold cn
  rw [e, su_upd (fun k => if k = j then ind x (d i) else ind x (d k)) i _ n hi, su_upd (fun k => ind x (d k)) j _ n hj]
  by_cases h : i = j
  · subst h; simp
  · simp [h]

/-- d' is d but for places from a up to b, which hold what stood there, in another order. -/
structure Mv (n a b : Nat) (d d' : Nat → Int) : Prop where
  out : ∀ k, k < a ∨ b ≤ k → d' k = d k
  frm : ∀ k, a ≤ k → k < b → ∃ k', a ≤ k' ∧ k' < b ∧ d' k = d k'
  perm : ∀ x, cn d' n x = cn d n x

theorem Mv.refl (n a b : Nat) (d : Nat → Int) : Mv n a b d d := ⟨fun _ _ => rfl, fun k h1 h2 => ⟨k, h1, h2, rfl⟩, fun _ => rfl⟩
theorem Mv.trans {n a b : Nat} {d d' d'' : Nat → Int} (h : Mv n a b d d') (h' : Mv n a b d' d'') : Mv n a b d d'' :=
  ⟨fun k hk => (h'.out k hk).trans (h.out k hk), fun k h1 h2 => by
    obtain ⟨k1, a1, a2, a3⟩ := h'.frm k h1 h2
    obtain ⟨k2, b1, b2, b3⟩ := h.frm k1 a1 a2
    exact ⟨k2, b1, b2, a3.trans b3⟩, fun x => (h'.perm x).trans (h.perm x)⟩
theorem Mv.mono {n a b a' b' : Nat} {d d' : Nat → Int} (h : Mv n a b d d') (ha : a' ≤ a) (hb : b ≤ b') : Mv n a' b' d d' :=
  ⟨fun k hk => h.out k (by omega), fun k h1 h2 => by
    by_cases hk : a ≤ k ∧ k < b
    · obtain ⟨k', h3, h4, h5⟩ := h.frm k hk.1 hk.2
      exact ⟨k', by omega, by omega, h5⟩
    · exact ⟨k, h1, h2, h.out k (by omega)⟩, h.perm⟩
theorem Mv.sw {n a b : Nat} (d : Nat → Int) {i j : Nat} (hi : a ≤ i ∧ i < b) (hj : a ≤ j ∧ j < b) (hb : b ≤ n) : Mv n a b d (sw d i j) :=
  ⟨fun k hk => by unfold Proofs.Ytndgijcjpkoooaa.sw; rw [if_neg (by omega), if_neg (by omega)], fun k h1 h2 => by
    unfold Proofs.Ytndgijcjpkoooaa.sw
    by_cases e1 : k = i
    · exact ⟨j, hj.1, hj.2, by rw [if_pos e1]⟩
    · by_cases e2 : k = j
      · exact ⟨i, hi.1, hi.2, by rw [if_neg e1, if_pos e2]⟩
      · exact ⟨k, h1, h2, by rw [if_neg e1, if_neg e2]⟩, fun x => cn_sw d (by omega) (by omega) x⟩

def swr (a b n : Nat) (d : Nat → Int) : Nat → Int := fun k => if a ≤ k ∧ k < a + n then d (k - a + b) else if b ≤ k ∧ k < b + n then d (k - b + a) else d k
def rot (a m b : Nat) (d : Nat → Int) : Nat → Int := fun k => if a ≤ k ∧ k < b then (if k < a + (b - m) then d (k + (m - a)) else d (k - (b - m))) else d k

theorem swr_zero (a b : Nat) (d : Nat → Int) : swr a b 0 d = d := by
  funext k
  unfold swr
  rw [if_neg (by omega), if_neg (by omega)]
theorem swr_succ {a b i : Nat} (h : a + (i + 1) ≤ b) (d : Nat → Int) : sw (swr a b i d) (a + i) (b + i) = swr a b (i + 1) d := by
  funext k
  unfold sw swr
  repeat' split
  all_goals first
    | omega
    | (congr 1; omega)
theorem rot_gt {m i j : Nat} (h1 : j < i) (h2 : i ≤ m) (d : Nat → Int) : rot (m - (i - j)) m (m + j) (swr (m - i) m j d) = rot (m - i) m (m + j) d := by
  funext k
  unfold rot swr
  repeat' split
  all_goals first
    | omega
    | (congr 1; omega)
theorem rot_lt {m i j : Nat} (h1 : i < j) (h2 : i ≤ m) (d : Nat → Int) : rot (m - i) m (m + (j - i)) (swr (m - i) (m + j - i) i d) = rot (m - i) m (m + j) d := by
  funext k
  unfold rot swr
  repeat' split
  all_goals first
    | omega
    | (congr 1; omega)
theorem rot_eq {m i : Nat} (h2 : i ≤ m) (d : Nat → Int) : swr (m - i) m i d = rot (m - i) m (m + i) d := by
  funext k
  unfold rot swr
  repeat' split
  all_goals first
    | omega
    | (congr 1; omega)
theorem rot_triv {s m e : Nat} (h1 : s ≤ m) (h2 : m ≤ e) (h : s = m ∨ m = e) (d : Nat → Int) : rot s m e d = d := by
  funext k
  unfold rot
  repeat' split
  all_goals first
    | omega
    | rfl
    | (congr 1; omega)
theorem rot_up {a k : Nat} (h : a ≤ k) (d : Nat → Int) : sw (rot a (a + 1) (k + 1) d) k (k + 1) = rot a (a + 1) (k + 2) d := by
  funext t
  unfold sw rot
  repeat' split
  all_goals first
    | omega
    | (congr 1; omega)
theorem rot_down {m k : Nat} (h : 1 ≤ k) (hk : k ≤ m) (d : Nat → Int) : sw (rot k m (m + 1) d) k (k - 1) = rot (k - 1) m (m + 1) d := by
  funext t
  unfold sw rot
  repeat' split
  all_goals first
    | omega
    | (congr 1; omega)
theorem rot_id1 (a : Nat) (d : Nat → Int) : rot a (a + 1) (a + 1) d = d := rot_triv (by omega) (by omega) (Or.inr rfl) d
theorem rot_id2 (m : Nat) (d : Nat → Int) : rot m m (m + 1) d = d := rot_triv (by omega) (by omega) (Or.inl rfl) d

/-- Sorted by a key. -/
def Sd (κ : Int → Int) (a b : Nat) (d : Nat → Int) : Prop := ∀ i j, a ≤ i → i ≤ j → j < b → κ (d i) ≤ κ (d j)

theorem Sd.nil {κ : Int → Int} {a b : Nat} {d : Nat → Int} (h : b ≤ a + 1) : Sd κ a b d := fun i j h1 h2 h3 => by
  have : i = j := by omega
  subst this; omega
theorem Sd.sub {κ : Int → Int} {a b a' b' : Nat} {d : Nat → Int} (h : Sd κ a b d) (ha : a ≤ a') (hb : b' ≤ b) : Sd κ a' b' d := fun i j h1 h2 h3 => h i j (by omega) h2 (by omega)

/-- While insertionSort carries place j down. -/
def InsInv (κ : Int → Int) (a i j : Nat) (d : Nat → Int) : Prop :=
  (∀ p q, a ≤ p → p ≤ q → q ≤ i → p ≠ j → q ≠ j → κ (d p) ≤ κ (d q)) ∧ ∀ q, j < q → q ≤ i → κ (d j) ≤ κ (d q)
theorem InsInv.start {κ : Int → Int} {a i : Nat} {d : Nat → Int} (h : Sd κ a i d) : InsInv κ a i i d :=
  ⟨fun p q h1 h2 h3 h4 h5 => h p q h1 h2 (by omega), fun q h1 h2 => by omega⟩
theorem InsInv.done {κ : Int → Int} {a i j : Nat} {d : Nat → Int} (h : InsInv κ a i j d) (hj : a ≤ j ∧ j ≤ i) (hs : j = a ∨ ¬ κ (d j) < κ (d (j - 1))) : Sd κ a (i + 1) d := by
  intro p q h1 h2 h3
  by_cases hp : p = j
  · by_cases hq : q = j
    · subst hp hq; omega
    · subst hp; exact h.2 q (by omega) (by omega)
  · by_cases hq : q = j
    · subst hq
      have := h.1 p (q - 1) h1 (by omega) (by omega) hp (by omega)
      omega
    · exact h.1 p q h1 h2 (by omega) hp hq
theorem InsInv.step {κ : Int → Int} {a i j : Nat} {d : Nat → Int} (h : InsInv κ a i j d) (hj : a < j ∧ j ≤ i) (hs : κ (d j) < κ (d (j - 1))) : InsInv κ a i (j - 1) (sw d j (j - 1)) := by
  have e1 : sw d j (j - 1) j = d (j - 1) := by unfold sw; rw [if_pos rfl]
  have e2 : sw d j (j - 1) (j - 1) = d j := by unfold sw; rw [if_neg (by omega), if_pos rfl]
  have e3 : ∀ k, k ≠ j → k ≠ j - 1 → sw d j (j - 1) k = d k := fun k h1 h2 => by unfold sw; rw [if_neg h1, if_neg h2]
  refine ⟨fun p q h1 h2 h3 h4 h5 => ?_, fun q h1 h2 => ?_⟩
  · by_cases hp : p = j
    · subst hp
      by_cases hq : q = p
      · subst hq; omega
      · rw [e1, e3 q hq h5]; exact h.1 (p - 1) q (by omega) (by omega) h3 (by omega) hq
    · by_cases hq : q = j
      · subst hq
        rw [e1, e3 p hp h4]; exact h.1 p (q - 1) h1 (by omega) (by omega) hp (by omega)
      · rw [e3 p hp h4, e3 q hq h5]; exact h.1 p q h1 h2 h3 hp hq
  · rw [e2]
    by_cases hq : q = j
    · subst hq; rw [e1]; omega
    · rw [e3 q hq (by omega)]; exact h.2 q (by omega) h2

/-- Two sorted parts, all of the first no more than all of the second. -/
theorem Sd.join {κ : Int → Int} {a m b : Nat} {d : Nat → Int} (h1 : Sd κ a m d) (h2 : Sd κ m b d) (h : ∀ i j, a ≤ i → i < m → m ≤ j → j < b → κ (d i) ≤ κ (d j)) : Sd κ a b d := by
  intro i j h3 h4 h5
  by_cases hi : i < m
  · by_cases hj : j < m
    · exact h1 i j h3 h4 hj
    · exact h i j h3 hi (by omega) h5
  · exact h2 i j (by omega) h4 h5

/-- One element ahead is carried to its place. -/
theorem one_up {κ : Int → Int} {a i b : Nat} {d : Nat → Int} (hs : Sd κ (a + 1) b d) (h1 : a + 1 ≤ i) (h2 : i ≤ b) (hl : i = a + 1 ∨ κ (d (i - 1)) < κ (d a)) (hr : i = b ∨ κ (d a) ≤ κ (d i)) : Sd κ a b (rot a (a + 1) i d) := by
  have e1 : ∀ k, a ≤ k → k < i - 1 → rot a (a + 1) i d k = d (k + 1) := fun k h3 h4 => by unfold rot; rw [if_pos (by omega), if_pos (by omega)]; congr 1; omega
  have e2 : rot a (a + 1) i d (i - 1) = d a := by unfold rot; rw [if_pos (by omega), if_neg (by omega)]; congr 1; omega
  have e3 : ∀ k, i ≤ k → rot a (a + 1) i d k = d k := fun k h3 => by unfold rot; rw [if_neg (by omega)]
  intro p q hp hpq hq
  rcases Nat.lt_trichotomy p (i - 1) with h | h | h
  · rw [e1 p hp h]
    rcases Nat.lt_trichotomy q (i - 1) with h' | h' | h'
    · rw [e1 q (by omega) h']; exact hs _ _ (by omega) (by omega) (by omega)
    · rw [h', e2]
      have := hs (p + 1) (i - 1) (by omega) (by omega) (by omega)
      omega
    · rw [e3 q (by omega)]; exact hs _ _ (by omega) (by omega) hq
  · rw [h, e2]
    rcases Nat.lt_or_ge q i with h' | h'
    · rw [show q = i - 1 from by omega, e2]; omega
    · rw [e3 q h']
      have := hs i q (by omega) h' hq
      omega
  · rw [e3 p (by omega), e3 q (by omega)]; exact hs _ _ (by omega) hpq hq
/-- One element behind is carried to its place. -/
theorem one_down {κ : Int → Int} {a i m : Nat} {d : Nat → Int} (hs : Sd κ a m d) (h1 : a ≤ i) (h2 : i ≤ m) (hl : i = a ∨ κ (d (i - 1)) ≤ κ (d m)) (hr : i = m ∨ κ (d m) < κ (d i)) : Sd κ a (m + 1) (rot i m (m + 1) d) := by
  have e1 : ∀ k, i < k → k < m + 1 → rot i m (m + 1) d k = d (k - 1) := fun k h3 h4 => by unfold rot; rw [if_pos (by omega), if_neg (by omega)]; congr 1; omega
  have e2 : rot i m (m + 1) d i = d m := by unfold rot; rw [if_pos (by omega), if_pos (by omega)]; congr 1; omega
  have e3 : ∀ k, k < i → rot i m (m + 1) d k = d k := fun k h3 => by unfold rot; rw [if_neg (by omega)]
  intro p q hp hpq hq
  rcases Nat.lt_trichotomy p i with h | h | h
  · rw [e3 p h]
    rcases Nat.lt_trichotomy q i with h' | h' | h'
    · rw [e3 q h']; exact hs _ _ hp hpq (by omega)
    · rw [h', e2]
      have := hs p (i - 1) hp (by omega) (by omega)
      omega
    · rw [e1 q h' (by omega)]; exact hs _ _ hp (by omega) (by omega)
  · subst h
    rw [e2]
    rcases Nat.eq_or_lt_of_le hpq with h' | h'
    · rw [← h', e2]; omega
    · rw [e1 q h' (by omega)]
      have := hs p (q - 1) (by omega) (by omega) (by omega)
      omega
  · rw [e1 p h (by omega), e1 q (by omega) (by omega)]; exact hs _ _ (by omega) (by omega) (by omega)

/-- Where symMerge cuts. -/
structure Cut (κ : Int → Int) (a m b mid s : Nat) (d : Nat → Int) : Prop where
  sa : a ≤ s
  sm : s ≤ m
  smid : s ≤ mid
  eb : mid + m - s ≤ b
  low : s = a ∨ mid + m - s = b ∨ κ (d (s - 1)) ≤ κ (d (mid + m - s))
  high : s = m ∨ s = mid ∨ κ (d (mid + m - 1 - s)) < κ (d s)

section
variable {κ : Int → Int} {a m b mid s : Nat} {d : Nat → Int}
theorem Cut.parts (h : Cut κ a m b mid s d) (h1 : Sd κ a m d) (h2 : Sd κ m b d) :
    Sd κ a s (rot s m (mid + m - s) d) ∧ Sd κ s mid (rot s m (mid + m - s) d) ∧ Sd κ mid (mid + m - s) (rot s m (mid + m - s) d) ∧ Sd κ (mid + m - s) b (rot s m (mid + m - s) d) ∧
    ∀ i j, a ≤ i → i < mid → mid ≤ j → j < b → κ (rot s m (mid + m - s) d i) ≤ κ (rot s m (mid + m - s) d j) := by
  obtain ⟨sa, sm, smid, eb, low, high⟩ := h
  have e0 : ∀ k, k < s → rot s m (mid + m - s) d k = d k := fun k h3 => by unfold rot; rw [if_neg (by omega)]
  have e1 : ∀ k, s ≤ k → k < mid → rot s m (mid + m - s) d k = d (k + (m - s)) := fun k h3 h4 => by unfold rot; rw [if_pos (by omega), if_pos (by omega)]
  have e2 : ∀ k, mid ≤ k → k < mid + m - s → rot s m (mid + m - s) d k = d (k - (mid - s)) := fun k h3 h4 => by unfold rot; rw [if_pos (by omega), if_neg (by omega)]; congr 1; omega
  have e3 : ∀ k, mid + m - s ≤ k → rot s m (mid + m - s) d k = d k := fun k h3 => by unfold rot; rw [if_neg (by omega)]
  refine ⟨?_, ?_, ?_, ?_, ?_⟩
  · intro i j hi hij hj; rw [e0 i (by omega), e0 j hj]; exact h1 i j hi hij (by omega)
  · intro i j hi hij hj; rw [e1 i hi (by omega), e1 j (by omega) hj]; exact h2 _ _ (by omega) (by omega) (by omega)
  · intro i j hi hij hj; rw [e2 i hi (by omega), e2 j (by omega) hj]; exact h1 _ _ (by omega) (by omega) (by omega)
  · intro i j hi hij hj; rw [e3 i hi, e3 j (by omega)]; exact h2 i j (by omega) hij hj
  · intro i j hi him hmj hj
    by_cases hi' : i < s
    · rw [e0 i hi']
      by_cases hj' : j < mid + m - s
      · rw [e2 j hmj hj']; exact h1 _ _ hi (by omega) (by omega)
      · rw [e3 j (by omega)]
        have a1 := h1 i (s - 1) hi (by omega) (by omega)
        have a2 := h2 (mid + m - s) j (by omega) (by omega) hj
        omega
    · rw [e1 i (by omega) him]
      by_cases hj' : j < mid + m - s
      · rw [e2 j hmj hj']
        have a1 := h2 (i + (m - s)) (mid + m - 1 - s) (by omega) (by omega) (by omega)
        have a2 := h1 s (j - (mid - s)) (by omega) (by omega) (by omega)
        omega
      · rw [e3 j (by omega)]; exact h2 _ _ (by omega) (by omega) hj

/-- The two halves sorted, all is. -/
theorem Cut.whole {n : Nat} {d1 d2 d3 : Nat → Int} (hx : ∀ i j, a ≤ i → i < mid → mid ≤ j → j < b → κ (d1 i) ≤ κ (d1 j)) (m1 : Mv n a mid d1 d2) (s1 : Sd κ a mid d2) (m2 : Mv n mid b d2 d3) (s2 : Sd κ mid b d3) : Sd κ a b d3 := by
  refine Sd.join (m := mid) ?_ s2 ?_
  · intro i j h1 h2 h3
    rw [m2.out i (by omega), m2.out j (by omega)]
    exact s1 i j h1 h2 h3
  · intro i j h1 h2 h3 h4
    obtain ⟨i', a1, a2, a3⟩ := m1.frm i h1 h2
    obtain ⟨j', b1, b2, b3⟩ := m2.frm j h3 h4
    rw [m2.out i (by omega), a3, b3, m1.out j' (by omega)]
    exact hx i' j' a1 a2 b1 b2
end

theorem Sd.mv {κ : Int → Int} {n a b x y : Nat} {d d' : Nat → Int} (h : Sd κ x y d) (hm : Mv n a b d d') (hx : b ≤ x) : Sd κ x y d' := fun i j h1 h2 h3 => by
  rw [hm.out i (by omega), hm.out j (by omega)]; exact h i j h1 h2 h3
/-- symMerge's end. -/
theorem sym_end {κ : Int → Int} {n a m b mid s : Nat} {d d1 d2 d3 : Nat → Int} (hc : Cut κ a m b mid s d) (h1 : Sd κ a m d) (h2 : Sd κ m b d) (ham : a ≤ mid) (hmb : mid ≤ b) (e1 : d1 = rot s m (mid + m - s) d) (m0 : Mv n a b d d1) (m1 : Mv n a mid d1 d2) (s1 : Sd κ a mid d2) (m2 : Mv n mid b d2 d3) (s2 : Sd κ mid b d3) : Mv n a b d d3 ∧ Sd κ a b d3 := by
  refine ⟨(m0.trans (m1.mono (Nat.le_refl _) hmb)).trans (m2.mono ham (Nat.le_refl _)), ?_⟩
  have hx := (hc.parts h1 h2).2.2.2.2
  rw [← e1] at hx
  exact Cut.whole hx m1 s1 m2 s2
theorem Mv.swr {n A B : Nat} {a b c : Nat} (h1 : A ≤ a) (h2 : b + c ≤ B) (h3 : B ≤ n) (h4 : a + c ≤ b) (d : Nat → Int) : Mv n A B d (swr a b c d) := by
  induction c with
  | zero => rw [swr_zero]; exact Mv.refl _ _ _ _
  | succ c ih =>
    rw [← swr_succ h4]
    exact (ih (by omega) (by omega)).trans (Mv.sw _ (by omega) (by omega) h3)

/-- Sorted in blocks. -/
def Bs (κ : Int → Int) (bs n : Nat) (d : Nat → Int) : Prop := ∀ i j, i ≤ j → j < n → i / bs = j / bs → κ (d i) ≤ κ (d j)
/-- Sorted in blocks of twice the size up to a, of the size from there on. -/
def Ms (κ : Int → Int) (bs a n : Nat) (d : Nat → Int) : Prop :=
  (∀ i j, i ≤ j → j < a → i / (2 * bs) = j / (2 * bs) → κ (d i) ≤ κ (d j)) ∧ ∀ i j, a ≤ i → i ≤ j → j < n → i / bs = j / bs → κ (d i) ≤ κ (d j)
def isBs (bs : Nat) : Prop := bs = 20 ∨ bs = 40 ∨ bs = 80 ∨ bs = 160

theorem Ms.start {κ : Int → Int} {bs n : Nat} {d : Nat → Int} (h : Bs κ bs n d) : Ms κ bs 0 n d := ⟨fun i j h1 h2 => by omega, fun i j _ h2 h3 h4 => h i j h2 h3 h4⟩
theorem Ms.halves {κ : Int → Int} {bs a n : Nat} {d : Nat → Int} (hb : isBs bs) (h : Ms κ bs a n d) (ha : a % (2 * bs) = 0) (b : Nat) (h2 : b ≤ n) (h3 : b ≤ a + 2 * bs) : Sd κ a (min (a + bs) b) d ∧ Sd κ (a + bs) b d := by
  refine ⟨fun i j h4 h5 h6 => h.2 i j h4 h5 (by omega) ?_, fun i j h4 h5 h6 => h.2 i j (by omega) h5 (by omega) ?_⟩ <;> rcases hb with rfl | rfl | rfl | rfl <;> omega
theorem Ms.step {κ : Int → Int} {bs a n : Nat} {d d' : Nat → Int} (hb : isBs bs) (h : Ms κ bs a n d) (ha : a % (2 * bs) = 0) (hn : a + 2 * bs ≤ n) (hm : Mv n a (a + 2 * bs) d d') (hs : Sd κ a (a + 2 * bs) d') : Ms κ bs (a + 2 * bs) n d' ∧ (a + 2 * bs) % (2 * bs) = 0 := by
  refine ⟨⟨fun i j h1 h2 h3 => ?_, fun i j h1 h2 h3 h4 => ?_⟩, by rcases hb with rfl | rfl | rfl | rfl <;> omega⟩
  · by_cases hi : a ≤ i
    · exact hs i j hi h1 h2
    · have : j < a := by rcases hb with rfl | rfl | rfl | rfl <;> omega
      rw [hm.out i (by omega), hm.out j (by omega)]
      exact h.1 i j h1 this h3
  · rw [hm.out i (by omega), hm.out j (by omega)]
    exact h.2 i j (by omega) h2 h3 h4
/-- The last, shorter part is sorted too. -/
theorem Ms.last {κ : Int → Int} {bs a n : Nat} {d d' : Nat → Int} (hb : isBs bs) (h : Ms κ bs a n d) (ha : a % (2 * bs) = 0) (han : a ≤ n) (hn : n < a + 2 * bs) (hm : Mv n a n d d') (hs : Sd κ a n d') : Bs κ (2 * bs) n d' := by
  intro i j h1 h2 h3
  by_cases hi : a ≤ i
  · exact hs i j hi h1 h2
  · have : j < a := by rcases hb with rfl | rfl | rfl | rfl <;> omega
    rw [hm.out i (by omega), hm.out j (by omega)]
    exact h.1 i j h1 this h3

end Go.Proofs.Ytndgijcjpkoooaa
