/- A region that draws its order: its first operations do not hang on the world and are taken first; the next ones only read, and all that writes waits for them: one walk in the text's order. -/
import Derived.Test.YtolcdlopgbgilaaDoorBase
import Derived.StillTailTactics
import Derived.RegionTactic
namespace Go.Dray
open Go.RowKit

section
variable {P : Program} {ops : Array Oper} {md : Region.Mode} {w : World}

/-- Each operation from k0 on and ahead of n is waited for by a later one, up to n. -/
def sinkFrom (md : Region.Mode) (ops : Array Oper) (k0 n : Nat) : Bool :=
  (List.range n).all fun i => decide (i < k0) || (List.range (n + 1)).any fun j => decide (i < j) && Region.waitsFor md ops j i

/-- What is listed in the midst of the head: the first k0 at least. -/
structure LagInv (md : Region.Mode) (ops : Array Oper) (k0 n : Nat) (listed : Array Bool) : Prop where
  head : HeadInv md ops n listed
  pre : ∀ i, i < k0 → listed.getD i false = true

theorem LagInv.set {k0 n i : Nat} {listed : Array Bool} (inv : LagInv md ops k0 n listed) (hi : i ∈ Region.ready md ops listed) (hin : i < n) : LagInv md ops k0 n (listed.setIfInBounds i true) :=
  ⟨inv.head.set hi hin, fun j hj => getD_set_true (inv.pre j hj)⟩

theorem LagInv.from {k0 n i : Nat} {listed : Array Bool} (inv : LagInv md ops k0 n listed) (hun : listed.getD i true = false) : k0 ≤ i := by
  rcases Nat.lt_or_ge i k0 with h | h
  · have h1 := inv.pre i h
    rw [getD_both hun] at h1
    cases h1
  · exact h

theorem lag_waits {k0 n : Nat} {listed : Array Bool} (hs : sinkFrom md ops k0 n = true) (hc : Region.chainB md ops n = true) (inv : LagInv md ops k0 n listed) :
    ∀ (d i : Nat), n - i = d → i < n → listed.getD i true = false → ∀ t, n ≤ t → t ∉ Region.ready md ops listed := by
  intro d
  induction d using Nat.strongRecOn with
  | _ d ih =>
    intro i hd hi hun t ht hr
    obtain ⟨_, ot, hot, hall⟩ := mem_ready.1 hr
    have htlt : t < ops.size := (Array.getElem?_eq_some_iff.1 hot).1
    rcases Nat.lt_or_ge n t with htn | htn
    · have h1 := List.all_eq_true.1 hc t (List.mem_range.2 htlt)
      simp only [Bool.or_eq_true, decide_eq_true_eq] at h1
      rcases h1 with h1 | h1
      · omega
      · obtain ⟨o', ho', e, he, hb, hon⟩ := Region.waitsFor_spec h1
        obtain rfl : o' = ot := Option.some.inj (ho'.symm.trans hot)
        have h2 := hall e he hb
        rw [hon, getD_both (inv.head.tail (t - 1) (by omega) (by omega))] at h2
        cases h2
    · obtain rfl : t = n := by omega
      have h1 := List.all_eq_true.1 hs i (List.mem_range.2 hi)
      simp only [Bool.or_eq_true, decide_eq_true_eq] at h1
      rcases h1 with h1 | h1
      · have := inv.from hun
        omega
      · obtain ⟨j, hj, hj2⟩ := List.any_eq_true.1 h1
        simp only [Bool.and_eq_true, decide_eq_true_eq] at hj2
        obtain ⟨oj, hoj, e, he, hb, hon⟩ := Region.waitsFor_spec hj2.2
        have hjle : j ≤ t := by have := List.mem_range.1 hj; omega
        have hnl : ¬ listed.getD j false = true := fun hl => by
          have h2 := inv.head.closed j oj hoj hl e he hb
          rw [hon, getD_both hun] at h2
          cases h2
        rcases Nat.lt_or_ge j t with hjt | hjt
        · have hjs : j < listed.size := by rw [inv.head.size]; omega
          exact ih (t - j) (by omega) j rfl hjt (getD_in hjs (by simpa using hnl)) t (Nat.le_refl _) hr
        · obtain rfl : j = t := by omega
          obtain rfl : oj = ot := Option.some.inj (hoj.symm.trans hot)
          have h2 := hall e he hb
          rw [hon, getD_both hun] at h2
          cases h2

theorem lag_first {k0 n i : Nat} {oi : Oper} {v : Value} {L : Array Bool → Act → Prop} (hi : ops[i]? = some oi) (hsel : ∀ (j : Nat) (o : Oper) cs b, ops[j]? = some o → o.op ≠ .select cs b)
    (hs : sinkFrom md ops k0 n = true) (hc : Region.chainB md ops n = true) (hin : i < n) (hdone : ∀ listed a, L listed a → ∀ j ∈ Region.ready md ops listed, n ≤ j) :
    ∀ (f : Nat) (listed : Array Bool) (a : Act), LagInv md ops k0 n listed →
      (∀ j oj, ops[j]? = some oj → j ≠ i → listed.getD j true = false → (∀ e ∈ oj.after, Region.binds md e = true → e.on ≠ i) → oi.apart ops oj = true) →
      i ∈ Region.ready md ops listed → YieldsAt P ops w oi v a →
      wpAnyL P md ops w n L f (listed.setIfInBounds i true) (a.put oi.dst v) → wpAnyL P md ops w n L (f + 1) listed a
  | f, listed, a, inv, hfree, hr, hy, H => by
    have hun := (mem_ready.1 hr).1
    refine ⟨fun h => (by rw [h] at hr; cases hr), fun j hj => ?_⟩
    have hjn : j < n := by
      rcases Nat.lt_or_ge j n with h | h
      · exact h
      · exact absurd hj (lag_waits hs hc inv _ i rfl hin hun j h)
    refine ⟨hjn, ?_⟩
    by_cases hji : j = i
    · subst hji; exact hy.stOp hi H
    · cases f with
      | zero =>
        have := hdone _ _ H j (ready_mono hj hji)
        omega
      | succ f =>
        have h1 := (H.2 j (ready_mono hj hji)).2
        obtain ⟨hjun, oj, hoj, hall⟩ := mem_ready.1 hj
        have hnot : ∀ e ∈ oj.after, Region.binds md e = true → e.on ≠ i := fun e he hb heq => by
          have h1 := hall e he hb
          rw [heq, getD_both hun] at h1
          cases h1
        have h2 := stOp_put hoj (hfree j oj hoj hji hjun hnot) (fun cs b => hsel i oi cs b hi) (fun cs b => hsel j oj cs b hoj) hy h1
        refine stOp_mono (fun a' h3 => lag_first hi hsel hs hc hin hdone f (listed.setIfInBounds j true) a' (inv.set hj hjn) (fun k ok hk hki hunk hno => hfree k ok hk hki ?_ hno) (ready_mono hr (Ne.symm hji)) h3.1 ?_) h2
        · by_cases hjk : j = k
          · subst hjk; exact hjun
          · rw [getD_set_ne true hjk] at hunk; exact hunk
        · rw [Array.setIfInBounds_comm _ _ hji]
          exact h3.2

theorem lag_lex {k0 n g : Nat} {Lq : Act → Prop} (hsel : Region.noSelect ops = true) (hs : sinkFrom md ops k0 n = true) (hc : Region.chainB md ops n = true) :
    ∀ (l : List Oper) (k : Nat) (listed : Array Bool) (a : Act), (∀ j, j < l.length → l[j]? = ops[k + j]?) → k + l.length = n → LagInv md ops k0 n listed →
    Region.lexHead md ops g l.length k listed = true → wpStill P ops w Lq l a →
    wpAnyL P md ops w n (fun listed' a' => Region.seqB md ops g n listed' = true ∧ Lq a') l.length listed a
  | [], k, listed, a, _, hk, _, hB, h => by
    obtain rfl : k = n := by simpa using hk
    exact ⟨by simpa [Region.lexHead] using hB, h⟩
  | o :: l, k, listed, a, hl, hk, inv, hB, h => by
    have h0 : ops[k]? = some o := by simpa using (hl 0 (by simp)).symm
    simp only [List.length_cons, Region.lexHead, Bool.and_eq_true] at hB
    obtain ⟨⟨hr, hf⟩, hB'⟩ := hB
    have hkn : k < n := by simp only [List.length_cons] at hk; omega
    have hr' : k ∈ Region.ready md ops listed := by simpa using hr
    have hst : stOp P ops w k (wpStill P ops w Lq l) a := by unfold stOp; simp only [h0]; exact h
    obtain ⟨v, hy, hK⟩ := yieldsAt_of_stOp h0 hst
    exact lag_first h0 (Region.noSelect_spec hsel) hs hc hkn (fun listed' a' hL => seqB_ready hL.1) l.length listed a inv (Region.free_spec h0 hf) hr' hy
      (lag_lex hsel hs hc l (k + 1) _ _ (fun j hj => by have := hl (j + 1) (by simp; omega); simpa [Nat.add_assoc, Nat.add_comm 1 j] using this) (by simp only [List.length_cons] at hk; omega) (inv.set hr' hkn) hB' hK)

/-- What the program must say of the region. -/
def lagB (md : Region.Mode) (ops : Array Oper) (k0 n : Nat) (listed : Array Bool) : Bool :=
  Region.noSelect ops && decide (n ≤ ops.size) && decide (k0 ≤ n) && sinkFrom md ops k0 n && Region.chainB md ops n && Region.lexHead md ops (ops.size - n) (n - k0) k0 listed
/-- The first k0 are listed, and wait for nothing else. -/
def preB (md : Region.Mode) (ops : Array Oper) (k0 : Nat) : Bool := (List.range k0).all fun j => match ops[j]? with
  | some oj => oj.after.all fun e => !Region.binds md e || decide (e.on < k0)
  | none => false
def preL (ops : Array Oper) (k0 : Nat) : Array Bool := Array.ofFn (n := ops.size) fun i => decide (i.val < k0)

theorem preL_false {k0 j : Nat} : (preL ops k0).getD j false = decide (j < k0 ∧ j < ops.size) := by
  unfold preL
  rcases Nat.lt_or_ge j ops.size with h | h
  · simp [Array.getD, h]
  · simp [Array.getD, Nat.not_lt.2 h]
theorem preL_true {k0 j : Nat} (h : j < ops.size) : (preL ops k0).getD j true = decide (j < k0) := by
  unfold preL
  simp [Array.getD, h]

theorem wpAny_lag {Q : Exit → Act → World → Prop} {a : Act} {l : List Oper} (k0 n : Nat) (hp : preB .any l.toArray k0 = true) (hB : lagB .any l.toArray k0 n (preL l.toArray k0) = true)
    (h : wpStill P l.toArray w (fun a' => wpList P l.toArray Q (l.drop n) a' w) ((l.take n).drop k0) a) : wpAny P .any l.toArray Q (l.toArray.size - k0) (preL l.toArray k0) a w := by
  simp only [lagB, Bool.and_eq_true, decide_eq_true_eq] at hB
  obtain ⟨⟨⟨⟨⟨hsel, hn⟩, hk⟩, hs⟩, hc⟩, hlex⟩ := hB
  have hn' : n ≤ l.length := by simpa using hn
  have htl : ((l.take n).drop k0).length = n - k0 := by simp; omega
  have hdl : (l.drop n).length = l.toArray.size - n := by simp
  have inv0 : LagInv .any l.toArray k0 n (preL l.toArray k0) := by
    refine ⟨⟨by simp [preL], fun j oj hj hl e he hb => ?_, fun t ht ht' => ?_⟩, fun i hi => ?_⟩
    · rw [preL_false] at hl
      simp only [decide_eq_true_eq] at hl
      have h1 := List.all_eq_true.1 hp j (List.mem_range.2 hl.1)
      simp only [hj] at h1
      have h2 := Array.all_eq_true'.1 h1 e he
      simp only [hb, Bool.not_true, Bool.false_or, decide_eq_true_eq] at h2
      rw [preL_false]
      simp
      have : k0 ≤ l.length := by omega
      omega
    · rw [preL_true ht']
      simp
      omega
    · rw [preL_false]
      simp
      omega
  have H := lag_lex (md := .any) (g := l.toArray.size - n) hsel hs hc ((l.take n).drop k0) k0 _ a (fun j hj => by
    have hj' : j < n - k0 := by rw [htl] at hj; exact hj
    rw [List.getElem?_drop, List.getElem?_take_of_lt (by omega)]
    simp) (by rw [htl]; omega) inv0 (by rw [htl]; exact hlex) h
  have := wpAny_of_head (Q' := Q) (g := l.toArray.size - n) (fun listed a' hL => by
    have := wpAny_of_seq (md := .any) (Q' := Q) (l.drop n) n listed a' w (fun j => by simp [List.getElem?_drop]) (by rw [hdl]; exact hL.1) hL.2
    rwa [hdl] at this) _ _ _ H
  rw [htl, show n - k0 + (l.toArray.size - n) = l.toArray.size - k0 by simp; omega] at this
  exact this

/-- The region's first operation moves a slot; the others up to n only read. -/
theorem wp_region_lag1 {id : Nat} {Q : Exit → Act → World → Prop} {a : Act} {o : Oper} {l : List Oper} {s : Operand} (n : Nat) (hm : P.follows .mixedOrders = true) (hop : o.op = .move s) (hg : o.guard = none)
    (hp : preB .any (o :: l).toArray 1 = true) (hf : Region.free .any (o :: l).toArray (Array.replicate (o :: l).toArray.size false) 0 = true) (hr : (Region.ready .any (o :: l).toArray (Array.replicate (o :: l).toArray.size false)).contains 0 = true)
    (hB : lagB .any (o :: l).toArray 1 n (preL (o :: l).toArray 1) = true) (hQ : ∀ c a w v, Q (.panic c) (a.put o.dst v) w → Q (.panic c) a w)
    (h : wpStill P (o :: l).toArray w.drew (fun a' => wpList P (o :: l).toArray Q ((o :: l).drop n) a' w.drew) (((o :: l).take n).drop 1) (a.put o.dst (a.eval s))) : (Code.region id (o :: l).toArray true).wp P Q a w := by
  have hns : Region.noSelect (o :: l).toArray = true := by
    simp only [lagB, Bool.and_eq_true] at hB
    exact hB.1.1.1.1.1
  have hy : Yields P (o :: l).toArray o (a.eval s) a := Or.inl ⟨by simp [Region.wanted, hg], fun w => by simp [execOp, hop]⟩
  refine wp_region_any hm ?_
  have e1 : (Array.replicate (o :: l).toArray.size false).setIfInBounds 0 true = preL (o :: l).toArray 1 := by
    apply Array.ext
    · simp [preL]
    · intro i h1 h2
      rcases i with _ | i
      · simp [preL]
      · rw [Array.getElem_setIfInBounds_ne (by simpa using h1) (by omega)]
        simp [preL]
  have h2 := wpAny_lag (w := w.drew) 1 n hp hB h
  have h3 := wpAny_take (md := .any) (fuel := (o :: l).toArray.size - 1) (Q := Q) (listed := Array.replicate (o :: l).toArray.size false) (a := a) (w := w.drew) (oi := o) (i := 0) rfl hns hf hr (fun c a w => hQ c a w _) hy (by rw [e1]; exact h2)
  rw [show (o :: l).toArray.size - 1 + 1 = (o :: l).toArray.size by simp] at h3
  exact h3
end

end Go.Dray
