/- A region that draws its order: its first n operations do not hang on the world; what follows stands in one forced order. One walk in the text's order. -/
import Derived.Test.YtogknbpbjgdldaaLag
namespace Go.Dray
open Go.RowKit

section
variable {P : Program} {ops : Array Oper} {md : Region.Mode} {w : World} {Q : Exit → Act → World → Prop}

/-- Operations that yield the same in each world. -/
def wpPre (P : Program) (ops : Array Oper) (K : Act → Prop) : List Oper → Act → Prop
  | [], a => K a
  | o :: l, a => ∃ v, Yields P ops o v a ∧ wpPre P ops K l (a.put o.dst v)

theorem wpPre_step {K : Act → Prop} {o : Oper} {l : List Oper} {a : Act} (v : Value) (hw : Region.wanted o (yielded ops a.tmps) = true) (hv : ∀ w, (execOp a.eval o).run P w = .ok (.value v) w) (h : wpPre P ops K l (a.put o.dst v)) : wpPre P ops K (o :: l) a := ⟨v, Or.inl ⟨hw, hv⟩, h⟩
theorem wpPre_skip {K : Act → Prop} {o : Oper} {l : List Oper} {a : Act} (hw : Region.wanted o (yielded ops a.tmps) = false) (h : wpPre P ops K l (a.put o.dst undef)) : wpPre P ops K (o :: l) a := ⟨undef, Or.inr ⟨hw, rfl⟩, h⟩
theorem wpPre_stepK {K : Act → Prop} {o : Oper} {l : List Oper} {a : Act}
    (h : ∀ K' : Act → Prop, (∀ a, wpPre P ops K l a → K' a) → if Region.wanted o (yielded ops a.tmps) then ∃ v, (∀ w, (execOp a.eval o).run P w = .ok (.value v) w) ∧ K' (a.put o.dst v) else K' (a.put o.dst undef)) : wpPre P ops K (o :: l) a := by
  have h1 := h _ (fun _ h => h)
  by_cases hw : Region.wanted o (yielded ops a.tmps) = true
  · rw [if_pos hw] at h1
    obtain ⟨v, hv, hk⟩ := h1
    exact wpPre_step v hw hv hk
  · rw [if_neg hw] at h1
    exact wpPre_skip (by simpa using hw) h1
theorem wpPre_nil {K : Act → Prop} {a : Act} (h : K a) : wpPre P ops K [] a := h

/-- Each of the first n may be taken when those before it are. -/
def takeB (md : Region.Mode) (ops : Array Oper) (n : Nat) : Bool := (List.range n).all fun k => Region.free md ops (preL ops k) k && (Region.ready md ops (preL ops k)).contains k

theorem preL_succ {k : Nat} : (preL ops k).setIfInBounds k true = preL ops (k + 1) := by
  apply Array.ext
  · simp [preL]
  · intro i h1 h2
    by_cases h : k = i
    · subst h
      simp [preL]
    · rw [Array.getElem_setIfInBounds_ne (by simpa using h1) h]
      simp only [preL, Array.getElem_ofFn, decide_eq_decide]
      omega

theorem wpAny_pre {n : Nat} (hs : Region.noSelect ops = true) (ht : takeB md ops n = true) (hQ : ∀ c a w (k : Nat) v, Q (.panic c) (Act.put a (some k) v) w → Q (.panic c) a w) (K : Act → Prop) (hK : ∀ a', K a' → wpAny P md ops Q (ops.size - n) (preL ops n) a' w) :
    ∀ (l : List Oper) (k : Nat) (a : Act), (∀ j, j < l.length → l[j]? = ops[k + j]?) → k + l.length = n → wpPre P ops K l a → wpAny P md ops Q (ops.size - k) (preL ops k) a w
  | [], k, a, _, hk, h => by
    obtain rfl : k = n := by simpa using hk
    exact hK a h
  | o :: l, k, a, hl, hk, h => by
    obtain ⟨v, hy, h'⟩ := h
    have h0 : ops[k]? = some o := by simpa using (hl 0 (by simp)).symm
    have hkn : k < n := by simp only [List.length_cons] at hk; omega
    have hks : k < ops.size := (Array.getElem?_eq_some_iff.1 h0).1
    have h1 := List.all_eq_true.1 ht k (List.mem_range.2 hkn)
    simp only [Bool.and_eq_true] at h1
    have h2 := wpAny_pre hs ht hQ K hK l (k + 1) (a.put o.dst v) (fun j hj => by have := hl (j + 1) (by simp; omega); simpa [Nat.add_assoc, Nat.add_comm 1 j] using this) (by simp only [List.length_cons] at hk; omega) h'
    have h3 := wpAny_take (md := md) (fuel := ops.size - (k + 1)) (Q := Q) (listed := preL ops k) (a := a) (w := w) (oi := o) (i := k) h0 hs h1.1 h1.2 (fun c a w => by
      cases o.dst with
      | none => exact fun h => h
      | some k => exact hQ c a w k _) hy (by rw [preL_succ]; exact h2)
    rw [show ops.size - (k + 1) + 1 = ops.size - k by omega] at h3
    exact h3

theorem wp_region_pre {id : Nat} {a : Act} {l : List Oper} (n : Nat) (hm : P.follows .mixedOrders = true) (ht : takeB .any l.toArray n = true) (hp : preB .any l.toArray n = true) (hB : lagB .any l.toArray n n (preL l.toArray n) = true)
    (hQ : ∀ c a w (k : Nat) v, Q (.panic c) (Act.put a (some k) v) w → Q (.panic c) a w) (h : wpPre P l.toArray (fun a' => wpList P l.toArray Q (l.drop n) a' w.drew) (l.take n) a) : (Code.region id l.toArray true).wp P Q a w := by
  have hB' := hB
  simp only [lagB, Bool.and_eq_true, decide_eq_true_eq] at hB'
  have hn : n ≤ l.length := by simpa using hB'.1.1.1.1.2
  refine wp_region_any hm ?_
  have e : (Array.replicate l.toArray.size false) = preL l.toArray 0 := by
    apply Array.ext
    · simp [preL]
    · intro i h1 h2
      simp [preL]
  have h2 := wpAny_pre (md := .any) (w := w.drew) (Q := Q) hB'.1.1.1.1.1 ht hQ (fun a' => wpList P l.toArray Q (l.drop n) a' w.drew) (fun a' ha => wpAny_lag (w := w.drew) n n hp hB (by
    have : (l.take n).drop n = [] := by simp
    rw [this]
    exact wpStill_nil ha)) (l.take n) 0 a (fun j hj => by
      have hj' : j < n := by simp at hj; omega
      rw [List.getElem?_take_of_lt hj']
      simp) (by simp; omega) h
  rw [e]
  simpa using h2
end

end Go.Dray
