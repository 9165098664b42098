/- What the proofs of laws share: slices of integers that came in. -/
import Derived.Test.YtolcdlopgbgilaaDoorBase
import Derived.Test.YtolcdlopgbgilaaDoorRows
import Derived.ProofKit
import Derived.OpenShut
import Derived.ShutString
import Derived.ChangeOld
import Derived.Deep.Slices
namespace Go.Proofs.YtolcdlopgbgilaaDoor
open Go.ChangeShapes Go.WideShapes Go.ChangeAt Go.RowKit Go.Dray

theorem lk_own : ownKnob Tryd.prog.godebug = none := by kernel_rfl
theorem lk_laidOut : laidOutB Tryd.prog = true := by kernel_rfl

/-- A slice of integers that came in. -/
def InInts (k : IntKind) (W : World) (A : Option Addr) (n c : Nat) (zs : List Int) : Prop :=
  Ints k W A n zs ∧ n ≤ c ∧ c ≤ maxLen ∧ ∀ z ∈ zs, (Lit.int k z).wf = true

theorem open_in {H : Type} {enc : TypeId × Value → H} {W : World} {base : Nat} {sp : Nat → Bool} {held : Bool} {T E : TypeId} {k : IntKind} (hT : Tryd.prog.underlying T = some (.slice E)) (hE : Tryd.prog.underlying E = some (.int k)) (hc : Tryd.prog.cellsOf E = 1)
    {A : Option Addr} {n c : Nat} {d : DataW H} {p : List MemPlace} (h : DataW.Trod enc Tryd.prog W base sp held T (.slice A n c) d p) : ∃ zs, InInts k W A n c zs := by
  obtain ⟨fuel, hf⟩ := h
  rcases open_ints hT hE hc hf with ⟨hcs, _⟩ | ⟨x, l, c', zs, hcs, _, hl, hm, hz, _, hcell, hwz⟩
  · simp [Value.cells] at hcs
    obtain ⟨rfl, rfl, rfl⟩ := hcs
    exact ⟨[], Seg.nil _ _ _, Nat.le_refl _, by simp [maxLen], by simp⟩
  · simp [Value.cells] at hcs
    obtain ⟨rfl, rfl, rfl⟩ := hcs
    have hlz : n ≤ zs.length := by
      split at hz <;> omega
    have hget : ∀ i, i < n → zs[i]? = some (zs.getD i 0) := fun i hi => by
      rw [List.getElem?_eq_getElem (by omega)]
      simp [List.getD, show i < zs.length by omega]
    refine ⟨zs.take n, ⟨by simp; omega, fun hp => ?_, fun i u hu => ?_⟩, hl, hm, fun z hz => hwz z (List.mem_of_mem_take hz)⟩
    · have h0 := hcell 0 (by omega)
      obtain ⟨b, o, spt⟩ := x
      have hs : spt = none := by simpa [Addr.add] using World.cell?_spot h0
      subst hs
      rfl
    · have hi : i < n := by
        have := (List.getElem?_eq_some_iff.1 hu).1
        simp at this
        omega
      have hc1 := hcell i (by omega)
      rw [List.getElem?_map, List.getElem?_take_of_lt hi, hget i hi] at hu
      simp at hu
      subst hu
      obtain ⟨b, o, spt⟩ := x
      have h0 := hcell 0 (by omega)
      have hs : spt = none := by simpa [Addr.add] using World.cell?_spot h0
      subst hs
      rw [Addr.add_lit] at hc1
      simpa [bl, ofs, List.getD] using hc1

set_option maxRecDepth 100000 in
/-- A slice of whatever elements that came in: its cells, an element at a time, and each element's reading. -/
theorem open_deep {H : Type} {enc : TypeId × Value → H} {W : World} {base : Nat} {sp : Nat → Bool} {held : Bool} {T E : TypeId} (hT : Tryd.prog.underlying T = some (.slice E)) {C : Nat} (hC : Tryd.prog.cellsOf E = C) (hpos : 0 < C)
    {A : Option Addr} {n c : Nat} {d : DataW H} {p : List MemPlace} (h : DataW.Trod enc Tryd.prog W base sp held T (.slice A n c) d p) :
    n ≤ c ∧ c ≤ maxLen ∧ (0 < n → A = some ⟨bl A, ofs A, none⟩) ∧ ∀ i, i < n → ∃ cs fuel x, cs.length = C ∧ (∀ j, j < C → W.cell? ⟨bl A, ofs A + (i * C + j), none⟩ = cs[j]?) ∧ DataW.trod enc Tryd.prog W base sp held fuel E cs = some x := by
  obtain ⟨fuel, hf⟩ := h
  rcases Deep.open_slice hT hf with ⟨hcs, _⟩ | ⟨a, len, cap, m, fu, D, Pl, hcs, _, hl, hm, hmm, _, hi⟩
  · simp [Value.cells] at hcs
    obtain ⟨rfl, rfl, rfl⟩ := hcs
    exact ⟨Nat.le_refl _, by simp [maxLen], fun h => by omega, fun i h => by omega⟩
  · simp [Value.cells] at hcs
    obtain ⟨rfl, rfl, rfl⟩ := hcs
    have hnm : n ≤ m := by rw [hmm]; split <;> omega
    rw [hC] at hi
    have hat : 0 < n → some a = some (⟨bl (some a), ofs (some a), none⟩ : Addr) := fun hp => by
      obtain ⟨cs, hc, _⟩ := hi 0 (by omega)
      obtain ⟨_, hlen, hcell⟩ := World.cells?_some hc
      have h0 := hcell 0 (by omega)
      rw [List.getElem?_eq_getElem (by omega)] at h0
      obtain ⟨b, o, spt⟩ := a
      have hs : spt = none := by simpa [Addr.add] using World.cell?_spot h0
      subst hs
      rfl
    refine ⟨hl, hm, hat, fun i hin => ?_⟩
    obtain ⟨cs, hc, ht⟩ := hi i (by omega)
    obtain ⟨_, hlen, hcell⟩ := World.cells?_some hc
    refine ⟨cs, fu, _, hlen, fun j hj => ?_, ht⟩
    have h1 := hcell j (by omega)
    have h2 := hat (by omega)
    generalize bl (some a) = b at h2 ⊢
    generalize ofs (some a) = o at h2 ⊢
    injection h2 with h2
    subst h2
    rw [Addr.add_lit, Addr.add_lit, Nat.add_assoc] at h1
    exact h1

end Go.Proofs.YtolcdlopgbgilaaDoor
