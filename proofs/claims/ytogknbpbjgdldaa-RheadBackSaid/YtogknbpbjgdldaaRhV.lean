/- Tags that came in, from an argument's reading. -/
import Derived.Test.YtogknbpbjgdldaaRhU
namespace Go.Proofs.Ytogknbpbjgdldaa
open Go.ChangeShapes Go.WideShapes Go.ChangeAt Go.RowKit Go.Dray

theorem under_tag : ∃ f0 f1 f2 f3 f4 : Field, Try.prog.underlying 40 = some (.struct #[f0, f1, f2, f3, f4]) ∧ f0.type = 3 ∧ f0.offset = 0 ∧ f1.type = 3 ∧ f1.offset = 1 ∧ f2.type = 37 ∧ f2.offset = 2 ∧ f3.type = 38 ∧ f3.offset = 3 ∧ f4.type = 25 ∧ f4.offset = 4 :=
  ⟨_, _, _, _, _, Try.underlying40, rfl, rfl, rfl, rfl, rfl, rfl, rfl, rfl, rfl, rfl⟩

section
variable {H : Type} {enc : TypeId × Value → H} {W : World} {base : Nat} {sp : Nat → Bool} {held : Bool}
theorem open_cell_ints {T E : TypeId} {k : IntKind} {fuel : Nat} {v : Value} {x : DataW H × List MemPlace} (hT : Try.prog.underlying T = some (.slice E)) (hE : Try.prog.underlying E = some (.int k)) (hc : Try.prog.cellsOf E = 1)
    (h : DataW.trod enc Try.prog W base sp held fuel T [v] = some x) : ∃ A n c zs, v = .slice A n c ∧ InInts k W A n c zs := by
  have hv : ∃ A' m d', v = .slice A' m d' := by
    rcases open_ints hT hE hc h with ⟨hcs, _⟩ | ⟨a, l, c', zs, hcs, _⟩
    · injection hcs with hcs; exact ⟨_, _, _, hcs⟩
    · injection hcs with hcs; exact ⟨_, _, _, hcs⟩
  obtain ⟨A', m, d', rfl⟩ := hv
  obtain ⟨zs, hz⟩ := open_in (A := A') (n := m) (c := d') (d := x.1) (p := x.2) hT hE hc ⟨fuel, h⟩
  exact ⟨A', m, d', zs, rfl, hz⟩
theorem open_cell_strs {T E : TypeId} {fuel : Nat} {v : Value} {x : DataW H × List MemPlace} (hT : Try.prog.underlying T = some (.slice E)) (hE : Try.prog.underlying E = some .string) (hc : Try.prog.cellsOf E = 1)
    (h : DataW.trod enc Try.prog W base sp held fuel T [v] = some x) : ∃ A n c ss, v = .slice A n c ∧ Strs W A n ss := by
  rcases open_strings hT hE hc h with ⟨hcs, _⟩ | ⟨a, l, c', ss, hcs, _, hl, hm, hz, _, hcell, _⟩
  · injection hcs with hcs
    exact ⟨_, _, _, [], hcs, Seg.nil _ _ _⟩
  · injection hcs with hcs
    have hlz : l ≤ ss.length := by
      split at hz <;> omega
    refine ⟨_, _, _, ss.take l, hcs, ⟨by simp; omega, fun hp => ?_, fun i u hu => ?_⟩⟩
    · have h0 := hcell 0 (by omega)
      obtain ⟨b, o, spt⟩ := a
      have hs : spt = none := by simpa [Addr.add] using World.cell?_spot h0
      subst hs
      rfl
    · have hi : i < l := by
        have := (List.getElem?_eq_some_iff.1 hu).1
        simp at this
        omega
      have hc1 := hcell i (by omega)
      rw [List.getElem?_map, List.getElem?_take_of_lt hi, List.getElem?_eq_getElem (by omega)] at hu
      simp at hu
      subst hu
      obtain ⟨b, o, spt⟩ := a
      have h0 := hcell 0 (by omega)
      have hs : spt = none := by simpa [Addr.add] using World.cell?_spot h0
      subst hs
      rw [Addr.add_lit] at hc1
      have e : ss.getD i ByteArray.empty = ss[i] := by simp [List.getD, show i < ss.length by omega]
      rw [e] at hc1
      exact hc1
theorem open_tag {fuel : Nat} {cs : List Value} {x : DataW H × List MemPlace} (hl : cs.length = 5) (h : DataW.trod enc Try.prog W base sp held fuel 40 cs = some x) : ∃ p t, cs = tagC p t ∧ TagR W p t := by
  obtain ⟨f0, f1, f2, f3, f4, hu, t0, o0, t1, o1, t2, o2, t3, o3, t4, o4⟩ := under_tag
  obtain ⟨xs, n, _, _, _, hlen, hf⟩ := DataW.trod_struct hu h
  match cs, hl, xs, hlen with
  | [v0, v1, v2, v3, v4], _, [y0, y1, y2, y3, y4], _ =>
    have g0 := hf 0 f0 rfl
    have g1 := hf 1 f1 rfl
    have g2 := hf 2 f2 rfl
    have g3 := hf 3 f3 rfl
    have g4 := hf 4 f4 rfl
    rw [t0, o0, show Try.prog.cellsOf 3 = 1 by kernel_rfl] at g0
    rw [t1, o1, show Try.prog.cellsOf 3 = 1 by kernel_rfl] at g1
    rw [t2, o2, show Try.prog.cellsOf 37 = 1 by kernel_rfl] at g2
    rw [t3, o3, show Try.prog.cellsOf 38 = 1 by kernel_rfl] at g3
    rw [t4, o4, show Try.prog.cellsOf 25 = 1 by kernel_rfl] at g4
    simp only [List.drop_zero, List.drop_succ_cons, List.take_succ_cons, List.take_zero, List.getElem?_cons_zero, List.getElem?_cons_succ] at g0 g1 g2 g3 g4
    obtain ⟨a, ha, _, wa⟩ := DataW.trod_int Try.underlying3 g0
    obtain ⟨b, hb, _, wb⟩ := DataW.trod_int Try.underlying3 g1
    obtain ⟨A2, n2, c2, z2, rfl, h2⟩ := open_cell_ints Try.underlying37 Try.underlying3 (by kernel_rfl) g2
    obtain ⟨A3, n3, c3, s3, rfl, h3⟩ := open_cell_strs Try.underlying38 Try.underlying9 (by kernel_rfl) g3
    obtain ⟨A4, n4, c4, z4, rfl, h4⟩ := open_cell_ints Try.underlying25 Try.underlying5 (by kernel_rfl) g4
    simp at ha hb
    subst ha hb
    refine ⟨⟨A2, n2, c2, A3, n3, c3, A4, n4, c4⟩, ⟨a, b, z2, s3, z4⟩, rfl, h2.1, h3, h4.1, fun z hz => ?_, fun z hz => ?_⟩
    · have := h2.2.2.2 z hz
      simp only [Lit.wf, Bool.and_eq_true, decide_eq_true_eq] at this
      exact this
    · have := h4.2.2.2 z hz
      simp only [Lit.wf, Bool.and_eq_true, decide_eq_true_eq] at this
      exact this

/-- Tags that came in. -/
def InTags (W : World) (A : Option Addr) (n c : Nat) (ts : List TagV) : Prop := n ≤ c ∧ c ≤ maxLen ∧ TagsR W A n ts
theorem open_tags {A : Option Addr} {n c : Nat} {d : DataW H} {p : List MemPlace} (h : DataW.Trod enc Try.prog W base sp held 22 (.slice A n c) d p) : ∃ ts, InTags W A n c ts := by
  obtain ⟨h1, h2, h3, h4⟩ := open_deep Try.underlying22 (C := 5) (by kernel_rfl) (by omega) h
  have key : ∀ i, i < n → ∃ (p : TagP) (t : TagV), TagR W p t ∧ ∀ j v, (tagC p t)[j]? = some v → W.cell? ⟨bl A, ofs A + i * 5 + j, none⟩ = some v := by
    intro i hi
    obtain ⟨cs, fuel, x, hl, hc, ht⟩ := h4 i hi
    obtain ⟨p, t, rfl, hr⟩ := open_tag hl ht
    refine ⟨p, t, hr, fun j v hv => ?_⟩
    obtain ⟨hj, _⟩ := List.getElem?_eq_some_iff.1 hv
    rw [Nat.add_assoc, hc j hj, hv]
  have all : ∀ m, m ≤ n → ∃ ts : List TagV, ts.length = m ∧ ∀ k t, ts[k]? = some t → ∃ p : TagP, TagR W p t ∧ ∀ j v, (tagC p t)[j]? = some v → W.cell? ⟨bl A, ofs A + k * 5 + j, none⟩ = some v := by
    intro m
    induction m with
    | zero => intro _; exact ⟨[], rfl, fun k t hk => by simp at hk⟩
    | succ m ih =>
      intro hm
      obtain ⟨ts, hl, ht⟩ := ih (by omega)
      obtain ⟨p, t, hr, hc⟩ := key m (by omega)
      refine ⟨ts ++ [t], by simp [hl], fun k u hk => ?_⟩
      by_cases hkm : k < m
      · rw [List.getElem?_append_left (by omega)] at hk
        exact ht k u hk
      · rw [List.getElem?_append_right (by omega)] at hk
        have hk0 : k - ts.length = 0 := by
          have := (List.getElem?_eq_some_iff.1 hk).1
          simp at this
          omega
        rw [hk0] at hk
        simp at hk
        subst hk
        obtain rfl : k = m := by omega
        exact ⟨p, hr, hc⟩
  obtain ⟨ts, hl, ht⟩ := all n (Nat.le_refl _)
  exact ⟨ts, h1, h2, hl, h3, ht⟩
end

end Go.Proofs.Ytogknbpbjgdldaa
