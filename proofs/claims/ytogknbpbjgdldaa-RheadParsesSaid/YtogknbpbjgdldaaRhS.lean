/- Plainly: tags that are read are right, and few enough; tags of the call's own as tags in memory. -/
import Derived.Test.YtogknbpbjgdldaaRhQ
import Derived.Test.YtogknbpbjgdldaaRhK
namespace Go.Proofs.Ytogknbpbjgdldaa
open Go.RowKit Go.Dray

theorem nought_take (d : List Int) : (0 : Int) ∉ d.take (noughtAt d) := by
  unfold noughtAt
  induction d with
  | nil => simp
  | cons x d ih =>
    rw [List.findIdx_cons]
    by_cases hx : x = 0
    · subst hx; simp
    · have : (x == 0) = false := by simpa using hx
      rw [this]
      simp only [cond_false, List.take_succ_cons]
      intro h
      rcases List.mem_cons.1 h with h | h
      · exact hx h.symm
      · exact ih h
theorem textsR_good (c : Nat) (d : List Int) (hd : ∀ z ∈ d, 0 ≤ z ∧ z ≤ 255) (ss : List ByteArray) (h : textsR d c = some ss) : ss.length = c ∧ (∀ s ∈ ss, (0 : Int) ∉ sb s) ∧ textLen ss ≤ d.length := by
  induction c generalizing d ss with
  | zero => cases h; simp [textLen]
  | succ c ih =>
    unfold textsR at h
    split at h
    · rename_i h1
      cases h2 : textsR (d.drop (noughtAt d + 1)) c with
      | none => rw [h2] at h; cases h
      | some us =>
        rw [h2] at h
        cases h
        obtain ⟨i1, i2, i3⟩ := ih _ (fun z hz => hd z (List.mem_of_mem_drop hz)) us h2
        have hs : sb (strOfNums (d.take (noughtAt d))) = d.take (noughtAt d) := sb_strOfNums _ fun z hz => hd z (List.mem_of_mem_take hz)
        refine ⟨by simp [i1], fun s hs2 => ?_, ?_⟩
        · rcases List.mem_cons.1 hs2 with rfl | hs2
          · rw [hs]; exact nought_take d
          · exact i2 s hs2
        · have e : textLen (strOfNums (d.take (noughtAt d)) :: us) = (strOfNums (d.take (noughtAt d))).size + 1 + textLen us := by simp [textLen]
          rw [e, strOfNums_size, List.length_take]
          rw [List.length_drop] at i3
          omega
    · cases h
theorem numV_most (d : List Int) (hd : ∀ z ∈ d, 0 ≤ z ∧ z ≤ 255) (ty : Int) (i : Nat) (h : numV d (sizeT ty) i ≤ 9223372036854775807) : 0 ≤ numV d (sizeT ty) i ∧ numV d (sizeT ty) i ≤ mostT ty := by
  have h1 := beNum_bd ((d.drop (i * sizeT ty)).take (sizeT ty)) fun z hz => hd z (List.mem_of_mem_drop (List.mem_of_mem_take hz))
  have h2 : ((d.drop (i * sizeT ty)).take (sizeT ty)).length ≤ sizeT ty := List.length_take_le _ _
  refine ⟨h1.1, ?_⟩
  unfold mostT
  split
  · exact h
  · have h3 : (2 : Int) ^ (8 * ((d.drop (i * sizeT ty)).take (sizeT ty)).length) ≤ 2 ^ (8 * sizeT ty) := by
      have := Nat.pow_le_pow_right (show 0 < 2 by omega) (show 8 * ((d.drop (i * sizeT ty)).take (sizeT ty)).length ≤ 8 * sizeT ty by omega)
      have e : ∀ k : Nat, ((2 ^ k : Nat) : Int) = 2 ^ k := fun k => by rw [Int.natCast_pow]; rfl
      rw [← e, ← e]
      omega
    unfold numV
    omega
theorem sayV_good {tg ty : Int} {d : List Int} {fr cnt : Nat} {t : TagV} (hd : ∀ z ∈ d, 0 ≤ z ∧ z ≤ 255) (h : sayV tg ty d fr cnt = .ok t) : t.tag = tg ∧ t.typ = ty ∧ rightP t ∧ lenT t ≤ d.length := by
  unfold sayV at h
  split at h
  · cases h
  rename_i g1
  split at h
  · cases h
  rename_i g2
  have hd2 : ∀ z ∈ d.drop fr, 0 ≤ z ∧ z ≤ 255 := fun z hz => hd z (List.mem_of_mem_drop hz)
  have hl2 : (d.drop fr).length ≤ d.length := by rw [List.length_drop]; omega
  have g1a : cnt ≠ 0 := fun e => g1 (Or.inl e)
  have g1b : ty = 6 → cnt = 1 := fun e => Decidable.byContradiction fun hc => g1 (Or.inr (Or.inl ⟨e, hc⟩))
  generalize d.drop fr = u at *
  split at h
  · rename_i hn
    split at h
    · cases h
    · rename_i g3
      split at h
      · rename_i g4
        cases h
        refine ⟨rfl, rfl, ?_, ?_⟩
        · unfold rightP
          rw [if_pos hn]
          refine ⟨?_, rfl, rfl, fun z hz => ?_⟩
          · intro e
            have := congrArg List.length e
            simp [numsV, tab_len] at this
            exact g1a this
          · unfold numsV tab at hz
            obtain ⟨i, hi, rfl⟩ := List.mem_map.1 hz
            exact numV_most u hd2 ty i (nums_all.1 g4 i (List.mem_range.1 hi))
        · simp only [lenT, textLen, numsV, tab_len, List.length_nil, List.map_nil, List.sum_nil]
          omega
      · cases h
  · rename_i hn
    split at h
    · rename_i h7
      split at h
      · cases h
      · rename_i g3
        cases h
        refine ⟨rfl, rfl, ?_, ?_⟩
        · unfold rightP
          rw [if_neg hn, if_pos h7]
          refine ⟨?_, rfl, rfl⟩
          intro e
          have := congrArg List.length e
          simp only [List.length_take, List.length_nil] at this
          omega
        · simp only [lenT, textLen, List.length_nil, List.map_nil, List.sum_nil, List.length_take]
          omega
    · rename_i h7
      split at h
      · cases h
      · rename_i ss hss
        cases h
        obtain ⟨i1, i2, i3⟩ := textsR_good cnt u hd2 ss hss
        refine ⟨rfl, rfl, ?_, ?_⟩
        · unfold rightP
          rw [if_neg hn, if_neg h7]
          refine ⟨?_, fun e => by rw [i1]; exact g1b e, rfl, rfl, i2⟩
          intro e
          have e' : ss = [] := e
          rw [e'] at i1
          simp at i1
          omega
        · simp only [lenT, List.length_nil]
          omega
theorem tagV_good {b d : List Int} {k : Nat} {t : TagV} (hd : ∀ z ∈ d, 0 ≤ z ∧ z ≤ 255) (h : tagV b k d = .ok t) : Good t ∧ lenT t ≤ d.length ∧ t.tag = num4 b k := by
  unfold tagV at h
  split at h
  · cases h
  rename_i g1
  split at h
  · cases h
  rename_i g2
  obtain ⟨h1, h2, h3, h4⟩ := sayV_good hd h
  exact ⟨⟨by omega, by omega, by omega, by omega, h3⟩, h4, h1⟩
theorem good_errT {q : Option Int} {t : TagV} (h : Good t) (hq : q.any (fun x => decide (t.tag ≤ x)) = false) : errT q t = 0 := by
  unfold errT
  rw [if_neg (by have h1 := h.lo; have h2 := h.hi; omega), hq, if_neg (by decide), if_neg (by have h1 := h.ty1; have h2 := h.ty9; omega), rightB_true h.right, if_neg (by decide)]
theorem entR_good {b d : List Int} (hd : ∀ z ∈ d, 0 ≤ z ∧ z ≤ 255) (r : Nat) : ∀ (i : Nat) (q : Option Int) (ts : List TagV), entR b d i r q = .ok ts → chk q ts = 0 ∧ ts.length = r ∧ ∀ t ∈ ts, lenT t ≤ d.length := by
  induction r with
  | zero => intro i q ts h; unfold entR at h; cases h; exact ⟨rfl, rfl, fun t ht => by cases ht⟩
  | succ r ih =>
    intro i q ts h
    unfold entR at h
    split at h
    · split at h
      · cases h
      · split at h <;> cases h
    · rename_i t ht
      split at h
      · cases h
      · rename_i hq
        split at h
        · cases h
        · rename_i us hus
          cases h
          obtain ⟨g1, g2, g3⟩ := tagV_good hd ht
          obtain ⟨i1, i2, i3⟩ := ih _ _ us hus
          refine ⟨?_, by simp [i2], fun u hu => ?_⟩
          · unfold chk
            rw [if_pos (good_errT g1 (by rw [g3]; simpa using hq))]
            exact i1
          · rcases List.mem_cons.1 hu with rfl | hu
            · exact g2
            · exact i3 u hu
theorem parse_good {b : List Int} {ts : List TagV} (hb : ∀ z ∈ b, 0 ≤ z ∧ z ≤ 255) (h : parseB b = .ok ts) : chk none ts = 0 ∧ ∃ d : Nat, 16 ≤ d ∧ 8 + 16 * (ts.length + 1) + d = b.length ∧ ts.length ≤ 256 ∧ ∀ t ∈ ts, lenT t ≤ d - 16 := by
  unfold parseB at h
  split at h
  · cases h
  split at h
  · cases h
  rename_i g0 g1
  split at h
  · cases h
  split at h
  · cases h
  rename_i g2 g3
  split at h
  · cases h
  rename_i g4
  split at h
  · cases h
  have hn := (num4_bd hb 0).1
  have hd := (num4_bd hb 4).1
  obtain ⟨N, hN⟩ := Int.eq_ofNat_of_zero_le hn
  obtain ⟨d, hD⟩ := Int.eq_ofNat_of_zero_le hd
  rw [hN, hD] at h g1 g2 g3
  rw [Int.toNat_natCast, Int.toNat_natCast] at h
  have g4a : ¬ num4 b 0 = 0 := fun e => g4 (Or.inl e)
  have g4b : ¬ num4 b 4 < 16 := fun e => g4 (Or.inr (Or.inl e))
  rw [hN] at g4a
  rw [hD] at g4b
  obtain ⟨h1, h2, h3⟩ := entR_good (fun z hz => hb z (List.mem_of_mem_drop (List.mem_of_mem_take hz))) _ _ _ ts h
  refine ⟨h1, d, by omega, by omega, by omega, fun t ht => ?_⟩
  have := h3 t ht
  rw [List.length_take] at this
  omega
theorem dsum_le {ts : List TagV} {m : Nat} (h : ∀ t ∈ ts, lenT t ≤ m) : dsum ts ≤ ts.length * (m + 8) := by
  induction ts with
  | nil => simp [dsum]
  | cons t ts ih =>
    have h1 := h t (by simp)
    have h2 := ih fun u hu => h u (by simp [hu])
    have e : dsum (t :: ts) = lenT t + 8 + dsum ts := by simp [dsum]
    rw [e, List.length_cons, Nat.succ_mul]
    omega
/-- Tags that are read of few bytes are right. -/
theorem parse_check {b : List Int} {ts : List TagV} (hb : ∀ z ∈ b, 0 ≤ z ∧ z ≤ 255) (hl : b.length ≤ 5000) (h : parseB b = .ok ts) : checkE ts = 0 ∧ dsum ts ≤ 1048560 := by
  obtain ⟨h1, d, h2, h3, h4, h5⟩ := parse_good hb h
  have hs := dsum_le h5
  have hm : ts.length * (d - 16 + 8) ≤ 1048560 := by
    by_cases hd : d ≤ 4000
    · exact Nat.le_trans (Nat.mul_le_mul h4 (show d - 16 + 8 ≤ 4000 by omega)) (by omega)
    · exact Nat.le_trans (Nat.mul_le_mul (show ts.length ≤ 61 by omega) (show d - 16 + 8 ≤ 5000 by omega)) (by omega)
  have hdl := dlen_le ts
  refine ⟨?_, by omega⟩
  unfold checkE
  rw [if_neg (by omega), if_pos h1, if_neg (by omega)]

/-- Tags of the call's own, as tags in memory. -/
theorem TagsO.tags' {w : World} {B : Nat} {L : Option Addr} {lc : Nat} {xs : List (TagP × TagV)} (h : TagsO w B L lc xs) (hl : ∀ x ∈ xs, lenT x.2 ≤ 1000000000000000) : Tags w L xs.length (xs.map (·.2)) := by
  refine ⟨by simp, h.own.seg.at_, fun k t ht => ?_⟩
  rw [List.getElem?_map] at ht
  cases hx : xs[k]? with
  | none => rw [hx] at ht; cases ht
  | some x =>
    rw [hx] at ht
    cases ht
    have hm := List.mem_of_getElem? hx
    have ho := h.tags x hm
    have h1 := cnt_le x.2
    have h2 := hl x hm
    have i1 := (Ints.ofOwn ho.ints).len.out
    have i2 : x.2.texts.length = x.1.n := by have := Seg.len ho.texts.seg; rw [List.length_map] at this; omega
    have i3 := (Ints.ofOwn ho.bytes).len.out
    refine ⟨x.1, ⟨Ints.ofOwn ho.ints, ho.texts.seg, Ints.ofOwn ho.bytes, ho.ib, ho.bb, by omega, by omega, by omega⟩, fun j v hv => ?_⟩
    have hj : j < 5 := by
      obtain ⟨hj, _⟩ := List.getElem?_eq_some_iff.1 hv
      exact hj
    have key : ∀ (ys : List (TagP × TagV)) (k : Nat), ys[k]? = some x → (ys.flatMap fun x => tagC x.1 x.2)[k * 5 + j]? = some v := by
      intro ys
      induction ys with
      | nil => intro k hk; simp at hk
      | cons y ys ih =>
        intro k hk
        rw [List.flatMap_cons]
        cases k with
        | zero =>
          simp at hk
          subst hk
          rw [List.getElem?_append_left (by simp [tagC]; omega), Nat.zero_mul, Nat.zero_add]
          exact hv
        | succ k =>
          simp at hk
          rw [List.getElem?_append_right (by simp [tagC]; omega)]
          have e : (k + 1) * 5 + j - (tagC y.1 y.2).length = k * 5 + j := by simp [tagC]; omega
          rw [e]
          exact ih k hk
    have := Seg.cell h.own.seg (k * 5 + j) v (key xs k hx)
    rw [← Nat.add_assoc] at this
    exact this

end Go.Proofs.Ytogknbpbjgdldaa
