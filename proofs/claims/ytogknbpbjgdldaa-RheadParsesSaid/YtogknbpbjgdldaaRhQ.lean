/- Plainly: a header that is written is read as its tags; tags that are read are right. -/
import Derived.Test.YtogknbpbjgdldaaRhP
namespace Go.Proofs.Ytogknbpbjgdldaa
open Go.RowKit Go.Dray

theorem be4s_cons (z : Int) (zs : List Int) : be4s (z :: zs) = beB z 4 ++ be4s zs := by simp [be4s]
/-- An index entry in its place. -/
theorem idxB_at {ts : List TagV} {k : Nat} {t : TagV} (h : ts[k]? = some t) : ∃ X, idxB ts ts.length = idxB ts k ++ (be4s [t.tag, t.typ, (upN (dlen (ts.take k)) (sizeT t.typ) : Nat), (cntT t : Nat)] ++ X) := by
  obtain ⟨hk, he⟩ := List.getElem?_eq_some_iff.1 h
  have key : ∀ m, k + 1 ≤ m → m ≤ ts.length → ∃ X, idxB ts m = idxB ts (k + 1) ++ X := by
    intro m h1
    induction m with
    | zero => omega
    | succ m ih =>
      intro h2
      by_cases hm : k + 1 = m + 1
      · exact ⟨[], by rw [hm]; simp⟩
      · obtain ⟨X, hX⟩ := ih (by omega) (by omega)
        rw [idxB_succ (List.getElem?_eq_getElem (show m < ts.length by omega)), hX]
        exact ⟨_, List.append_assoc _ _ _⟩
  obtain ⟨X, hX⟩ := key ts.length (by omega) (Nat.le_refl _)
  rw [hX, idxB_succ h]
  exact ⟨X, List.append_assoc _ _ _⟩
theorem num4_nat (p r : List Int) (z : Nat) (k : Nat) (hk : k = p.length) (h1 : z < 4294967296) : num4 (p ++ (beB (z : Int) 4 ++ r)) k = z := num4_mid p r z k hk (by omega) (by omega)

/-- The four numbers of an entry. -/
theorem entry_nums (p r : List Int) (a b c d : Int) (k : Nat) (hk : k = p.length) (ha : 0 ≤ a ∧ a < 4294967296) (hb : 0 ≤ b ∧ b < 4294967296) (hc : 0 ≤ c ∧ c < 4294967296) (hd : 0 ≤ d ∧ d < 4294967296) :
    num4 (p ++ (be4s [a, b, c, d] ++ r)) k = a ∧ num4 (p ++ (be4s [a, b, c, d] ++ r)) (k + 4) = b ∧ num4 (p ++ (be4s [a, b, c, d] ++ r)) (k + 8) = c ∧ num4 (p ++ (be4s [a, b, c, d] ++ r)) (k + 12) = d := by
  have e : be4s [a, b, c, d] = beB a 4 ++ (beB b 4 ++ (beB c 4 ++ (beB d 4 ++ []))) := by rw [be4s_cons, be4s_cons, be4s_cons, be4s_cons]; rfl
  rw [e]
  refine ⟨?_, ?_, ?_, ?_⟩
  · have := num4_mid p (beB b 4 ++ (beB c 4 ++ (beB d 4 ++ [])) ++ r) a k hk ha.1 ha.2
    simpa [List.append_assoc] using this
  · have := num4_mid (p ++ beB a 4) (beB c 4 ++ (beB d 4 ++ []) ++ r) b (k + 4) (by rw [List.length_append, beB_len, hk]) hb.1 hb.2
    simpa [List.append_assoc] using this
  · have := num4_mid (p ++ beB a 4 ++ beB b 4) ((beB d 4 ++ []) ++ r) c (k + 8) (by rw [List.length_append, List.length_append, beB_len, beB_len, hk]) hc.1 hc.2
    simpa [List.append_assoc] using this
  · have := num4_mid (p ++ beB a 4 ++ beB b 4 ++ beB c 4) r d (k + 12) (by rw [List.length_append, List.length_append, List.length_append, beB_len, beB_len, beB_len, hk]) hd.1 hd.2
    simpa [List.append_assoc] using this

theorem prevT_any {ts : List TagV} {k : Nat} {t : TagV} (h : errT (prevT ts k) t = 0) : (prevT ts k).any (fun x => decide (t.tag ≤ x)) = false := by
  unfold errT at h
  split at h
  · cases h
  · split at h
    · cases h
    · rename_i h2
      simpa using h2

theorem tagV_back {ts : List TagV} (hc : dlen ts + 16 ≤ 1048576) {k : Nat} {t : TagV} (h : ts[k]? = some t) (hg : Good t) (P Q : List Int) (hP : P.length = 24) :
    tagV (P ++ (idxB ts ts.length ++ Q)) (8 + 16 * (k + 1)) (dataB ts) = .ok t ∧ num4 (P ++ (idxB ts ts.length ++ Q)) (8 + 16 * (k + 1)) = t.tag := by
  obtain ⟨hk, he⟩ := List.getElem?_eq_some_iff.1 h
  obtain ⟨X, hX⟩ := idxB_at h
  have hst := dlen_step h
  have hcn := (cnt_le t).2.2.2
  have hl := idxB_len (ts := ts) k (by omega)
  have e : P ++ (idxB ts ts.length ++ Q) = (P ++ idxB ts k) ++ (be4s [t.tag, t.typ, (upN (dlen (ts.take k)) (sizeT t.typ) : Nat), (cntT t : Nat)] ++ (X ++ Q)) := by rw [hX]; simp [List.append_assoc]
  rw [e]
  obtain ⟨n0, n1, n2, n3⟩ := entry_nums (P ++ idxB ts k) (X ++ Q) t.tag t.typ (upN (dlen (ts.take k)) (sizeT t.typ) : Nat) (cntT t : Nat) (8 + 16 * (k + 1)) (by rw [List.length_append, hl, hP]; omega) ⟨by have := hg.lo; omega, by have := hg.hi; omega⟩ ⟨by have := hg.ty1; omega, by have := hg.ty9; omega⟩ (by omega) (by omega)
  refine ⟨?_, n0⟩
  unfold tagV
  rw [n0, n1, n2, n3]
  rw [if_neg (by have h1 := hg.lo; have h2 := hg.hi; omega), if_neg (by have h1 := hg.ty1; have h2 := hg.ty9; omega), Int.toNat_natCast, Int.toNat_natCast]
  obtain ⟨D, Y, hD, hDl⟩ := dataB_at h
  rw [hD, ← hDl]
  exact sayV_back hg.right D Y (by rw [hDl]; exact upN_mod _ _)

/-- Entry by entry, all is read as it was. -/
theorem entR_back {ts : List TagV} (hc : dlen ts + 16 ≤ 1048576) (P Q : List Int) (hP : P.length = 24) (r k : Nat) (hk : k + r = ts.length) (hg : chk (prevT ts k) (ts.drop k) = 0) :
    entR (P ++ (idxB ts ts.length ++ Q)) (dataB ts) (k + 1) r (prevT ts k) = .ok (ts.drop k) := by
  induction r generalizing k with
  | zero =>
    rw [List.drop_of_length_le (by omega)]
    rfl
  | succ r ih =>
    have hkl : k < ts.length := by omega
    have ht : ts[k]? = some ts[k] := List.getElem?_eq_getElem hkl
    rw [chk_step ht] at hg
    split at hg
    · rename_i h0
      obtain ⟨h1, h2⟩ := tagV_back hc ht (errT_good h0) P Q hP
      unfold entR
      rw [h1]
      simp only
      rw [h2, prevT_any h0]
      have hp : prevT ts (k + 1) = some ts[k].tag := by unfold prevT; rw [if_neg (by omega), Nat.add_sub_cancel, ht]; rfl
      have ih := ih (k + 1) (by omega) hg
      rw [hp] at ih
      rw [if_neg (by simp), ih, List.drop_eq_getElem_cons hkl]
    · rename_i h0
      exact absurd hg h0

/-- A header that is written is read as its tags. -/
theorem parse_print {ts : List TagV} (h : checkE ts = 0) : parseB (printB ts) = .ok ts := by
  obtain ⟨h1, h2, h3⟩ := check_zero h
  obtain ⟨F, hF⟩ : ∃ F, F = be4s [63, 7, 4294967296 - 16 * ((ts.length + 1 : Nat) : Int), 16] := ⟨_, rfl⟩
  have hFl : F.length = 16 := by rw [hF, be4s_len]; rfl
  have e : printB ts = be4s [((ts.length + 1 : Nat) : Int), ((dlen ts + 16 : Nat) : Int)] ++ (be4s [63, 7, ((dlen ts : Nat) : Int), 16] ++ (idxB ts ts.length ++ (dataB ts ++ F))) := by unfold printB; rw [← hF]; simp [List.append_assoc]
  have hl : (printB ts).length = 8 + 16 * (ts.length + 1) + (dlen ts + 16) := by
    rw [e]
    simp only [List.length_append, be4s_len, idxB_len ts.length (Nat.le_refl _), dataB_len, hFl, List.length_cons, List.length_nil]
    omega
  have n0 : num4 (printB ts) 0 = ((ts.length + 1 : Nat) : Int) := by
    rw [e, be4s_cons, List.append_assoc]
    exact num4_nat [] _ _ 0 rfl (by omega)
  have n4 : num4 (printB ts) 4 = ((dlen ts + 16 : Nat) : Int) := by
    rw [e, be4s_cons, be4s_cons, List.append_assoc, List.append_assoc]
    exact num4_nat (beB _ 4) _ _ 4 (beB_len _ _).symm (by omega)
  have hh : ((printB ts).drop 8).take 16 = headB ((dlen ts + 16 : Nat) : Int) := by
    rw [e, cut_mid _ _ _ 8 16 (by rw [be4s_len]; rfl) (by rw [be4s_len]; rfl)]
    unfold headB
    rw [show ((dlen ts + 16 : Nat) : Int) - 16 = ((dlen ts : Nat) : Int) by omega]
  have hf : (printB ts).drop ((printB ts).length - 16) = footB ((ts.length + 1 : Nat) : Int) := by
    have e2 : printB ts = (be4s [((ts.length + 1 : Nat) : Int), ((dlen ts + 16 : Nat) : Int)] ++ (be4s [63, 7, ((dlen ts : Nat) : Int), 16] ++ (idxB ts ts.length ++ dataB ts))) ++ F := by rw [e]; simp [List.append_assoc]
    have hl2 := hl
    rw [e2, List.length_append, hFl] at hl2
    rw [e2, List.length_append, hFl, Nat.add_sub_cancel, List.drop_left, hF]
    rfl
  have hd : ((printB ts).drop (8 + 16 * (ts.length + 1))).take (dlen ts) = dataB ts := by
    have e2 : printB ts = (be4s [((ts.length + 1 : Nat) : Int), ((dlen ts + 16 : Nat) : Int)] ++ (be4s [63, 7, ((dlen ts : Nat) : Int), 16] ++ idxB ts ts.length)) ++ (dataB ts ++ F) := by rw [e]; simp [List.append_assoc]
    rw [e2]
    exact cut_mid _ _ _ _ _ (by simp only [List.length_append, be4s_len, idxB_len ts.length (Nat.le_refl _), List.length_cons, List.length_nil]; omega) (dataB_len ts).symm
  unfold parseB
  rw [hf, n0, n4, hh, hl]
  rw [if_neg (by omega), if_neg (by omega), if_neg (by omega), if_neg (by omega), if_neg (by rintro (h | h | h) <;> first | omega | exact h rfl), if_neg (by simp), Int.toNat_natCast, Int.toNat_natCast, Nat.add_sub_cancel, Nat.add_sub_cancel, hd, e]
  have := entR_back h3 (be4s [((ts.length + 1 : Nat) : Int), ((dlen ts + 16 : Nat) : Int)] ++ be4s [63, 7, ((dlen ts : Nat) : Int), 16]) (dataB ts ++ F) (by rw [List.length_append, be4s_len, be4s_len]; rfl) ts.length 0 (by omega) (by simpa [prevT] using h2)
  simp only [List.drop_zero, List.append_assoc] at this
  exact this

end Go.Proofs.Ytogknbpbjgdldaa
