/- Plainly: what is written of right tags is read as those tags. -/
import Derived.Test.YtogknbpbjgdldaaRhJ
namespace Go.Proofs.Ytogknbpbjgdldaa
open Go.RowKit Go.Dray

theorem beNum_cons (x : Int) (l : List Int) : beNum (x :: l) = x * 2 ^ (8 * l.length) + beNum l := by
  induction l using snoc_ind with
  | h0 => simp [beNum]
  | h1 l y ih =>
    rw [← List.cons_append, beNum_snoc, ih, beNum_snoc, List.length_append, show 8 * (l.length + [y].length) = 8 * l.length + 8 from by simp; omega, Int.pow_add, Int.add_mul, ← Int.mul_assoc]
    omega
theorem beNum_beB_nat (v n : Nat) : beNum (beB (v : Int) n) = ((v % 2 ^ (8 * n) : Nat) : Int) := by
  induction n with
  | zero => simp [beB, leB, tab, beNum, Nat.mod_one]
  | succ n ih =>
    rw [beB_succ, beNum_cons, ih, beB_len, show 8 * (n + 1) = 8 * n + 8 by omega, Nat.pow_add, Nat.mod_mul]
    have e1 : (v : Int) / 2 ^ (8 * n) % 256 = ((v / 2 ^ (8 * n) % 256 : Nat) : Int) := by
      rw [Int.natCast_emod, Int.natCast_ediv, Int.natCast_pow]
      rfl
    rw [e1, Int.natCast_add, Int.natCast_mul, Int.natCast_pow, Int.mul_comm]
    have e2 : (2 : Nat) ^ 8 = 256 := rfl
    rw [e2]
    have e3 : ((2 : Nat) : Int) = 2 := rfl
    rw [e3]
    omega
theorem beNum_beB (z : Int) (n : Nat) (h0 : 0 ≤ z) (h1 : z < 2 ^ (8 * n)) : beNum (beB z n) = z := by
  obtain ⟨v, rfl⟩ := Int.eq_ofNat_of_zero_le h0
  rw [beNum_beB_nat]
  congr 1
  refine Nat.mod_eq_of_lt ?_
  have : (v : Int) < ((2 ^ (8 * n) : Nat) : Int) := by rw [Int.natCast_pow]; exact h1
  omega
theorem beB_beNum (zs : List Int) (h : ∀ z ∈ zs, 0 ≤ z ∧ z ≤ 255) : beB (beNum zs) zs.length = zs := by
  induction zs with
  | nil => rfl
  | cons x l ih =>
    have hx := h x (by simp)
    have hl : ∀ z ∈ l, 0 ≤ z ∧ z ≤ 255 := fun z hz => h z (by simp [hz])
    have hb := beNum_bd l hl
    have hp : (0 : Int) < 2 ^ (8 * l.length) := by omega
    have h1 : beB (beNum (x :: l)) l.length = l := by
      have hmod : ∀ (a b : Int) (n : Nat), beB (a * 2 ^ (8 * n) + b) n = beB b n := by
        intro a b n
        rw [beB_tab, beB_tab]
        refine tab_congr fun j hj => ?_
        obtain ⟨q, hq⟩ : ∃ q, n = (n - 1 - j) + 1 + q := ⟨j, by omega⟩
        generalize n - 1 - j = r at *
        subst hq
        rw [show 8 * (r + 1 + q) = 8 * r + 8 * (q + 1) by omega, Int.pow_add, Int.mul_comm (2 ^ (8 * r)), ← Int.mul_assoc, Int.add_comm, Int.add_mul_ediv_right _ _ (by have : (0 : Int) < 2 ^ (8 * r) := Int.pow_pos (by omega); omega), show 8 * (q + 1) = 8 * q + 8 by omega, Int.pow_add, ← Int.mul_assoc]
        show (b / 2 ^ (8 * r) + a * 2 ^ (8 * q) * 256) % 256 = _
        rw [Int.add_mul_emod_self_right]
      rw [beNum_cons, hmod]
      exact ih hl
    rw [List.length_cons, beB_succ, h1]
    congr 1
    rw [beNum_cons, Int.add_comm, Int.add_mul_ediv_right _ _ (by omega), Int.ediv_eq_zero_of_lt hb.1 hb.2]
    omega

theorem num4_mid (p r : List Int) (z : Int) (k : Nat) (hk : k = p.length) (h0 : 0 ≤ z) (h1 : z < 4294967296) : num4 (p ++ (beB z 4 ++ r)) k = z := by
  subst hk
  unfold num4
  rw [List.drop_left, List.take_append_of_le_length (by rw [beB_len]; omega), List.take_of_length_le (by rw [beB_len]; omega)]
  exact beNum_beB z 4 h0 h1
theorem numV_mid (p r : List Int) (z : Int) (s i : Nat) (hk : i * s = p.length) (h0 : 0 ≤ z) (h1 : z < 2 ^ (8 * s)) : numV (p ++ (beB z s ++ r)) s i = z := by
  unfold numV
  rw [hk, List.drop_left, List.take_append_of_le_length (by rw [beB_len]; omega), List.take_of_length_le (by rw [beB_len]; omega)]
  exact beNum_beB z s h0 h1
theorem cut_mid (p m r : List Int) (k l : Nat) (hk : k = p.length) (hl : l = m.length) : ((p ++ (m ++ r)).drop k).take l = m := by
  subst hk hl
  rw [List.drop_left, List.take_append_of_le_length (Nat.le_refl _), List.take_length]

theorem dataB_app (us vs : List TagV) : ∃ X, dataB (us ++ vs) = dataB us ++ X := by
  induction vs using snoc_ind with
  | h0 => exact ⟨[], by simp⟩
  | h1 vs t ih =>
    obtain ⟨X, hX⟩ := ih
    rw [← List.append_assoc, dataB_snoc, hX]
    exact ⟨_, by rw [List.append_assoc, List.append_assoc]⟩
/-- A tag's data in its place. -/
theorem dataB_at {ts : List TagV} {k : Nat} {t : TagV} (h : ts[k]? = some t) : ∃ P X, dataB ts = P ++ (bodyT t ++ X) ∧ P.length = upN (dlen (ts.take k)) (sizeT t.typ) := by
  obtain ⟨X, hX⟩ := dataB_app (ts.take (k + 1)) (ts.drop (k + 1))
  rw [List.take_append_drop, dataB_take h] at hX
  refine ⟨dataB (ts.take k) ++ List.replicate (padL (dlen (ts.take k)) (sizeT t.typ)) 0, X, by rw [hX]; simp, ?_⟩
  rw [List.length_append, List.length_replicate, dataB_len]
  have := upN_ge (dlen (ts.take k)) (sizeT t.typ) (sizeT_bd t.typ).1
  unfold padL
  omega
theorem strOfNums_sb (s : ByteArray) : strOfNums (sb s) = s := by
  obtain ⟨d⟩ := s
  have e : (d.toList.map fun b => (b.toNat : Int)).map (fun n => UInt8.ofNat n.toNat) = d.toList := by
    rw [List.map_map]
    conv => rhs; rw [← List.map_id d.toList]
    refine List.map_congr_left fun b _ => ?_
    simp
  unfold strOfNums sb
  show ByteArray.mk (List.map _ (List.map _ d.toList)).toArray = _
  rw [e]
theorem sb_strOfNums (zs : List Int) (h : ∀ z ∈ zs, 0 ≤ z ∧ z ≤ 255) : sb (strOfNums zs) = zs := by
  unfold sb strOfNums
  simp only [List.map_map]
  conv => rhs; rw [← List.map_id zs]
  refine List.map_congr_left fun z hz => ?_
  have := h z hz
  simp
  omega
theorem noughtAt_mid (p r : List Int) (h : (0 : Int) ∉ p) : noughtAt (p ++ (0 :: r)) = p.length := by
  unfold noughtAt
  induction p with
  | nil => rw [List.nil_append, List.findIdx_cons]; rfl
  | cons x p ih =>
    have hx : x ≠ 0 := fun e => h (by simp [e])
    have ih := ih fun e => h (by simp [e])
    rw [List.cons_append, List.findIdx_cons, ih]
    have : (x == 0) = false := by simpa using hx
    rw [this]
    simp
theorem textsR_mid (ss : List ByteArray) (r : List Int) (h : ∀ s ∈ ss, (0 : Int) ∉ sb s) : textsR (textsB ss ++ r) ss.length = some ss := by
  induction ss with
  | nil => rfl
  | cons s ss ih =>
    have ih := ih fun x hx => h x (by simp [hx])
    have e : textsB (s :: ss) ++ r = sb s ++ (0 :: (textsB ss ++ r)) := by simp [textsB]
    rw [e, List.length_cons]
    unfold textsR
    have hn := noughtAt_mid (sb s) (textsB ss ++ r) (h s (by simp))
    rw [hn, if_pos (by simp)]
    have e2 : (sb s ++ 0 :: (textsB ss ++ r)).drop ((sb s).length + 1) = textsB ss ++ r := by
      rw [← List.drop_drop, List.drop_left]
      rfl
    rw [e2, ih, List.take_left]
    simp [strOfNums_sb]
theorem intsB_at {t : TagV} {i : Nat} {z : Int} (h : t.ints[i]? = some z) : ∃ P X, intsB t t.ints.length = P ++ (beB z (sizeT t.typ) ++ X) ∧ i * sizeT t.typ = P.length := by
  obtain ⟨hi, he⟩ := List.getElem?_eq_some_iff.1 h
  refine ⟨intsB t i, (t.ints.drop (i + 1)).flatMap fun z => beB z (sizeT t.typ), ?_, (intsB_len t i (by omega)).symm⟩
  rw [← List.append_assoc, ← intsB_succ t h]
  unfold intsB
  rw [List.take_length, ← List.flatMap_append, List.take_append_drop]
theorem mostT_lt (ty : Int) (z : Int) (h : z ≤ mostT ty) : z < 2 ^ (8 * sizeT ty) ∧ z ≤ 9223372036854775807 := by
  unfold mostT sizeT at *
  by_cases h5 : ty = 5
  · subst h5
    simp at h ⊢
    omega
  · rw [if_neg h5] at h
    by_cases h3 : ty = 3
    · subst h3; simp at h ⊢; omega
    · by_cases h4 : ty = 4
      · subst h4; simp at h ⊢; omega
      · simp [h3, h4, h5] at h ⊢; omega
/-- What is written of a right tag is read as that tag. -/
theorem sayV_back {t : TagV} (h : rightP t) (P X : List Int) (hP : P.length % sizeT t.typ = 0) : sayV t.tag t.typ (P ++ (bodyT t ++ X)) P.length (cntT t) = .ok t := by
  obtain ⟨tg, ty, is, ss, bs⟩ := t
  unfold rightP at h
  unfold sayV cntT
  simp only at h hP ⊢
  have hlen : ¬ (P ++ (bodyT ⟨tg, ty, is, ss, bs⟩ ++ X)).length < P.length := by rw [List.length_append]; omega
  by_cases hn : numT ty = true
  · rw [if_pos hn] at h
    obtain ⟨h1, rfl, rfl, h4⟩ := h
    have hi : is.length ≠ 0 := by simpa using h1
    have h6 : ty ≠ 6 := by rintro rfl; revert hn; decide
    rw [if_neg (by simp [h1, h6, hP]), if_neg hlen, if_pos hn, List.drop_left]
    have e1 : is.length + ([] : List ByteArray).length + ([] : List Int).length = is.length := by simp
    rw [e1]
    have hb : bodyT ⟨tg, ty, is, [], []⟩ = intsB ⟨tg, ty, is, [], []⟩ is.length := by simp [bodyT, textsB]
    rw [hb]
    have hnv : numsV (intsB ⟨tg, ty, is, [], []⟩ is.length ++ X) (sizeT ty) is.length = is := by
      apply List.ext_getElem (by simp [numsV, tab_len])
      intro i h1 h2
      obtain ⟨P, Y, hy, hp⟩ := intsB_at (t := ⟨tg, ty, is, [], []⟩) (i := i) (z := is[i]) (List.getElem?_eq_getElem h2)
      have hz := h4 is[i] (List.getElem_mem _)
      have := numV_mid P (Y ++ X) is[i] (sizeT ty) i hp hz.1 (mostT_lt ty _ hz.2).1
      simp only at hy
      simp only [numsV, tab, List.getElem_map, List.getElem_range]
      rw [hy, List.append_assoc, List.append_assoc]
      exact this
    rw [hnv, if_neg (by rw [List.length_append, intsB_len _ _ (Nat.le_refl _)]; simp only; omega), if_pos]
    rw [List.all_eq_true]
    intro z hz
    simpa using (mostT_lt ty z (h4 z hz).2).2
  · rw [if_neg hn] at h
    have hs1 : ∀ m : Nat, m % 1 = 0 := fun m => Nat.mod_one m
    by_cases h7 : ty = 7
    · subst h7
      rw [if_pos rfl] at h
      obtain ⟨h1, rfl, rfl⟩ := h
      have hb : bodyT ⟨tg, 7, [], [], bs⟩ = bs := by simp [bodyT, textsB, intsB]
      rw [hb] at hlen ⊢
      rw [if_neg (by simp [h1, hP]), if_neg hlen, if_neg hn, if_pos rfl, List.drop_left]
      have e1 : ([] : List Int).length + ([] : List ByteArray).length + bs.length = bs.length := by simp
      rw [e1, if_neg (by rw [List.length_append]; omega), List.take_left]
    · rw [if_neg h7] at h
      obtain ⟨h1, h2, rfl, rfl, h5⟩ := h
      have hb : bodyT ⟨tg, ty, [], ss, []⟩ = textsB ss := by simp [bodyT, intsB]
      rw [hb] at hlen ⊢
      have e1 : ([] : List Int).length + ss.length + ([] : List Int).length = ss.length := by simp
      rw [e1]
      have hss : ss.length ≠ 0 := by simpa using h1
      rw [if_neg (by rintro (h | h | h) <;> first | exact hss h | exact h.2 (h2 h.1) | exact h hP), if_neg hlen, if_neg hn, if_neg h7, List.drop_left, textsR_mid ss X h5]

end Go.Proofs.Ytogknbpbjgdldaa
