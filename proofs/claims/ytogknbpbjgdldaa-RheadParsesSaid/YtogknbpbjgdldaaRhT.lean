/- The walks of drayagelaw21.awake and RheadMost. -/
import Derived.Test.YtogknbpbjgdldaaRhS
import Derived.Test.YtogknbpbjgdldaaLawKit
namespace Go.Proofs.Ytogknbpbjgdldaa
open Go.RowKit Go.Dray

/-- The tag of the document's example. -/
def tagA : TagV := ⟨1000, 6, [], [⟨#[97]⟩], []⟩
theorem tagA_right : rightP tagA := by
  unfold rightP tagA
  rw [if_neg (by decide), if_neg (by decide)]
  refine ⟨by simp, fun _ => rfl, rfl, rfl, fun s hs => ?_⟩
  simp at hs
  subst hs
  decide
theorem tagA_check : checkE [tagA] = 0 := by
  unfold checkE
  have h1 : chk none [tagA] = 0 := by
    unfold chk
    rw [if_pos (good_errT ⟨by decide, by decide, by decide, by decide, tagA_right⟩ rfl)]
    rfl
  rw [if_neg (by decide), if_pos h1, if_neg (by decide)]
theorem tagA_print : (printB [tagA]).length = 58 ∧ strOfNums ((printB [tagA]).take 8) = ⟨#[0, 0, 0, 2, 0, 0, 0, 18]⟩ := ⟨by decide +kernel, by rfl⟩
theorem print_bd (ts : List TagV) (h : ∀ t ∈ ts, ∀ z ∈ t.bytes, 0 ≤ z ∧ z ≤ 255) : ∀ z ∈ printB ts, 0 ≤ z ∧ z ≤ 255 := by
  have hx : ∀ k, ∀ z ∈ idxB ts k, 0 ≤ z ∧ z ≤ 255 := by
    intro k z hz
    unfold idxB at hz
    obtain ⟨i, _, hi⟩ := List.mem_flatMap.1 hz
    unfold entryB at hi
    split at hi
    · exact be4s_bd _ z hi
    · cases hi
  have hd : ∀ z ∈ dataB ts, 0 ≤ z ∧ z ≤ 255 := by
    induction ts using snoc_ind with
    | h0 => intro z hz; cases hz
    | h1 ts t ih =>
      intro z hz
      rw [dataB_snoc] at hz
      rcases List.mem_append.1 hz with hz | hz
      · rcases List.mem_append.1 hz with hz | hz
        · exact ih (fun u hu => h u (by simp [hu])) (fun k z hz => by
            unfold idxB at hz
            obtain ⟨i, _, hi⟩ := List.mem_flatMap.1 hz
            unfold entryB at hi
            split at hi
            · exact be4s_bd _ z hi
            · cases hi) z hz
        · rw [List.mem_replicate] at hz
          omega
      · unfold bodyT at hz
        rcases List.mem_append.1 hz with hz | hz
        · rcases List.mem_append.1 hz with hz | hz
          · unfold intsB at hz
            obtain ⟨x, _, hx⟩ := List.mem_flatMap.1 hz
            exact beB_bd _ _ z hx
          · unfold textsB at hz
            obtain ⟨s, _, hs⟩ := List.mem_flatMap.1 hz
            rcases List.mem_append.1 hs with hs | hs
            · exact sb_bd s z hs
            · simp at hs; omega
        · exact h t (by simp) z hz
  intro z hz
  unfold printB at hz
  rcases List.mem_append.1 hz with hz | hz
  · rcases List.mem_append.1 hz with hz | hz
    · rcases List.mem_append.1 hz with hz | hz
      · rcases List.mem_append.1 hz with hz | hz
        · exact be4s_bd _ z hz
        · exact be4s_bd _ z hz
      · exact hx _ z hz
    · exact hd z hz
  · exact be4s_bd _ z hz
theorem print_len {ts : List TagV} (h : checkE ts = 0) : (printB ts).length ≤ 2000000 := by
  obtain ⟨h1, _, h3⟩ := check_zero h
  unfold printB
  simp only [List.length_append, be4s_len, idxB_len ts.length (Nat.le_refl _), dataB_len, List.length_cons, List.length_nil]
  omega

theorem seg_lit (w : World) (sz n : Nat) (vs : List Value) (t : TypeId) (h : vs.length = n * sz) : Seg (w.alloc (.cells vs.toArray t)) sz (some ⟨w.heap.size, 0, none⟩) n vs :=
  ⟨h, fun _ => rfl, fun k u hu => by
    have hb := Blk.new w t vs.toArray
    show (w.alloc _).cell? ⟨w.heap.size, 0 + k, none⟩ = some u
    rw [Nat.zero_add, hb.cell]
    simpa using hu⟩
/-- Tags in memory, by their cells. -/
theorem tags_seg {w : World} {L : Option Addr} (xs : List (TagP × TagV)) (h : Seg w 5 L xs.length (xs.flatMap fun x => tagC x.1 x.2)) (hm : ∀ x ∈ xs, TagM w x.1 x.2) : Tags w L xs.length (xs.map (·.2)) := by
  refine ⟨by simp, h.at_, fun k t ht => ?_⟩
  rw [List.getElem?_map] at ht
  cases hx : xs[k]? with
  | none => rw [hx] at ht; cases ht
  | some x =>
    rw [hx] at ht
    cases ht
    refine ⟨x.1, hm x (List.mem_of_getElem? hx), fun j v hv => ?_⟩
    have hj : j < 5 := by
      obtain ⟨hj, _⟩ := List.getElem?_eq_some_iff.1 hv
      exact hj
    have key : ∀ (ys : List (TagP × TagV)) (k : Nat), ys[k]? = some x → (ys.flatMap fun x => tagC x.1 x.2)[k * 5 + j]? = some v := by
      intro ys
      induction ys with
      | nil => intro k hk; simp at hk
      | cons y ys ih =>
        intro k hk
        rw [List.flatMap_cons]
        cases k with
        | zero =>
          simp at hk
          subst hk
          rw [List.getElem?_append_left (by simp [tagC]; omega), Nat.zero_mul, Nat.zero_add]
          exact hv
        | succ k =>
          simp at hk
          rw [List.getElem?_append_right (by simp [tagC]; omega)]
          have e : (k + 1) * 5 + j - (tagC y.1 y.2).length = k * 5 + j := by simp [tagC]; omega
          rw [e]
          exact ih k hk
    have := Seg.cell h (k * 5 + j) v (key xs k hx)
    rw [← Nat.add_assoc] at this
    exact this
theorem ints_nil (kd : IntKind) (w : World) : Ints kd w none 0 [] := ⟨rfl, fun h => by omega, fun k u hu => by simp at hu⟩
theorem strs_nil (w : World) : Strs w none 0 [] := ⟨rfl, fun h => by omega, fun k u hu => by simp at hu⟩
def pA (g : Nat) : TagP := ⟨none, 0, 0, some ⟨g, 0, none⟩, 1, 1, none, 0, 0⟩
theorem tagA_mem (w : World) : TagM (w.alloc (.cells #[.string ⟨#[97]⟩] 9)) (pA w.heap.size) tagA :=
  ⟨ints_nil _ _, seg_lit w 1 1 [.string ⟨#[97]⟩] 9 rfl, ints_nil _ _, (fun z hz => by cases hz), (fun z hz => by cases hz), Nat.zero_le _, (by show 1 ≤ _; omega), Nat.zero_le _⟩

set_option maxRecDepth 100000 in
set_option maxHeartbeats 1000000 in
theorem awake_any (w : World) : Calls Try.prog 7 #[] w fun e w' => e = .returned (.bool true) ∧ Upd [] w w' := by
  go_enter Try.func7, Try.ntmps7
  go_wp2_with fail
  have HTG : Hid (Tags ((w.alloc (.cells #[.string ⟨#[97]⟩] 9)).alloc (.cells #[.int .i64 1000, .int .i64 6, .slice none 0 0, .slice (some ⟨w.heap.size, 0, none⟩) 1 1, .slice none 0 0] 40)) (some ⟨w.heap.size + 1, 0, none⟩) 1 [tagA]) := by
    have h1 : (w.alloc (.cells #[.string ⟨#[97]⟩] 9)).heap.size = w.heap.size + 1 := by simp
    have h2 := seg_lit (w.alloc (.cells #[.string ⟨#[97]⟩] 9)) 5 1 (tagC (pA w.heap.size) tagA) 40 rfl
    rw [h1] at h2
    exact tags_seg [(pA w.heap.size, tagA)] h2 (fun x hx => by simp at hx; subst hx; exact (tagA_mem w).upd0 ((Upd.refl _ _).alloc _))
  have HU0 : Hid (Upd [] w ((w.alloc (.cells #[.string ⟨#[97]⟩] 9)).alloc (.cells #[.int .i64 1000, .int .i64 6, .slice none 0 0, .slice (some ⟨w.heap.size, 0, none⟩) 1 1, .slice none 0 0] 40))) := ((Upd.refl _ _).alloc _).alloc _
  generalize hw0 : World.alloc (World.alloc w _) _ = w0 at *
  clear hw0
  refine (print_ok w0 _ 1 1 [tagA] HTG.out (by decide) tagA_check).mono ?_
  rintro e w1 ⟨X, c, rfl, ho1, hv1⟩
  rw [tagA_print.1] at ho1 ⊢
  have HU1 := Lib.hid (HU0.out.trans hv1)
  have HO1 := Lib.hid ho1
  clear hv1 ho1 HU0 HTG
  have hc58 := HO1.out.le
  have HPB : Hid (∀ z ∈ printB [tagA], 0 ≤ z ∧ z ≤ 255) := print_bd _ (fun t ht => by simp at ht; subst ht; intro z hz; cases hz)
  go_wp2_with fail
  refine (parse_any w1 X 58 c (printB [tagA]) (Ints.ofOwn HO1.out) HPB.out hc58 (by omega)).mono ?_
  rw [parse_print tagA_check]
  rintro e w2 ⟨L, lc, xs, hxs, rfl, ht2, hv2⟩
  have hx1 : xs.length = 1 := by have := congrArg List.length hxs; simp at this; exact this.symm
  have HTT : Hid (Tags w2 L 1 [tagA]) := by
    have h := ht2.tags' (fun x hx => by
      have hm : x.2 ∈ xs.map (·.2) := List.mem_map_of_mem hx
      rw [← hxs] at hm
      simp at hm
      rw [hm]
      decide)
    rw [← hxs, hx1] at h
    exact h
  rw [hx1]
  have HU2 := Lib.hid (HU1.out.trans hv2)
  have HO2 := Lib.hid (HO1.out.upd hv2 (by simp))
  clear hv2 ht2 hxs hx1 HU1 HO1 HPB xs
  go_upto_region 3 with (fail)
  have HBF : Hid (Blk (w2.alloc (.cells #[.string ⟨#[]⟩, .int .i64 0, .int .i64 0] 32)) w2.heap.size 32 #[.string ⟨#[]⟩, .int .i64 0, .int .i64 0]) := Blk.new _ _ _
  have HV3 : Hid (Upd [] w2 (w2.alloc (.cells #[.string ⟨#[]⟩, .int .i64 0, .int .i64 0] 32))) := (Upd.refl _ _).alloc _
  obtain ⟨G, HG⟩ : ∃ G, Hid (G = w2.heap.size) := ⟨_, rfl⟩
  rw [← HG.out] at HBF ⊢
  generalize hw3 : w2.alloc _ = w3 at *
  clear hw3
  have HU3 := Lib.hid (HU2.out.trans HV3.out)
  have HTT3 := Lib.hid (HTT.out.upd0 HV3.out)
  have HO3 := Lib.hid (HO2.out.upd HV3.out (by simp))
  clear HU2 HTT HO2 HV3
  have f0 : w3.cell? ⟨G, 0, none⟩ = some (.string ⟨#[]⟩) := by rw [HBF.out.cell]; rfl
  have f1 : w3.cell? ⟨G, 1, none⟩ = some (.int .i64 0) := by rw [HBF.out.cell]; rfl
  have f2 : w3.cell? ⟨G, 2, none⟩ = some (.int .i64 0) := by rw [HBF.out.cell]; rfl
  obtain ⟨t, p, HT, HP, c0, c1, c2, c3, c4⟩ := HTT3.out.get (k := 0) (by omega)
  have hix := HTT3.out.index lc 0 (by omega)
  obtain rfl : t = tagA := by have := HT.out; simp at this; exact this.symm
  have hn1 : p.n = 1 := HP.out.texts.len.out.symm
  have htx := HP.out.texts.index p.tc 0 (by omega)
  have hty : w3.cell? ⟨bl p.TA, ofs p.TA + 0, none⟩ = some (.string ⟨#[97]⟩) := Seg.cell HP.out.texts 0 _ rfl
  rw [hn1] at htx c3
  have hcut : (convert 25 9 (.slice X 8 c)).run Try.prog w3 = .ok (.string ⟨#[0, 0, 0, 2, 0, 0, 0, 18]⟩) w3 := by
    rw [← tagA_print.2]
    exact ((Ints.ofOwn HO3.out).pre (by omega)).str Try.underlying25 Try.underlying5 Try.underlying9 c
  simp only [Nat.zero_mul, Nat.add_zero, Int.ofNat_zero] at hix htx hty c0 c3
  have c0' : w3.cell? ⟨bl L, ofs L, none⟩ = some (.int .i64 1000) := c0
  clear c0 c1 c2 c4
  go_wp2
  go_ret
  exact ⟨rfl, HU3.out⟩

/-- The tags of RheadMost. -/
def tagsM (m : Nat) : List TagV := [⟨100, 2, [1], [], []⟩, ⟨101, 5, [0], [], []⟩, ⟨102, 7, [], [], List.replicate m 0⟩]
theorem tagsM_dlen (m : Nat) : dlen (tagsM m) = 16 + m := by
  simp [dlen, tagsM, upN, sizeT, lenT, textLen]
theorem tagsM_check (m : Nat) (h : 0 < m) : checkE (tagsM m) = if 1048576 < m + 32 then 4 else 0 := by
  unfold checkE
  have h1 : chk none (tagsM m) = 0 := by
    unfold tagsM chk
    rw [if_pos (good_errT ⟨by decide, by decide, by decide, by decide, by unfold rightP; rw [if_pos (by rfl)]; exact ⟨by simp, rfl, rfl, fun z hz => by simp at hz; subst hz; decide⟩⟩ rfl)]
    unfold chk
    rw [if_pos (good_errT ⟨by decide, by decide, by decide, by decide, by unfold rightP; rw [if_pos (by rfl)]; exact ⟨by simp, rfl, rfl, fun z hz => by simp at hz; subst hz; decide⟩⟩ rfl)]
    unfold chk
    rw [if_pos (good_errT ⟨by show (100 : Int) ≤ 102; decide, by show (102 : Int) ≤ 2147483647; decide, by show (1 : Int) ≤ 7; decide, by show (7 : Int) ≤ 9; decide, by unfold rightP; rw [if_neg (by show ¬ numT 7 = true; decide), if_pos rfl]; exact ⟨by simp; omega, rfl, rfl⟩⟩ rfl)]
    rfl
  rw [if_neg (by unfold tagsM; simp), if_pos h1, tagsM_dlen]
  have e : (1048576 < 16 + m + 16) ↔ (1048576 < m + 32) := by omega
  simp only [e]

theorem tagsM_mem (w2 : World) (B : Nat) (A2 : Option Addr) (m : Nat) (hm : m ≤ 2000000) (h : Own w2 B 5 1 A2 (m + 7) (m + 7) (List.replicate (m + 7) (Value.int .u8 0))) :
    Tags (((w2.alloc (.cells #[.int .i64 1] 3)).alloc (.cells #[.int .i64 0] 3)).alloc (.cells #[.int .i64 100, .int .i64 2, .slice (some ⟨w2.heap.size, 0, none⟩) 1 1, .slice none 0 0, .slice none 0 0, .int .i64 101, .int .i64 5, .slice (some ⟨w2.heap.size + 1, 0, none⟩) 1 1, .slice none 0 0, .slice none 0 0, .int .i64 102, .int .i64 7, .slice none 0 0, .slice none 0 0, .slice A2 m (m + 7)] 40)) (some ⟨w2.heap.size + 1 + 1, 0, none⟩) 3 (tagsM m) := by
  have hs1 : (w2.alloc (.cells #[.int .i64 1] 3)).heap.size = w2.heap.size + 1 := by simp
  have hs2 : ((w2.alloc (.cells #[.int .i64 1] 3)).alloc (.cells #[.int .i64 0] 3)).heap.size = w2.heap.size + 1 + 1 := by simp
  have i1 : Ints .i64 (w2.alloc (.cells #[.int .i64 1] 3)) (some ⟨w2.heap.size, 0, none⟩) 1 [1] := seg_lit w2 1 1 [.int .i64 1] 3 rfl
  have i2 : Ints .i64 ((w2.alloc (.cells #[.int .i64 1] 3)).alloc (.cells #[.int .i64 0] 3)) (some ⟨w2.heap.size + 1, 0, none⟩) 1 [0] := by
    have := seg_lit (w2.alloc (.cells #[.int .i64 1] 3)) 1 1 [.int .i64 0] 3 rfl
    rw [hs1] at this
    exact this
  have i3 : Ints .u8 w2 A2 m (List.replicate m 0) := by
    have h2 : Ints .u8 w2 A2 (m + 7) (List.replicate (m + 7) 0) := Ints.ofOwn (by rw [List.map_replicate]; exact h)
    have h3 := h2.pre (k := m) (by omega)
    rw [List.take_replicate, Nat.min_eq_left (by omega)] at h3
    exact h3
  have h4 := seg_lit ((w2.alloc (.cells #[.int .i64 1] 3)).alloc (.cells #[.int .i64 0] 3)) 5 3 (tagC ⟨some ⟨w2.heap.size, 0, none⟩, 1, 1, none, 0, 0, none, 0, 0⟩ ⟨100, 2, [1], [], []⟩ ++ tagC ⟨some ⟨w2.heap.size + 1, 0, none⟩, 1, 1, none, 0, 0, none, 0, 0⟩ ⟨101, 5, [0], [], []⟩ ++ tagC ⟨none, 0, 0, none, 0, 0, A2, m, m + 7⟩ ⟨102, 7, [], [], List.replicate m 0⟩) 40 rfl
  rw [hs2] at h4
  refine tags_seg [(⟨some ⟨w2.heap.size, 0, none⟩, 1, 1, none, 0, 0, none, 0, 0⟩, ⟨100, 2, [1], [], []⟩), (⟨some ⟨w2.heap.size + 1, 0, none⟩, 1, 1, none, 0, 0, none, 0, 0⟩, ⟨101, 5, [0], [], []⟩), (⟨none, 0, 0, none, 0, 0, A2, m, m + 7⟩, ⟨102, 7, [], [], List.replicate m 0⟩)] h4 (fun x hx => ?_)
  simp only [List.mem_cons, List.not_mem_nil, or_false] at hx
  rcases hx with rfl | rfl | rfl
  · exact ⟨i1.upd (((Upd.refl [] _).alloc _).alloc _) (by simp), strs_nil _, ints_nil _ _, (fun z hz => by simp at hz; subst hz; decide), (fun z hz => by cases hz), (by show 1 ≤ _; omega), Nat.zero_le _, Nat.zero_le _⟩
  · exact ⟨i2.upd ((Upd.refl [] _).alloc _) (by simp), strs_nil _, ints_nil _ _, (fun z hz => by simp at hz; subst hz; decide), (fun z hz => by cases hz), (by show 1 ≤ _; omega), Nat.zero_le _, Nat.zero_le _⟩
  · exact ⟨ints_nil _ _, strs_nil _, i3.upd ((((Upd.refl [] _).alloc _).alloc _).alloc _) (by simp), (fun z hz => by cases hz), (fun z hz => by rw [List.mem_replicate] at hz; omega), Nat.zero_le _, Nat.zero_le _, (by show m ≤ _; omega)⟩
theorem tagsM_dsum (m : Nat) (hm : m ≤ 2000000) : dsum (tagsM m) ≤ 100000000000000 := by
  simp [dsum, tagsM, sizeT, lenT, textLen]
  omega

set_option maxRecDepth 100000 in
set_option maxHeartbeats 1000000 in
theorem rheadMost_w (w : World) (x : Int) : Calls Try.prog 5 #[.int .i64 x] w fun e w' => e = .returned (.bool true) ∧ Upd [] w w' := by
  go_enter Try.func5, Try.ntmps5
  go_wp2_with fail
  refine (awake_any w).mono ?_
  rintro e w1 ⟨rfl, hv1⟩
  have HU1 := Lib.hid hv1
  clear hv1
  by_cases h1 : x < -20
  · have d1 : decide (x < -20) = true := by simpa using h1
    go_wp2
    go_ret
    exact ⟨rfl, HU1.out⟩
  · have d1 : decide (x < -20) = false := by simpa using h1
    by_cases h2 : 20 < x
    · have d2 : decide (20 < x) = true := by simpa using h2
      go_wp2
      go_ret
      exact ⟨rfl, HU1.out⟩
    · have d2 : decide (20 < x) = false := by simpa using h2
      obtain ⟨m, HM⟩ : ∃ m : Nat, Hid (x = (m : Int) - 1048544) := ⟨(x + 1048544).toNat, by show _ = _; omega⟩
      have hm := HM.out
      have hwx : IntKind.i64.wrap (1048551 + x) = ((m + 7 : Nat) : Int) := by rw [IntKind.wrap_i64]; omega
      go_wp2_with (at_make; refine wpList_mk rfl rfl w1.heap.size el_byte (m + 7) rfl rfl (by omega) (by omega) rfl (by omega) (by simp only [maxLen]; omega) (Nat.le_refl _) ?_; intro A2 w2 hown2 hu2 hob2)
      · refine (check_any _ _ 3 3 (tagsM m) (tagsM_mem w2 _ A2 m (by omega) hown2) (tagsM_dsum m (by omega)) (by omega)).mono ?_
        rintro e w3 ⟨rfl, hv3⟩
        rw [tagsM_check m (by omega), if_pos (by omega)]
        go_wp2
        go_ret
        exact ⟨rfl, HU1.out.trans (hu2.trans (((((Upd.refl [] w2).alloc _).alloc _).alloc _).trans hv3))⟩
      · refine (check_any _ _ 3 3 (tagsM m) (tagsM_mem w2 _ A2 m (by omega) hown2) (tagsM_dsum m (by omega)) (by omega)).mono ?_
        rintro e w3 ⟨rfl, hv3⟩
        rw [tagsM_check m (by omega), if_neg (by omega)]
        go_wp2
        go_ret
        exact ⟨rfl, HU1.out.trans (hu2.trans (((((Upd.refl [] w2).alloc _).alloc _).alloc _).trans hv3))⟩

theorem rheadMost_walk (x : Int) (w : World) (_h : (Lit.int .i64 x).wf = true) : Calls Try.prog 5 #[.int .i64 x] w fun e w' => e = .returned (.bool true) ∧ Below w.heap.size w w' :=
  (rheadMost_w w x).mono fun _ _ ⟨h1, h2⟩ => ⟨h1, h2.below (Nat.le_refl _) (by simp)⟩

end Go.Proofs.Ytogknbpbjgdldaa
