/- The walk of Hash.Sum. -/
import Derived.Test.YthojhmkahjpflaaDoorDigG
namespace Go.Proofs.YthojhmkahjpflaaDoor
open Go.RowKit Go.Dray

theorem HashAt.stInts {w : World} {g : Nat} {kind : Int} {st tl : List Int} {size : Int} (h : HashAt w g kind st tl size) {n : Nat} (hn : n ≤ 8) : Ints .u32 w (some ⟨g, 1, none⟩) n (st.take n) :=
  ⟨by rw [List.length_map, List.length_take, h.lst]; omega, fun _ => rfl, fun k u hu => by
    rw [List.getElem?_map] at hu
    cases hx : (st.take n)[k]? with
    | none => rw [hx] at hu; cases hu
    | some x =>
      rw [hx] at hu
      injection hu with hu
      subst hu
      have hk : k < n := by have := (List.getElem?_eq_some_iff.1 hx).1; rw [List.length_take] at this; omega
      rw [List.getElem?_take_of_lt hk] at hx
      exact h.state hx⟩

theorem compK_bd (kind : Int) (s ws : List Int) : ∀ x ∈ compK kind s ws, U32 x := by
  intro x hx
  unfold compK comp1 comp2 comp3 at hx
  split at hx
  · simp only [List.mem_cons, List.not_mem_nil, or_false] at hx
    rcases hx with rfl | rfl | rfl | rfl <;> exact add32_bd _ _
  · split at hx
    · simp only [List.mem_cons, List.not_mem_nil, or_false] at hx
      rcases hx with rfl | rfl | rfl | rfl | rfl <;> exact add32_bd _ _
    · simp only [List.mem_cons, List.not_mem_nil, or_false] at hx
      rcases hx with rfl | rfl | rfl | rfl | rfl | rfl | rfl | rfl <;> exact add32_bd _ _
theorem padded_blocks (kind : Int) (bs : List Int) : (padded kind bs).length % 64 = 0 ∧ 0 < (padded kind bs).length / 64 := by
  have h1 := padded_len kind bs
  have h2 := padN_spec bs.length
  omega
theorem runB_bd (kind : Int) (bs : List Int) {n : Nat} (hn : 0 < n) : ∀ x ∈ runB kind bs n, U32 x := by
  cases n with
  | zero => omega
  | succ n => exact compK_bd _ _ _

/-- The new hash's copy of the old one. -/
theorem hash_copy {w : World} {g g1 : Nat} {kind : Int} {bs tl : List Int} (h : HashIs w g kind bs tl) {st : List Int} (h1 : HashAt w g1 kind st tl (bs.length : Int)) (hst : st = stK kind (runB kind bs (bs.length / 64))) : HashIs w g1 kind bs tl := by
  subst hst
  exact ⟨h1, h.tail, h.bd⟩

theorem bytesK_take {kind : Int} {s : List Int} {k : Nat} {x : Int} (h : s[k]? = some x) : bytesK kind (s.take (k + 1)) = bytesK kind (s.take k) ++ numB kind x 4 := by
  obtain ⟨hk, he⟩ := List.getElem?_eq_some_iff.1 h
  rw [List.take_succ_eq_append_getElem hk, he, bytesK_snoc]

set_option maxRecDepth 100000 in
set_option maxHeartbeats 1000000 in
theorem sum1_any (w : World) (g : Nat) (bs tl : List Int) (h : HashIs w g 1 bs tl) (hT : Tabs w) (hg : 3 ≤ g) (hn : bs.length ≤ 1000000000000) :
    Calls Tryd.prog 15 #[.pointer (some ⟨g, 0, none⟩)] w (NewBytes 16 (sumK 1 bs) w) := by
  have HT := Lib.hid hT
  have HH := Lib.hid h
  obtain ⟨L, HL⟩ : ∃ L, Hid (L = bs.length) := ⟨_, rfl⟩
  rw [← HL.out] at hn
  have hk := h.at_.kind_
  have hs : w.cell? ⟨g, 73, none⟩ = some (.int .u64 (L : Int)) := by rw [HL.out]; exact h.at_.size_
  have h1 := hz_zero
  have h3 := hz_ne
  have h4 := hz_kind
  have h5 := hz_size
  have h6 : (hz 0 0).size = 74 := rfl
  clear h hT
  go_enter Tryd.func15, Tryd.ntmps15
  go_wp2
  go_still_tail 8, (by kernel_rfl)
  change wpList _ _ _ _ _ w.drew
  go_upto_region 2 with (fail)
  clear h1 h3 h4 h5 h6 hk hs
  obtain ⟨g1, HG1⟩ : ∃ g1, Hid (g1 = w.heap.size) := ⟨_, rfl⟩
  have HE1 : Hid (HashAt (w.alloc (.cells (hz 1 L) 50)).drew w.heap.size 1 [0, 0, 0, 0, 0, 0, 0, 0] (List.replicate 64 0) L) := ⟨(Blk.new _ _ _).drew, rfl, rfl⟩
  have HU1 : Hid (Upd [] w (w.alloc (.cells (hz 1 L) 50)).drew) := ((Upd.refl _ _).alloc _).drew
  have HGL : Hid (g < w.heap.size) := HH.out.at_.blk.lt
  rw [← HG1.out] at HE1 HGL ⊢
  generalize hw1 : (w.alloc _).drew = w1 at *
  have HH1 : Hid (HashIs w1 g 1 bs tl) := HH.out.upd HU1.out (by simp)
  clear hw1 HH
  obtain ⟨st, HST⟩ : ∃ st, Hid (st = stK 1 (runB 1 bs (bs.length / 64))) := ⟨_, rfl⟩
  have HSL : Hid (st.length = 8) := by rw [HST.out]; exact HH1.out.at_.lst
  have hsrc := (HH1.out.at_.drewN 1).stInts (n := 8) (by omega)
  rw [← HST.out, List.take_of_length_le (by rw [HSL.out]; omega)] at hsrc
  obtain ⟨w2, hr2, hh2, hu2⟩ := hash_copyS (HE1.out.drewN 1) (c := 8) hsrc (by omega) (by omega)
  have hr2' : ∀ ty, (Builtin.copy_ #[40, 40] ty #[.slice (some ⟨g1, 1, none⟩) 8 8, .slice (some ⟨g, 1, none⟩) 8 8]).run Tryd.prog w1.drew = .ok (goInt 8) w2 := hr2
  have HE2 : Hid (HashAt w2 g1 1 st (List.replicate 64 0) L) := by
    have h := hh2
    simp at h
    exact h
  have HV2 := Lib.hid (hu2 [some g1] w1 ((Upd.refl _ w1).drew) (Or.inl (by simp)))
  clear hr2 hh2 hu2 hsrc
  go_still_tail 8, (by kernel_rfl)
  change wpList _ _ _ _ _ w1.drew
  go_wp2
  clear hr2'
  have HH2 : Hid (HashIs w2 g 1 bs tl) := HH1.out.upd HV2.out (by have := HGL.out; simp; omega)
  have HU2 : Hid (Upd [] w w2) := HU1.out.then HV2.out (by have := HG1.out; intro b hb; right; simp at hb; omega)
  clear HH1 HU1 HV2 HE1
  have hsrc := (HH2.out.at_.drewN 1).tailInts
  obtain ⟨w3, hr3, hh3, hu3⟩ := hash_copyT (HE2.out.drewN 1) (c := 64) (k := 0) hsrc (by omega) (by omega)
  have hr3' : ∀ ty, (Builtin.copy_ #[22, 22] ty #[.slice (some ⟨g1, 9, none⟩) 64 64, .slice (some ⟨g, 9, none⟩) 64 64]).run Tryd.prog w2.drew = .ok (goInt 64) w3 := hr3
  have HE3 : Hid (HashAt w3 g1 1 st tl L) := by
    have h := hh3
    have e : (List.replicate 64 (0 : Int)).take 0 ++ tl.take (64 - 0) ++ (List.replicate 64 (0 : Int)).drop (0 + min 64 (64 - 0)) = tl := by
      rw [List.take_of_length_le (l := tl) (by rw [HH2.out.at_.ltl]; omega)]
      simp
    rw [e] at h
    exact h
  have HV3 := Lib.hid (hu3 [some g1] w2 ((Upd.refl _ w2).drew) (Or.inl (by simp)))
  clear hr3 hh3 hu3 hsrc
  have HH3 : Hid (HashIs w3 g 1 bs tl) := HH2.out.upd HV3.out (by have := HGL.out; simp; omega)
  have hk3 := HH3.out.at_.kind_
  go_still_tail 8, (by kernel_rfl)
  change wpList _ _ _ _ _ w2.drew
  go_wp2_with fail
  clear hr3' hk3
  have HU3 : Hid (Upd [] w w3) := HU2.out.then HV3.out (by have := HG1.out; intro b hb; right; simp at hb; omega)
  have HN3 : Hid (HashIs w3 g1 1 bs tl) := hash_copy HH3.out (by rw [← HL.out]; exact HE3.out) HST.out
  clear HH2 HU2 HV3 HE2 HE3
  have HT3 : Hid (Tabs w3) := HT.out.upd HU3.out (by simp)
  have hg13 : 3 ≤ g1 := by have := HGL.out; omega
  refine (write_any _ g1 1 (by unfold IsKind; omega) bs tl (HN3.out.upd ((Upd.refl [] w3).alloc _) (by simp)) _ 1 1 [128] (Ints.lit w3 .u8 _ [128]) (by simp) (by omega) (fun _ => by have := HN3.out.at_.blk.lt; show w3.heap.size ≠ g1; omega) (HT3.out.upd ((Upd.refl [] w3).alloc _) (by simp)) hg13 (by have := HL.out; omega)).mono ?_
  rintro e w4 ⟨rfl, ⟨tl4, hn4⟩, hu4⟩
  have HN4 := Lib.hid hn4
  have HV4 : Hid (Upd [some g1] w3 w4) := ((Upd.refl _ w3).alloc _).trans hu4
  have HU4 : Hid (Upd [] w w4) := HU3.out.then HV4.out (by have := HG1.out; intro b hb; right; simp at hb; omega)
  have HH4 : Hid (HashIs w4 g 1 bs tl) := HH3.out.upd HV4.out (by have := HGL.out; simp; omega)
  clear hn4 hu4 HV4 HH3 HU3 HN3 HT3
  obtain ⟨P, HP⟩ : ∃ P, Hid (P = padN L) := ⟨_, rfl⟩
  have hpl : P < 64 := by rw [HP.out]; exact (padN_spec L).2
  go_wp2_with fail
  go_loopw [45] (fun _ wr => ∃ (j : Nat) (tl' : List Int), j ≤ P ∧ Hid (HashIs wr g1 1 (bs ++ [128] ++ List.replicate j 0) tl') ∧ Hid (HashIs wr g 1 bs tl) ∧ Hid (Upd [] w wr)) (fun _ wr => match wr.cell? ⟨g1, 73, none⟩ with | some (.int _ s) => (2000000000000 - s).toNat | _ => 0)
  case atStart => exact ⟨0, tl4, by omega, by show HashIs _ _ _ _ _; simpa using HN4.out, HH4, HU4⟩
  case round =>
    clear HN4 HH4 HU4
    obtain ⟨j, tl', hj, HNr, HHr, HUr⟩ := hrel
    obtain ⟨M, HM⟩ : ∃ M, Hid (M = L + 1 + j) := ⟨_, rfl⟩
    have HML : Hid ((bs ++ [128] ++ List.replicate j 0).length = M) := by
      show _ = _
      rw [HM.out, HL.out]
      simp
      omega
    have hsr : wr.cell? ⟨g1, 73, none⟩ = some (.int .u64 (M : Int)) := by rw [← HML.out]; exact HNr.out.at_.size_
    have hMb : M ≤ 1000000000100 := by have := HM.out; omega
    by_cases hlt : j < P
    · have d1 : ((M : Int) % 64 != 56) = true := by
        have h1 := HM.out
        have h2 := HP.out
        unfold padN at h2
        simp
        omega
      have HTr : Hid (Tabs wr) := HT.out.upd HUr.out (by simp)
      go_wp2_with fail
      refine (write_any _ g1 1 (by unfold IsKind; omega) (bs ++ [128] ++ List.replicate j 0) tl' (HNr.out.upd ((Upd.refl [] wr).alloc _) (by simp)) _ 1 1 [0] (Ints.lit wr .u8 _ [0]) (by simp) (by omega) (fun _ => by have := HNr.out.at_.blk.lt; show wr.heap.size ≠ g1; omega) (HTr.out.upd ((Upd.refl [] wr).alloc _) (by simp)) hg13 (by rw [HML.out]; omega)).mono ?_
      rintro e w5 ⟨rfl, ⟨tl5, hn5⟩, hu5⟩
      have HN5 : Hid (HashIs w5 g1 1 (bs ++ [128] ++ List.replicate (j + 1) 0) tl5) := by
        show HashIs _ _ _ _ _
        rw [List.replicate_succ', ← List.append_assoc]
        exact hn5
      have HV5 : Hid (Upd [some g1] wr w5) := ((Upd.refl _ wr).alloc _).trans hu5
      have HU5 : Hid (Upd [] w w5) := HUr.out.then HV5.out (by have := HG1.out; intro b hb; right; simp at hb; omega)
      have HH5 : Hid (HashIs w5 g 1 bs tl) := HHr.out.upd HV5.out (by have := HGL.out; simp; omega)
      have HSZ5 : Hid (w5.cell? ⟨g1, 73, none⟩ = some (.int .u64 ((M + 1 : Nat) : Int))) := by
        have h := HN5.out.at_.size_
        have e : (bs ++ [128] ++ List.replicate (j + 1) 0).length = M + 1 := by
          rw [List.replicate_succ', ← List.append_assoc, List.length_append, HML.out]
          rfl
        rw [e] at h
        exact h
      have HSR := Lib.hid hsr
      clear hn5 hu5 hsr d1
      go_wp2
      go_roundw
      case rel => exact ⟨j + 1, tl5, by omega, HN5, HH5, HU5⟩
      case measure =>
        rw [HSZ5.out, HSR.out]
        simp
        omega
    · obtain rfl : j = P := by omega
      have d1 : ((M : Int) % 64 != 56) = false := by
        have h1 := HM.out
        have h2 := HP.out
        unfold padN at h2
        simp
        omega
      have hsg : wr.cell? ⟨g, 73, none⟩ = some (.int .u64 (L : Int)) := by rw [HL.out]; exact HHr.out.at_.size_
      go_wp2_with fail
      refine (le_any wr ((L : Int) * 8) 8 (by omega) (by omega)).mono ?_
      rintro e w6 ⟨NA, nc, rfl, hno, hv6⟩
      have HNO := Lib.hid hno
      have HN6 : Hid (HashIs w6 g1 1 (bs ++ [128] ++ List.replicate j 0) tl') := HNr.out.upd hv6 (by simp)
      have HH6 : Hid (HashIs w6 g 1 bs tl) := HHr.out.upd hv6 (by simp)
      have HU6 : Hid (Upd [] w w6) := HUr.out.trans hv6
      have HT6 : Hid (Tabs w6) := HT.out.upd HU6.out (by simp)
      have HG1r : Hid (g1 < wr.heap.size) := HNr.out.at_.blk.lt
      clear hno hv6 hsg hsr d1 HNr HHr HUr
      go_wp2_with fail
      refine (write_any w6 g1 1 (by unfold IsKind; omega) _ tl' HN6.out NA 8 nc _ (Ints.ofOwn HNO.out) (by first | exact leB_bd _ _ | exact beB_bd _ _) HNO.out.le (fun hp => by have h := (HNO.out.base (HNO.out.obl hp)).1; have := HG1r.out; omega) HT6.out hg13 (by rw [HML.out]; omega)).mono ?_
      rintro e w7 ⟨rfl, ⟨tl7, hn7⟩, hu7⟩
      obtain ⟨bs4, HB4⟩ : ∃ bs4, Hid (bs4 = padded 1 bs) := ⟨_, rfl⟩
      have HN7 : Hid (HashIs w7 g1 1 bs4 tl7) := by
        have e : bs ++ [128] ++ List.replicate j 0 ++ leB ((L : Int) * 8) (8 : Int).toNat = bs4 := by
          rw [HB4.out, HP.out, HL.out, Int.mul_comm]
          rfl
        rw [e] at hn7
        exact hn7
      have HU7 : Hid (Upd [] w w7) := HU6.out.then hu7 (by have := HG1.out; intro b hb; right; simp at hb; omega)
      have HH7 : Hid (HashIs w7 g 1 bs tl) := HH6.out.upd hu7 (by have := HGL.out; simp; omega)
      clear hn7 hu7 HN6 HU6 HH6 HT6 HNO HG1r HML HM
      obtain ⟨S, HS⟩ : ∃ S, Hid (S = runB 1 bs4 (bs4.length / 64)) := ⟨_, rfl⟩
      have HSN : Hid (S.length = 4) := by rw [HS.out]; exact runB_len _ _ _
      have HSB : Hid (∀ x ∈ S, U32 x) := by rw [HS.out, HB4.out]; exact runB_bd _ _ (padded_blocks _ _).2
      have HSI : Hid (Ints .u32 w7 (some ⟨g1, 1, none⟩) 4 S) := by
        have h := HN7.out.at_.stInts (n := 4) (by omega)
        rw [← HS.out, stK, List.take_append_of_le_length (by rw [HSN.out]; omega), List.take_of_length_le (by rw [HSN.out]; omega)] at h
        exact h
      have hk7 := HH7.out.at_.kind_
      clear HN7 HH7
      go_wp2_with fail
      clear hk7
      go_loopw [6, 77] (fun x i wr => ∃ (k : Nat) (X : Option Addr) (xc : Nat), k ≤ 4 ∧ i = .int .i64 k ∧ x = .slice X (4 * k) xc ∧ Hid (Own wr w.heap.size 5 1 X (4 * k) xc ((bytesK 1 (S.take k)).map (Value.int .u8))) ∧ Hid (Ints .u32 wr (some ⟨g1, 1, none⟩) 4 S) ∧ Hid (∀ b, ob X = some b → b ≠ g1) ∧ Hid (Upd [] w wr) ∧ Hid (w7.heap.size ≤ wr.heap.size)) (fun _ i _ => 4 - (intOf i).toNat)
      case atStart => exact ⟨0, none, 0, by omega, rfl, rfl, Own.nil _ _ _ _, HSI, (fun b hb => by cases hb), HU7, Nat.le_refl _⟩
      case round =>
        clear HU7
        obtain ⟨k, X, xc, hk, rfl, rfl, HO, HIr, HX1, HUr, HSZ⟩ := hrel
        by_cases hlt : k < 4
        · obtain ⟨x, HX, hcell⟩ := HIr.out.int hlt
          have hix := HIr.out.index el_u32 8 .i64 k hlt
          have hxb := HSB.out x (List.mem_of_getElem? HX.out)
          unfold U32 at hxb
          have hx0 := hxb.1
          have hx1 := hxb.2
          clear hxb
          go_wp2_with fail
          refine (le_any wr x 4 (by omega) (by omega)).mono ?_
          rintro e w8 ⟨NA8, nc8, rfl, hno8, hv8⟩
          have HO8 := Lib.hid (HO.out.upd hv8 (by simp))
          have HI8 := Lib.hid (HIr.out.upd hv8 (by simp))
          have HU8 := Lib.hid (HUr.out.trans hv8)
          have HNO8 := Lib.hid hno8
          have HSZ8 : Hid (w7.heap.size ≤ w8.heap.size) := Nat.le_trans HSZ.out hv8.size
          clear hno8 hv8 HO HIr hcell hix
          go_wp2_with (at_builtin; refine wpList_app rfl rfl el_byte rfl HO8.out rfl HNO8.out.seg (ints_one _ _) (by simp only [maxLen]; omega) (by omega) HU8.out.size ?_; intro X9 c9 w9 hown9 hu9 hfr9)
          have HO9 : Hid (Own w9 w.heap.size 5 1 X9 (4 * (k + 1)) c9 ((bytesK 1 (S.take (k + 1))).map (Value.int .u8))) := by
            rw [bytesK_take HX.out, List.map_append]
            exact hown9
          have HI9 := Lib.hid (HI8.out.upd hu9 (fun _ => by simp; exact fun h => HX1.out _ h.symm rfl))
          have HU9 := Lib.hid (HU8.out.then hu9 (fun b hb => by simp at hb; right; exact (HO8.out.base hb.symm).1))
          have HX9 : Hid (∀ b, ob X9 = some b → b ≠ g1) := fun b hb => by
            rcases hfr9 b hb with h | h
            · exact HX1.out b h
            · have h1 := Seg.lt HI8.out (by omega) (by omega)
              simp [bl] at h1
              omega
          have HSZ9 : Hid (w7.heap.size ≤ w9.heap.size) := Nat.le_trans HSZ8.out hu9.size
          clear hown9 hu9 hfr9 HO8 HI8 HU8 HNO8
          go_roundw
          case rel => exact ⟨k + 1, X9, c9, by omega, by go_num, rfl, HO9, HI9, HX9, HU9, HSZ9⟩
          case measure => simp [intOf]; omega
        · obtain rfl : k = 4 := by omega
          go_wp2
          go_ret
          refine ⟨X, xc, rfl, ?_, HUr.out⟩
          have h := HO.out
          rw [List.take_of_length_le (by rw [HSN.out]; omega), HS.out, HB4.out] at h
          exact h

set_option maxRecDepth 100000 in
set_option maxHeartbeats 1000000 in
theorem sum2_any (w : World) (g : Nat) (bs tl : List Int) (h : HashIs w g 2 bs tl) (hT : Tabs w) (hg : 3 ≤ g) (hn : bs.length ≤ 1000000000000) :
    Calls Tryd.prog 15 #[.pointer (some ⟨g, 0, none⟩)] w (NewBytes 20 (sumK 2 bs) w) := by
  have HT := Lib.hid hT
  have HH := Lib.hid h
  obtain ⟨L, HL⟩ : ∃ L, Hid (L = bs.length) := ⟨_, rfl⟩
  rw [← HL.out] at hn
  have hk := h.at_.kind_
  have hs : w.cell? ⟨g, 73, none⟩ = some (.int .u64 (L : Int)) := by rw [HL.out]; exact h.at_.size_
  have h1 := hz_zero
  have h3 := hz_ne
  have h4 := hz_kind
  have h5 := hz_size
  have h6 : (hz 0 0).size = 74 := rfl
  clear h hT
  go_enter Tryd.func15, Tryd.ntmps15
  go_wp2
  go_still_tail 8, (by kernel_rfl)
  change wpList _ _ _ _ _ w.drew
  go_upto_region 2 with (fail)
  clear h1 h3 h4 h5 h6 hk hs
  obtain ⟨g1, HG1⟩ : ∃ g1, Hid (g1 = w.heap.size) := ⟨_, rfl⟩
  have HE1 : Hid (HashAt (w.alloc (.cells (hz 2 L) 50)).drew w.heap.size 2 [0, 0, 0, 0, 0, 0, 0, 0] (List.replicate 64 0) L) := ⟨(Blk.new _ _ _).drew, rfl, rfl⟩
  have HU1 : Hid (Upd [] w (w.alloc (.cells (hz 2 L) 50)).drew) := ((Upd.refl _ _).alloc _).drew
  have HGL : Hid (g < w.heap.size) := HH.out.at_.blk.lt
  rw [← HG1.out] at HE1 HGL ⊢
  generalize hw1 : (w.alloc _).drew = w1 at *
  have HH1 : Hid (HashIs w1 g 2 bs tl) := HH.out.upd HU1.out (by simp)
  clear hw1 HH
  obtain ⟨st, HST⟩ : ∃ st, Hid (st = stK 2 (runB 2 bs (bs.length / 64))) := ⟨_, rfl⟩
  have HSL : Hid (st.length = 8) := by rw [HST.out]; exact HH1.out.at_.lst
  have hsrc := (HH1.out.at_.drewN 1).stInts (n := 8) (by omega)
  rw [← HST.out, List.take_of_length_le (by rw [HSL.out]; omega)] at hsrc
  obtain ⟨w2, hr2, hh2, hu2⟩ := hash_copyS (HE1.out.drewN 1) (c := 8) hsrc (by omega) (by omega)
  have hr2' : ∀ ty, (Builtin.copy_ #[40, 40] ty #[.slice (some ⟨g1, 1, none⟩) 8 8, .slice (some ⟨g, 1, none⟩) 8 8]).run Tryd.prog w1.drew = .ok (goInt 8) w2 := hr2
  have HE2 : Hid (HashAt w2 g1 2 st (List.replicate 64 0) L) := by
    have h := hh2
    simp at h
    exact h
  have HV2 := Lib.hid (hu2 [some g1] w1 ((Upd.refl _ w1).drew) (Or.inl (by simp)))
  clear hr2 hh2 hu2 hsrc
  go_still_tail 8, (by kernel_rfl)
  change wpList _ _ _ _ _ w1.drew
  go_wp2
  clear hr2'
  have HH2 : Hid (HashIs w2 g 2 bs tl) := HH1.out.upd HV2.out (by have := HGL.out; simp; omega)
  have HU2 : Hid (Upd [] w w2) := HU1.out.then HV2.out (by have := HG1.out; intro b hb; right; simp at hb; omega)
  clear HH1 HU1 HV2 HE1
  have hsrc := (HH2.out.at_.drewN 1).tailInts
  obtain ⟨w3, hr3, hh3, hu3⟩ := hash_copyT (HE2.out.drewN 1) (c := 64) (k := 0) hsrc (by omega) (by omega)
  have hr3' : ∀ ty, (Builtin.copy_ #[22, 22] ty #[.slice (some ⟨g1, 9, none⟩) 64 64, .slice (some ⟨g, 9, none⟩) 64 64]).run Tryd.prog w2.drew = .ok (goInt 64) w3 := hr3
  have HE3 : Hid (HashAt w3 g1 2 st tl L) := by
    have h := hh3
    have e : (List.replicate 64 (0 : Int)).take 0 ++ tl.take (64 - 0) ++ (List.replicate 64 (0 : Int)).drop (0 + min 64 (64 - 0)) = tl := by
      rw [List.take_of_length_le (l := tl) (by rw [HH2.out.at_.ltl]; omega)]
      simp
    rw [e] at h
    exact h
  have HV3 := Lib.hid (hu3 [some g1] w2 ((Upd.refl _ w2).drew) (Or.inl (by simp)))
  clear hr3 hh3 hu3 hsrc
  have HH3 : Hid (HashIs w3 g 2 bs tl) := HH2.out.upd HV3.out (by have := HGL.out; simp; omega)
  have hk3 := HH3.out.at_.kind_
  go_still_tail 8, (by kernel_rfl)
  change wpList _ _ _ _ _ w2.drew
  go_wp2_with fail
  clear hr3' hk3
  have HU3 : Hid (Upd [] w w3) := HU2.out.then HV3.out (by have := HG1.out; intro b hb; right; simp at hb; omega)
  have HN3 : Hid (HashIs w3 g1 2 bs tl) := hash_copy HH3.out (by rw [← HL.out]; exact HE3.out) HST.out
  clear HH2 HU2 HV3 HE2 HE3
  have HT3 : Hid (Tabs w3) := HT.out.upd HU3.out (by simp)
  have hg13 : 3 ≤ g1 := by have := HGL.out; omega
  refine (write_any _ g1 2 (by unfold IsKind; omega) bs tl (HN3.out.upd ((Upd.refl [] w3).alloc _) (by simp)) _ 1 1 [128] (Ints.lit w3 .u8 _ [128]) (by simp) (by omega) (fun _ => by have := HN3.out.at_.blk.lt; show w3.heap.size ≠ g1; omega) (HT3.out.upd ((Upd.refl [] w3).alloc _) (by simp)) hg13 (by have := HL.out; omega)).mono ?_
  rintro e w4 ⟨rfl, ⟨tl4, hn4⟩, hu4⟩
  have HN4 := Lib.hid hn4
  have HV4 : Hid (Upd [some g1] w3 w4) := ((Upd.refl _ w3).alloc _).trans hu4
  have HU4 : Hid (Upd [] w w4) := HU3.out.then HV4.out (by have := HG1.out; intro b hb; right; simp at hb; omega)
  have HH4 : Hid (HashIs w4 g 2 bs tl) := HH3.out.upd HV4.out (by have := HGL.out; simp; omega)
  clear hn4 hu4 HV4 HH3 HU3 HN3 HT3
  obtain ⟨P, HP⟩ : ∃ P, Hid (P = padN L) := ⟨_, rfl⟩
  have hpl : P < 64 := by rw [HP.out]; exact (padN_spec L).2
  go_wp2_with fail
  go_loopw [45] (fun _ wr => ∃ (j : Nat) (tl' : List Int), j ≤ P ∧ Hid (HashIs wr g1 2 (bs ++ [128] ++ List.replicate j 0) tl') ∧ Hid (HashIs wr g 2 bs tl) ∧ Hid (Upd [] w wr)) (fun _ wr => match wr.cell? ⟨g1, 73, none⟩ with | some (.int _ s) => (2000000000000 - s).toNat | _ => 0)
  case atStart => exact ⟨0, tl4, by omega, by show HashIs _ _ _ _ _; simpa using HN4.out, HH4, HU4⟩
  case round =>
    clear HN4 HH4 HU4
    obtain ⟨j, tl', hj, HNr, HHr, HUr⟩ := hrel
    obtain ⟨M, HM⟩ : ∃ M, Hid (M = L + 1 + j) := ⟨_, rfl⟩
    have HML : Hid ((bs ++ [128] ++ List.replicate j 0).length = M) := by
      show _ = _
      rw [HM.out, HL.out]
      simp
      omega
    have hsr : wr.cell? ⟨g1, 73, none⟩ = some (.int .u64 (M : Int)) := by rw [← HML.out]; exact HNr.out.at_.size_
    have hMb : M ≤ 1000000000100 := by have := HM.out; omega
    by_cases hlt : j < P
    · have d1 : ((M : Int) % 64 != 56) = true := by
        have h1 := HM.out
        have h2 := HP.out
        unfold padN at h2
        simp
        omega
      have HTr : Hid (Tabs wr) := HT.out.upd HUr.out (by simp)
      go_wp2_with fail
      refine (write_any _ g1 2 (by unfold IsKind; omega) (bs ++ [128] ++ List.replicate j 0) tl' (HNr.out.upd ((Upd.refl [] wr).alloc _) (by simp)) _ 1 1 [0] (Ints.lit wr .u8 _ [0]) (by simp) (by omega) (fun _ => by have := HNr.out.at_.blk.lt; show wr.heap.size ≠ g1; omega) (HTr.out.upd ((Upd.refl [] wr).alloc _) (by simp)) hg13 (by rw [HML.out]; omega)).mono ?_
      rintro e w5 ⟨rfl, ⟨tl5, hn5⟩, hu5⟩
      have HN5 : Hid (HashIs w5 g1 2 (bs ++ [128] ++ List.replicate (j + 1) 0) tl5) := by
        show HashIs _ _ _ _ _
        rw [List.replicate_succ', ← List.append_assoc]
        exact hn5
      have HV5 : Hid (Upd [some g1] wr w5) := ((Upd.refl _ wr).alloc _).trans hu5
      have HU5 : Hid (Upd [] w w5) := HUr.out.then HV5.out (by have := HG1.out; intro b hb; right; simp at hb; omega)
      have HH5 : Hid (HashIs w5 g 2 bs tl) := HHr.out.upd HV5.out (by have := HGL.out; simp; omega)
      have HSZ5 : Hid (w5.cell? ⟨g1, 73, none⟩ = some (.int .u64 ((M + 1 : Nat) : Int))) := by
        have h := HN5.out.at_.size_
        have e : (bs ++ [128] ++ List.replicate (j + 1) 0).length = M + 1 := by
          rw [List.replicate_succ', ← List.append_assoc, List.length_append, HML.out]
          rfl
        rw [e] at h
        exact h
      have HSR := Lib.hid hsr
      clear hn5 hu5 hsr d1
      go_wp2
      go_roundw
      case rel => exact ⟨j + 1, tl5, by omega, HN5, HH5, HU5⟩
      case measure =>
        rw [HSZ5.out, HSR.out]
        simp
        omega
    · obtain rfl : j = P := by omega
      have d1 : ((M : Int) % 64 != 56) = false := by
        have h1 := HM.out
        have h2 := HP.out
        unfold padN at h2
        simp
        omega
      have hsg : wr.cell? ⟨g, 73, none⟩ = some (.int .u64 (L : Int)) := by rw [HL.out]; exact HHr.out.at_.size_
      go_wp2_with fail
      refine (be_any wr ((L : Int) * 8) 8 (by omega) (by omega)).mono ?_
      rintro e w6 ⟨NA, nc, rfl, hno, hv6⟩
      have HNO := Lib.hid hno
      have HN6 : Hid (HashIs w6 g1 2 (bs ++ [128] ++ List.replicate j 0) tl') := HNr.out.upd hv6 (by simp)
      have HH6 : Hid (HashIs w6 g 2 bs tl) := HHr.out.upd hv6 (by simp)
      have HU6 : Hid (Upd [] w w6) := HUr.out.trans hv6
      have HT6 : Hid (Tabs w6) := HT.out.upd HU6.out (by simp)
      have HG1r : Hid (g1 < wr.heap.size) := HNr.out.at_.blk.lt
      clear hno hv6 hsg hsr d1 HNr HHr HUr
      go_wp2_with fail
      refine (write_any w6 g1 2 (by unfold IsKind; omega) _ tl' HN6.out NA 8 nc _ (Ints.ofOwn HNO.out) (by first | exact leB_bd _ _ | exact beB_bd _ _) HNO.out.le (fun hp => by have h := (HNO.out.base (HNO.out.obl hp)).1; have := HG1r.out; omega) HT6.out hg13 (by rw [HML.out]; omega)).mono ?_
      rintro e w7 ⟨rfl, ⟨tl7, hn7⟩, hu7⟩
      obtain ⟨bs4, HB4⟩ : ∃ bs4, Hid (bs4 = padded 2 bs) := ⟨_, rfl⟩
      have HN7 : Hid (HashIs w7 g1 2 bs4 tl7) := by
        have e : bs ++ [128] ++ List.replicate j 0 ++ beB ((L : Int) * 8) (8 : Int).toNat = bs4 := by
          rw [HB4.out, HP.out, HL.out, Int.mul_comm]
          rfl
        rw [e] at hn7
        exact hn7
      have HU7 : Hid (Upd [] w w7) := HU6.out.then hu7 (by have := HG1.out; intro b hb; right; simp at hb; omega)
      have HH7 : Hid (HashIs w7 g 2 bs tl) := HH6.out.upd hu7 (by have := HGL.out; simp; omega)
      clear hn7 hu7 HN6 HU6 HH6 HT6 HNO HG1r HML HM
      obtain ⟨S, HS⟩ : ∃ S, Hid (S = runB 2 bs4 (bs4.length / 64)) := ⟨_, rfl⟩
      have HSN : Hid (S.length = 5) := by rw [HS.out]; exact runB_len _ _ _
      have HSB : Hid (∀ x ∈ S, U32 x) := by rw [HS.out, HB4.out]; exact runB_bd _ _ (padded_blocks _ _).2
      have HSI : Hid (Ints .u32 w7 (some ⟨g1, 1, none⟩) 5 S) := by
        have h := HN7.out.at_.stInts (n := 5) (by omega)
        rw [← HS.out, stK, List.take_append_of_le_length (by rw [HSN.out]; omega), List.take_of_length_le (by rw [HSN.out]; omega)] at h
        exact h
      have hk7 := HH7.out.at_.kind_
      clear HN7 HH7
      go_wp2_with fail
      clear hk7
      go_loopw [6, 77] (fun x i wr => ∃ (k : Nat) (X : Option Addr) (xc : Nat), k ≤ 5 ∧ i = .int .i64 k ∧ x = .slice X (4 * k) xc ∧ Hid (Own wr w.heap.size 5 1 X (4 * k) xc ((bytesK 2 (S.take k)).map (Value.int .u8))) ∧ Hid (Ints .u32 wr (some ⟨g1, 1, none⟩) 5 S) ∧ Hid (∀ b, ob X = some b → b ≠ g1) ∧ Hid (Upd [] w wr) ∧ Hid (w7.heap.size ≤ wr.heap.size)) (fun _ i _ => 5 - (intOf i).toNat)
      case atStart => exact ⟨0, none, 0, by omega, rfl, rfl, Own.nil _ _ _ _, HSI, (fun b hb => by cases hb), HU7, Nat.le_refl _⟩
      case round =>
        clear HU7
        obtain ⟨k, X, xc, hk, rfl, rfl, HO, HIr, HX1, HUr, HSZ⟩ := hrel
        by_cases hlt : k < 5
        · obtain ⟨x, HX, hcell⟩ := HIr.out.int hlt
          have hix := HIr.out.index el_u32 8 .i64 k hlt
          have hxb := HSB.out x (List.mem_of_getElem? HX.out)
          unfold U32 at hxb
          have hx0 := hxb.1
          have hx1 := hxb.2
          clear hxb
          go_wp2_with fail
          refine (be_any wr x 4 (by omega) (by omega)).mono ?_
          rintro e w8 ⟨NA8, nc8, rfl, hno8, hv8⟩
          have HO8 := Lib.hid (HO.out.upd hv8 (by simp))
          have HI8 := Lib.hid (HIr.out.upd hv8 (by simp))
          have HU8 := Lib.hid (HUr.out.trans hv8)
          have HNO8 := Lib.hid hno8
          have HSZ8 : Hid (w7.heap.size ≤ w8.heap.size) := Nat.le_trans HSZ.out hv8.size
          clear hno8 hv8 HO HIr hcell hix
          go_wp2_with (at_builtin; refine wpList_app rfl rfl el_byte rfl HO8.out rfl HNO8.out.seg (ints_one _ _) (by simp only [maxLen]; omega) (by omega) HU8.out.size ?_; intro X9 c9 w9 hown9 hu9 hfr9)
          have HO9 : Hid (Own w9 w.heap.size 5 1 X9 (4 * (k + 1)) c9 ((bytesK 2 (S.take (k + 1))).map (Value.int .u8))) := by
            rw [bytesK_take HX.out, List.map_append]
            exact hown9
          have HI9 := Lib.hid (HI8.out.upd hu9 (fun _ => by simp; exact fun h => HX1.out _ h.symm rfl))
          have HU9 := Lib.hid (HU8.out.then hu9 (fun b hb => by simp at hb; right; exact (HO8.out.base hb.symm).1))
          have HX9 : Hid (∀ b, ob X9 = some b → b ≠ g1) := fun b hb => by
            rcases hfr9 b hb with h | h
            · exact HX1.out b h
            · have h1 := Seg.lt HI8.out (by omega) (by omega)
              simp [bl] at h1
              omega
          have HSZ9 : Hid (w7.heap.size ≤ w9.heap.size) := Nat.le_trans HSZ8.out hu9.size
          clear hown9 hu9 hfr9 HO8 HI8 HU8 HNO8
          go_roundw
          case rel => exact ⟨k + 1, X9, c9, by omega, by go_num, rfl, HO9, HI9, HX9, HU9, HSZ9⟩
          case measure => simp [intOf]; omega
        · obtain rfl : k = 5 := by omega
          go_wp2
          go_ret
          refine ⟨X, xc, rfl, ?_, HUr.out⟩
          have h := HO.out
          rw [List.take_of_length_le (by rw [HSN.out]; omega), HS.out, HB4.out] at h
          exact h

set_option maxRecDepth 100000 in
set_option maxHeartbeats 1000000 in
theorem sum3_any (w : World) (g : Nat) (bs tl : List Int) (h : HashIs w g 3 bs tl) (hT : Tabs w) (hg : 3 ≤ g) (hn : bs.length ≤ 1000000000000) :
    Calls Tryd.prog 15 #[.pointer (some ⟨g, 0, none⟩)] w (NewBytes 32 (sumK 3 bs) w) := by
  have HT := Lib.hid hT
  have HH := Lib.hid h
  obtain ⟨L, HL⟩ : ∃ L, Hid (L = bs.length) := ⟨_, rfl⟩
  rw [← HL.out] at hn
  have hk := h.at_.kind_
  have hs : w.cell? ⟨g, 73, none⟩ = some (.int .u64 (L : Int)) := by rw [HL.out]; exact h.at_.size_
  have h1 := hz_zero
  have h3 := hz_ne
  have h4 := hz_kind
  have h5 := hz_size
  have h6 : (hz 0 0).size = 74 := rfl
  clear h hT
  go_enter Tryd.func15, Tryd.ntmps15
  go_wp2
  go_still_tail 8, (by kernel_rfl)
  change wpList _ _ _ _ _ w.drew
  go_upto_region 2 with (fail)
  clear h1 h3 h4 h5 h6 hk hs
  obtain ⟨g1, HG1⟩ : ∃ g1, Hid (g1 = w.heap.size) := ⟨_, rfl⟩
  have HE1 : Hid (HashAt (w.alloc (.cells (hz 3 L) 50)).drew w.heap.size 3 [0, 0, 0, 0, 0, 0, 0, 0] (List.replicate 64 0) L) := ⟨(Blk.new _ _ _).drew, rfl, rfl⟩
  have HU1 : Hid (Upd [] w (w.alloc (.cells (hz 3 L) 50)).drew) := ((Upd.refl _ _).alloc _).drew
  have HGL : Hid (g < w.heap.size) := HH.out.at_.blk.lt
  rw [← HG1.out] at HE1 HGL ⊢
  generalize hw1 : (w.alloc _).drew = w1 at *
  have HH1 : Hid (HashIs w1 g 3 bs tl) := HH.out.upd HU1.out (by simp)
  clear hw1 HH
  obtain ⟨st, HST⟩ : ∃ st, Hid (st = stK 3 (runB 3 bs (bs.length / 64))) := ⟨_, rfl⟩
  have HSL : Hid (st.length = 8) := by rw [HST.out]; exact HH1.out.at_.lst
  have hsrc := (HH1.out.at_.drewN 1).stInts (n := 8) (by omega)
  rw [← HST.out, List.take_of_length_le (by rw [HSL.out]; omega)] at hsrc
  obtain ⟨w2, hr2, hh2, hu2⟩ := hash_copyS (HE1.out.drewN 1) (c := 8) hsrc (by omega) (by omega)
  have hr2' : ∀ ty, (Builtin.copy_ #[40, 40] ty #[.slice (some ⟨g1, 1, none⟩) 8 8, .slice (some ⟨g, 1, none⟩) 8 8]).run Tryd.prog w1.drew = .ok (goInt 8) w2 := hr2
  have HE2 : Hid (HashAt w2 g1 3 st (List.replicate 64 0) L) := by
    have h := hh2
    simp at h
    exact h
  have HV2 := Lib.hid (hu2 [some g1] w1 ((Upd.refl _ w1).drew) (Or.inl (by simp)))
  clear hr2 hh2 hu2 hsrc
  go_still_tail 8, (by kernel_rfl)
  change wpList _ _ _ _ _ w1.drew
  go_wp2
  clear hr2'
  have HH2 : Hid (HashIs w2 g 3 bs tl) := HH1.out.upd HV2.out (by have := HGL.out; simp; omega)
  have HU2 : Hid (Upd [] w w2) := HU1.out.then HV2.out (by have := HG1.out; intro b hb; right; simp at hb; omega)
  clear HH1 HU1 HV2 HE1
  have hsrc := (HH2.out.at_.drewN 1).tailInts
  obtain ⟨w3, hr3, hh3, hu3⟩ := hash_copyT (HE2.out.drewN 1) (c := 64) (k := 0) hsrc (by omega) (by omega)
  have hr3' : ∀ ty, (Builtin.copy_ #[22, 22] ty #[.slice (some ⟨g1, 9, none⟩) 64 64, .slice (some ⟨g, 9, none⟩) 64 64]).run Tryd.prog w2.drew = .ok (goInt 64) w3 := hr3
  have HE3 : Hid (HashAt w3 g1 3 st tl L) := by
    have h := hh3
    have e : (List.replicate 64 (0 : Int)).take 0 ++ tl.take (64 - 0) ++ (List.replicate 64 (0 : Int)).drop (0 + min 64 (64 - 0)) = tl := by
      rw [List.take_of_length_le (l := tl) (by rw [HH2.out.at_.ltl]; omega)]
      simp
    rw [e] at h
    exact h
  have HV3 := Lib.hid (hu3 [some g1] w2 ((Upd.refl _ w2).drew) (Or.inl (by simp)))
  clear hr3 hh3 hu3 hsrc
  have HH3 : Hid (HashIs w3 g 3 bs tl) := HH2.out.upd HV3.out (by have := HGL.out; simp; omega)
  have hk3 := HH3.out.at_.kind_
  go_still_tail 8, (by kernel_rfl)
  change wpList _ _ _ _ _ w2.drew
  go_wp2_with fail
  clear hr3' hk3
  have HU3 : Hid (Upd [] w w3) := HU2.out.then HV3.out (by have := HG1.out; intro b hb; right; simp at hb; omega)
  have HN3 : Hid (HashIs w3 g1 3 bs tl) := hash_copy HH3.out (by rw [← HL.out]; exact HE3.out) HST.out
  clear HH2 HU2 HV3 HE2 HE3
  have HT3 : Hid (Tabs w3) := HT.out.upd HU3.out (by simp)
  have hg13 : 3 ≤ g1 := by have := HGL.out; omega
  refine (write_any _ g1 3 (by unfold IsKind; omega) bs tl (HN3.out.upd ((Upd.refl [] w3).alloc _) (by simp)) _ 1 1 [128] (Ints.lit w3 .u8 _ [128]) (by simp) (by omega) (fun _ => by have := HN3.out.at_.blk.lt; show w3.heap.size ≠ g1; omega) (HT3.out.upd ((Upd.refl [] w3).alloc _) (by simp)) hg13 (by have := HL.out; omega)).mono ?_
  rintro e w4 ⟨rfl, ⟨tl4, hn4⟩, hu4⟩
  have HN4 := Lib.hid hn4
  have HV4 : Hid (Upd [some g1] w3 w4) := ((Upd.refl _ w3).alloc _).trans hu4
  have HU4 : Hid (Upd [] w w4) := HU3.out.then HV4.out (by have := HG1.out; intro b hb; right; simp at hb; omega)
  have HH4 : Hid (HashIs w4 g 3 bs tl) := HH3.out.upd HV4.out (by have := HGL.out; simp; omega)
  clear hn4 hu4 HV4 HH3 HU3 HN3 HT3
  obtain ⟨P, HP⟩ : ∃ P, Hid (P = padN L) := ⟨_, rfl⟩
  have hpl : P < 64 := by rw [HP.out]; exact (padN_spec L).2
  go_wp2_with fail
  go_loopw [45] (fun _ wr => ∃ (j : Nat) (tl' : List Int), j ≤ P ∧ Hid (HashIs wr g1 3 (bs ++ [128] ++ List.replicate j 0) tl') ∧ Hid (HashIs wr g 3 bs tl) ∧ Hid (Upd [] w wr)) (fun _ wr => match wr.cell? ⟨g1, 73, none⟩ with | some (.int _ s) => (2000000000000 - s).toNat | _ => 0)
  case atStart => exact ⟨0, tl4, by omega, by show HashIs _ _ _ _ _; simpa using HN4.out, HH4, HU4⟩
  case round =>
    clear HN4 HH4 HU4
    obtain ⟨j, tl', hj, HNr, HHr, HUr⟩ := hrel
    obtain ⟨M, HM⟩ : ∃ M, Hid (M = L + 1 + j) := ⟨_, rfl⟩
    have HML : Hid ((bs ++ [128] ++ List.replicate j 0).length = M) := by
      show _ = _
      rw [HM.out, HL.out]
      simp
      omega
    have hsr : wr.cell? ⟨g1, 73, none⟩ = some (.int .u64 (M : Int)) := by rw [← HML.out]; exact HNr.out.at_.size_
    have hMb : M ≤ 1000000000100 := by have := HM.out; omega
    by_cases hlt : j < P
    · have d1 : ((M : Int) % 64 != 56) = true := by
        have h1 := HM.out
        have h2 := HP.out
        unfold padN at h2
        simp
        omega
      have HTr : Hid (Tabs wr) := HT.out.upd HUr.out (by simp)
      go_wp2_with fail
      refine (write_any _ g1 3 (by unfold IsKind; omega) (bs ++ [128] ++ List.replicate j 0) tl' (HNr.out.upd ((Upd.refl [] wr).alloc _) (by simp)) _ 1 1 [0] (Ints.lit wr .u8 _ [0]) (by simp) (by omega) (fun _ => by have := HNr.out.at_.blk.lt; show wr.heap.size ≠ g1; omega) (HTr.out.upd ((Upd.refl [] wr).alloc _) (by simp)) hg13 (by rw [HML.out]; omega)).mono ?_
      rintro e w5 ⟨rfl, ⟨tl5, hn5⟩, hu5⟩
      have HN5 : Hid (HashIs w5 g1 3 (bs ++ [128] ++ List.replicate (j + 1) 0) tl5) := by
        show HashIs _ _ _ _ _
        rw [List.replicate_succ', ← List.append_assoc]
        exact hn5
      have HV5 : Hid (Upd [some g1] wr w5) := ((Upd.refl _ wr).alloc _).trans hu5
      have HU5 : Hid (Upd [] w w5) := HUr.out.then HV5.out (by have := HG1.out; intro b hb; right; simp at hb; omega)
      have HH5 : Hid (HashIs w5 g 3 bs tl) := HHr.out.upd HV5.out (by have := HGL.out; simp; omega)
      have HSZ5 : Hid (w5.cell? ⟨g1, 73, none⟩ = some (.int .u64 ((M + 1 : Nat) : Int))) := by
        have h := HN5.out.at_.size_
        have e : (bs ++ [128] ++ List.replicate (j + 1) 0).length = M + 1 := by
          rw [List.replicate_succ', ← List.append_assoc, List.length_append, HML.out]
          rfl
        rw [e] at h
        exact h
      have HSR := Lib.hid hsr
      clear hn5 hu5 hsr d1
      go_wp2
      go_roundw
      case rel => exact ⟨j + 1, tl5, by omega, HN5, HH5, HU5⟩
      case measure =>
        rw [HSZ5.out, HSR.out]
        simp
        omega
    · obtain rfl : j = P := by omega
      have d1 : ((M : Int) % 64 != 56) = false := by
        have h1 := HM.out
        have h2 := HP.out
        unfold padN at h2
        simp
        omega
      have hsg : wr.cell? ⟨g, 73, none⟩ = some (.int .u64 (L : Int)) := by rw [HL.out]; exact HHr.out.at_.size_
      go_wp2_with fail
      refine (be_any wr ((L : Int) * 8) 8 (by omega) (by omega)).mono ?_
      rintro e w6 ⟨NA, nc, rfl, hno, hv6⟩
      have HNO := Lib.hid hno
      have HN6 : Hid (HashIs w6 g1 3 (bs ++ [128] ++ List.replicate j 0) tl') := HNr.out.upd hv6 (by simp)
      have HH6 : Hid (HashIs w6 g 3 bs tl) := HHr.out.upd hv6 (by simp)
      have HU6 : Hid (Upd [] w w6) := HUr.out.trans hv6
      have HT6 : Hid (Tabs w6) := HT.out.upd HU6.out (by simp)
      have HG1r : Hid (g1 < wr.heap.size) := HNr.out.at_.blk.lt
      clear hno hv6 hsg hsr d1 HNr HHr HUr
      go_wp2_with fail
      refine (write_any w6 g1 3 (by unfold IsKind; omega) _ tl' HN6.out NA 8 nc _ (Ints.ofOwn HNO.out) (by first | exact leB_bd _ _ | exact beB_bd _ _) HNO.out.le (fun hp => by have h := (HNO.out.base (HNO.out.obl hp)).1; have := HG1r.out; omega) HT6.out hg13 (by rw [HML.out]; omega)).mono ?_
      rintro e w7 ⟨rfl, ⟨tl7, hn7⟩, hu7⟩
      obtain ⟨bs4, HB4⟩ : ∃ bs4, Hid (bs4 = padded 3 bs) := ⟨_, rfl⟩
      have HN7 : Hid (HashIs w7 g1 3 bs4 tl7) := by
        have e : bs ++ [128] ++ List.replicate j 0 ++ beB ((L : Int) * 8) (8 : Int).toNat = bs4 := by
          rw [HB4.out, HP.out, HL.out, Int.mul_comm]
          rfl
        rw [e] at hn7
        exact hn7
      have HU7 : Hid (Upd [] w w7) := HU6.out.then hu7 (by have := HG1.out; intro b hb; right; simp at hb; omega)
      have HH7 : Hid (HashIs w7 g 3 bs tl) := HH6.out.upd hu7 (by have := HGL.out; simp; omega)
      clear hn7 hu7 HN6 HU6 HH6 HT6 HNO HG1r HML HM
      obtain ⟨S, HS⟩ : ∃ S, Hid (S = runB 3 bs4 (bs4.length / 64)) := ⟨_, rfl⟩
      have HSN : Hid (S.length = 8) := by rw [HS.out]; exact runB_len _ _ _
      have HSB : Hid (∀ x ∈ S, U32 x) := by rw [HS.out, HB4.out]; exact runB_bd _ _ (padded_blocks _ _).2
      have HSI : Hid (Ints .u32 w7 (some ⟨g1, 1, none⟩) 8 S) := by
        have h := HN7.out.at_.stInts (n := 8) (by omega)
        rw [← HS.out, stK, List.take_append_of_le_length (by rw [HSN.out]; omega), List.take_of_length_le (by rw [HSN.out]; omega)] at h
        exact h
      have hk7 := HH7.out.at_.kind_
      clear HN7 HH7
      go_wp2_with fail
      clear hk7
      go_loopw [6, 77] (fun x i wr => ∃ (k : Nat) (X : Option Addr) (xc : Nat), k ≤ 8 ∧ i = .int .i64 k ∧ x = .slice X (4 * k) xc ∧ Hid (Own wr w.heap.size 5 1 X (4 * k) xc ((bytesK 3 (S.take k)).map (Value.int .u8))) ∧ Hid (Ints .u32 wr (some ⟨g1, 1, none⟩) 8 S) ∧ Hid (∀ b, ob X = some b → b ≠ g1) ∧ Hid (Upd [] w wr) ∧ Hid (w7.heap.size ≤ wr.heap.size)) (fun _ i _ => 8 - (intOf i).toNat)
      case atStart => exact ⟨0, none, 0, by omega, rfl, rfl, Own.nil _ _ _ _, HSI, (fun b hb => by cases hb), HU7, Nat.le_refl _⟩
      case round =>
        clear HU7
        obtain ⟨k, X, xc, hk, rfl, rfl, HO, HIr, HX1, HUr, HSZ⟩ := hrel
        by_cases hlt : k < 8
        · obtain ⟨x, HX, hcell⟩ := HIr.out.int hlt
          have hix := HIr.out.index el_u32 8 .i64 k hlt
          have hxb := HSB.out x (List.mem_of_getElem? HX.out)
          unfold U32 at hxb
          have hx0 := hxb.1
          have hx1 := hxb.2
          clear hxb
          go_wp2_with fail
          refine (be_any wr x 4 (by omega) (by omega)).mono ?_
          rintro e w8 ⟨NA8, nc8, rfl, hno8, hv8⟩
          have HO8 := Lib.hid (HO.out.upd hv8 (by simp))
          have HI8 := Lib.hid (HIr.out.upd hv8 (by simp))
          have HU8 := Lib.hid (HUr.out.trans hv8)
          have HNO8 := Lib.hid hno8
          have HSZ8 : Hid (w7.heap.size ≤ w8.heap.size) := Nat.le_trans HSZ.out hv8.size
          clear hno8 hv8 HO HIr hcell hix
          go_wp2_with (at_builtin; refine wpList_app rfl rfl el_byte rfl HO8.out rfl HNO8.out.seg (ints_one _ _) (by simp only [maxLen]; omega) (by omega) HU8.out.size ?_; intro X9 c9 w9 hown9 hu9 hfr9)
          have HO9 : Hid (Own w9 w.heap.size 5 1 X9 (4 * (k + 1)) c9 ((bytesK 3 (S.take (k + 1))).map (Value.int .u8))) := by
            rw [bytesK_take HX.out, List.map_append]
            exact hown9
          have HI9 := Lib.hid (HI8.out.upd hu9 (fun _ => by simp; exact fun h => HX1.out _ h.symm rfl))
          have HU9 := Lib.hid (HU8.out.then hu9 (fun b hb => by simp at hb; right; exact (HO8.out.base hb.symm).1))
          have HX9 : Hid (∀ b, ob X9 = some b → b ≠ g1) := fun b hb => by
            rcases hfr9 b hb with h | h
            · exact HX1.out b h
            · have h1 := Seg.lt HI8.out (by omega) (by omega)
              simp [bl] at h1
              omega
          have HSZ9 : Hid (w7.heap.size ≤ w9.heap.size) := Nat.le_trans HSZ8.out hu9.size
          clear hown9 hu9 hfr9 HO8 HI8 HU8 HNO8
          go_roundw
          case rel => exact ⟨k + 1, X9, c9, by omega, by go_num, rfl, HO9, HI9, HX9, HU9, HSZ9⟩
          case measure => simp [intOf]; omega
        · obtain rfl : k = 8 := by omega
          go_wp2
          go_ret
          refine ⟨X, xc, rfl, ?_, HUr.out⟩
          have h := HO.out
          rw [List.take_of_length_le (by rw [HSN.out]; omega), HS.out, HB4.out] at h
          exact h

theorem sum_any (w : World) (g : Nat) (kind : Int) (hk : IsKind kind) (bs tl : List Int) (h : HashIs w g kind bs tl) (hT : Tabs w) (hg : 3 ≤ g) (hn : bs.length ≤ 1000000000000) :
    Calls Tryd.prog 15 #[.pointer (some ⟨g, 0, none⟩)] w (NewBytes (4 * nwK kind) (sumK kind bs) w) := by
  rcases hk with rfl | rfl | rfl
  · exact sum1_any w g bs tl h hT hg hn
  · exact sum2_any w g bs tl h hT hg hn
  · exact sum3_any w g bs tl h hT hg hn

end Go.Proofs.YthojhmkahjpflaaDoor
