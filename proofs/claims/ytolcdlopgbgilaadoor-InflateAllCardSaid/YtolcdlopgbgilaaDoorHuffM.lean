/- The walk of the reference's Next. -/
import Derived.Test.YtolcdlopgbgilaaDoorHuffN
import Derived.Test.YtolcdlopgbgilaaDoorKraft
namespace Go.Proofs.YtolcdlopgbgilaaDoor
open Go.RowKit Go.Dray

/-- Is a path the beginning of a row of a symbol below s? -/
def beg (zs : List Int) (q : List Bool) (s : Nat) : Bool := (List.range s).any fun t => decide (0 < zs.getD t 0) && isHead q (rowOf zs t)
theorem beg_succ (zs : List Int) (q : List Bool) (s : Nat) : beg zs q (s + 1) = (beg zs q s || (decide (0 < zs.getD s 0) && isHead q (rowOf zs s))) := by
  unfold beg
  rw [List.range_succ, List.any_append]
  simp
theorem beg_iff (zs : List Int) (q : List Bool) (s : Nat) (hq : q ≠ []) : beg zs q s = true ↔ inT zs s q := by
  unfold beg inT
  rw [List.any_eq_true]
  constructor
  · rintro ⟨t, ht, h⟩
    simp [isHead] at ht h
    exact Or.inr ⟨t, ht, h.1, h.2⟩
  · rintro (h | ⟨t, h1, h2, h3⟩)
    · exact absurd h hq
    · refine ⟨t, by simpa using h1, ?_⟩
      rw [Bool.and_eq_true]
      exact ⟨decide_eq_true h2, decide_eq_true h3⟩

/-- At fifteen bits nothing goes on. -/
theorem no_16 {zs : List Int} (h : chk zs = 0) {bs : List Bool} (hl : 15 ≤ bs.length) : ¬ goesOn zs bs 15 := by
  rintro ⟨h1, h2⟩
  have hlen : (bs.take 15).length = 15 := by rw [List.length_take]; omega
  rcases h1 with h1 | ⟨t, ht, hp, hpre⟩
  · rw [h1] at hlen; simp at hlen
  · have hb := (chk_zero h).2.1 _ (List.mem_of_getElem? (getD_mem ht))
    have hle := hpre.length_le
    rw [hlen, rowOf_len] at hle
    have e := hpre.eq_of_length (by rw [hlen, rowOf_len]; omega)
    exact leafF_none.1 h2 t ht hp e.symm

/-- What the reference's Next hands back. -/
def RNextPost (zs : List Int) (bs : List Bool) (X : Option Addr) (w : World) (e : Ending) (w' : World) : Prop :=
  ∃ k sym err R rc, e = .returned (.agg #[.int .i64 sym, .slice R (bs.length - k) rc, .int .i64 err]) ∧ NextIs zs bs k sym err ∧ Ints .i64 w' R (bs.length - k) ((bs.drop k).map b2i) ∧ bs.length - k ≤ rc ∧ (0 < bs.length - k → bl R = bl X) ∧ Upd [] w w'

set_option maxRecDepth 100000 in
set_option maxHeartbeats 2000000 in
theorem rnext_any (A C X : Option Addr) (n m c d xc : Nat) (zs : List Int) (bs : List Bool) (w : World) (hz : Ints .i64 w A n zs) (hc : Ints .i64 w C n (tab n (codeOf zs))) (hx : Ints .i64 w X m (bs.map b2i)) (hmx : m ≤ xc) (hm : m ≤ 1000000000) (hk : chk zs = 0) :
    Calls Tryd.prog 92 #[.slice A n c, .slice C n d, .slice X m xc] w (RNextPost zs bs X w) := by
  have HM : Hid (bs.length = m) := by have := hx.len.out; rw [List.length_map] at this; exact this
  have HN := hz.len
  obtain ⟨hl, hb, -⟩ := chk_zero hk
  have hn : n ≤ 320 := by rw [← HN.out]; exact hl
  have HB := Lib.hid hb
  have HK := Lib.hid hk
  clear hb hl hk
  go_enter Tryd.func92, Tryd.ntmps92
  go_wp2
  obtain ⟨w0, hw0⟩ : ∃ w0 : World, w0 = w.alloc (.cells #[.int .i64 0, .slice none 0 0, .int .i64 0] 137) := ⟨_, rfl⟩
  obtain ⟨g, hg⟩ : ∃ g, g = w.heap.size := ⟨_, rfl⟩
  rw [← hw0, ← hg]
  have hb0 : Blk w0 g 137 #[.int .i64 0, .slice none 0 0, .int .i64 0] := by rw [hw0, hg]; exact Blk.new _ _ _
  have hu0 : Upd [] w w0 := by rw [hw0]; exact (Upd.refl _ _).alloc _
  have hgw : w.heap.size ≤ g := by omega
  have HG := Lib.hid hg
  clear hw0 hg
  go_loopw [7] (fun v wr => ∃ nn : Nat, 1 ≤ nn ∧ nn ≤ 16 ∧ nn ≤ m + 1 ∧ v = .int .i64 nn ∧ Hid (∀ j, 1 ≤ j → j < nn → goesOn zs bs j) ∧ Blk wr g 137 #[.int .i64 0, .slice none 0 0, .int .i64 0] ∧ Upd [] w wr) (fun v _ => 16 - (intOf v).toNat)
  case atStart => exact ⟨1, by omega, by omega, by omega, rfl, fun j h1 h2 => by omega, hb0, hu0⟩
  case round =>
    obtain ⟨nn, h1, h16, hnm, rfl, HGO, hbr, hur⟩ := hrel
    clear hb0 hu0
    by_cases h15 : nn ≤ 15
    · by_cases hshort : m < nn
      · have hf0 := hbr.frozen 0
        have hf1 := hbr.frozen 1
        have hf2 := hbr.frozen 2
        have hc0 := hbr.cell 0
        have hc1 := hbr.cell 1
        have hc2 := hbr.cell 2
        simp at hc0 hc1 hc2
        go_wp2
        obtain ⟨w9, hw9⟩ : ∃ w9 : World, w9 = (((wr).setCell ⟨g, 0, none⟩ (.int .i64 0)).setCell ⟨g, 1, none⟩ (.slice none 0 0)).setCell ⟨g, 2, none⟩ (.int .i64 2) := ⟨_, rfl⟩
        rw [← hw9]
        have hb9 : Blk w9 g 137 #[.int .i64 0, .slice none 0 0, .int .i64 2] := by rw [hw9]; exact ((hbr.set 0 _).set 1 _).set 2 _
        have hu9 : Upd [] w w9 := by rw [hw9]; exact ((hur.put hgw _).put hgw _).put hgw _
        have q0 := hb9.cell 0
        have q1 := hb9.cell 1
        have q2 := hb9.cell 2
        simp at q0 q1 q2
        refine bodyPost_ret (v := .agg #[.int .i64 0, .slice none 0 0, .int .i64 2]) (by simp [results, Tryd.results92, go_sem, q0, q1, q2]) rfl ?_
        refine ⟨m, 0, 2, none, 0, ?_, ⟨by rw [HM.out]; omega, fun j h1 h2 => HGO.out j h1 (by omega), Or.inl ⟨rfl, rfl, HM.out.symm, fun h => HGO.out m h (by omega)⟩⟩, ?_, by rw [HM.out]; omega, fun h => by rw [HM.out] at h; omega, hu9⟩
        · rw [HM.out, Nat.sub_self]
        · rw [HM.out, Nat.sub_self, List.drop_of_length_le (by rw [HM.out]; omega)]
          exact Seg.nil _ _ _
      · have hle : nn ≤ m := by omega
        have d15 : decide ((nn : Int) ≤ 15) = true := by simp; omega
        have dsh : decide (m < nn) = false := by simp; omega
        go_wp2
        obtain ⟨wo, rfl⟩ : ∃ wo : World, wo = wr := ⟨_, rfl⟩
        go_loopw [8, 9] (fun b v wr => ∃ s : Nat, s ≤ n ∧ v = .int .i64 s ∧ b = .bool (beg zs (bs.take nn) s) ∧ Hid (∀ t, t < s → 0 < zs.getD t 0 → rowOf zs t ≠ bs.take nn) ∧ Blk wr g 137 #[.int .i64 0, .slice none 0 0, .int .i64 0] ∧ Upd [] w wr) (fun _ v _ => n - (intOf v).toNat)
        case atStart => exact ⟨0, by omega, rfl, rfl, fun t h => by omega, hbr, hur⟩
        case round =>
          clear hbr hur
          obtain ⟨s, hsn, rfl, rfl, HNO, hbr, hur⟩ := hrel
          have hzr : Ints .i64 wr A n zs := hz.upd hur (by simp)
          have hcr : Ints .i64 wr C n (tab n (codeOf zs)) := hc.upd hur (by simp)
          have hxr : Ints .i64 wr X m (bs.map b2i) := hx.upd hur (by simp)
          by_cases hlt : s < n
          · obtain ⟨z, HX, zcell⟩ := hzr.int hlt
            have zix := hzr.index el_int c .i64 s hlt
            obtain ⟨hz0, hz15⟩ := HB.out z (List.mem_of_getElem? HX.out)
            obtain ⟨ln, rfl⟩ := Int.eq_ofNat_of_zero_le hz0
            have HZ : Hid (zs.getD s 0 = ln) := getD_of HX.out
            by_cases hl0 : ln = 0
            · have hzz : ((ln : Int) == 0) = true := by simp [hl0]
              have HL0 := Lib.hid hl0
              clear hl0
              go_wp2
              go_roundw
              case rel =>
                refine ⟨s + 1, by omega, by go_num, ?_, fun t ht hp => ?_, hbr, hur⟩
                · rw [beg_succ, HZ.out, HL0.out]; simp
                · by_cases e : t = s
                  · subst e; rw [HZ.out, HL0.out] at hp; simp at hp
                  · exact HNO.out t (by omega) hp
              case measure => simp [intOf]; omega
            · have hzz : ((ln : Int) == 0) = false := by simp [hl0]
              have hlp : 0 < ln := by omega
              clear hl0
              obtain ⟨cv, HCV, ccell⟩ := hcr.int hlt
              have cix := hcr.index el_int d .i64 s hlt
              have HCE : Hid (cv = codeOf zs s) := by
                have := HCV.out
                rw [tab_get _ hlt] at this
                injection this with this
                exact this.symm
              go_wp2
              go_still_tail 8, (by kernel_rfl)
              change wpList _ _ _ _ _ wr.drew
              obtain ⟨w2, hw2⟩ : ∃ w2 : World, w2 = wr.drew := ⟨_, rfl⟩
              rw [← hw2]
              have hb2 : Blk w2 g 137 #[.int .i64 0, .slice none 0 0, .int .i64 0] := by rw [hw2]; exact hbr.drew
              have hu2 : Upd [] w w2 := by rw [hw2]; exact hur.drew
              have zc2 : w2.cell? ⟨bl A, ofs A + s, none⟩ = some (.int .i64 ln) := by rw [hw2]; exact zcell
              have cc2 : w2.cell? ⟨bl C, ofs C + s, none⟩ = some (.int .i64 cv) := by rw [hw2]; exact ccell
              clear hw2 hbr hur zcell ccell hzr hcr hxr
              go_wp2_with fail
              refine (rrow_any w2 cv ln (by omega) (by omega)).mono ?_
              rintro e w3 ⟨Y, yc, rfl, hy3, hv⟩
              rw [Int.toNat_natCast] at hy3 ⊢
              have hrow : rowBits cv ln = rowOf zs s := by rw [HCE.out]; unfold rowOf; rw [HZ.out]; rfl
              rw [hrow] at hy3
              have hu3 := hu2.then hv (by simp)
              have hb3 := hb2.upd hv (by simp)
              have hy : Ints .i64 w3 Y ln ((rowOf zs s).map b2i) := Ints.ofOwn hy3
              have zc3 := hv.cell zc2 (by simp)
              have hx3 : Ints .i64 w3 X m (bs.map b2i) := hx.upd hu3 (by simp)
              clear hv hu2 hb2 zc2 cc2 hrow hy3 cix
              by_cases heq : ln = nn
              · have hq : ((ln : Int) == (nn : Int)) = true := by simp [heq]
                have HEQ := Lib.hid heq
                clear heq
                go_wp2_with fail
                refine (rhead_any Y X ln m yc xc (rowOf zs s) bs w3 hy hx3 (by omega)).mono ?_
                rintro e w4 ⟨rfl, q4, rfl⟩
                cases hh : isHead (rowOf zs s) bs with
                | true =>
                  have hrow : rowOf zs s = bs.take nn := by
                    have h2 : rowOf zs s <+: bs := of_decide_eq_true hh
                    have h3 := List.prefix_iff_eq_take.1 h2
                    rw [rowOf_len, HZ.out, Int.toNat_natCast, HEQ.out] at h3
                    exact h3
                  have hleaf : leafF zs zs.length (bs.take nn) = some s := by
                    rw [← hrow]
                    exact leafF_row HK.out (by rw [HN.out]; exact hlt) (by rw [HZ.out]; omega)
                  have hcut := run_cut_l el_int X m xc .i64 (nn : Int) nn rfl hle
                  have HLEAF := Lib.hid hleaf
                  clear hrow hleaf
                  have hb4 := hb3.drewN q4
                  have hu4 := hu3.drewN q4
                  obtain ⟨w4, hw4⟩ : ∃ w4 : World, w4 = w3.drewN q4 := ⟨_, rfl⟩
                  rw [← hw4] at hb4 hu4 ⊢
                  clear hw4 hb3 hu3 hx3 hy zc3
                  have hf0 := hb4.frozen 0
                  have hf1 := hb4.frozen 1
                  have hf2 := hb4.frozen 2
                  have hc0 := hb4.cell 0
                  have hc1 := hb4.cell 1
                  have hc2 := hb4.cell 2
                  simp at hc0 hc1 hc2
                  go_wp2
                  obtain ⟨w9, hw9⟩ : ∃ w9 : World, w9 = (((w4).setCell ⟨g, 0, none⟩ (.int .i64 s)).setCell ⟨g, 1, none⟩ (.slice (cutA 1 X xc nn) (m - nn) (xc - nn))).setCell ⟨g, 2, none⟩ (.int .i64 0) := ⟨_, rfl⟩
                  rw [← hw9]
                  have hb9 : Blk w9 g 137 #[.int .i64 s, .slice (cutA 1 X xc nn) (m - nn) (xc - nn), .int .i64 0] := by rw [hw9]; exact ((hb4.set 0 _).set 1 _).set 2 _
                  have hu9 : Upd [] w w9 := by rw [hw9]; exact ((hu4.put hgw _).put hgw _).put hgw _
                  have q0 := hb9.cell 0
                  have q1 := hb9.cell 1
                  have q2 := hb9.cell 2
                  simp at q0 q1 q2
                  refine bodyPost_ret (v := .agg #[.int .i64 s, .slice (cutA 1 X xc nn) (m - nn) (xc - nn), .int .i64 0]) (by simp [results, Tryd.results92, go_sem, q0, q1, q2]) rfl ?_
                  have hx9 : Ints .i64 w9 X m (bs.map b2i) := hx.upd hu9 (by simp)
                  have hct := hx9.cut (lo := nn) (hi := m) (c := xc) hle (Nat.le_refl _) hmx
                  rw [← List.map_drop, ← List.map_take, List.take_of_length_le (by rw [List.length_drop, HM.out]; omega)] at hct
                  exact ⟨nn, s, 0, cutA 1 X xc nn, xc - nn, by rw [HM.out], ⟨by rw [HM.out]; exact hle, HGO.out, Or.inr (Or.inr ⟨rfl, h1, s, rfl, HLEAF.out⟩)⟩, by rw [HM.out]; exact hct, by rw [HM.out]; omega, fun _ => bl_cut _ _ _ _, hu9⟩
                | false =>
                  have HNE : Hid (rowOf zs s ≠ bs.take nn) := fun e => by
                    have : isHead (rowOf zs s) bs = true := decide_eq_true (by rw [e]; exact List.take_prefix _ _)
                    rw [this] at hh
                    cases hh
                  have hx4 := hx3.drewN q4
                  have hy4 := hy.drewN q4
                  cases hbeg : beg zs (bs.take nn) s with
                  | true =>
                    go_wp2
                    go_roundw
                    case rel =>
                      refine ⟨s + 1, by omega, by go_num, by rw [beg_succ, hbeg]; rfl, fun t ht hp => ?_, hb3.drewN _, hu3.drewN _⟩
                      by_cases e : t = s
                      · subst e; exact HNE.out
                      · exact HNO.out t (by omega) hp
                    case measure => simp [intOf]; omega
                  | false =>
                    have hcut := run_cut_h el_int X m xc .i64 (nn : Int) nn rfl (by omega)
                    have hpre := (hx4).pre hle
                    rw [← List.map_take] at hpre
                    go_wp2_with fail
                    refine (rhead_any X Y nn ln xc yc (bs.take nn) (rowOf zs s) _ hpre hy4 (by omega)).mono ?_
                    rintro e w5 ⟨rfl, q5, rfl⟩
                    have HBEG := Lib.hid hbeg
                    clear hbeg hcut
                    go_wp2
                    go_roundw
                    case rel =>
                      refine ⟨s + 1, by omega, by go_num, ?_, fun t ht hp => ?_, hb3.drewN _, hu3.drewN _⟩
                      · rw [beg_succ, HBEG.out, HZ.out, show decide (0 < (ln : Int)) = true from by simp; omega]; rfl
                      · by_cases e : t = s
                        · subst e; exact HNE.out
                        · exact HNO.out t (by omega) hp
                    case measure => simp [intOf]; omega
              · have hq : ((ln : Int) == (nn : Int)) = false := by simp; omega
                have HNE : Hid (rowOf zs s ≠ bs.take nn) := fun e => by
                  have h2 := congrArg List.length e
                  rw [rowOf_len, HZ.out, List.length_take, HM.out, Int.toNat_natCast] at h2
                  omega
                clear heq
                cases hbeg : beg zs (bs.take nn) s with
                | true =>
                  go_wp2
                  go_roundw
                  case rel =>
                    refine ⟨s + 1, by omega, by go_num, by rw [beg_succ, hbeg]; rfl, fun t ht hp => ?_, hb3, hu3⟩
                    by_cases e : t = s
                    · subst e; exact HNE.out
                    · exact HNO.out t (by omega) hp
                  case measure => simp [intOf]; omega
                | false =>
                  have hcut := run_cut_h el_int X m xc .i64 (nn : Int) nn rfl (by omega)
                  have hpre := (hx3).pre hle
                  rw [← List.map_take] at hpre
                  go_wp2_with fail
                  refine (rhead_any X Y nn ln xc yc (bs.take nn) (rowOf zs s) _ hpre hy (by omega)).mono ?_
                  rintro e w5 ⟨rfl, q5, rfl⟩
                  have HBEG := Lib.hid hbeg
                  clear hbeg hcut
                  go_wp2
                  go_roundw
                  case rel =>
                    refine ⟨s + 1, by omega, by go_num, ?_, fun t ht hp => ?_, (hb3).drewN _, (hu3).drewN _⟩
                    · rw [beg_succ, HBEG.out, HZ.out, show decide (0 < (ln : Int)) = true from by simp; omega]; rfl
                    · by_cases e : t = s
                      · subst e; exact HNE.out
                      · exact HNO.out t (by omega) hp
                  case measure => simp [intOf]; omega
          · obtain rfl : s = n := by omega
            have hqne : bs.take nn ≠ [] := fun e => by
              have h2 := congrArg List.length e
              rw [List.length_take, HM.out] at h2
              simp at h2
              omega
            have HIFF := beg_iff zs (bs.take nn) s hqne
            rw [show inT zs s (bs.take nn) = inT zs zs.length (bs.take nn) from by rw [HN.out]] at HIFF
            have HI := Lib.hid HIFF
            clear HIFF hqne hzr hcr hxr
            cases hbeg : beg zs (bs.take nn) s with
            | true =>
              have HT : Hid (inT zs zs.length (bs.take nn)) := HI.out.1 hbeg
              go_wp2
              go_roundw
              case rel =>
                refine ⟨nn + 1, by omega, by omega, by omega, by go_num, fun j hj1 hj2 => ?_, hbr, hur⟩
                by_cases e : j = nn
                · subst e; exact ⟨HT.out, leafF_none.2 (by rw [HN.out]; exact HNO.out)⟩
                · exact HGO.out j hj1 (by omega)
              case measure => simp [intOf]; omega
            | false =>
              have HT : Hid (¬ inT zs zs.length (bs.take nn)) := fun h => by rw [HI.out.2 h] at hbeg; cases hbeg
              have hcut := run_cut_l el_int X m xc .i64 (nn : Int) nn rfl hle
              have hf0 := hbr.frozen 0
              have hf1 := hbr.frozen 1
              have hf2 := hbr.frozen 2
              have hc0 := hbr.cell 0
              have hc1 := hbr.cell 1
              have hc2 := hbr.cell 2
              simp at hc0 hc1 hc2
              go_wp2
              obtain ⟨w9, hw9⟩ : ∃ w9 : World, w9 = (((wr).setCell ⟨g, 0, none⟩ (.int .i64 0)).setCell ⟨g, 1, none⟩ (.slice (cutA 1 X xc nn) (m - nn) (xc - nn))).setCell ⟨g, 2, none⟩ (.int .i64 3) := ⟨_, rfl⟩
              rw [← hw9]
              have hb9 : Blk w9 g 137 #[.int .i64 0, .slice (cutA 1 X xc nn) (m - nn) (xc - nn), .int .i64 3] := by rw [hw9]; exact ((hbr.set 0 _).set 1 _).set 2 _
              have hu9 : Upd [] w w9 := by rw [hw9]; exact ((hur.put hgw _).put hgw _).put hgw _
              have q0 := hb9.cell 0
              have q1 := hb9.cell 1
              have q2 := hb9.cell 2
              simp at q0 q1 q2
              refine bodyPost_ret (v := .agg #[.int .i64 0, .slice (cutA 1 X xc nn) (m - nn) (xc - nn), .int .i64 3]) (by simp [results, Tryd.results92, go_sem, q0, q1, q2]) rfl ?_
              have hx9 : Ints .i64 w9 X m (bs.map b2i) := hx.upd hu9 (by simp)
              have hct := hx9.cut (lo := nn) (hi := m) (c := xc) hle (Nat.le_refl _) hmx
              rw [← List.map_drop, ← List.map_take, List.take_of_length_le (by rw [List.length_drop, HM.out]; omega)] at hct
              exact ⟨nn, 0, 3, cutA 1 X xc nn, xc - nn, by rw [HM.out], ⟨by rw [HM.out]; exact hle, HGO.out, Or.inr (Or.inl ⟨rfl, rfl, h1, HT.out⟩)⟩, by rw [HM.out]; exact hct, by rw [HM.out]; omega, fun _ => bl_cut _ _ _ _, hu9⟩
    · exfalso
      exact no_16 HK.out (by rw [HM.out]; omega) (HGO.out 15 (by omega) (by omega))

end Go.Proofs.YtolcdlopgbgilaaDoor
