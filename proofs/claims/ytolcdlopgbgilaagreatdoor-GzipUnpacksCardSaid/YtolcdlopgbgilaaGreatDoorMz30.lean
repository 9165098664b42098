/- Merged by wip/tools/merge.py: GzRU GzL. -/
import Derived.Test.YtolcdlopgbgilaaGreatDoorMz27
import Derived.Test.YtolcdlopgbgilaaGreatDoorMz29

/-! Text GzRU. -/
namespace Go.Proofs.YtolcdlopgbgilaaGreatDoor
open Go.RowKit Go.Dray

set_option maxRecDepth 100000 in
set_option maxHeartbeats 8000000 in
theorem runpack_pos (A : Option Addr) (n c : Nat) (zs : List Int) (most F : Nat) (w : World) (hs : Ints .u8 w A n zs) (hz : ∀ z ∈ zs, 0 ≤ z ∧ z ≤ 255) (hnc : n ≤ c) (h0 : 0 < n) (hbig : n ≤ 100000) (hm : most ≤ 16777216) (hF : 8 * n < F)  :
    Calls Tryz.prog 6 #[.slice A n c, .int .i64 most] w (UnpPost (unpackAt F zs (n + 1) 0 most []) w) := by
  have HS := Lib.hid hs
  have HZ := Lib.hid hz
  have HL := hs.len
  have HF := Lib.hid hF
  clear hs hz hF
  obtain ⟨U, hU⟩ : ∃ U, U = unpackAt F zs (n + 1) 0 most [] := ⟨_, rfl⟩
  rw [← hU]
  have HGO : Hid (GoU F zs n U 0 most []) := by
    show GoU _ _ _ _ _ _ _
    unfold GoU
    rw [if_pos h0]
    exact ⟨n + 1, by omega, hU⟩
  clear hU
  have HB1 : Hid (Blk (w.alloc (.cells #[.string ⟨#[]⟩, .int .i64 0, .int .i64 0] 27)) w.heap.size 27 #[.string ⟨#[]⟩, .int .i64 0, .int .i64 0]) := Blk.new w _ _
  have HU1 : Hid (Upd [] w (w.alloc (.cells #[.string ⟨#[]⟩, .int .i64 0, .int .i64 0] 27))) := (Upd.refl _ _).alloc _
  obtain ⟨R, hR⟩ : ∃ R, R = w.heap.size := ⟨_, rfl⟩
  have hRw : w.heap.size ≤ R := by omega
  have d1 : decide ((most : Int) < 0) = false := by simp
  have d2 : decide ((16777216 : Int) < most) = false := by simp; omega
  go_enter Tryz.func6, Tryz.ntmps6
  go_upto_region 1 with (fail)
  rw [← hR] at HB1 ⊢
  generalize hw1 : w.alloc _ = w1 at HB1 HU1 ⊢
  clear hw1 hR
  go_wp2_with fail
  clear d1 d2
  go_loopw [1, 6, 7] (fun v1 v6 v7 wr => ∃ (k M j : Nat) (L : Option Addr) (lc : Nat) (xs : List (MemP × Mem)), v7 = .int .i64 k ∧ v1 = .int .i64 M ∧ v6 = .slice L j lc ∧ xs.length = j ∧ j ≤ k ∧ k ≤ n ∧ M ≤ 16777216 ∧ Hid (MemsO wr w.heap.size L lc xs) ∧ Hid (Upd [] w wr) ∧ Hid (Blk wr R 27 #[.string ⟨#[]⟩, .int .i64 0, .int .i64 0]) ∧ Hid (GoU F zs n U k M (xs.map (·.2))) ∧ Hid (∀ x ∈ xs, 0 < x.1.n → R < bl x.1.A) ∧ (0 < k → 0 < j)) (fun _ _ v7 _ => n + 1 - (intOf v7).toNat)
  case atStart => exact ⟨0, most, 0, none, 0, [], rfl, rfl, rfl, rfl, by omega, by omega, hm, MemsO.nil _ _, HU1, HB1, HGO, (fun x hx => by cases hx), fun h => h⟩
  case round =>
    clear HB1 HU1 HGO
    obtain ⟨k, M, j, L, lc, xs, rfl, rfl, rfl, hxl, hjk, hkn, hM, HM, HU, HK, HGO, HD, hkj⟩ := hrel
    by_cases hlt : k < n
    · have dlt : decide ((k : Int) < n) = true := by simp; omega
      go_wp2_with fail
      refine (rmember_any A n c zs k M F wr (HS.out.upd HU.out (by simp)) HZ.out hnc hkn hbig hM HF.out).mono ?_
      obtain ⟨r, hr⟩ : ∃ r, r = memOf F (zs.drop k) M := ⟨_, rfl⟩
      rw [← hr]
      have HR := Lib.hid hr
      clear hr
      cases r with
      | bad er =>
        rintro e w4 ⟨her, rfl, hu4⟩
        have HU4 := Lib.hid (HU.out.trans hu4)
        have HK4 := Lib.hid (HK.out.upd hu4 (by simp))
        have der : (er != 0) = true := by simpa using her
        have HER := Lib.hid her
        clear hu4 her
        go_upto_region 7 with (fail)
        have hv5 : Upd [] w4 (w4.alloc (.cells #[.string ⟨#[]⟩, .int .i64 0, .slice none 0 0, .int .i64 0, .int .i64 er] 39)) := (Upd.refl _ _).alloc _
        have HG5 : Hid (Blk (w4.alloc (.cells #[.string ⟨#[]⟩, .int .i64 0, .slice none 0 0, .int .i64 0, .int .i64 er] 39)) w4.heap.size 39 #[.string ⟨#[]⟩, .int .i64 0, .slice none 0 0, .int .i64 0, .int .i64 er]) := Blk.new _ _ _
        have HU5 := Lib.hid (HU4.out.trans hv5)
        have HK5 := Lib.hid (HK4.out.upd hv5 (by simp))
        have hRG : R ≠ w4.heap.size := by have := HK4.out.lt; omega
        obtain ⟨G, hG⟩ : ∃ G, G = w4.heap.size := ⟨_, rfl⟩
        rw [← hG] at HG5 hRG ⊢
        generalize w4.alloc _ = w5 at hv5 HG5 HU5 HK5 ⊢
        clear hG hv5
        have g4 := HG5.out.cell 4
        simp at g4
        have k0 := HK5.out.cell 0
        have k1 := HK5.out.cell 1
        have k2 := HK5.out.cell 2
        have f0 := HK5.out.frozen 0
        have f1 := HK5.out.frozen 1
        have f2 := HK5.out.frozen 2
        simp at k0 k1 k2
        go_wp2
        go_region_law (fail)
        have HK9 := Lib.hid (blk3 (y0 := .string ⟨#[]⟩) (y1 := .int .i64 (k : Int)) (y2 := .int .i64 er) HK5.out)
        have HU9 := Lib.hid (put3 (g := R) (y0 := .string ⟨#[]⟩) (y1 := .int .i64 (k : Int)) (y2 := .int .i64 er) HU5.out hRw)
        clear k0 k1 k2 f0 f1 f2 g4
        generalize World.setCell _ _ _ = w9 at HK9 HU9 ⊢
        have k0 := HK9.out.cell 0
        have k1 := HK9.out.cell 1
        have k2 := HK9.out.cell 2
        simp at k0 k1 k2
        go_wp2
        refine bodyPost_ret (by simp [results, Tryz.results6, go_sem, k0, k1, k2]; rfl) rfl ?_
        exact unp_bad (HGO.out.bad hlt HR.out.symm) HER.out rfl HU9.out.drew
      | ok m q =>
        rintro e w4 ⟨p, rfl, hp4, hfr, hu4⟩
        have hge := memOf_ge HR.out.symm
        rw [List.length_drop, HL.out] at hge
        have hpl := hp4.ints.len.out
        have HGN := Lib.hid (HGO.out.next HL.out hlt HR.out.symm hge.1 (by omega))
        have hq0 := hge.1
        have hqn : k + q ≤ n := by have := hge.2.1; omega
        have hpM : p.n ≤ M := by have := hge.2.2; omega
        rw [hpl] at HGN
        have HU4 := Lib.hid (HU.out.trans hu4)
        have HK4 := Lib.hid (HK.out.upd hu4 (by simp))
        have HM4 := Lib.hid (HM.out.upd hu4)
        have HP4 := Lib.hid hp4
        have HAP : Hid (0 < p.n → ob L ≠ some (bl p.A)) := fun h0 hL => by
          have h1 := HM.out.own.base hL
          have hY := Seg.at_ hp4.ints h0
          have := hfr (bl p.A) (by rw [hY]; rfl)
          omega
        have HD7 : Hid (∀ x ∈ xs ++ [(p, m)], 0 < x.1.n → R < bl x.1.A) := fun x hx h0 => by
          rcases List.mem_append.1 hx with hx | hx
          · exact HD.out x hx h0
          · simp at hx
            subst hx
            have hY := Seg.at_ hp4.ints h0
            have h1 := hfr (bl p.A) (by rw [hY]; rfl)
            have h2 := HK.out.lt
            exact Nat.lt_of_lt_of_le h2 h1
        clear hge hpl hp4 hfr hu4 HGO HR HM HK HD
        obtain ⟨S, hS⟩ : ∃ S, S = m.name := ⟨_, rfl⟩
        obtain ⟨tm, htm⟩ : ∃ tm, tm = m.time := ⟨_, rfl⟩
        rw [← hS, ← htm]
        have HSN := Lib.hid hS
        have HTM := Lib.hid htm
        clear hS htm
        go_upto_region 7 with (fail)
        have hv5 : Upd [] w4 (w4.alloc (.cells #[.string S, .int .i64 tm, .slice p.A p.n p.c, .int .i64 ((k : Int) + q), .int .i64 0] 39)) := (Upd.refl _ _).alloc _
        have HG5 : Hid (Blk (w4.alloc (.cells #[.string S, .int .i64 tm, .slice p.A p.n p.c, .int .i64 ((k : Int) + q), .int .i64 0] 39)) w4.heap.size 39 #[.string S, .int .i64 tm, .slice p.A p.n p.c, .int .i64 ((k : Int) + q), .int .i64 0]) := Blk.new _ _ _
        have HLG : Hid (∀ g, ob L = some g → g < w4.heap.size) := fun g hg => (HM4.out.own.base hg).2
        have HU5 := Lib.hid (HU4.out.trans hv5)
        have HK5 := Lib.hid (HK4.out.upd hv5 (by simp))
        have HM5 := Lib.hid (HM4.out.upd hv5)
        have HP5 := Lib.hid (HP4.out.upd hv5 (by simp))
        obtain ⟨G, hG⟩ : ∃ G, G = w4.heap.size := ⟨_, rfl⟩
        rw [← hG] at HG5 HLG ⊢
        generalize w4.alloc _ = w5 at hv5 HG5 HU5 HK5 HM5 HP5 ⊢
        clear hG hv5 HU4 HK4 HM4 HP4
        have k0 := HG5.out.cell 0
        have k1 := HG5.out.cell 1
        have k2 := HG5.out.cell 2
        have k4 := HG5.out.cell 4
        simp at k0 k1 k2 k4
        have HOW := HM5.out.own
        rw [hxl] at HOW
        have HOW := Lib.hid HOW
        have hsz5 := HU5.out.size
        go_upto_region 10 with (at_builtin; refine wpList_app rfl rfl el_mem rfl (HOW.out.alloc _) rfl (seg_mem _ _ _ _ _) (by intro u hu; simp at hu; rcases hu with rfl | rfl | rfl <;> rfl) (by simp only [maxLen]; omega) (by omega) (by simp; omega) ?_; intro L7 c7 w7 hown7 hu7 hfr7)
        have HV7 : Hid (Upd [ob L] w5 w7) := ((Upd.refl _ _).alloc _).trans hu7
        rw [HSN.out, HTM.out] at hown7
        have HM7 := Lib.hid (HM5.out.more HP5.out HAP.out (k := j + 1) (by omega) hown7 HV7.out (fun g hg => by rcases hfr7 g hg with h | h; exact Or.inl h; right; simp at h; omega))
        have HG7 := Lib.hid (HG5.out.upd HV7.out (by simp; exact fun e => Nat.lt_irrefl _ (HLG.out G e.symm)))
        have HK7 := Lib.hid (HK5.out.upd HV7.out (by simp; exact fun h => HM5.out.own.neBlk HK5.out (by decide) h.symm))
        have HU7 := Lib.hid (HU5.out.then HV7.out (fun b hb => by simp at hb; right; exact (HM5.out.own.base hb.symm).1))
        clear hown7 hu7 hfr7 HOW HM5 HK5 HU5 k0 k1 k2 k4
        have k2 := HG7.out.cell 2
        have k3 := HG7.out.cell 3
        simp at k2 k3
        go_wp2
        go_roundw
        case rel => exact ⟨k + q, M - p.n, j + 1, L7, c7, xs ++ [(p, m)], by go_num, by congr 1; omega, by go_num, by simp [hxl], by omega, hqn, by omega, HM7, HU7, HK7, by have := HGN.out; rw [List.map_append]; exact this, HD7, fun _ => by omega⟩
        case measure => simp [intOf]; omega
    · obtain rfl : k = n := by omega
      have dlt : decide ((k : Int) < k) = false := by simp
      have hj0 : 0 < j := hkj (by omega)
      have d0 : ((j : Int) == 0) = false := by simp; omega
      have HGE : Hid (U = .ok (xs.map (·.2))) := by
        have h := HGO.out
        unfold GoU at h
        rw [if_neg (by omega)] at h
        exact h
      have k0 := HK.out.cell 0
      have k1 := HK.out.cell 1
      have k2 := HK.out.cell 2
      have f0 := HK.out.frozen 0
      have f1 := HK.out.frozen 1
      have f2 := HK.out.frozen 2
      simp at k0 k1 k2
      go_wp2
      have HK9 := Lib.hid (blk3 (y0 := .string ⟨#[]⟩) (y1 := .int .i64 0) (y2 := .int .i64 0) HK.out)
      have hv9 : Upd [some R] wr (((wr.setCell ⟨R, 0, none⟩ (.string ⟨#[]⟩)).setCell ⟨R, 1, none⟩ (.int .i64 0)).setCell ⟨R, 2, none⟩ (.int .i64 0)) := (((Upd.refl _ _).putIn (by simp) _).putIn (by simp) _).putIn (by simp) _
      have HU9 := Lib.hid (put3 (g := R) (y0 := .string ⟨#[]⟩) (y1 := .int .i64 0) (y2 := .int .i64 0) HU.out hRw)
      have HM9 := Lib.hid (HM.out.fault HK.out HD.out hv9)
      clear k0 k1 k2 f0 f1 f2 hv9
      generalize World.setCell _ _ _ = w9 at HK9 HU9 HM9 ⊢
      have k0 := HK9.out.cell 0
      have k1 := HK9.out.cell 1
      have k2 := HK9.out.cell 2
      simp at k0 k1 k2
      refine bodyPost_ret (by simp [results, Tryz.results6, go_sem, k0, k1, k2]; rfl) rfl ?_
      exact unp_good HGE.out hxl rfl HM9.out HU9.out

set_option maxRecDepth 100000 in
set_option maxHeartbeats 4000000 in
/-- No bytes at all: too short. -/
theorem runpack_zero (A : Option Addr) (c : Nat) (most : Nat) (w : World) (hm : most ≤ 16777216)  :
    Calls Tryz.prog 6 #[.slice A 0 c, .int .i64 most] w (UnpPost (.bad 0 2) w) := by
  have HB1 : Hid (Blk (w.alloc (.cells #[.string ⟨#[]⟩, .int .i64 0, .int .i64 0] 27)) w.heap.size 27 #[.string ⟨#[]⟩, .int .i64 0, .int .i64 0]) := Blk.new w _ _
  have HU1 : Hid (Upd [] w (w.alloc (.cells #[.string ⟨#[]⟩, .int .i64 0, .int .i64 0] 27))) := (Upd.refl _ _).alloc _
  obtain ⟨R, hR⟩ : ∃ R, R = w.heap.size := ⟨_, rfl⟩
  have hRw : w.heap.size ≤ R := by omega
  have d1 : decide ((most : Int) < 0) = false := by simp
  have d2 : decide ((16777216 : Int) < most) = false := by simp; omega
  go_enter Tryz.func6, Tryz.ntmps6
  go_upto_region 1 with (fail)
  rw [← hR] at HB1 ⊢
  generalize hw1 : w.alloc _ = w1 at HB1 HU1 ⊢
  clear hw1 hR
  go_wp2_with fail
  clear d1 d2
  go_loopw [1, 6, 7] (fun v1 v6 v7 wr => v7 = .int .i64 0 ∧ v1 = .int .i64 most ∧ v6 = .slice none 0 0 ∧ Hid (Upd [] w wr) ∧ Hid (Blk wr R 27 #[.string ⟨#[]⟩, .int .i64 0, .int .i64 0])) (fun _ _ _ _ => 0)
  case atStart => exact ⟨rfl, rfl, rfl, HU1, HB1⟩
  case round =>
    clear HB1 HU1
    obtain ⟨rfl, rfl, rfl, HU, HK⟩ := hrel
    go_wp2_with fail
    refine (rmember_any A 0 c [] 0 most 1 wr (Seg.nil _ _ _) (by simp) (by omega) (by omega) (by omega) hm (by omega)).mono ?_
    rw [show memOf 1 (List.drop 0 []) most = .bad 2 from rfl]
    rintro e w4 ⟨-, rfl, hu4⟩
    have HU4 := Lib.hid (HU.out.trans hu4)
    have HK4 := Lib.hid (HK.out.upd hu4 (by simp))
    clear hu4
    go_upto_region 7 with (fail)
    have hv5 : Upd [] w4 (w4.alloc (.cells #[.string ⟨#[]⟩, .int .i64 0, .slice none 0 0, .int .i64 0, .int .i64 2] 39)) := (Upd.refl _ _).alloc _
    have HG5 : Hid (Blk (w4.alloc (.cells #[.string ⟨#[]⟩, .int .i64 0, .slice none 0 0, .int .i64 0, .int .i64 2] 39)) w4.heap.size 39 #[.string ⟨#[]⟩, .int .i64 0, .slice none 0 0, .int .i64 0, .int .i64 2]) := Blk.new _ _ _
    have HU5 := Lib.hid (HU4.out.trans hv5)
    have HK5 := Lib.hid (HK4.out.upd hv5 (by simp))
    have hRG : R ≠ w4.heap.size := by have := HK4.out.lt; omega
    obtain ⟨G, hG⟩ : ∃ G, G = w4.heap.size := ⟨_, rfl⟩
    rw [← hG] at HG5 hRG ⊢
    generalize w4.alloc _ = w5 at hv5 HG5 HU5 HK5 ⊢
    clear hG hv5
    have g4 := HG5.out.cell 4
    simp at g4
    have k0 := HK5.out.cell 0
    have k1 := HK5.out.cell 1
    have k2 := HK5.out.cell 2
    have f0 := HK5.out.frozen 0
    have f1 := HK5.out.frozen 1
    have f2 := HK5.out.frozen 2
    simp at k0 k1 k2
    go_wp2
    go_region_law (fail)
    have HB9 := Lib.hid (blk3 (y0 := .string ⟨#[]⟩) (y1 := .int .i64 0) (y2 := .int .i64 2) HK5.out)
    have HU9 := Lib.hid (put3 (g := R) (y0 := .string ⟨#[]⟩) (y1 := .int .i64 0) (y2 := .int .i64 2) HU5.out hRw)
    clear k0 k1 k2 f0 f1 f2 g4
    generalize World.setCell _ _ _ = w9 at HB9 HU9 ⊢
    have k0 := HB9.out.cell 0
    have k1 := HB9.out.cell 1
    have k2 := HB9.out.cell 2
    simp at k0 k1 k2
    go_wp2
    refine bodyPost_ret (by simp [results, Tryz.results6, go_sem, k0, k1, k2]; rfl) rfl ?_
    exact unp_bad rfl (by omega) rfl HU9.out.drew


/-- The reference's Unpack, where it is toldw much there may be. -/
theorem runpack_any (A : Option Addr) (n c : Nat) (zs : List Int) (most F : Nat) (w : World) (hs : Ints .u8 w A n zs) (hz : ∀ z ∈ zs, 0 ≤ z ∧ z ≤ 255) (hnc : n ≤ c) (hbig : n ≤ 100000) (hm : most ≤ 16777216) (hF : 8 * n < F)  :
    Calls Tryz.prog 6 #[.slice A n c, .int .i64 most] w (UnpPost (unpackAt F zs (n + 1) 0 most []) w) := by
  rcases Nat.eq_zero_or_pos n with h0 | h0
  · subst h0
    have hl := hs.len.out
    have hz0 : zs = [] := List.length_eq_zero_iff.1 hl
    subst hz0
    rw [unpack_none]
    exact runpack_zero A c most w hm
  · exact runpack_pos A n c zs most F w hs hz hnc h0 hbig hm hF

end Go.Proofs.YtolcdlopgbgilaaGreatDoor

/-! Text GzL. -/
namespace Go.Proofs.YtolcdlopgbgilaaGreatDoor
open Go.RowKit Go.Dray

theorem MemsR.nil (w : World) : MemsR w none 0 [] := ⟨rfl, (fun h => by omega), (fun k m h => by simp at h)⟩
theorem unpackAt_len (F : Nat) (zs : List Int) : ∀ (f k M : Nat) (ms l : List Mem), unpackAt F zs f k M ms = .ok l → l.length ≤ ms.length + f := by
  intro f
  induction f with
  | zero => intro k M ms l h; unfold unpackAt at h; cases h
  | succ f ih =>
    intro k M ms l h
    rw [unpackAt_succ] at h
    cases hm : memOf F (zs.drop k) M with
    | bad e => rw [hm] at h; cases h
    | ok m n =>
      rw [hm] at h
      simp only at h
      split at h
      · injection h with h
        rw [← h, List.length_append]
        simp
      · have := ih _ _ _ _ h
        rw [List.length_append] at this
        simp at this
        omega

set_option maxRecDepth 100000 in
set_option maxHeartbeats 1000000 in
theorem unpack_arg (A : Option Addr) (n c : Nat) (most : Int) (w : World) (h : most < 0 ∨ 16777216 < most) :
    Calls Tryz.prog 5 #[.slice A n c, .int .i64 most] w fun e w' => e = .returned (.tuple #[.slice none 0 0, .agg #[.string ⟨#[]⟩, .int .i64 0, .int .i64 1]]) ∧ Upd [] w w' := by
  have HB1 : Hid (Blk (w.alloc (.cells #[.string ⟨#[]⟩, .int .i64 0, .int .i64 0] 27)) w.heap.size 27 #[.string ⟨#[]⟩, .int .i64 0, .int .i64 0]) := Blk.new w _ _
  have HU1 : Hid (Upd [] w (w.alloc (.cells #[.string ⟨#[]⟩, .int .i64 0, .int .i64 0] 27))) := (Upd.refl _ _).alloc _
  obtain ⟨R, hR⟩ : ∃ R, R = w.heap.size := ⟨_, rfl⟩
  have hRw : w.heap.size ≤ R := by omega
  by_cases h0 : most < 0
  all_goals
    have h' : 0 ≤ most → 16777216 < most := fun h1 => by omega
    clear h
    go_enter Tryz.func5, Tryz.ntmps5
    go_upto_region 1 with (fail)
    rw [← hR] at HB1 ⊢
    generalize hw1 : w.alloc _ = w1 at HB1 HU1 ⊢
    clear hw1 hR
    have k0 := HB1.out.cell 0
    have k1 := HB1.out.cell 1
    have k2 := HB1.out.cell 2
    have f0 := HB1.out.frozen 0
    have f1 := HB1.out.frozen 1
    have f2 := HB1.out.frozen 2
    simp at k0 k1 k2
  · have d1 : decide (most < 0) = true := by simpa using h0
    clear h'
    go_wp2
    have HB9 := Lib.hid (blk3 (y0 := .string ⟨#[]⟩) (y1 := .int .i64 0) (y2 := .int .i64 1) HB1.out)
    have HU9 := Lib.hid (put3 (g := R) (y0 := .string ⟨#[]⟩) (y1 := .int .i64 0) (y2 := .int .i64 1) HU1.out hRw)
    clear k0 k1 k2 f0 f1 f2
    generalize World.setCell _ _ _ = w9 at HB9 HU9 ⊢
    have k0 := HB9.out.cell 0
    have k1 := HB9.out.cell 1
    have k2 := HB9.out.cell 2
    simp at k0 k1 k2
    refine bodyPost_ret (by simp [results, Tryz.results5, go_sem, k0, k1, k2]; rfl) rfl ?_
    exact ⟨rfl, HU9.out⟩
  · have d1 : decide (most < 0) = false := by simpa using h0
    have d2 : decide (16777216 < most) = true := by simpa using h' (by omega)
    clear h'
    go_wp2
    have HB9 := Lib.hid (blk3 (y0 := .string ⟨#[]⟩) (y1 := .int .i64 0) (y2 := .int .i64 1) HB1.out)
    have HU9 := Lib.hid (put3 (g := R) (y0 := .string ⟨#[]⟩) (y1 := .int .i64 0) (y2 := .int .i64 1) HU1.out hRw)
    clear k0 k1 k2 f0 f1 f2
    generalize World.setCell _ _ _ = w9 at HB9 HU9 ⊢
    have k0 := HB9.out.cell 0
    have k1 := HB9.out.cell 1
    have k2 := HB9.out.cell 2
    simp at k0 k1 k2
    refine bodyPost_ret (by simp [results, Tryz.results5, go_sem, k0, k1, k2]; rfl) rfl ?_
    exact ⟨rfl, HU9.out⟩

set_option maxRecDepth 100000 in
set_option maxHeartbeats 1000000 in
theorem runpack_arg (A : Option Addr) (n c : Nat) (most : Int) (w : World) (h : most < 0 ∨ 16777216 < most) :
    Calls Tryz.prog 6 #[.slice A n c, .int .i64 most] w fun e w' => e = .returned (.tuple #[.slice none 0 0, .agg #[.string ⟨#[]⟩, .int .i64 0, .int .i64 1]]) ∧ Upd [] w w' := by
  have HB1 : Hid (Blk (w.alloc (.cells #[.string ⟨#[]⟩, .int .i64 0, .int .i64 0] 27)) w.heap.size 27 #[.string ⟨#[]⟩, .int .i64 0, .int .i64 0]) := Blk.new w _ _
  have HU1 : Hid (Upd [] w (w.alloc (.cells #[.string ⟨#[]⟩, .int .i64 0, .int .i64 0] 27))) := (Upd.refl _ _).alloc _
  obtain ⟨R, hR⟩ : ∃ R, R = w.heap.size := ⟨_, rfl⟩
  have hRw : w.heap.size ≤ R := by omega
  by_cases h0 : most < 0
  all_goals
    have h' : 0 ≤ most → 16777216 < most := fun h1 => by omega
    clear h
    go_enter Tryz.func6, Tryz.ntmps6
    go_upto_region 1 with (fail)
    rw [← hR] at HB1 ⊢
    generalize hw1 : w.alloc _ = w1 at HB1 HU1 ⊢
    clear hw1 hR
    have k0 := HB1.out.cell 0
    have k1 := HB1.out.cell 1
    have k2 := HB1.out.cell 2
    have f0 := HB1.out.frozen 0
    have f1 := HB1.out.frozen 1
    have f2 := HB1.out.frozen 2
    simp at k0 k1 k2
  · have d1 : decide (most < 0) = true := by simpa using h0
    clear h'
    go_wp2
    have HB9 := Lib.hid (blk3 (y0 := .string ⟨#[]⟩) (y1 := .int .i64 0) (y2 := .int .i64 1) HB1.out)
    have HU9 := Lib.hid (put3 (g := R) (y0 := .string ⟨#[]⟩) (y1 := .int .i64 0) (y2 := .int .i64 1) HU1.out hRw)
    clear k0 k1 k2 f0 f1 f2
    generalize World.setCell _ _ _ = w9 at HB9 HU9 ⊢
    have k0 := HB9.out.cell 0
    have k1 := HB9.out.cell 1
    have k2 := HB9.out.cell 2
    simp at k0 k1 k2
    refine bodyPost_ret (by simp [results, Tryz.results6, go_sem, k0, k1, k2]; rfl) rfl ?_
    exact ⟨rfl, HU9.out⟩
  · have d1 : decide (most < 0) = false := by simpa using h0
    have d2 : decide (16777216 < most) = true := by simpa using h' (by omega)
    clear h'
    go_wp2
    have HB9 := Lib.hid (blk3 (y0 := .string ⟨#[]⟩) (y1 := .int .i64 0) (y2 := .int .i64 1) HB1.out)
    have HU9 := Lib.hid (put3 (g := R) (y0 := .string ⟨#[]⟩) (y1 := .int .i64 0) (y2 := .int .i64 1) HU1.out hRw)
    clear k0 k1 k2 f0 f1 f2
    generalize World.setCell _ _ _ = w9 at HB9 HU9 ⊢
    have k0 := HB9.out.cell 0
    have k1 := HB9.out.cell 1
    have k2 := HB9.out.cell 2
    simp at k0 k1 k2
    refine bodyPost_ret (by simp [results, Tryz.results6, go_sem, k0, k1, k2]; rfl) rfl ?_
    exact ⟨rfl, HU9.out⟩

set_option maxRecDepth 100000 in
set_option maxHeartbeats 8000000 in
theorem gzipUnpacks_walk (A : Option Addr) (n c : Nat) (zs : List Int) (most : Int) (w : World) (hin : InInts .u8 w A n c zs) (_ : (Lit.int .i64 most).wf = true) (hT : Ords w) :
    Calls Tryz.prog 3 #[.slice A n c, .int .i64 most] w fun e w' => e = .returned (.bool true) ∧ Below w.heap.size w w' := by
  have HZ := Lib.hid (inBytes_bd hin)
  have HT := Lib.hid hT
  have HS := Lib.hid hin.1
  have hnc := hin.2.1
  have HL := hin.1.len
  clear hin hT
  by_cases h1 : 400 < n
  · have d1 : decide ((400 : Int) < n) = true := by simp; omega
    go_enter Tryz.func3, Tryz.ntmps3
    go_wp2_with (go_at_call 4; refine (awake6_any _ HT.out).mono ?_; rintro e w1 ⟨rfl, hu1⟩)
    go_ret
    exact ⟨rfl, hu1.below (Nat.le_refl _) (by simp)⟩
  · have d1 : decide ((400 : Int) < n) = false := by simp; omega
    by_cases h2 : 5000 < most
    · have d2 : decide (5000 < most) = true := by simpa using h2
      by_cases h3 : most ≤ 16777216
      · have d3 : decide (most ≤ 16777216) = true := by simpa using h3
        go_enter Tryz.func3, Tryz.ntmps3
        go_wp2_with (go_at_call 4; refine (awake6_any _ HT.out).mono ?_; rintro e w1 ⟨rfl, hu1⟩)
        go_ret
        exact ⟨rfl, hu1.below (Nat.le_refl _) (by simp)⟩
      · have d3 : decide (most ≤ 16777216) = false := by simpa using h3
        have HARG : Hid (most < 0 ∨ 16777216 < most) := Or.inr (by omega)
        go_enter Tryz.func3, Tryz.ntmps3
        go_wp2_with fail
        refine (awake6_any w HT.out).mono ?_
        rintro e w1 ⟨rfl, hu1⟩
        have HU1 := Lib.hid hu1
        have HT1 := Lib.hid (HT.out.upd hu1)
        have HS1 := Lib.hid (HS.out.upd hu1 (by simp))
        clear hu1 HT HS
        go_wp2_with fail
        refine (unpack_arg A n c most w1 HARG.out).mono ?_
        rintro e w3 ⟨rfl, hu3⟩
        have HU3 := Lib.hid (HU1.out.trans hu3)
        clear hu3
        go_upto_region 6 with (fail)
        have hv : Upd [] w3 (w3.alloc (.cells #[.string ⟨#[]⟩, .int .i64 0, .int .i64 1] 27)) := (Upd.refl _ _).alloc _
        have HB4 : Hid (Blk (w3.alloc (.cells #[.string ⟨#[]⟩, .int .i64 0, .int .i64 1] 27)) w3.heap.size 27 #[.string ⟨#[]⟩, .int .i64 0, .int .i64 1]) := Blk.new _ _ _
        have HU4 := Lib.hid (HU3.out.trans hv)
        obtain ⟨g4, hg⟩ : ∃ g, g = w3.heap.size := ⟨_, rfl⟩
        rw [← hg] at HB4 ⊢
        generalize w3.alloc _ = w4 at hv HB4 HU4 ⊢
        clear hg hv
        go_wp2_with fail
        refine (runpack_arg A n c most w4 HARG.out).mono ?_
        rintro e w5 ⟨rfl, hu5⟩
        have HU5 := Lib.hid (HU4.out.trans hu5)
        have HB5 := Lib.hid (HB4.out.upd hu5 (by simp))
        clear hu5
        go_upto_region 7 with (fail)
        have hv : Upd [] w5 (w5.alloc (.cells #[.string ⟨#[]⟩, .int .i64 0, .int .i64 1] 27)) := (Upd.refl _ _).alloc _
        have HB6 : Hid (Blk (w5.alloc (.cells #[.string ⟨#[]⟩, .int .i64 0, .int .i64 1] 27)) w5.heap.size 27 #[.string ⟨#[]⟩, .int .i64 0, .int .i64 1]) := Blk.new _ _ _
        have HU6 := Lib.hid (HU5.out.trans hv)
        have HB7 := Lib.hid (HB5.out.upd hv (by simp))
        obtain ⟨g6, hg⟩ : ∃ g, g = w5.heap.size := ⟨_, rfl⟩
        rw [← hg] at HB6 ⊢
        generalize w5.alloc _ = w6 at hv HB6 HU6 HB7 ⊢
        clear hg hv
        have k0 := HB7.out.cell 0
        have k1 := HB7.out.cell 1
        have k2 := HB7.out.cell 2
        simp at k0 k1 k2
        have m0 := HB6.out.cell 0
        have m1 := HB6.out.cell 1
        have m2 := HB6.out.cell 2
        simp at m0 m1 m2
        go_wp2_with fail
        refine (same6_any w6 none 0 0 none 0 [] (MemsR.nil _) (MemsR.nil _) (by omega)).mono ?_
        rintro e w7 ⟨rfl, hu7⟩
        have HU7 := Lib.hid (HU6.out.trans hu7)
        have k0 := hu7.cell k0 (by simp)
        have k1 := hu7.cell k1 (by simp)
        have k2 := hu7.cell k2 (by simp)
        have m0 := hu7.cell m0 (by simp)
        have m1 := hu7.cell m1 (by simp)
        have m2 := hu7.cell m2 (by simp)
        clear hu7
        go_wp2
        go_ret
        exact ⟨rfl, HU7.out.below (Nat.le_refl _) (by simp)⟩
    · have d2 : decide (5000 < most) = false := by simpa using h2
      by_cases h3 : most < 0
      · have HARG : Hid (most < 0 ∨ 16777216 < most) := Or.inl h3
        go_enter Tryz.func3, Tryz.ntmps3
        go_wp2_with fail
        refine (awake6_any w HT.out).mono ?_
        rintro e w1 ⟨rfl, hu1⟩
        have HU1 := Lib.hid hu1
        have HT1 := Lib.hid (HT.out.upd hu1)
        have HS1 := Lib.hid (HS.out.upd hu1 (by simp))
        clear hu1 HT HS
        go_wp2_with fail
        refine (unpack_arg A n c most w1 HARG.out).mono ?_
        rintro e w3 ⟨rfl, hu3⟩
        have HU3 := Lib.hid (HU1.out.trans hu3)
        clear hu3
        go_upto_region 6 with (fail)
        have hv : Upd [] w3 (w3.alloc (.cells #[.string ⟨#[]⟩, .int .i64 0, .int .i64 1] 27)) := (Upd.refl _ _).alloc _
        have HB4 : Hid (Blk (w3.alloc (.cells #[.string ⟨#[]⟩, .int .i64 0, .int .i64 1] 27)) w3.heap.size 27 #[.string ⟨#[]⟩, .int .i64 0, .int .i64 1]) := Blk.new _ _ _
        have HU4 := Lib.hid (HU3.out.trans hv)
        obtain ⟨g4, hg⟩ : ∃ g, g = w3.heap.size := ⟨_, rfl⟩
        rw [← hg] at HB4 ⊢
        generalize w3.alloc _ = w4 at hv HB4 HU4 ⊢
        clear hg hv
        go_wp2_with fail
        refine (runpack_arg A n c most w4 HARG.out).mono ?_
        rintro e w5 ⟨rfl, hu5⟩
        have HU5 := Lib.hid (HU4.out.trans hu5)
        have HB5 := Lib.hid (HB4.out.upd hu5 (by simp))
        clear hu5
        go_upto_region 7 with (fail)
        have hv : Upd [] w5 (w5.alloc (.cells #[.string ⟨#[]⟩, .int .i64 0, .int .i64 1] 27)) := (Upd.refl _ _).alloc _
        have HB6 : Hid (Blk (w5.alloc (.cells #[.string ⟨#[]⟩, .int .i64 0, .int .i64 1] 27)) w5.heap.size 27 #[.string ⟨#[]⟩, .int .i64 0, .int .i64 1]) := Blk.new _ _ _
        have HU6 := Lib.hid (HU5.out.trans hv)
        have HB7 := Lib.hid (HB5.out.upd hv (by simp))
        obtain ⟨g6, hg⟩ : ∃ g, g = w5.heap.size := ⟨_, rfl⟩
        rw [← hg] at HB6 ⊢
        generalize w5.alloc _ = w6 at hv HB6 HU6 HB7 ⊢
        clear hg hv
        have k0 := HB7.out.cell 0
        have k1 := HB7.out.cell 1
        have k2 := HB7.out.cell 2
        simp at k0 k1 k2
        have m0 := HB6.out.cell 0
        have m1 := HB6.out.cell 1
        have m2 := HB6.out.cell 2
        simp at m0 m1 m2
        go_wp2_with fail
        refine (same6_any w6 none 0 0 none 0 [] (MemsR.nil _) (MemsR.nil _) (by omega)).mono ?_
        rintro e w7 ⟨rfl, hu7⟩
        have HU7 := Lib.hid (HU6.out.trans hu7)
        have k0 := hu7.cell k0 (by simp)
        have k1 := hu7.cell k1 (by simp)
        have k2 := hu7.cell k2 (by simp)
        have m0 := hu7.cell m0 (by simp)
        have m1 := hu7.cell m1 (by simp)
        have m2 := hu7.cell m2 (by simp)
        clear hu7
        go_wp2
        go_ret
        exact ⟨rfl, HU7.out.below (Nat.le_refl _) (by simp)⟩
      · obtain ⟨M, rfl⟩ := Int.eq_ofNat_of_zero_le (show 0 ≤ most by omega)
        have hM : M ≤ 5000 := by omega
        clear h3
        go_enter Tryz.func3, Tryz.ntmps3
        go_wp2_with fail
        refine (awake6_any w HT.out).mono ?_
        rintro e w1 ⟨rfl, hu1⟩
        have HU1 := Lib.hid hu1
        have HT1 := Lib.hid (HT.out.upd hu1)
        have HS1 := Lib.hid (HS.out.upd hu1 (by simp))
        clear hu1 HT HS
        obtain ⟨r, hr⟩ : ∃ r, r = unpackAt (8 * n + 3400) zs (n + 1) 0 M [] := ⟨_, rfl⟩
        have HR1 := Lib.hid (unpack_any A n c zs M (8 * n + 3400) w1 HS1.out HZ.out hnc (by omega) (by omega) (by omega) HT1.out.1)
        have HR2 : Hid (∀ W, Upd [] w1 W → Calls Tryz.prog 6 #[.slice A n c, .int .i64 M] W (UnpPost r W)) := fun W hW => by
          rw [hr]
          exact runpack_any A n c zs M (8 * n + 3400) W (HS1.out.upd hW (by simp)) HZ.out hnc (by omega) (by omega) (by omega)
        have HLEN : Hid (∀ l, r = .ok l → l.length ≤ 1000) := fun l h => by
          have h1 := unpackAt_len (8 * n + 3400) zs (n + 1) 0 M [] l (by rw [← hr]; exact h)
          simp at h1
          omega
        rw [← hr] at HR1
        clear hr
        go_wp2_with fail
        refine HR1.out.mono ?_
        clear HR1
        cases r with
        | bad k er =>
          rintro e w3 ⟨-, rfl, hu3⟩
          have HU3 := Lib.hid (HU1.out.trans hu3)
          have HW3 := Lib.hid hu3
          clear hu3
          go_upto_region 6 with (fail)
          have hv : Upd [] w3 (w3.alloc (.cells #[.string ⟨#[]⟩, .int .i64 (k : Int), .int .i64 er] 27)) := (Upd.refl _ _).alloc _
          have HB4 : Hid (Blk (w3.alloc (.cells #[.string ⟨#[]⟩, .int .i64 (k : Int), .int .i64 er] 27)) w3.heap.size 27 #[.string ⟨#[]⟩, .int .i64 (k : Int), .int .i64 er]) := Blk.new _ _ _
          have HU4 := Lib.hid (HU3.out.trans hv)
          have HW4 := Lib.hid (HW3.out.trans hv)
          obtain ⟨g4, hg⟩ : ∃ g, g = w3.heap.size := ⟨_, rfl⟩
          rw [← hg] at HB4 ⊢
          generalize w3.alloc _ = w4 at hv HB4 HU4 HW4 ⊢
          clear hg hv
          go_wp2_with fail
          refine (HR2.out w4 HW4.out).mono ?_
          rintro e w5 ⟨-, rfl, hu5⟩
          have HU5 := Lib.hid (HU4.out.trans hu5)
          have HB5 := Lib.hid (HB4.out.upd hu5 (by simp))
          clear hu5
          go_upto_region 7 with (fail)
          have hv : Upd [] w5 (w5.alloc (.cells #[.string ⟨#[]⟩, .int .i64 (k : Int), .int .i64 er] 27)) := (Upd.refl _ _).alloc _
          have HB6 : Hid (Blk (w5.alloc (.cells #[.string ⟨#[]⟩, .int .i64 (k : Int), .int .i64 er] 27)) w5.heap.size 27 #[.string ⟨#[]⟩, .int .i64 (k : Int), .int .i64 er]) := Blk.new _ _ _
          have HU6 := Lib.hid (HU5.out.trans hv)
          have HB7 := Lib.hid (HB5.out.upd hv (by simp))
          obtain ⟨g6, hg⟩ : ∃ g, g = w5.heap.size := ⟨_, rfl⟩
          rw [← hg] at HB6 ⊢
          generalize w5.alloc _ = w6 at hv HB6 HU6 HB7 ⊢
          clear hg hv
          have k0 := HB7.out.cell 0
          have k1 := HB7.out.cell 1
          have k2 := HB7.out.cell 2
          simp at k0 k1 k2
          have m0 := HB6.out.cell 0
          have m1 := HB6.out.cell 1
          have m2 := HB6.out.cell 2
          simp at m0 m1 m2
          go_wp2_with fail
          refine (same6_any w6 none 0 0 none 0 [] (MemsR.nil _) (MemsR.nil _) (by omega)).mono ?_
          rintro e w7 ⟨rfl, hu7⟩
          have HU7 := Lib.hid (HU6.out.trans hu7)
          have k0 := hu7.cell k0 (by simp)
          have k1 := hu7.cell k1 (by simp)
          have k2 := hu7.cell k2 (by simp)
          have m0 := hu7.cell m0 (by simp)
          have m1 := hu7.cell m1 (by simp)
          have m2 := hu7.cell m2 (by simp)
          clear hu7
          go_wp2
          go_ret
          exact ⟨rfl, HU7.out.below (Nat.le_refl _) (by simp)⟩
        | ok l =>
          rintro e w3 ⟨L, lc, xs, hl, rfl, hm3, hu3⟩
          have HU3 := Lib.hid (HU1.out.trans hu3)
          have HW3 := Lib.hid hu3
          have hq : xs.length = l.length := by rw [hl, List.length_map]
          have HM3 : Hid (MemsR w3 L l.length l) := by
            have h := hm3.reads
            rw [← hl, hq] at h
            exact h
          rw [hq]
          clear hu3 hm3 hl hq
          go_upto_region 6 with (fail)
          have hv : Upd [] w3 (w3.alloc (.cells #[.string ⟨#[]⟩, .int .i64 0, .int .i64 0] 27)) := (Upd.refl _ _).alloc _
          have HB4 : Hid (Blk (w3.alloc (.cells #[.string ⟨#[]⟩, .int .i64 0, .int .i64 0] 27)) w3.heap.size 27 #[.string ⟨#[]⟩, .int .i64 0, .int .i64 0]) := Blk.new _ _ _
          have HU4 := Lib.hid (HU3.out.trans hv)
          have HW4 := Lib.hid (HW3.out.trans hv)
          have HM4 := Lib.hid (HM3.out.upd0 hv)
          obtain ⟨g4, hg⟩ : ∃ g, g = w3.heap.size := ⟨_, rfl⟩
          rw [← hg] at HB4 ⊢
          generalize w3.alloc _ = w4 at hv HB4 HU4 HW4 HM4 ⊢
          clear hg hv
          go_wp2_with fail
          refine (HR2.out w4 HW4.out).mono ?_
          rintro e w5 ⟨L2, lc2, ys, hl2, rfl, hm5, hu5⟩
          have HU5 := Lib.hid (HU4.out.trans hu5)
          have HB5 := Lib.hid (HB4.out.upd hu5 (by simp))
          have HM5 := Lib.hid (HM4.out.upd0 hu5)
          have hq2 : ys.length = l.length := by rw [hl2, List.length_map]
          have HN5 : Hid (MemsR w5 L2 l.length l) := by
            have h := hm5.reads
            rw [← hl2, hq2] at h
            exact h
          rw [hq2]
          obtain ⟨j, hj⟩ : ∃ j, j = l.length := ⟨_, rfl⟩
          rw [← hj] at HM5 HN5 ⊢
          have hjb : j ≤ 1000 := by rw [hj]; exact HLEN.out l rfl
          clear hu5 hm5 hl2 hq2 hj
          go_upto_region 7 with (fail)
          have hv : Upd [] w5 (w5.alloc (.cells #[.string ⟨#[]⟩, .int .i64 0, .int .i64 0] 27)) := (Upd.refl _ _).alloc _
          have HB6 : Hid (Blk (w5.alloc (.cells #[.string ⟨#[]⟩, .int .i64 0, .int .i64 0] 27)) w5.heap.size 27 #[.string ⟨#[]⟩, .int .i64 0, .int .i64 0]) := Blk.new _ _ _
          have HU6 := Lib.hid (HU5.out.trans hv)
          have HB7 := Lib.hid (HB5.out.upd hv (by simp))
          have HM6 := Lib.hid (HM5.out.upd0 hv)
          have HN6 := Lib.hid (HN5.out.upd0 hv)
          obtain ⟨g6, hg⟩ : ∃ g, g = w5.heap.size := ⟨_, rfl⟩
          rw [← hg] at HB6 ⊢
          generalize w5.alloc _ = w6 at hv HB6 HU6 HB7 HM6 HN6 ⊢
          clear hg hv
          have k0 := HB7.out.cell 0
          have k1 := HB7.out.cell 1
          have k2 := HB7.out.cell 2
          simp at k0 k1 k2
          have m0 := HB6.out.cell 0
          have m1 := HB6.out.cell 1
          have m2 := HB6.out.cell 2
          simp at m0 m1 m2
          go_wp2_with fail
          refine (same6_any w6 L j lc L2 lc2 l HM6.out HN6.out (by omega)).mono ?_
          rintro e w7 ⟨rfl, hu7⟩
          have HU7 := Lib.hid (HU6.out.trans hu7)
          have k0 := hu7.cell k0 (by simp)
          have k1 := hu7.cell k1 (by simp)
          have k2 := hu7.cell k2 (by simp)
          have m0 := hu7.cell m0 (by simp)
          have m1 := hu7.cell m1 (by simp)
          have m2 := hu7.cell m2 (by simp)
          clear hu7
          go_wp2
          go_ret
          exact ⟨rfl, HU7.out.below (Nat.le_refl _) (by simp)⟩

end Go.Proofs.YtolcdlopgbgilaaGreatDoor
