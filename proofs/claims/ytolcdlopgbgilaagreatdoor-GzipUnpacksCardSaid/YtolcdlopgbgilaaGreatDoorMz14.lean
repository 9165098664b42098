/- Merged by wip/tools/merge.py: RiB RiC. -/
import Derived.Deep.RegionHeld3
import Derived.Deep.Cut
import Derived.Test.YtolcdlopgbgilaaGreatDoorMz06
import Derived.Test.YtolcdlopgbgilaaGreatDoorMz13

/-! Text RiB. -/
namespace Go.Proofs.YtolcdlopgbgilaaGreatDoor
open Go.RowKit Go.Dray

/-- Fifteen bits are enough. -/
theorem NextIs.of15 {zs : List Int} (hk : chk zs = 0) {bs : List Bool} {k : Nat} {sym err : Int} (h : NextIs zs (bs.take 15) k sym err) : NextIs zs bs k sym err := by
  have hl : k ≤ bs.length ∧ k ≤ 15 := by have := h.1; rw [List.length_take] at this; omega
  have ht : ∀ j, j ≤ k → (bs.take 15).take j = bs.take j := fun j hj => by rw [List.take_take, show min j 15 = j from by omega]
  have hg : ∀ j, j ≤ k → goesOn zs (bs.take 15) j → goesOn zs bs j := fun j hj h => by
    unfold goesOn at h ⊢
    rw [ht j hj] at h
    exact h
  refine ⟨hl.1, fun j h1 h2 => hg j (by omega) (h.2.1 j h1 h2), ?_⟩
  rcases h.2.2 with ⟨h1, h2, h3, h4⟩ | ⟨h1, h2, h3, h4⟩ | ⟨h1, h2, t, h3, h4⟩
  · refine Or.inl ⟨h1, h2, ?_, fun h5 => hg k (Nat.le_refl _) (h4 h5)⟩
    rw [List.length_take] at h3
    rcases Nat.lt_or_ge bs.length 15 with h5 | h5
    · omega
    · exfalso
      have h6 : k = 15 := by omega
      have h7 := hg k (Nat.le_refl _) (h4 (by omega))
      rw [h6] at h7
      exact no_16 hk h5 h7
  · exact Or.inr (Or.inl ⟨h1, h2, h3, by rw [ht k (Nat.le_refl _)] at h4; exact h4⟩)
  · exact Or.inr (Or.inr ⟨h1, h2, t, h3, by rw [ht k (Nat.le_refl _)] at h4; exact h4⟩)

/-- A code: its lengths and rows, each in a block of ints. -/
structure Cd (w : World) (zs : List Int) (A : Option Addr) (c : Nat) (C : Option Addr) (d : Nat) : Prop where
  lens : Ints .i64 w A zs.length zs
  rows : Ints .i64 w C zs.length (tab zs.length (codeOf zs))
  ok : chk zs = 0
  tl : 0 < zs.length → ∃ cs, Blk w (bl A) 3 cs
  tr : 0 < zs.length → ∃ cs, Blk w (bl C) 3 cs
theorem Cd.upd {w w' : World} {zs : List Int} {A C : Option Addr} {c d : Nat} (h : Cd w zs A c C d) {L : List (Option Nat)} (hu : Upd L w w') (ha : 0 < zs.length → some (bl A) ∉ L) (hc : 0 < zs.length → some (bl C) ∉ L) : Cd w' zs A c C d :=
  ⟨h.lens.upd hu ha, h.rows.upd hu hc, h.ok, fun hp => by obtain ⟨cs, hb⟩ := h.tl hp; exact ⟨cs, hb.upd hu (ha hp)⟩, fun hp => by obtain ⟨cs, hb⟩ := h.tr hp; exact ⟨cs, hb.upd hu (hc hp)⟩⟩
theorem Cd.grow {w w' : World} {zs : List Int} {A C : Option Addr} {c d : Nat} (h : Cd w zs A c C d) (hu : Upd [] w w') : Cd w' zs A c C d := h.upd hu (by simp) (by simp)
theorem Cd.drewN {w : World} {zs : List Int} {A C : Option Addr} {c d : Nat} (h : Cd w zs A c C d) (q : Nat) : Cd (w.drewN q) zs A c C d := ⟨h.lens.drewN q, h.rows.drewN q, h.ok, h.tl, h.tr⟩
/-- What the state's steps write leaves a code as it is. -/
theorem Cd.keep {w w' : World} {zs : List Int} {A C : Option Addr} {c d : Nat} (h : Cd w zs A c C d) {B s : Nat} {X : Option Addr} {xc : Nat} {bs : List Bool} {p : Nat} {OA : Option Addr} {on oc : Nat} {o : List Int} {most : Nat} {e : Int}
    (hs : RSt w B s X xc bs p OA on oc o most e) (hu : Upd [some s, ob OA] w w') : Cd w' zs A c C d :=
  h.upd hu (fun hp => by obtain ⟨cs, hb⟩ := h.tl hp; simp; exact ⟨hb.ne hs.blk (by decide), fun e => hs.own.neBlk hb (by decide) e.symm⟩) (fun hp => by obtain ⟨cs, hb⟩ := h.tr hp; simp; exact ⟨hb.ne hs.blk (by decide), fun e => hs.own.neBlk hb (by decide) e.symm⟩)

def SymPost (w : World) (B s : Nat) (X : Option Addr) (xc : Nat) (bs : List Bool) (p : Nat) (OA : Option Addr) (on oc : Nat) (o : List Int) (most : Nat) (err : Int) (zs : List Int) (e : Ending) (w' : World) : Prop :=
  ∃ v p' err', e = .returned (.int .i64 v) ∧ RSt w' B s X xc bs p' OA on oc o most err' ∧ Upd [some s] w w' ∧ p ≤ p' ∧
    ((err ≠ 0 ∧ err' = err ∧ p' = p ∧ v = 0) ∨ (err = 0 ∧ err' = 0 ∧ p < p' ∧ 0 ≤ v ∧ v < zs.length ∧ nextF zs (bs.drop p) = (p' - p, v, 0)) ∨ (err = 0 ∧ err' ≠ 0 ∧ p' = p ∧ v = 0 ∧ ∃ k, nextF zs (bs.drop p) = (k, 0, err')))

theorem upd_set3 {w w' : World} {b : Nat} (h : Upd [] w w') (hb : w.heap.size ≤ b) {x y z : Value} : Upd [] w (((w'.setCell ⟨b, 0, none⟩ x).setCell ⟨b, 1, none⟩ y).setCell ⟨b, 2, none⟩ z) := ((h.put hb _).put hb _).put hb _

set_option maxRecDepth 100000 in
set_option maxHeartbeats 2000000 in
theorem symbol_any {w : World} {B s : Nat} {X : Option Addr} {xc : Nat} {bs : List Bool} {p : Nat} {OA : Option Addr} {on oc : Nat} {o : List Int} {most : Nat} {err : Int} (h : RSt w B s X xc bs p OA on oc o most err)
    {zs : List Int} {A C : Option Addr} {c d : Nat} (hc : Cd w zs A c C d) :
    Calls Tryz.prog 76 #[.pointer (some ⟨s, 0, none⟩), .agg #[.slice A zs.length c, .slice C zs.length d]] w (SymPost w B s X xc bs p OA on oc o most err zs) := by
  have HS := Lib.hid h
  have HC := Lib.hid hc
  have c4 := h.blk.cell 4
  simp at c4
  obtain ⟨zn, hzn⟩ : ∃ zn, zn = zs.length := ⟨_, rfl⟩
  have HZN := Lib.hid hzn
  obtain ⟨w1, hw1⟩ : ∃ w1 : World, w1 = w.alloc (.cells #[.slice A zn c, .slice C zn d] 93) := ⟨_, rfl⟩
  have hu1 : Upd [] w w1 := by rw [hw1]; exact (Upd.refl _ _).alloc _
  have hbc : Blk w1 w.heap.size 93 #[.slice A zn c, .slice C zn d] := by rw [hw1]; exact Blk.new _ _ _
  have HS1 := Lib.hid (h.grow hu1)
  have HC1 := Lib.hid (hc.grow hu1)
  have HU1 := Lib.hid hu1
  rw [← hzn]
  clear h hc hzn
  by_cases he : err = 0
  · subst he
    have e4 : w1.cell? ⟨s, 4, none⟩ = some (.int .i64 0) := HU1.out.cell c4 (by simp)
    have e1 := HS1.out.blk.cell 1
    have e0 := HS1.out.blk.cell 0
    simp at e0 e1
    obtain ⟨N, hN⟩ : ∃ N, N = bs.length := ⟨_, rfl⟩
    have HN := Lib.hid hN
    have hp := HS1.out.pos
    have hbl := HS1.out.blen
    rw [← hN] at e0 hp hbl
    have hxc : N ≤ xc := by rw [hN]; exact HS1.out.bits.le
    have cc0 := hbc.cell 0
    have cc1 := hbc.cell 1
    simp at cc0 cc1
    have HB := Lib.hid hbc
    clear hN hbc hu1 c4
    obtain ⟨m, hm⟩ : ∃ m, m = min 15 (N - p) := ⟨_, rfl⟩
    have hm15 : m ≤ 15 := by omega
    have hpm : p + m ≤ N := by omega
    have HSS : Hid (∀ W, Upd [] w1 W → (fun W => W.cell? ⟨w.heap.size, 0, none⟩ = some (.slice A zn c) ∧ W.cell? ⟨w.heap.size, 1, none⟩ = some (.slice C zn d) ∧ W.cell? ⟨s, 0, none⟩ = some (.slice X N xc) ∧ W.cell? ⟨s, 1, none⟩ = some (.int .i64 p) ∧ Upd [] w1 W) W) := fun W hW => ⟨hW.cell cc0 (by simp), hW.cell cc1 (by simp), hW.cell e0 (by simp), hW.cell e1 (by simp), hW⟩
    have HNX : Hid (∀ W, Upd [] w1 W → Calls Tryz.prog 103 #[.slice A zn c, .slice C zn d, .slice (cutA 1 X xc p) m (xc - p)] W (RNextPost zs ((bs.drop p).take 15) (cutA 1 X xc p) W)) := fun W hW => by
      have hcW := HC1.out.grow hW
      have hsW := HS1.out.grow hW
      have hN2 := HN.out
      have h1 := (Ints.ofOwn hsW.bits).cut (lo := p) (hi := p + m) (c := xc) (by omega) (by omega) (by rw [← HN.out]; exact hxc)
      rw [Nat.add_sub_cancel_left, ← List.map_drop, ← List.map_take] at h1
      have e15 : (bs.drop p).take m = (bs.drop p).take 15 := by
        rw [hm, ← List.take_take, List.take_of_length_le (l := bs.drop p) (by rw [List.length_drop, HN.out]; omega)]
      rw [e15] at h1
      rw [HZN.out]
      exact rnext_any A C _ _ m c d _ zs _ W hcW.lens hcW.rows h1 (by omega) (by omega) hcW.ok
    by_cases h15 : N < p + 15
    · have hm' : p + m = N := by omega
      have cut := run_cut_lh el_int X N xc .i64 .i64 (p : Int) (N : Int) p N rfl rfl hp hxc
      rw [show N - p = m from by omega] at cut
      clear hm
      go_enter Tryz.func76, Tryz.ntmps76
      go_upto_region 1 with (fail)
      rw [← hw1]
      clear hw1
      go_wp2
      go_region_held3 (fun W => W.cell? ⟨w.heap.size, 0, none⟩ = some (.slice A zn c) ∧ W.cell? ⟨w.heap.size, 1, none⟩ = some (.slice C zn d) ∧ W.cell? ⟨s, 0, none⟩ = some (.slice X N xc) ∧ W.cell? ⟨s, 1, none⟩ = some (.int .i64 p) ∧ Upd [] w1 W) (first | with_reducible assumption | with_reducible exact HSS.out _ (upd_set3 HV5.out (Nat.le_refl _)) | with_reducible exact HSS.out _ (HV5.out.alloc _) | with_reducible exact HSS.out _ HV5.out | with_reducible exact HSS.out _ (Upd.alloc (by go_split_ands; with_reducible assumption) _) | with_reducible exact HSS.out _ (Upd.drew (Upd.refl [] w1))) (first | (go_at_call 103; (obtain ⟨oq, hq⟩ : ∃ oq, Upd [] w1 (World.drew (World.alloc w1 oq)) := ⟨_, by with_reducible (go_split_ands; with_reducible assumption)⟩); clear hq oq; refine (HNX.out _ (by go_split_ands; with_reducible assumption)).mono ?_; rintro e w5 ⟨k, sym, er, R, rc, rfl, hnx, hri, hrc, hblR, hv5⟩; have HV5 : Hid (Upd [] w1 w5) := (Upd.trans (by go_split_ands; with_reducible assumption) hv5); have HBN : Hid (Blk w5 w1.heap.size 156 #[.int .i64 0, .slice none 0 0, .int .i64 0]) := Blk.upd (show Blk (World.drew (World.alloc w1 (.cells #[.int .i64 0, .slice none 0 0, .int .i64 0] 156))) w1.heap.size 156 #[.int .i64 0, .slice none 0 0, .int .i64 0] from Blk.new w1 156 #[.int .i64 0, .slice none 0 0, .int .i64 0]) hv5 (by simp); have n0 : w5.cell? ⟨w1.heap.size, 0, none⟩ = some (.int .i64 0) := (by rw [HBN.out.cell]; rfl); have n1 : w5.cell? ⟨w1.heap.size, 1, none⟩ = some (.slice none 0 0) := (by rw [HBN.out.cell]; rfl); have n2 : w5.cell? ⟨w1.heap.size, 2, none⟩ = some (.int .i64 0) := (by rw [HBN.out.cell]; rfl); have nf := HBN.out.frozen) | (go_at_call 103; refine (HNX.out _ (by go_split_ands; with_reducible assumption)).mono ?_; rintro e w5 ⟨k, sym, er, R, rc, rfl, hnx, hri, hrc, hblR, hv5⟩; have HV5 : Hid (Upd [] w1 w5) := (Upd.trans (by go_split_ands; with_reducible assumption) hv5)))
      · obtain ⟨w6, hw6⟩ : ∃ w6 : World, w6 = w5.alloc (.cells #[.int .i64 sym, .slice R (min 15 (bs.length - p) - k) rc, .int .i64 er] 156) := ⟨_, rfl⟩
        rw [← hw6]
        have HX6 : Hid (Blk w6 w5.heap.size 156 #[.int .i64 sym, .slice R (min 15 (bs.length - p) - k) rc, .int .i64 er]) := by rw [hw6]; exact Blk.new _ _ _
        have HV6 : Hid (Upd [] w1 w6) := by rw [hw6]; exact HV5.out.alloc _
        have HGS : Hid (w1.heap.size ≤ w5.heap.size) := HV5.out.size
        clear hw6
        generalize w5.heap.size = G at HX6 HGS ⊢
        generalize min 15 (bs.length - p) - k = rn at HX6
        have HNX2 : Hid (NextIs zs (bs.drop p) k sym er) := NextIs.of15 HC.out.ok hnx
        have HS6 := Lib.hid (HS1.out.grow HV6.out)
        have HB6 := Lib.hid (HB.out.upd HV6.out (by simp))
        have HC6 := Lib.hid (HC1.out.grow HV6.out)
        have HU6 : Hid (Upd [] w w6) := HU1.out.trans HV6.out
        have g0 := HX6.out.cell 0
        have g2 := HX6.out.cell 2
        have s1 := HS6.out.blk.cell 1
        have s4 := HS6.out.blk.cell 4
        have f1 := HS6.out.blk.frozen 1
        have f4 := HS6.out.blk.frozen 4
        have b0 := HB6.out.cell 0
        simp at g0 g2 s1 s4 b0
        clear hnx hri hrc hblR hv5 HV5 HNX HSS cut e0 e1 e4 cc0 cc1 HB
        by_cases her : er = 0
        · subst her
          have hk : p + k ≤ N ∧ 0 ≤ sym ∧ sym < zs.length ∧ 1 ≤ k := by
            have h1 := HNX2.out.sym
            have h2 := HNX2.out.1
            rw [List.length_drop, ← HN.out] at h2
            omega
          obtain ⟨t, rfl⟩ := Int.eq_ofNat_of_zero_le hk.2.1
          have htn : t < zn := by rw [HZN.out]; omega
          have hzt : zs.getD t 0 = (k : Int) := by
            rcases HNX2.out.2.2 with ⟨h1, _⟩ | ⟨h1, _⟩ | ⟨_, _, t', h3, h4⟩
            · omega
            · omega
            · obtain rfl : t = t' := by omega
              obtain ⟨h5, h6, h7⟩ := leafF_in h4
              have h8 := congrArg List.length h7
              rw [rowOf_len, List.length_take, List.length_drop, ← HN.out] at h8
              omega
          have hzi : zs[t]? = some (k : Int) := by
            rw [List.getElem?_eq_getElem (by omega)]
            have : t < zs.length := by omega
            simp [List.getD, this] at hzt
            rw [hzt]
          have xix := Seg.index (n := zn) (by rw [HZN.out]; exact HC6.out.lens) el_int c .i64 t htn
          have xcell := HC6.out.lens.cell hzi
          rw [Nat.mul_one] at xix
          have HKK := Lib.hid hk
          have hpk : p + k ≤ N := hk.1
          clear hk hzt hzi
          go_wp2
          go_still_tail 14, (by kernel_rfl)
          have S6 : Hid (RSt w6.drew B s X xc bs p OA on oc o most 0) := HS6.out.drewN 1
          have U6 : Hid (Upd [] w w6.drew) := HU6.out.drew
          have hsG : s ≠ G := HS6.out.blk.ne HX6.out (by decide)
          have HX7 : Hid (Blk w6.drew G 156 #[.int .i64 t, .slice R rn rc, .int .i64 0]) := HX6.out
          have q1 : w6.drew.frozen? ⟨s, 1, none⟩ = false := f1
          have q2 : w6.drew.cell? ⟨s, 1, none⟩ = some (.int .i64 p) := s1
          change wpList _ _ _ _ _ w6.drew
          generalize w6.drew = w7 at S6 U6 q1 q2 HX7 ⊢
          clear g0 g2 s1 s4 f1 f4 b0 HS6 HB6 HU6 HC6 HV6 HX6 xix xcell
          have q0 : (w7.setCell ⟨s, 1, none⟩ (.int .i64 ((p : Int) + k))).cell? ⟨G, 0, none⟩ = some (.int .i64 t) := by
            rw [(HX7.out.far (p := ⟨s, 1, none⟩) (fun e => hsG e.symm) _).cell]; rfl
          go_wp2
          go_ret
          exact ⟨t, p + k, 0, rfl, S6.out.move (q := p + k) (by rw [← HN.out]; exact hpk), (U6.out.mono (by simp)).trans (S6.out.put 1 _), by omega, Or.inr (Or.inl ⟨rfl, rfl, by have := HKK.out; omega, by omega, by have := HKK.out; omega, by rw [Nat.add_sub_cancel_left]; exact nextF_eq HNX2.out⟩)⟩
        · have d2 : (er != 0) = true := by simp [her]
          have hs0 : sym = 0 := by
            rcases HNX2.out.2.2 with ⟨_, h1, _⟩ | ⟨_, h1, _⟩ | ⟨h1, _⟩
            · exact h1
            · exact h1
            · exact absurd h1 her
          subst hs0
          go_wp2
          go_ret
          exact ⟨0, p, er, rfl, HS6.out.err her, (HU6.out.mono (by simp)).trans (HS6.out.put 4 _), Nat.le_refl _, Or.inr (Or.inr ⟨rfl, her, rfl, rfl, k, nextF_eq HNX2.out⟩)⟩
      · obtain ⟨w6, hw6⟩ : ∃ w6 : World, w6 = ((w5.setCell ⟨w1.heap.size, 0, none⟩ (.int .i64 sym)).setCell ⟨w1.heap.size, 1, none⟩ (.slice R (min 15 (bs.length - p) - k) rc)).setCell ⟨w1.heap.size, 2, none⟩ (.int .i64 er) := ⟨_, rfl⟩
        rw [← hw6]
        have HX6 : Hid (Blk w6 w1.heap.size 156 #[.int .i64 sym, .slice R (min 15 (bs.length - p) - k) rc, .int .i64 er]) := by rw [hw6]; exact ((HBN.out.set 0 _).set 1 _).set 2 _
        have HV6 : Hid (Upd [] w1 w6) := by rw [hw6]; exact upd_set3 HV5.out (Nat.le_refl _)
        have HGS : Hid (w1.heap.size ≤ w1.heap.size) := Nat.le_refl _
        clear hw6 n0 n1 n2 nf HBN
        generalize hGG : w1.heap.size = G at HX6 HGS ⊢
        clear HGS
        have HGS : Hid (w1.heap.size ≤ G) := by show _ ≤ _; omega
        clear hGG
        generalize min 15 (bs.length - p) - k = rn at HX6
        have HNX2 : Hid (NextIs zs (bs.drop p) k sym er) := NextIs.of15 HC.out.ok hnx
        have HS6 := Lib.hid (HS1.out.grow HV6.out)
        have HB6 := Lib.hid (HB.out.upd HV6.out (by simp))
        have HC6 := Lib.hid (HC1.out.grow HV6.out)
        have HU6 : Hid (Upd [] w w6) := HU1.out.trans HV6.out
        have g0 := HX6.out.cell 0
        have g2 := HX6.out.cell 2
        have s1 := HS6.out.blk.cell 1
        have s4 := HS6.out.blk.cell 4
        have f1 := HS6.out.blk.frozen 1
        have f4 := HS6.out.blk.frozen 4
        have b0 := HB6.out.cell 0
        simp at g0 g2 s1 s4 b0
        clear hnx hri hrc hblR hv5 HV5 HNX HSS cut e0 e1 e4 cc0 cc1 HB
        by_cases her : er = 0
        · subst her
          have hk : p + k ≤ N ∧ 0 ≤ sym ∧ sym < zs.length ∧ 1 ≤ k := by
            have h1 := HNX2.out.sym
            have h2 := HNX2.out.1
            rw [List.length_drop, ← HN.out] at h2
            omega
          obtain ⟨t, rfl⟩ := Int.eq_ofNat_of_zero_le hk.2.1
          have htn : t < zn := by rw [HZN.out]; omega
          have hzt : zs.getD t 0 = (k : Int) := by
            rcases HNX2.out.2.2 with ⟨h1, _⟩ | ⟨h1, _⟩ | ⟨_, _, t', h3, h4⟩
            · omega
            · omega
            · obtain rfl : t = t' := by omega
              obtain ⟨h5, h6, h7⟩ := leafF_in h4
              have h8 := congrArg List.length h7
              rw [rowOf_len, List.length_take, List.length_drop, ← HN.out] at h8
              omega
          have hzi : zs[t]? = some (k : Int) := by
            rw [List.getElem?_eq_getElem (by omega)]
            have : t < zs.length := by omega
            simp [List.getD, this] at hzt
            rw [hzt]
          have xix := Seg.index (n := zn) (by rw [HZN.out]; exact HC6.out.lens) el_int c .i64 t htn
          have xcell := HC6.out.lens.cell hzi
          rw [Nat.mul_one] at xix
          have HKK := Lib.hid hk
          have hpk : p + k ≤ N := hk.1
          clear hk hzt hzi
          go_wp2
          go_still_tail 14, (by kernel_rfl)
          have S6 : Hid (RSt w6.drew B s X xc bs p OA on oc o most 0) := HS6.out.drewN 1
          have U6 : Hid (Upd [] w w6.drew) := HU6.out.drew
          have hsG : s ≠ G := HS6.out.blk.ne HX6.out (by decide)
          have HX7 : Hid (Blk w6.drew G 156 #[.int .i64 t, .slice R rn rc, .int .i64 0]) := HX6.out
          have q1 : w6.drew.frozen? ⟨s, 1, none⟩ = false := f1
          have q2 : w6.drew.cell? ⟨s, 1, none⟩ = some (.int .i64 p) := s1
          change wpList _ _ _ _ _ w6.drew
          generalize w6.drew = w7 at S6 U6 q1 q2 HX7 ⊢
          clear g0 g2 s1 s4 f1 f4 b0 HS6 HB6 HU6 HC6 HV6 HX6 xix xcell
          have q0 : (w7.setCell ⟨s, 1, none⟩ (.int .i64 ((p : Int) + k))).cell? ⟨G, 0, none⟩ = some (.int .i64 t) := by
            rw [(HX7.out.far (p := ⟨s, 1, none⟩) (fun e => hsG e.symm) _).cell]; rfl
          go_wp2
          go_ret
          exact ⟨t, p + k, 0, rfl, S6.out.move (q := p + k) (by rw [← HN.out]; exact hpk), (U6.out.mono (by simp)).trans (S6.out.put 1 _), by omega, Or.inr (Or.inl ⟨rfl, rfl, by have := HKK.out; omega, by omega, by have := HKK.out; omega, by rw [Nat.add_sub_cancel_left]; exact nextF_eq HNX2.out⟩)⟩
        · have d2 : (er != 0) = true := by simp [her]
          have hs0 : sym = 0 := by
            rcases HNX2.out.2.2 with ⟨_, h1, _⟩ | ⟨_, h1, _⟩ | ⟨h1, _⟩
            · exact h1
            · exact h1
            · exact absurd h1 her
          subst hs0
          go_wp2
          go_ret
          exact ⟨0, p, er, rfl, HS6.out.err her, (HU6.out.mono (by simp)).trans (HS6.out.put 4 _), Nat.le_refl _, Or.inr (Or.inr ⟨rfl, her, rfl, rfl, k, nextF_eq HNX2.out⟩)⟩
    · have hm' : m = 15 := by omega
      have cut := run_cut_lh el_int X N xc .i64 .i64 (p : Int) ((p : Int) + 15) p (p + 15) rfl (by omega) (by omega) (by omega)
      rw [Nat.add_sub_cancel_left, ← hm'] at cut
      have HM2 := Lib.hid hm'
      clear hm'
      clear hm
      go_enter Tryz.func76, Tryz.ntmps76
      go_upto_region 1 with (fail)
      rw [← hw1]
      clear hw1
      go_wp2
      go_region_held3 (fun W => W.cell? ⟨w.heap.size, 0, none⟩ = some (.slice A zn c) ∧ W.cell? ⟨w.heap.size, 1, none⟩ = some (.slice C zn d) ∧ W.cell? ⟨s, 0, none⟩ = some (.slice X N xc) ∧ W.cell? ⟨s, 1, none⟩ = some (.int .i64 p) ∧ Upd [] w1 W) (first | with_reducible assumption | with_reducible exact HSS.out _ (upd_set3 HV5.out (Nat.le_refl _)) | with_reducible exact HSS.out _ (HV5.out.alloc _) | with_reducible exact HSS.out _ HV5.out | with_reducible exact HSS.out _ (Upd.alloc (by go_split_ands; with_reducible assumption) _) | with_reducible exact HSS.out _ (Upd.drew (Upd.refl [] w1))) (first | (go_at_call 103; (obtain ⟨oq, hq⟩ : ∃ oq, Upd [] w1 (World.drew (World.alloc w1 oq)) := ⟨_, by with_reducible (go_split_ands; with_reducible assumption)⟩); clear hq oq; refine (HNX.out _ (by go_split_ands; with_reducible assumption)).mono ?_; rintro e w5 ⟨k, sym, er, R, rc, rfl, hnx, hri, hrc, hblR, hv5⟩; have HV5 : Hid (Upd [] w1 w5) := (Upd.trans (by go_split_ands; with_reducible assumption) hv5); have HBN : Hid (Blk w5 w1.heap.size 156 #[.int .i64 0, .slice none 0 0, .int .i64 0]) := Blk.upd (show Blk (World.drew (World.alloc w1 (.cells #[.int .i64 0, .slice none 0 0, .int .i64 0] 156))) w1.heap.size 156 #[.int .i64 0, .slice none 0 0, .int .i64 0] from Blk.new w1 156 #[.int .i64 0, .slice none 0 0, .int .i64 0]) hv5 (by simp); have n0 : w5.cell? ⟨w1.heap.size, 0, none⟩ = some (.int .i64 0) := (by rw [HBN.out.cell]; rfl); have n1 : w5.cell? ⟨w1.heap.size, 1, none⟩ = some (.slice none 0 0) := (by rw [HBN.out.cell]; rfl); have n2 : w5.cell? ⟨w1.heap.size, 2, none⟩ = some (.int .i64 0) := (by rw [HBN.out.cell]; rfl); have nf := HBN.out.frozen) | (go_at_call 103; refine (HNX.out _ (by go_split_ands; with_reducible assumption)).mono ?_; rintro e w5 ⟨k, sym, er, R, rc, rfl, hnx, hri, hrc, hblR, hv5⟩; have HV5 : Hid (Upd [] w1 w5) := (Upd.trans (by go_split_ands; with_reducible assumption) hv5)))
      · obtain ⟨w6, hw6⟩ : ∃ w6 : World, w6 = w5.alloc (.cells #[.int .i64 sym, .slice R (min 15 (bs.length - p) - k) rc, .int .i64 er] 156) := ⟨_, rfl⟩
        rw [← hw6]
        have HX6 : Hid (Blk w6 w5.heap.size 156 #[.int .i64 sym, .slice R (min 15 (bs.length - p) - k) rc, .int .i64 er]) := by rw [hw6]; exact Blk.new _ _ _
        have HV6 : Hid (Upd [] w1 w6) := by rw [hw6]; exact HV5.out.alloc _
        have HGS : Hid (w1.heap.size ≤ w5.heap.size) := HV5.out.size
        clear hw6
        generalize w5.heap.size = G at HX6 HGS ⊢
        generalize min 15 (bs.length - p) - k = rn at HX6
        have HNX2 : Hid (NextIs zs (bs.drop p) k sym er) := NextIs.of15 HC.out.ok hnx
        have HS6 := Lib.hid (HS1.out.grow HV6.out)
        have HB6 := Lib.hid (HB.out.upd HV6.out (by simp))
        have HC6 := Lib.hid (HC1.out.grow HV6.out)
        have HU6 : Hid (Upd [] w w6) := HU1.out.trans HV6.out
        have g0 := HX6.out.cell 0
        have g2 := HX6.out.cell 2
        have s1 := HS6.out.blk.cell 1
        have s4 := HS6.out.blk.cell 4
        have f1 := HS6.out.blk.frozen 1
        have f4 := HS6.out.blk.frozen 4
        have b0 := HB6.out.cell 0
        simp at g0 g2 s1 s4 b0
        clear hnx hri hrc hblR hv5 HV5 HNX HSS cut e0 e1 e4 cc0 cc1 HB
        by_cases her : er = 0
        · subst her
          have hk : p + k ≤ N ∧ 0 ≤ sym ∧ sym < zs.length ∧ 1 ≤ k := by
            have h1 := HNX2.out.sym
            have h2 := HNX2.out.1
            rw [List.length_drop, ← HN.out] at h2
            omega
          obtain ⟨t, rfl⟩ := Int.eq_ofNat_of_zero_le hk.2.1
          have htn : t < zn := by rw [HZN.out]; omega
          have hzt : zs.getD t 0 = (k : Int) := by
            rcases HNX2.out.2.2 with ⟨h1, _⟩ | ⟨h1, _⟩ | ⟨_, _, t', h3, h4⟩
            · omega
            · omega
            · obtain rfl : t = t' := by omega
              obtain ⟨h5, h6, h7⟩ := leafF_in h4
              have h8 := congrArg List.length h7
              rw [rowOf_len, List.length_take, List.length_drop, ← HN.out] at h8
              omega
          have hzi : zs[t]? = some (k : Int) := by
            rw [List.getElem?_eq_getElem (by omega)]
            have : t < zs.length := by omega
            simp [List.getD, this] at hzt
            rw [hzt]
          have xix := Seg.index (n := zn) (by rw [HZN.out]; exact HC6.out.lens) el_int c .i64 t htn
          have xcell := HC6.out.lens.cell hzi
          rw [Nat.mul_one] at xix
          have HKK := Lib.hid hk
          have hpk : p + k ≤ N := hk.1
          clear hk hzt hzi
          go_wp2
          go_still_tail 14, (by kernel_rfl)
          have S6 : Hid (RSt w6.drew B s X xc bs p OA on oc o most 0) := HS6.out.drewN 1
          have U6 : Hid (Upd [] w w6.drew) := HU6.out.drew
          have hsG : s ≠ G := HS6.out.blk.ne HX6.out (by decide)
          have HX7 : Hid (Blk w6.drew G 156 #[.int .i64 t, .slice R rn rc, .int .i64 0]) := HX6.out
          have q1 : w6.drew.frozen? ⟨s, 1, none⟩ = false := f1
          have q2 : w6.drew.cell? ⟨s, 1, none⟩ = some (.int .i64 p) := s1
          change wpList _ _ _ _ _ w6.drew
          generalize w6.drew = w7 at S6 U6 q1 q2 HX7 ⊢
          clear g0 g2 s1 s4 f1 f4 b0 HS6 HB6 HU6 HC6 HV6 HX6 xix xcell
          have q0 : (w7.setCell ⟨s, 1, none⟩ (.int .i64 ((p : Int) + k))).cell? ⟨G, 0, none⟩ = some (.int .i64 t) := by
            rw [(HX7.out.far (p := ⟨s, 1, none⟩) (fun e => hsG e.symm) _).cell]; rfl
          go_wp2
          go_ret
          exact ⟨t, p + k, 0, rfl, S6.out.move (q := p + k) (by rw [← HN.out]; exact hpk), (U6.out.mono (by simp)).trans (S6.out.put 1 _), by omega, Or.inr (Or.inl ⟨rfl, rfl, by have := HKK.out; omega, by omega, by have := HKK.out; omega, by rw [Nat.add_sub_cancel_left]; exact nextF_eq HNX2.out⟩)⟩
        · have d2 : (er != 0) = true := by simp [her]
          have hs0 : sym = 0 := by
            rcases HNX2.out.2.2 with ⟨_, h1, _⟩ | ⟨_, h1, _⟩ | ⟨h1, _⟩
            · exact h1
            · exact h1
            · exact absurd h1 her
          subst hs0
          go_wp2
          go_ret
          exact ⟨0, p, er, rfl, HS6.out.err her, (HU6.out.mono (by simp)).trans (HS6.out.put 4 _), Nat.le_refl _, Or.inr (Or.inr ⟨rfl, her, rfl, rfl, k, nextF_eq HNX2.out⟩)⟩
      · obtain ⟨w6, hw6⟩ : ∃ w6 : World, w6 = ((w5.setCell ⟨w1.heap.size, 0, none⟩ (.int .i64 sym)).setCell ⟨w1.heap.size, 1, none⟩ (.slice R (min 15 (bs.length - p) - k) rc)).setCell ⟨w1.heap.size, 2, none⟩ (.int .i64 er) := ⟨_, rfl⟩
        rw [← hw6]
        have HX6 : Hid (Blk w6 w1.heap.size 156 #[.int .i64 sym, .slice R (min 15 (bs.length - p) - k) rc, .int .i64 er]) := by rw [hw6]; exact ((HBN.out.set 0 _).set 1 _).set 2 _
        have HV6 : Hid (Upd [] w1 w6) := by rw [hw6]; exact upd_set3 HV5.out (Nat.le_refl _)
        have HGS : Hid (w1.heap.size ≤ w1.heap.size) := Nat.le_refl _
        clear hw6 n0 n1 n2 nf HBN
        generalize hGG : w1.heap.size = G at HX6 HGS ⊢
        clear HGS
        have HGS : Hid (w1.heap.size ≤ G) := by show _ ≤ _; omega
        clear hGG
        generalize min 15 (bs.length - p) - k = rn at HX6
        have HNX2 : Hid (NextIs zs (bs.drop p) k sym er) := NextIs.of15 HC.out.ok hnx
        have HS6 := Lib.hid (HS1.out.grow HV6.out)
        have HB6 := Lib.hid (HB.out.upd HV6.out (by simp))
        have HC6 := Lib.hid (HC1.out.grow HV6.out)
        have HU6 : Hid (Upd [] w w6) := HU1.out.trans HV6.out
        have g0 := HX6.out.cell 0
        have g2 := HX6.out.cell 2
        have s1 := HS6.out.blk.cell 1
        have s4 := HS6.out.blk.cell 4
        have f1 := HS6.out.blk.frozen 1
        have f4 := HS6.out.blk.frozen 4
        have b0 := HB6.out.cell 0
        simp at g0 g2 s1 s4 b0
        clear hnx hri hrc hblR hv5 HV5 HNX HSS cut e0 e1 e4 cc0 cc1 HB
        by_cases her : er = 0
        · subst her
          have hk : p + k ≤ N ∧ 0 ≤ sym ∧ sym < zs.length ∧ 1 ≤ k := by
            have h1 := HNX2.out.sym
            have h2 := HNX2.out.1
            rw [List.length_drop, ← HN.out] at h2
            omega
          obtain ⟨t, rfl⟩ := Int.eq_ofNat_of_zero_le hk.2.1
          have htn : t < zn := by rw [HZN.out]; omega
          have hzt : zs.getD t 0 = (k : Int) := by
            rcases HNX2.out.2.2 with ⟨h1, _⟩ | ⟨h1, _⟩ | ⟨_, _, t', h3, h4⟩
            · omega
            · omega
            · obtain rfl : t = t' := by omega
              obtain ⟨h5, h6, h7⟩ := leafF_in h4
              have h8 := congrArg List.length h7
              rw [rowOf_len, List.length_take, List.length_drop, ← HN.out] at h8
              omega
          have hzi : zs[t]? = some (k : Int) := by
            rw [List.getElem?_eq_getElem (by omega)]
            have : t < zs.length := by omega
            simp [List.getD, this] at hzt
            rw [hzt]
          have xix := Seg.index (n := zn) (by rw [HZN.out]; exact HC6.out.lens) el_int c .i64 t htn
          have xcell := HC6.out.lens.cell hzi
          rw [Nat.mul_one] at xix
          have HKK := Lib.hid hk
          have hpk : p + k ≤ N := hk.1
          clear hk hzt hzi
          go_wp2
          go_still_tail 14, (by kernel_rfl)
          have S6 : Hid (RSt w6.drew B s X xc bs p OA on oc o most 0) := HS6.out.drewN 1
          have U6 : Hid (Upd [] w w6.drew) := HU6.out.drew
          have hsG : s ≠ G := HS6.out.blk.ne HX6.out (by decide)
          have HX7 : Hid (Blk w6.drew G 156 #[.int .i64 t, .slice R rn rc, .int .i64 0]) := HX6.out
          have q1 : w6.drew.frozen? ⟨s, 1, none⟩ = false := f1
          have q2 : w6.drew.cell? ⟨s, 1, none⟩ = some (.int .i64 p) := s1
          change wpList _ _ _ _ _ w6.drew
          generalize w6.drew = w7 at S6 U6 q1 q2 HX7 ⊢
          clear g0 g2 s1 s4 f1 f4 b0 HS6 HB6 HU6 HC6 HV6 HX6 xix xcell
          have q0 : (w7.setCell ⟨s, 1, none⟩ (.int .i64 ((p : Int) + k))).cell? ⟨G, 0, none⟩ = some (.int .i64 t) := by
            rw [(HX7.out.far (p := ⟨s, 1, none⟩) (fun e => hsG e.symm) _).cell]; rfl
          go_wp2
          go_ret
          exact ⟨t, p + k, 0, rfl, S6.out.move (q := p + k) (by rw [← HN.out]; exact hpk), (U6.out.mono (by simp)).trans (S6.out.put 1 _), by omega, Or.inr (Or.inl ⟨rfl, rfl, by have := HKK.out; omega, by omega, by have := HKK.out; omega, by rw [Nat.add_sub_cancel_left]; exact nextF_eq HNX2.out⟩)⟩
        · have d2 : (er != 0) = true := by simp [her]
          have hs0 : sym = 0 := by
            rcases HNX2.out.2.2 with ⟨_, h1, _⟩ | ⟨_, h1, _⟩ | ⟨h1, _⟩
            · exact h1
            · exact h1
            · exact absurd h1 her
          subst hs0
          go_wp2
          go_ret
          exact ⟨0, p, er, rfl, HS6.out.err her, (HU6.out.mono (by simp)).trans (HS6.out.put 4 _), Nat.le_refl _, Or.inr (Or.inr ⟨rfl, her, rfl, rfl, k, nextF_eq HNX2.out⟩)⟩
  · have d0 : (err != 0) = true := by simp [he]
    have c4' : (w.alloc (.cells #[.slice A zn c, .slice C zn d] 93)).cell? ⟨s, 4, none⟩ = some (.int .i64 err) := by rw [← hw1]; exact HU1.out.cell c4 (by simp)
    go_enter Tryz.func76, Tryz.ntmps76
    go_wp2
    rw [← hw1]
    go_ret
    exact ⟨0, p, err, rfl, HS1.out, HU1.out.mono (by simp), Nat.le_refl _, Or.inl ⟨he, rfl, rfl, rfl⟩⟩

end Go.Proofs.YtolcdlopgbgilaaGreatDoor

/-! Text RiC. -/
namespace Go.Proofs.YtolcdlopgbgilaaGreatDoor
open Go.RowKit Go.Dray

theorem Own.tblk {w : World} {B : Nat} {e : TypeId} {sz : Nat} {A : Option Addr} {n c : Nat} {xs : List Value} (h : Own w B e sz A n c xs) (hp : 0 < n) : ∃ cs, Blk w (bl A) e cs := by
  rcases h.cases.2.2.2 with ⟨_, h0, _⟩ | ⟨g, cur, rfl, _, hb, _⟩
  · omega
  · exact ⟨cur, hb⟩

def MadePost (w : World) (zs : List Int) (A : Option Addr) (n c : Nat) (e : Ending) (w' : World) : Prop :=
  ∃ C d, e = .returned (.agg #[.slice A n c, .slice C n d]) ∧ Cd w' zs A c C d ∧ (∀ k, ob C = some k → w.heap.size ≤ k) ∧ Upd [] w w'

set_option maxRecDepth 100000 in
set_option maxHeartbeats 1000000 in
theorem made_any (A : Option Addr) (n c : Nat) (zs : List Int) (w : World) (hs : Ints .i64 w A n zs) (hk : chk zs = 0) (ht : 0 < n → ∃ cs, Blk w (bl A) 3 cs) :
    Calls Tryz.prog 48 #[.slice A n c] w (MadePost w zs A n c) := by
  have HS := Lib.hid hs
  have HT := Lib.hid ht
  have HL := hs.len
  clear hs ht
  obtain ⟨w0, hw0⟩ : ∃ w0 : World, w0 = w.alloc (.cells #[.slice none 0 0, .slice none 0 0] 93) := ⟨_, rfl⟩
  obtain ⟨g, hg⟩ : ∃ g, g = w.heap.size := ⟨_, rfl⟩
  have hb0 : Blk w0 g 93 #[.slice none 0 0, .slice none 0 0] := by rw [hw0, hg]; exact Blk.new _ _ _
  have hu0 : Upd [] w w0 := by rw [hw0]; exact (Upd.refl _ _).alloc _
  have hgw : w.heap.size ≤ g := by omega
  go_enter Tryz.func48, Tryz.ntmps48
  go_wp2_with fail
  rw [← hw0]
  refine (rcodes_ok A n c zs w0 (HS.out.upd hu0 (by simp)) hk).mono ?_
  rintro e w1 ⟨C, d, rfl, hown, hu1⟩
  have hb1 := hb0.upd hu1 (by simp)
  have HU1 : Hid (Upd [] w w1) := hu0.trans hu1
  have HC1 : Hid (Ints .i64 w1 C n (tab zs.length (codeOf zs))) := Ints.ofOwn hown
  have HR : Hid (∀ k, ob C = some k → w.heap.size ≤ k) := fun k hk => by have := (hown.base hk).1; have := hu0.size; omega
  have HTC : Hid (0 < n → ∃ cs, Blk w1 (bl C) 3 cs) := fun hp => Own.tblk hown hp
  rw [← hg]
  have HG := Lib.hid hg
  clear hown hu1 hb0 hu0 hw0 hg
  have hf0 := hb1.frozen 0
  have hf1 := hb1.frozen 1
  have hc0 := hb1.cell 0
  have hc1 := hb1.cell 1
  simp at hc0 hc1
  go_wp2
  obtain ⟨w9, hw9⟩ : ∃ w9 : World, w9 = (w1.setCell ⟨g, 0, none⟩ (.slice A n c)).setCell ⟨g, 1, none⟩ (.slice C n d) := ⟨_, rfl⟩
  rw [← hw9]
  have hb9 : Blk w9 g 93 #[.slice A n c, .slice C n d] := by rw [hw9]; exact (hb1.set 0 _).set 1 _
  have hu9 : Upd [] w w9 := by rw [hw9]; exact (HU1.out.put hgw _).put hgw _
  have q0 := hb9.cell 0
  have q1 := hb9.cell 1
  simp at q0 q1
  refine bodyPost_ret (v := .agg #[.slice A n c, .slice C n d]) (by simp [results, Tryz.results48, go_sem, q0, q1]) rfl ?_
  have hne : 0 < n → bl C ≠ g := fun hp => by obtain ⟨cs, hb⟩ := HTC.out hp; exact hb.ne hb1 (by decide)
  have hC9 : Ints .i64 w9 C n (tab zs.length (codeOf zs)) := by
    refine HC1.out.upd (L := [some g]) ?_ (fun hp => by simp; exact hne hp)
    rw [hw9]
    exact ((Upd.refl _ w1).putIn (by simp) _).putIn (by simp) _
  have hT9 : 0 < n → ∃ cs, Blk w9 (bl C) 3 cs := fun hp => by
    obtain ⟨cs, hb⟩ := HTC.out hp
    refine ⟨cs, hb.upd (L := [some g]) ?_ (by simp; exact hne hp)⟩
    rw [hw9]
    exact ((Upd.refl _ w1).putIn (by simp) _).putIn (by simp) _
  have hl := HL.out
  subst hl
  exact ⟨C, d, rfl, ⟨HS.out.upd hu9 (by simp), hC9, hk, fun hp => by obtain ⟨cs, hb⟩ := HT.out hp; exact ⟨cs, hb.upd hu9 (by simp)⟩, hT9⟩, HR.out, hu9⟩

/-- What a number with bits behind it tells, or an error. -/
def VPost (w : World) (B s : Nat) (X : Option Addr) (xc : Nat) (bs : List Bool) (p : Nat) (OA : Option Addr) (on oc : Nat) (o : List Int) (most : Nat) (Xp : (Int → Pr) → Pr) (lo hi : Int) (e : Ending) (w' : World) : Prop :=
  ∃ v p' err', e = .returned (.int .i64 v) ∧ RSt w' B s X xc bs p' OA on oc o most err' ∧ Upd [some s] w w' ∧ p ≤ p' ∧ 0 ≤ v ∧ v ≤ 100000 ∧
    ((err' ≠ 0 ∧ ∀ k, run bs most (Xp k) p o = .err err') ∨ (err' = 0 ∧ lo ≤ v ∧ v ≤ hi ∧ ∀ k, run bs most (Xp k) p o = run bs most (k v) p' o))

set_option maxRecDepth 100000 in
set_option maxHeartbeats 2000000 in
theorem rlength_any {w : World} {B s : Nat} {X : Option Addr} {xc : Nat} {bs : List Bool} {p : Nat} {OA : Option Addr} {on oc : Nat} {o : List Int} {most : Nat} (h : RSt w B s X xc bs p OA on oc o most 0) (x : Int) (h0 : 257 ≤ x) (h1 : x ≤ 285) :
    Calls Tryz.prog 77 #[.pointer (some ⟨s, 0, none⟩), .int .i64 x] w (VPost w B s X xc bs p OA on oc o most (lenPr (x - 257)) 3 258) := by
  have HS := Lib.hid h
  clear h
  obtain ⟨i, rfl⟩ : ∃ i, x = i + 257 := ⟨x - 257, by omega⟩
  have hi0 : 0 ≤ i := by omega
  have hi28 : i ≤ 28 := by omega
  have exi : i + 257 - 257 = i := by omega
  rw [exi]
  clear h0 h1
  by_cases h8 : i < 8
  · go_enter Tryz.func77, Tryz.ntmps77
    go_wp2
    go_ret
    exact ⟨3 + i, p, 0, rfl, HS.out, Upd.refl _ _, Nat.le_refl _, by omega, by omega, Or.inr ⟨rfl, by omega, by omega, fun k => by unfold lenPr; rw [if_pos h8]⟩⟩
  · by_cases h28 : i = 28
    · subst h28
      go_enter Tryz.func77, Tryz.ntmps77
      go_wp2
      go_ret
      exact ⟨258, p, 0, rfl, HS.out, Upd.refl _ _, Nat.le_refl _, by omega, by omega, Or.inr ⟨rfl, by omega, by omega, fun k => rfl⟩⟩
    · have hd : (i == 28) = false := by simp [h28]
      obtain ⟨n, hn⟩ : ∃ n : Nat, (n : Int) = i / 4 - 1 := ⟨(i / 4 - 1).toNat, by omega⟩
      have hn5 : 1 ≤ n ∧ n ≤ 5 := by omega
      have HN : Hid (i / 4 - 1 = (n : Int)) := hn.symm
      have HX : Hid (∀ k, lenPr i k = .take n fun v => k (3 + (4 + i % 4) * 2 ^ n + v)) := fun k => by
        unfold lenPr
        rw [if_neg h8, if_neg h28, ← hn]
        rfl
      have h8' : 8 ≤ i := by omega
      have HM : Hid ((4 + i % 4) * (2 : Int) ^ n + 2 ^ n ≤ 256 ∧ 0 ≤ (4 + i % 4) * (2 : Int) ^ n ∧ (0 : Int) < 2 ^ n) := by
        obtain ⟨a, b⟩ := hn5
        match n, a, b with
        | 1, _, _ | 2, _, _ | 3, _, _ | 4, _, _ | 5, _, _ => show _ ∧ _; omega
      clear hn h8
      go_enter Tryz.func77, Tryz.ntmps77
      go_wp2_with fail
      rw [HN.out]
      refine (power_any n (by omega) w).mono ?_
      rintro e w1 ⟨rfl, rfl⟩
      obtain ⟨P, hP⟩ : ∃ P, P = (2 : Int) ^ n := ⟨_, rfl⟩
      have HP := Lib.hid hP
      have hm := HM.out
      rw [← hP] at hm ⊢
      clear hP
      obtain ⟨Q, hQ⟩ : ∃ Q, Q = (4 + i % 4) * P := ⟨_, rfl⟩
      have HQ := Lib.hid hQ
      rw [← hQ] at hm
      have hmul : (4 + i.tmod 4) * P = Q := by rw [hQ, Int.tmod_eq_emod_of_nonneg hi0]
      have hmul2 : IntKind.i64.wrap ((4 + i % 4) * P) = Q := by rw [← hQ, IntKind.wrap_i64]; omega
      clear hQ
      go_wp2_with fail
      refine (number_any HS.out n (by omega)).mono ?_
      rintro e w2 ⟨v, p', err', rfl, hs2, hu2, hpp, hv0, hvn, hcase⟩
      have hvP : v < P := by rw [HP.out]; exact hvn
      go_wp2
      go_ret
      refine ⟨3 + Q + v, p', err', rfl, hs2, hu2, hpp, by omega, by omega, ?_⟩
      rcases hcase with ⟨h, _⟩ | ⟨_, h1, rfl, rfl, h2⟩ | ⟨_, h1, rfl, rfl, h2⟩
      · exact absurd rfl h
      · refine Or.inr ⟨rfl, by omega, by omega, fun k => ?_⟩
        rw [HX.out, run_take_ok h1, ← h2, ← HP.out, ← HQ.out]
      · exact Or.inl ⟨by decide, fun k => by rw [HX.out, run_take_no h1]⟩

set_option maxRecDepth 100000 in
set_option maxHeartbeats 2000000 in
theorem rdistance_any {w : World} {B s : Nat} {X : Option Addr} {xc : Nat} {bs : List Bool} {p : Nat} {OA : Option Addr} {on oc : Nat} {o : List Int} {most : Nat} (h : RSt w B s X xc bs p OA on oc o most 0) (i : Int) (h0 : 0 ≤ i) (h1 : i ≤ 29) :
    Calls Tryz.prog 78 #[.pointer (some ⟨s, 0, none⟩), .int .i64 i] w (VPost w B s X xc bs p OA on oc o most (distPr i) 1 32768) := by
  have HS := Lib.hid h
  clear h
  by_cases h8 : i < 4
  · go_enter Tryz.func78, Tryz.ntmps78
    go_wp2
    go_ret
    exact ⟨1 + i, p, 0, rfl, HS.out, Upd.refl _ _, Nat.le_refl _, by omega, by omega, Or.inr ⟨rfl, by omega, by omega, fun k => by unfold distPr; rw [if_pos h8]⟩⟩
  · obtain ⟨n, hn⟩ : ∃ n : Nat, (n : Int) = i / 2 - 1 := ⟨(i / 2 - 1).toNat, by omega⟩
    have hn5 : 1 ≤ n ∧ n ≤ 13 := by omega
    have HN : Hid (i / 2 - 1 = (n : Int)) := hn.symm
    have HX : Hid (∀ k, distPr i k = .take n fun v => k (1 + (2 + i % 2) * 2 ^ n + v)) := fun k => by
      unfold distPr
      rw [if_neg h8, ← hn]
      rfl
    have h8' : 4 ≤ i := by omega
    have HM : Hid ((2 + i % 2) * (2 : Int) ^ n + 2 ^ n ≤ 32768 ∧ 0 ≤ (2 + i % 2) * (2 : Int) ^ n ∧ (0 : Int) < 2 ^ n) := by
      obtain ⟨a, b⟩ := hn5
      match n, a, b with
      | 1, _, _ | 2, _, _ | 3, _, _ | 4, _, _ | 5, _, _ | 6, _, _ | 7, _, _ | 8, _, _ | 9, _, _ | 10, _, _ | 11, _, _ | 12, _, _ | 13, _, _ => show _ ∧ _; omega
    clear hn h8
    go_enter Tryz.func78, Tryz.ntmps78
    go_wp2_with fail
    rw [HN.out]
    refine (power_any n (by omega) w).mono ?_
    rintro e w1 ⟨rfl, rfl⟩
    obtain ⟨P, hP⟩ : ∃ P, P = (2 : Int) ^ n := ⟨_, rfl⟩
    have HP := Lib.hid hP
    have hm := HM.out
    rw [← hP] at hm ⊢
    clear hP
    obtain ⟨Q, hQ⟩ : ∃ Q, Q = (2 + i % 2) * P := ⟨_, rfl⟩
    have HQ := Lib.hid hQ
    rw [← hQ] at hm
    have hmul : (2 + i.tmod 2) * P = Q := by rw [hQ, Int.tmod_eq_emod_of_nonneg h0]
    have hmul2 : IntKind.i64.wrap ((2 + i % 2) * P) = Q := by rw [← hQ, IntKind.wrap_i64]; omega
    clear hQ
    go_wp2_with fail
    refine (number_any HS.out n (by omega)).mono ?_
    rintro e w2 ⟨v, p', err', rfl, hs2, hu2, hpp, hv0, hvn, hcase⟩
    have hvP : v < P := by rw [HP.out]; exact hvn
    go_wp2
    go_ret
    refine ⟨1 + Q + v, p', err', rfl, hs2, hu2, hpp, by omega, by omega, ?_⟩
    rcases hcase with ⟨h, _⟩ | ⟨_, h1, rfl, rfl, h2⟩ | ⟨_, h1, rfl, rfl, h2⟩
    · exact absurd rfl h
    · refine Or.inr ⟨rfl, by omega, by omega, fun k => ?_⟩
      rw [HX.out, run_take_ok h1, ← h2, ← HP.out, ← HQ.out]
    · exact Or.inl ⟨by decide, fun k => by rw [HX.out, run_take_no h1]⟩

end Go.Proofs.YtolcdlopgbgilaaGreatDoor
