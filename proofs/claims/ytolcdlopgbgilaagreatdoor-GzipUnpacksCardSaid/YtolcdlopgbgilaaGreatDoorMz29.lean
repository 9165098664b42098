/- Merged by wip/tools/merge.py: GzRM. -/
import Derived.BigQuiet
import Derived.Test.YtolcdlopgbgilaaGreatDoorMz17
import Derived.Test.YtolcdlopgbgilaaGreatDoorMz28

/-! Text GzRM. -/
namespace Go.Proofs.YtolcdlopgbgilaaGreatDoor
open Go.RowKit Go.Dray

def RMemPost (f : Nat) (r : MemR) (w : World) (e : Ending) (w' : World) : Prop := match r with
  | .bad er => er ≠ 0 ∧ e = .returned (.agg #[.string ⟨#[]⟩, .int .i64 0, .slice none 0 0, .int .i64 0, .int .i64 er]) ∧ Upd [] w w'
  | .ok m k => ∃ p : MemP, e = .returned (.agg #[.string m.name, .int .i64 m.time, .slice p.A p.n p.c, .int .i64 ((f + k : Nat) : Int), .int .i64 0]) ∧ MemM w' p m ∧ (∀ x, ob p.A = some x → w.heap.size ≤ x) ∧ Upd [] w w'
theorem rmem_bad {f : Nat} {r : MemR} {er : Int} {w w' : World} {e : Ending} (h : r = .bad er) (hn : er ≠ 0) (he : e = .returned (.agg #[.string ⟨#[]⟩, .int .i64 0, .slice none 0 0, .int .i64 0, .int .i64 er])) (hu : Upd [] w w') : RMemPost f r w e w' := by
  subst h
  exact ⟨hn, he, hu⟩
theorem rmem_good {f : Nat} {r : MemR} {tm : Int} {nm : ByteArray} {out : List Int} {k : Nat} {A : Option Addr} {on oc : Nat} {w w' : World} {e : Ending} (h : r = .ok ⟨tm, nm, out⟩ k) (he : e = .returned (.agg #[.string nm, .int .i64 tm, .slice A on oc, .int .i64 ((f + k : Nat) : Int), .int .i64 0]))
    (hi : Ints .u8 w' A on out) (hb : ∀ z ∈ out, 0 ≤ z ∧ z ≤ 255) (hl : on ≤ oc) (hf : ∀ x, ob A = some x → w.heap.size ≤ x) (hu : Upd [] w w') : RMemPost f r w e w' := by
  subst h
  exact ⟨⟨A, on, oc⟩, he, ⟨hi, hb, hl⟩, hf, hu⟩
theorem memOf_bad {F : Nat} {zs : List Int} {most : Nat} {er : Int} (h : headOf zs = .bad er) : memOf F zs most = .bad er := by
  unfold memOf
  rw [h]
theorem blk5 {w : World} {g : Nat} {t : TypeId} {x0 x1 x2 x3 x4 y0 y1 y2 y3 y4 : Value} (h : Blk w g t #[x0, x1, x2, x3, x4]) : Blk (((((w.setCell ⟨g, 0, none⟩ y0).setCell ⟨g, 1, none⟩ y1).setCell ⟨g, 2, none⟩ y2).setCell ⟨g, 3, none⟩ y3).setCell ⟨g, 4, none⟩ y4) g t #[y0, y1, y2, y3, y4] := ((((h.set 0 y0).set 1 y1).set 2 y2).set 3 y3).set 4 y4
theorem put5 {L : List (Option Nat)} {w0 w : World} {g : Nat} {y0 y1 y2 y3 y4 : Value} (h : Upd L w0 w) (hg : w0.heap.size ≤ g) : Upd L w0 (((((w.setCell ⟨g, 0, none⟩ y0).setCell ⟨g, 1, none⟩ y1).setCell ⟨g, 2, none⟩ y2).setCell ⟨g, 3, none⟩ y3).setCell ⟨g, 4, none⟩ y4) := ((((h.put hg _).put hg _).put hg _).put hg _).put hg _

set_option maxRecDepth 100000 in
set_option maxHeartbeats 40000000 in
theorem rmember_any (A : Option Addr) (n c : Nat) (zs : List Int) (f most F : Nat) (w : World) (hs : Ints .u8 w A n zs) (hz : ∀ z ∈ zs, 0 ≤ z ∧ z ≤ 255) (hnc : n ≤ c) (hf : f ≤ n) (hbig : n ≤ 100000) (hm : most ≤ 16777216) (hF : 8 * n < F) :
    Calls Tryz.prog 10 #[.slice A n c, .int .i64 f, .int .i64 most] w (RMemPost f (memOf F (zs.drop f) most) w) := by
  have HS := Lib.hid hs
  have HZ := Lib.hid hz
  have HL := hs.len
  have HF := Lib.hid hF
  clear hs hz hF
  obtain ⟨D, hD⟩ : ∃ D, D = zs.drop f := ⟨_, rfl⟩
  rw [← hD]
  have HDD := Lib.hid hD
  have HDL : Hid (D.length = n - f) := by show _ = _; rw [hD, List.length_drop, HL.out]
  obtain ⟨r, hr⟩ : ∃ r, r = memOf F D most := ⟨_, rfl⟩
  rw [← hr]
  have HR := Lib.hid hr
  clear hr hD
  have HB1 : Hid (Blk (w.alloc (.cells #[.string ⟨#[]⟩, .int .i64 0, .slice none 0 0, .int .i64 0, .int .i64 0] 39)) w.heap.size 39 #[.string ⟨#[]⟩, .int .i64 0, .slice none 0 0, .int .i64 0, .int .i64 0]) := Blk.new w _ _
  have HU1 : Hid (Upd [] w (w.alloc (.cells #[.string ⟨#[]⟩, .int .i64 0, .slice none 0 0, .int .i64 0, .int .i64 0] 39))) := (Upd.refl _ _).alloc _
  obtain ⟨R, hR⟩ : ∃ R, R = w.heap.size := ⟨_, rfl⟩
  have hRw : w.heap.size ≤ R := by omega
  go_enter Tryz.func10, Tryz.ntmps10
  go_upto_region 1 with (fail)
  rw [← hR] at HB1 ⊢
  generalize hw1 : w.alloc _ = w1 at HB1 HU1 ⊢
  clear hw1 hR
  by_cases h10 : n < f + 10
  · have d1 : decide ((n : Int) - f < 10) = true := by simp; omega
    have k0 := HB1.out.cell 0
    have k1 := HB1.out.cell 1
    have k2 := HB1.out.cell 2
    have k3 := HB1.out.cell 3
    have k4 := HB1.out.cell 4
    have f0 := HB1.out.frozen 0
    have f1 := HB1.out.frozen 1
    have f2 := HB1.out.frozen 2
    have f3 := HB1.out.frozen 3
    have f4 := HB1.out.frozen 4
    simp at k0 k1 k2 k3 k4
    go_wp2
    have HB9 := Lib.hid (blk5 (y0 := .string ⟨#[]⟩) (y1 := .int .i64 0) (y2 := .slice none 0 0) (y3 := .int .i64 0) (y4 := .int .i64 2) HB1.out)
    have HU9 := Lib.hid (put5 (g := R) (y0 := .string ⟨#[]⟩) (y1 := .int .i64 0) (y2 := .slice none 0 0) (y3 := .int .i64 0) (y4 := .int .i64 2) HU1.out hRw)
    clear k0 k1 k2 k3 k4 f0 f1 f2 f3 f4
    generalize World.setCell _ _ _ = w9 at HB9 HU9 ⊢
    have k0 := HB9.out.cell 0
    have k1 := HB9.out.cell 1
    have k2 := HB9.out.cell 2
    have k3 := HB9.out.cell 3
    have k4 := HB9.out.cell 4
    simp at k0 k1 k2 k3 k4
    refine bodyPost_ret (by simp [results, Tryz.results10, go_sem, k0, k1, k2, k3, k4]; rfl) rfl ?_
    exact rmem_bad (er := 2) (by rw [HR.out]; exact memOf_bad (by unfold headOf; rw [if_pos (by rw [HDL.out]; omega)])) (by omega) rfl HU9.out
  · have d1 : decide ((n : Int) - f < 10) = false := by simp; omega
    have g : ∀ i, i < 10 → ∃ x, zs[f + i]? = some x ∧ D.getD i 0 = x ∧ 0 ≤ x ∧ x ≤ 255 := fun i hi => by
      have hl : f + i < zs.length := by rw [HL.out]; omega
      refine ⟨zs[f + i], List.getElem?_eq_getElem hl, ?_, HZ.out _ (List.getElem_mem hl)⟩
      rw [HDD.out]
      simp [List.getD, List.getElem?_drop, List.getElem?_eq_getElem hl]
    obtain ⟨x0, e0, D0, -⟩ := g 0 (by omega)
    obtain ⟨x1, e1, D1, -⟩ := g 1 (by omega)
    obtain ⟨x2, e2, D2, -⟩ := g 2 (by omega)
    obtain ⟨x3, e3, D3, hb3⟩ := g 3 (by omega)
    have hx0 := hb3.1
    have hx255 := hb3.2
    have HS1 := Lib.hid (HS.out.upd HU1.out (by simp))
    have ix0 := HS1.out.index el_byte c .i64 f (by omega)
    have cx0 := HS1.out.cell (i := f) e0
    have ix1 := HS1.out.indexI el_byte c .i64 ((f : Int) + 1) (f + 1) (by omega) (by omega)
    have cx1 := HS1.out.cell e1
    have ix2 := HS1.out.indexI el_byte c .i64 ((f : Int) + 2) (f + 2) (by omega) (by omega)
    have cx2 := HS1.out.cell e2
    have ix3 := HS1.out.indexI el_byte c .i64 ((f : Int) + 3) (f + 3) (by omega) (by omega)
    have cx3 := HS1.out.cell e3
    have HH0 : Hid (headOf D = if x0 ≠ 31 ∨ x1 ≠ 139 then .bad 3 else if x2 ≠ 8 then .bad 14 else if 32 ≤ x3 then .bad 3 else head1 D (leNum ((D.drop 4).take 4))) := by
      show _ = _
      unfold headOf
      rw [if_neg (by rw [HDL.out]; omega), D0, D1, D2, D3]
    have HX3 := Lib.hid D3
    clear g e0 e1 e2 e3 D0 D1 D2 D3 hb3
    by_cases h0 : x0 = 31
    · by_cases h1 : x1 = 139
      · by_cases h2 : x2 = 8
        · by_cases h3 : 32 ≤ x3
          · have q0 : (x0 != 31) = false := by simpa using h0
            have q1 : (x1 != 139) = false := by simpa using h1
            have q2 : (x2 != 8) = false := by simpa using h2
            have q3 : decide ((31 : Int) < x3) = true := by simp; omega
            have k0 := HB1.out.cell 0
            have k1 := HB1.out.cell 1
            have k2 := HB1.out.cell 2
            have k3 := HB1.out.cell 3
            have k4 := HB1.out.cell 4
            have f0 := HB1.out.frozen 0
            have f1 := HB1.out.frozen 1
            have f2 := HB1.out.frozen 2
            have f3 := HB1.out.frozen 3
            have f4 := HB1.out.frozen 4
            simp at k0 k1 k2 k3 k4
            go_wp2
            have HB9 := Lib.hid (blk5 (y0 := .string ⟨#[]⟩) (y1 := .int .i64 0) (y2 := .slice none 0 0) (y3 := .int .i64 0) (y4 := .int .i64 3) HB1.out)
            have HU9 := Lib.hid (put5 (g := R) (y0 := .string ⟨#[]⟩) (y1 := .int .i64 0) (y2 := .slice none 0 0) (y3 := .int .i64 0) (y4 := .int .i64 3) HU1.out hRw)
            clear k0 k1 k2 k3 k4 f0 f1 f2 f3 f4
            generalize World.setCell _ _ _ = w9 at HB9 HU9 ⊢
            have k0 := HB9.out.cell 0
            have k1 := HB9.out.cell 1
            have k2 := HB9.out.cell 2
            have k3 := HB9.out.cell 3
            have k4 := HB9.out.cell 4
            simp at k0 k1 k2 k3 k4
            refine bodyPost_ret (by simp [results, Tryz.results10, go_sem, k0, k1, k2, k3, k4]; rfl) rfl ?_
            exact rmem_bad (er := 3) (by rw [HR.out]; exact memOf_bad (by rw [HH0.out, if_neg (by simp [h0, h1]), if_neg (by simp [h2]), if_pos h3])) (by omega) rfl HU9.out
          · have q0 : (x0 != 31) = false := by simpa using h0
            have q1 : (x1 != 139) = false := by simpa using h1
            have q2 : (x2 != 8) = false := by simpa using h2
            have q3 : decide ((31 : Int) < x3) = false := by simp; omega
            obtain ⟨t, ht⟩ : ∃ t, t = leNum ((D.drop 4).take 4) := ⟨_, rfl⟩
            have htb : 0 ≤ t ∧ t ≤ 4294967295 := by
              have h := leNum_bd ((D.drop 4).take 4) fun z hz' => HZ.out z (by rw [HDD.out] at hz'; exact List.mem_of_mem_drop (List.mem_of_mem_drop (List.mem_of_mem_take hz')))
              have hl : ((D.drop 4).take 4).length = 4 := by rw [List.length_take, List.length_drop, HDL.out]; omega
              rw [hl, ← ht] at h
              have : (2 : Int) ^ (8 * 4) = 4294967296 := by decide
              omega
            have ht0 := htb.1
            have ht1 := htb.2
            have HH1 : Hid (headOf D = head1 D t) := by
              show _ = _
              rw [HH0.out, if_neg (by simp [h0, h1]), if_neg (by simp [h2]), if_neg h3, ht]
            have HGE : Hid (∀ W, Upd [] w W → Calls Tryz.prog 18 #[.slice A n c, .int .i64 ((f : Int) + 4), .int .i64 4] W fun e w' => e = .returned (.tuple #[.int .u64 t, .bool true]) ∧ Upd [] W w') := fun W hW => by
              have h := rgetLe_ok A n c zs (f + 4) 4 W (HS.out.upd hW (by simp)) HZ.out hnc (by omega) (by omega) (by omega) (by omega)
              rw [← List.drop_drop, ← HDD.out, ← ht, show ((f + 4 : Nat) : Int) = (f : Int) + 4 from by omega] at h
              exact h
            clear htb ht HH0 h0 h1 h2
            go_upto_region 10 with (fail)
            have hv2 : Upd [] w1 (w1.alloc (.cells #[.string ⟨#[]⟩, .int .i64 0, .slice none 0 0] 35)) := (Upd.refl _ _).alloc _
            have hg2 : Blk (w1.alloc (.cells #[.string ⟨#[]⟩, .int .i64 0, .slice none 0 0] 35)) w1.heap.size 35 #[.string ⟨#[]⟩, .int .i64 0, .slice none 0 0] := Blk.new _ _ _
            have HU2 := Lib.hid (HU1.out.trans hv2)
            have HB2 := Lib.hid (HB1.out.upd hv2 (by simp))
            obtain ⟨g, hg⟩ : ∃ g, g = w1.heap.size := ⟨_, rfl⟩
            have hgw : w.heap.size ≤ g := by rw [hg]; exact HU1.out.size
            have hRg : R < g := by rw [hg]; exact HB1.out.lt
            rw [← hg] at hg2
            have HG2 := Lib.hid hg2
            go_upto_region 11 with (fail)
            rw [← hg]
            clear hg hg2 ix0 cx0 ix1 cx1 ix2 cx2 ix3 cx3 q0 q1 q2 q3 d1 HS1 HB1 HU1
            generalize w1.alloc _ = w2 at hv2 HU2 HB2 HG2 ⊢
            clear hv2
            go_wp2_with fail
            refine (HGE.out _ HU2.out).mono ?_
            rintro e w3 ⟨rfl, hu3⟩
            have HU3 := Lib.hid (HU2.out.trans hu3)
            have HB3 := Lib.hid (HB2.out.upd hu3 (by simp))
            have HG3 := Lib.hid (HG2.out.upd hu3 (by simp))
            clear hu3 HU2 HB2 HG2 HGE
            have m0 := HG3.out.cell 0
            have m1 := HG3.out.cell 1
            have m2 := HG3.out.cell 2
            have n0 := HG3.out.frozen 0
            have n1 := HG3.out.frozen 1
            have n2 := HG3.out.frozen 2
            simp at m0 m1 m2
            go_upto_region 14 with (fail)
            have HU4 := Lib.hid (HU3.out.put (o := 1) hgw (.int .i64 t))
            have HB4 := Lib.hid (HB3.out.far (p := ⟨g, 1, none⟩) (by show R ≠ g; omega) (.int .i64 t))
            have HG4 : Hid (Blk (w3.setCell ⟨g, 1, none⟩ (.int .i64 t)) g 35 #[.string ⟨#[]⟩, .int .i64 t, .slice none 0 0]) := HG3.out.set 1 _
            clear m0 m1 m2 n0 n1 n2 HU3 HB3 HG3
            generalize World.setCell _ _ _ = w4 at HU4 HB4 HG4 ⊢
            go_upto_if 72 with fail
            go_cut [11] from 69 to 72 (fun v11 wc => ∃ (a b : Nat), v11 = .int .i64 b ∧ Hid (b = f + a) ∧ f + 10 ≤ b ∧ b ≤ n ∧ Hid (Upd [] w wc) ∧ Hid (Blk wc R 39 #[.string ⟨#[]⟩, .int .i64 0, .slice none 0 0, .int .i64 0, .int .i64 0]) ∧ Hid (Blk wc g 35 #[.string ⟨#[]⟩, .int .i64 t, .slice none 0 0]) ∧ Hid (headOf D = head2 D t a))
            case first =>
              by_cases hf4 : x3 / 4 % 2 = 1
              · have b4 : (x3 / 4 % 2 == 1) = true := by simpa using hf4
                by_cases hl : n < f + 12
                · have HGB : Hid (∀ W, Calls Tryz.prog 18 #[.slice A n c, .int .i64 ((f : Int) + 10), .int .i64 2] W fun e w' => e = .returned (.tuple #[.int .u64 0, .bool false]) ∧ W = w') := fun W => by
                    have h := rgetLe_bad A n c (f + 10) 2 W (by omega) (by omega) (by omega) (by omega) (by omega)
                    rw [show ((f + 10 : Nat) : Int) = ((f : Int) + 10) from by omega] at h
                    exact h
                  have k0 := HB4.out.cell 0
                  have k1 := HB4.out.cell 1
                  have k2 := HB4.out.cell 2
                  have k3 := HB4.out.cell 3
                  have k4 := HB4.out.cell 4
                  have f0 := HB4.out.frozen 0
                  have f1 := HB4.out.frozen 1
                  have f2 := HB4.out.frozen 2
                  have f3 := HB4.out.frozen 3
                  have f4 := HB4.out.frozen 4
                  simp at k0 k1 k2 k3 k4
                  go_wp2_with (go_at_call 18; refine (HGB.out _).mono ?_; rintro e w' ⟨rfl, rfl⟩)
                  have HB9 := Lib.hid (blk5 (y0 := .string ⟨#[]⟩) (y1 := .int .i64 0) (y2 := .slice none 0 0) (y3 := .int .i64 0) (y4 := .int .i64 2) HB4.out)
                  have HU9 := Lib.hid (put5 (g := R) (y0 := .string ⟨#[]⟩) (y1 := .int .i64 0) (y2 := .slice none 0 0) (y3 := .int .i64 0) (y4 := .int .i64 2) HU4.out hRw)
                  clear k0 k1 k2 k3 k4 f0 f1 f2 f3 f4
                  generalize World.setCell _ _ _ = w9 at HB9 HU9 ⊢
                  have k0 := HB9.out.cell 0
                  have k1 := HB9.out.cell 1
                  have k2 := HB9.out.cell 2
                  have k3 := HB9.out.cell 3
                  have k4 := HB9.out.cell 4
                  simp at k0 k1 k2 k3 k4
                  refine bodyPost_ret (by simp [results, Tryz.results10, go_sem, k0, k1, k2, k3, k4]; rfl) rfl ?_
                  exact rmem_bad (er := 2) (by rw [HR.out]; exact memOf_bad (by rw [HH1.out, head1, if_pos (by rw [HX3.out]; exact hf4), if_pos (by rw [HDL.out]; omega)])) (by omega) rfl HU9.out
                · obtain ⟨v, hv⟩ : ∃ v, v = leNum ((D.drop (10)).take 2) := ⟨_, rfl⟩
                  have hvb : 0 ≤ v ∧ v ≤ 65535 := by
                    have h := leNum_bd ((D.drop (10)).take 2) fun z hz' => HZ.out z (by rw [HDD.out] at hz'; exact List.mem_of_mem_drop (List.mem_of_mem_drop (List.mem_of_mem_take hz')))
                    have hl2 : ((D.drop (10)).take 2).length = 2 := by rw [List.length_take, List.length_drop, HDL.out]; omega
                    rw [hl2, ← hv] at h
                    have : (2 : Int) ^ (8 * 2) = 65536 := by decide
                    omega
                  have hv0 := hvb.1
                  have hv1 := hvb.2
                  have HV := Lib.hid hv
                  have HG1 : Hid (∀ W, Upd [] w W → Calls Tryz.prog 18 #[.slice A n c, .int .i64 ((f : Int) + 10), .int .i64 2] W fun e w' => e = .returned (.tuple #[.int .u64 v, .bool true]) ∧ Upd [] W w') := fun W hW => by
                    have h := rgetLe_ok A n c zs (f + 10) 2 W (HS.out.upd hW (by simp)) HZ.out hnc (by omega) (by omega) (by omega) (by omega)
                    rw [show zs.drop (f + 10) = D.drop (10) from by rw [HDD.out, List.drop_drop], ← hv, show ((f + 10 : Nat) : Int) = ((f : Int) + 10) from by omega] at h
                    exact h
                  clear hv hvb
                  by_cases hvn : (n : Int) - ((f : Int) + 10) - 2 < v
                  · have dv : decide ((n : Int) - ((f : Int) + 10) - 2 < v) = true := by simpa using hvn
                    go_upto_region 16 with (go_at_call 18; refine (HG1.out _ HU4.out).mono ?_; rintro e w5 ⟨rfl, hu5⟩)
                    have HU5 := Lib.hid (HU4.out.trans hu5)
                    have HB5 := Lib.hid (HB4.out.upd hu5 (by simp))
                    have HG5 := Lib.hid (HG4.out.upd hu5 (by simp))
                    clear hu5
                    have k0 := HB5.out.cell 0
                    have k1 := HB5.out.cell 1
                    have k2 := HB5.out.cell 2
                    have k3 := HB5.out.cell 3
                    have k4 := HB5.out.cell 4
                    have f0 := HB5.out.frozen 0
                    have f1 := HB5.out.frozen 1
                    have f2 := HB5.out.frozen 2
                    have f3 := HB5.out.frozen 3
                    have f4 := HB5.out.frozen 4
                    simp at k0 k1 k2 k3 k4
                    go_wp2
                    have HB9 := Lib.hid (blk5 (y0 := .string ⟨#[]⟩) (y1 := .int .i64 0) (y2 := .slice none 0 0) (y3 := .int .i64 0) (y4 := .int .i64 2) HB5.out)
                    have HU9 := Lib.hid (put5 (g := R) (y0 := .string ⟨#[]⟩) (y1 := .int .i64 0) (y2 := .slice none 0 0) (y3 := .int .i64 0) (y4 := .int .i64 2) HU5.out hRw)
                    clear k0 k1 k2 k3 k4 f0 f1 f2 f3 f4
                    generalize World.setCell _ _ _ = w9 at HB9 HU9 ⊢
                    have k0 := HB9.out.cell 0
                    have k1 := HB9.out.cell 1
                    have k2 := HB9.out.cell 2
                    have k3 := HB9.out.cell 3
                    have k4 := HB9.out.cell 4
                    simp at k0 k1 k2 k3 k4
                    refine bodyPost_ret (by simp [results, Tryz.results10, go_sem, k0, k1, k2, k3, k4]; rfl) rfl ?_
                    exact rmem_bad (er := 2) (by rw [HR.out]; exact memOf_bad (by rw [HH1.out, head1, if_pos (by rw [HX3.out]; exact hf4), if_neg (by rw [HDL.out]; omega), if_pos (by rw [HDL.out, ← HV.out]; omega)])) (by omega) rfl HU9.out
                  · have dv : decide ((n : Int) - ((f : Int) + 10) - 2 < v) = false := by simpa using hvn
                    go_upto_region 16 with (go_at_call 18; refine (HG1.out _ HU4.out).mono ?_; rintro e w5 ⟨rfl, hu5⟩)
                    have HU5 := Lib.hid (HU4.out.trans hu5)
                    have HB5 := Lib.hid (HB4.out.upd hu5 (by simp))
                    have HG5 := Lib.hid (HG4.out.upd hu5 (by simp))
                    clear hu5
                    go_wp2
                    go_meet
                    case rel =>
                      refine ⟨12 + v.toNat, f + (12 + v.toNat), by first | rfl | (congr 1; omega), rfl, by omega, by omega, HU5, HB5, HG5, ?_⟩
                      show _ = _
                      rw [HH1.out, head1, if_pos (by rw [HX3.out]; exact hf4), if_neg (by rw [HDL.out]; omega), if_neg (by rw [HDL.out, ← HV.out]; omega), ← HV.out]
              · have b4 : (x3 / 4 % 2 == 1) = false := by simpa using hf4
                go_wp2
                go_meet
                case rel => exact ⟨10, f + 10, by go_num, rfl, by omega, by omega, HU4, HB4, HG4, by show _ = _; rw [HH1.out, head1, if_neg (by rw [HX3.out]; exact hf4)]⟩
            case rest =>
              clear HH1 HU4 HB4 HG4
              obtain ⟨a, b, rfl, HBA, hb0, hbn, HU5, HB5, HG5, HHa⟩ := hcut
              obtain ⟨w5, hw5⟩ : ∃ w5 : World, w5 = wc := ⟨_, rfl⟩
              rw [← hw5] at HU5 HB5 HG5 ⊢
              clear hw5
              go_upto_if 100 with fail
              go_cut [11] from 97 to 100 (fun v11 wc => ∃ (a b : Nat) (nm : List Int) (S : ByteArray), v11 = .int .i64 b ∧ Hid (b = f + a) ∧ f + 10 ≤ b ∧ b ≤ n ∧ Hid (S = strOfNums nm) ∧ Hid (Upd [] w wc) ∧ Hid (Blk wc R 39 #[.string ⟨#[]⟩, .int .i64 0, .slice none 0 0, .int .i64 0, .int .i64 0]) ∧ Hid (Blk wc g 35 #[.string S, .int .i64 t, .slice none 0 0]) ∧ Hid (headOf D = head3 D t nm a))
              case first =>
                by_cases hf8 : x3 / 8 % 2 = 1
                · have b8 : (x3 / 8 % 2 == 1) = true := by simpa using hf8
                  obtain ⟨K, hK⟩ : ∃ K, K = noughtAt (D.drop a) := ⟨_, rfl⟩
                  have HDB : Hid (zs.drop b = D.drop a) := by show _ = _; rw [HDD.out, List.drop_drop, HBA.out]
                  have HLB : Hid (D.length - a = n - b) := by show _ = _; rw [HDL.out, HBA.out]; omega
                  have HK := Lib.hid hK
                  clear hK
                  by_cases hk : K < n - b
                  · have HIX : Hid (∀ W, Upd [] w W → Calls Tryz.prog 19 #[.slice A n c, .int .i64 b] W fun e w' => e = .returned (.int .i64 ((b + K : Nat) : Int)) ∧ W = w') := fun W hW => by
                      have h := zero_any A n c zs b W (HS.out.upd hW (by simp)) (by omega) (by omega)
                      rw [zeroAt, HDB.out, ← HK.out, if_pos hk] at h
                      exact h
                    have cut23 := run_cut_lh el_byte A n c .i64 .i64 (b : Int) ((b : Int) + K) b (b + K) rfl (by omega) (by omega) (by omega)
                    have cutI := Lib.hid ((HS.out.upd HU5.out (by simp)).cut (lo := b) (hi := b + K) (c := c) (by omega) (by omega) hnc)
                    rw [show b + K - b = K from by omega] at cut23 cutI
                    obtain ⟨nm, hnm⟩ : ∃ nm, nm = (D.drop a).take K := ⟨_, rfl⟩
                    rw [HDB.out, ← hnm] at cutI
                    have HNM := Lib.hid hnm
                    have hSz : (strOfNums nm).size = K := by rw [strOfNums_size]; exact cutI.out.len.out
                    have cvt := str_cut (c := c - b) cutI.out
                    obtain ⟨S, hS⟩ : ∃ S, S = strOfNums nm := ⟨_, rfl⟩
                    rw [← hS] at cvt hSz
                    have HSN := Lib.hid hS
                    have HSZ := Lib.hid hSz
                    have d21 : decide ((b : Int) + K < 0) = false := by simp; omega
                    clear hnm hS hSz
                    have m0 := HG5.out.cell 0
                    have m1 := HG5.out.cell 1
                    have m2 := HG5.out.cell 2
                    have n0 := HG5.out.frozen 0
                    have n1 := HG5.out.frozen 1
                    have n2 := HG5.out.frozen 2
                    simp at m0 m1 m2
                    go_upto_region 24 with (go_at_call 19; refine (HIX.out _ HU5.out).mono ?_; rintro e w' ⟨rfl, rfl⟩)
                    have HU6 := Lib.hid (HU5.out.put (o := 0) hgw (.string S))
                    have HB6 := Lib.hid (HB5.out.far (p := ⟨g, 0, none⟩) (by show R ≠ g; omega) (.string S))
                    have HG6 : Hid (Blk (World.setCell _ ⟨g, 0, none⟩ (.string S)) g 35 #[.string S, .int .i64 t, .slice none 0 0]) := HG5.out.set 0 _
                    clear m0 m1 m2 n0 n1 n2 cvt cut23 cutI HIX d21
                    generalize World.setCell _ _ _ = w6 at HU6 HB6 HG6 ⊢
                    have m0 := HG6.out.cell 0
                    have m1 := HG6.out.cell 1
                    have m2 := HG6.out.cell 2
                    have n0 := HG6.out.frozen 0
                    have n1 := HG6.out.frozen 1
                    have n2 := HG6.out.frozen 2
                    simp at m0 m1 m2
                    by_cases hk2 : 200 < K
                    · have dk : decide ((200 : Int) < S.size) = true := by rw [HSZ.out]; simp; omega
                      have k0 := HB6.out.cell 0
                      have k1 := HB6.out.cell 1
                      have k2 := HB6.out.cell 2
                      have k3 := HB6.out.cell 3
                      have k4 := HB6.out.cell 4
                      have f0 := HB6.out.frozen 0
                      have f1 := HB6.out.frozen 1
                      have f2 := HB6.out.frozen 2
                      have f3 := HB6.out.frozen 3
                      have f4 := HB6.out.frozen 4
                      simp at k0 k1 k2 k3 k4
                      go_wp2
                      clear m0 m1 m2 n0 n1 n2
                      have HB9 := Lib.hid (blk5 (y0 := .string ⟨#[]⟩) (y1 := .int .i64 0) (y2 := .slice none 0 0) (y3 := .int .i64 0) (y4 := .int .i64 10) HB6.out)
                      have HU9 := Lib.hid (put5 (g := R) (y0 := .string ⟨#[]⟩) (y1 := .int .i64 0) (y2 := .slice none 0 0) (y3 := .int .i64 0) (y4 := .int .i64 10) HU6.out hRw)
                      clear k0 k1 k2 k3 k4 f0 f1 f2 f3 f4
                      generalize World.setCell _ _ _ = w9 at HB9 HU9 ⊢
                      have k0 := HB9.out.cell 0
                      have k1 := HB9.out.cell 1
                      have k2 := HB9.out.cell 2
                      have k3 := HB9.out.cell 3
                      have k4 := HB9.out.cell 4
                      simp at k0 k1 k2 k3 k4
                      refine bodyPost_ret (by simp [results, Tryz.results10, go_sem, k0, k1, k2, k3, k4]; rfl) rfl ?_
                      exact rmem_bad (er := 10) (by rw [HR.out]; exact memOf_bad (by rw [HHa.out, head2, if_pos (by rw [HX3.out]; exact hf8), ← HK.out, if_pos (by rw [HLB.out]; exact hk), if_pos hk2])) (by omega) rfl HU9.out
                    · have dk : decide ((200 : Int) < S.size) = false := by rw [HSZ.out]; simp; omega
                      go_wp2
                      go_meet
                      case rel =>
                        refine ⟨a + K + 1, b + K + 1, nm, S, by go_num, by show _ = _; rw [HBA.out]; omega, by omega, by omega, HSN, HU6, HB6, HG6, ?_⟩
                        show _ = _
                        rw [HHa.out, head2, if_pos (by rw [HX3.out]; exact hf8), ← HK.out, if_pos (by rw [HLB.out]; exact hk), if_neg hk2, ← HNM.out]
                  · have HIX : Hid (∀ W, Upd [] w W → Calls Tryz.prog 19 #[.slice A n c, .int .i64 b] W fun e w' => e = .returned (.int .i64 (-1)) ∧ W = w') := fun W hW => by
                      have h := zero_any A n c zs b W (HS.out.upd hW (by simp)) (by omega) (by omega)
                      rw [zeroAt, HDB.out, ← HK.out, if_neg hk] at h
                      exact h
                    have k0 := HB5.out.cell 0
                    have k1 := HB5.out.cell 1
                    have k2 := HB5.out.cell 2
                    have k3 := HB5.out.cell 3
                    have k4 := HB5.out.cell 4
                    have f0 := HB5.out.frozen 0
                    have f1 := HB5.out.frozen 1
                    have f2 := HB5.out.frozen 2
                    have f3 := HB5.out.frozen 3
                    have f4 := HB5.out.frozen 4
                    simp at k0 k1 k2 k3 k4
                    go_wp2_with (go_at_call 19; refine (HIX.out _ HU5.out).mono ?_; rintro e w' ⟨rfl, rfl⟩)
                    have HB9 := Lib.hid (blk5 (y0 := .string ⟨#[]⟩) (y1 := .int .i64 0) (y2 := .slice none 0 0) (y3 := .int .i64 0) (y4 := .int .i64 2) HB5.out)
                    have HU9 := Lib.hid (put5 (g := R) (y0 := .string ⟨#[]⟩) (y1 := .int .i64 0) (y2 := .slice none 0 0) (y3 := .int .i64 0) (y4 := .int .i64 2) HU5.out hRw)
                    clear k0 k1 k2 k3 k4 f0 f1 f2 f3 f4
                    generalize World.setCell _ _ _ = w9 at HB9 HU9 ⊢
                    have k0 := HB9.out.cell 0
                    have k1 := HB9.out.cell 1
                    have k2 := HB9.out.cell 2
                    have k3 := HB9.out.cell 3
                    have k4 := HB9.out.cell 4
                    simp at k0 k1 k2 k3 k4
                    refine bodyPost_ret (by simp [results, Tryz.results10, go_sem, k0, k1, k2, k3, k4]; rfl) rfl ?_
                    exact rmem_bad (er := 2) (by rw [HR.out]; exact memOf_bad (by rw [HHa.out, head2, if_pos (by rw [HX3.out]; exact hf8), ← HK.out, if_neg (by rw [HLB.out]; exact hk)])) (by omega) rfl HU9.out
                · have b8 : (x3 / 8 % 2 == 1) = false := by simpa using hf8
                  go_wp2
                  go_meet
                  case rel => exact ⟨a, b, [], _, rfl, HBA, hb0, hbn, rfl, HU5, HB5, HG5, by show _ = _; rw [HHa.out, head2, if_neg (by rw [HX3.out]; exact hf8)]⟩
              case rest =>
                clear HHa HU5 HB5 HG5 HBA hb0 hbn
                obtain ⟨a, b, nm, S, rfl, HBA, hb0, hbn, HSN, HU7, HB7, HG7, HHb⟩ := hcut
                obtain ⟨w7, hw7⟩ : ∃ w7 : World, w7 = wc := ⟨_, rfl⟩
                rw [← hw7] at HU7 HB7 HG7 ⊢
                clear hw7
                go_upto_if 123 with fail
                go_cut [11] from 120 to 123 (fun v11 wc => ∃ (a b : Nat), v11 = .int .i64 b ∧ Hid (b = f + a) ∧ f + 10 ≤ b ∧ b ≤ n ∧ Hid (Upd [] w wc) ∧ Hid (Blk wc R 39 #[.string ⟨#[]⟩, .int .i64 0, .slice none 0 0, .int .i64 0, .int .i64 0]) ∧ Hid (Blk wc g 35 #[.string S, .int .i64 t, .slice none 0 0]) ∧ Hid (headOf D = head4 D t nm a))
                case first =>
                  by_cases hf16 : x3 / 16 % 2 = 1
                  · have b16 : (x3 / 16 % 2 == 1) = true := by simpa using hf16
                    obtain ⟨K, hK⟩ : ∃ K, K = noughtAt (D.drop a) := ⟨_, rfl⟩
                    have HDB : Hid (zs.drop b = D.drop a) := by show _ = _; rw [HDD.out, List.drop_drop, HBA.out]
                    have HLB : Hid (D.length - a = n - b) := by show _ = _; rw [HDL.out, HBA.out]; omega
                    have HK := Lib.hid hK
                    clear hK
                    by_cases hk : K < n - b
                    · have HIX : Hid (∀ W, Upd [] w W → Calls Tryz.prog 19 #[.slice A n c, .int .i64 b] W fun e w' => e = .returned (.int .i64 ((b + K : Nat) : Int)) ∧ W = w') := fun W hW => by
                        have h := zero_any A n c zs b W (HS.out.upd hW (by simp)) (by omega) (by omega)
                        rw [zeroAt, HDB.out, ← HK.out, if_pos hk] at h
                        exact h
                      have d29 : decide ((b : Int) + K < 0) = false := by simp; omega
                      go_wp2_with (go_at_call 19; refine (HIX.out _ HU7.out).mono ?_; rintro e w' ⟨rfl, rfl⟩)
                      go_meet
                      case rel =>
                        refine ⟨a + K + 1, b + K + 1, by go_num, by show _ = _; rw [HBA.out]; omega, by omega, by omega, HU7, HB7, HG7, ?_⟩
                        show _ = _
                        rw [HHb.out, head3, if_pos (by rw [HX3.out]; exact hf16), ← HK.out, if_pos (by rw [HLB.out]; exact hk)]
                    · have HIX : Hid (∀ W, Upd [] w W → Calls Tryz.prog 19 #[.slice A n c, .int .i64 b] W fun e w' => e = .returned (.int .i64 (-1)) ∧ W = w') := fun W hW => by
                        have h := zero_any A n c zs b W (HS.out.upd hW (by simp)) (by omega) (by omega)
                        rw [zeroAt, HDB.out, ← HK.out, if_neg hk] at h
                        exact h
                      have k0 := HB7.out.cell 0
                      have k1 := HB7.out.cell 1
                      have k2 := HB7.out.cell 2
                      have k3 := HB7.out.cell 3
                      have k4 := HB7.out.cell 4
                      have f0 := HB7.out.frozen 0
                      have f1 := HB7.out.frozen 1
                      have f2 := HB7.out.frozen 2
                      have f3 := HB7.out.frozen 3
                      have f4 := HB7.out.frozen 4
                      simp at k0 k1 k2 k3 k4
                      go_wp2_with (go_at_call 19; refine (HIX.out _ HU7.out).mono ?_; rintro e w' ⟨rfl, rfl⟩)
                      have HB9 := Lib.hid (blk5 (y0 := .string ⟨#[]⟩) (y1 := .int .i64 0) (y2 := .slice none 0 0) (y3 := .int .i64 0) (y4 := .int .i64 2) HB7.out)
                      have HU9 := Lib.hid (put5 (g := R) (y0 := .string ⟨#[]⟩) (y1 := .int .i64 0) (y2 := .slice none 0 0) (y3 := .int .i64 0) (y4 := .int .i64 2) HU7.out hRw)
                      clear k0 k1 k2 k3 k4 f0 f1 f2 f3 f4
                      generalize World.setCell _ _ _ = w9 at HB9 HU9 ⊢
                      have k0 := HB9.out.cell 0
                      have k1 := HB9.out.cell 1
                      have k2 := HB9.out.cell 2
                      have k3 := HB9.out.cell 3
                      have k4 := HB9.out.cell 4
                      simp at k0 k1 k2 k3 k4
                      refine bodyPost_ret (by simp [results, Tryz.results10, go_sem, k0, k1, k2, k3, k4]; rfl) rfl ?_
                      exact rmem_bad (er := 2) (by rw [HR.out]; exact memOf_bad (by rw [HHb.out, head3, if_pos (by rw [HX3.out]; exact hf16), ← HK.out, if_neg (by rw [HLB.out]; exact hk)])) (by omega) rfl HU9.out
                  · have b16 : (x3 / 16 % 2 == 1) = false := by simpa using hf16
                    go_wp2
                    go_meet
                    case rel => exact ⟨a, b, rfl, HBA, hb0, hbn, HU7, HB7, HG7, by show _ = _; rw [HHb.out, head3, if_neg (by rw [HX3.out]; exact hf16)]⟩
                case rest =>
                  clear HHb HU7 HB7 HG7 HBA hb0 hbn
                  obtain ⟨a, b, rfl, HBA, hb0, hbn, HU8, HB8, HG8, HHc⟩ := hcut
                  obtain ⟨w8, hw8⟩ : ∃ w8 : World, w8 = wc := ⟨_, rfl⟩
                  rw [← hw8] at HU8 HB8 HG8 ⊢
                  clear hw8
                  go_upto_if 135 with fail
                  go_cut [11] from 132 to 135 (fun v11 wc => ∃ (a b : Nat), v11 = .int .i64 b ∧ Hid (b = f + a) ∧ f + 10 ≤ b ∧ b ≤ n ∧ Hid (Upd [] w wc) ∧ Hid (Blk wc R 39 #[.string ⟨#[]⟩, .int .i64 0, .slice none 0 0, .int .i64 0, .int .i64 0]) ∧ Hid (Blk wc g 35 #[.string S, .int .i64 t, .slice none 0 0]) ∧ Hid (headOf D = .ok t nm a))
                  case first =>
                    by_cases hf2 : x3 / 2 % 2 = 1
                    · have b2 : (x3 / 2 % 2 == 1) = true := by simpa using hf2
                      by_cases hl : n < b + 2
                      · have HGB : Hid (∀ W, Calls Tryz.prog 18 #[.slice A n c, .int .i64 (b : Int), .int .i64 2] W fun e w' => e = .returned (.tuple #[.int .u64 0, .bool false]) ∧ W = w') := fun W => by
                          have h := rgetLe_bad A n c (b) 2 W (by omega) (by omega) (by omega) (by omega) (by omega)
                          exact h
                        have k0 := HB8.out.cell 0
                        have k1 := HB8.out.cell 1
                        have k2 := HB8.out.cell 2
                        have k3 := HB8.out.cell 3
                        have k4 := HB8.out.cell 4
                        have f0 := HB8.out.frozen 0
                        have f1 := HB8.out.frozen 1
                        have f2 := HB8.out.frozen 2
                        have f3 := HB8.out.frozen 3
                        have f4 := HB8.out.frozen 4
                        simp at k0 k1 k2 k3 k4
                        go_wp2_with (go_at_call 18; refine (HGB.out _).mono ?_; rintro e w' ⟨rfl, rfl⟩)
                        have HB9 := Lib.hid (blk5 (y0 := .string ⟨#[]⟩) (y1 := .int .i64 0) (y2 := .slice none 0 0) (y3 := .int .i64 0) (y4 := .int .i64 2) HB8.out)
                        have HU9 := Lib.hid (put5 (g := R) (y0 := .string ⟨#[]⟩) (y1 := .int .i64 0) (y2 := .slice none 0 0) (y3 := .int .i64 0) (y4 := .int .i64 2) HU8.out hRw)
                        clear k0 k1 k2 k3 k4 f0 f1 f2 f3 f4
                        generalize World.setCell _ _ _ = w9 at HB9 HU9 ⊢
                        have k0 := HB9.out.cell 0
                        have k1 := HB9.out.cell 1
                        have k2 := HB9.out.cell 2
                        have k3 := HB9.out.cell 3
                        have k4 := HB9.out.cell 4
                        simp at k0 k1 k2 k3 k4
                        refine bodyPost_ret (by simp [results, Tryz.results10, go_sem, k0, k1, k2, k3, k4]; rfl) rfl ?_
                        exact rmem_bad (er := 2) (by rw [HR.out]; exact memOf_bad (by rw [HHc.out, head4, if_pos (by rw [HX3.out]; exact hf2), if_pos (by rw [HDL.out]; have := HBA.out; omega)])) (by omega) rfl HU9.out
                      · obtain ⟨v, hv⟩ : ∃ v, v = leNum ((D.drop (a)).take 2) := ⟨_, rfl⟩
                        have hvb : 0 ≤ v ∧ v ≤ 65535 := by
                          have h := leNum_bd ((D.drop (a)).take 2) fun z hz' => HZ.out z (by rw [HDD.out] at hz'; exact List.mem_of_mem_drop (List.mem_of_mem_drop (List.mem_of_mem_take hz')))
                          have hl2 : ((D.drop (a)).take 2).length = 2 := by rw [List.length_take, List.length_drop, HDL.out]; have := HBA.out; omega
                          rw [hl2, ← hv] at h
                          have : (2 : Int) ^ (8 * 2) = 65536 := by decide
                          omega
                        have hv0 := hvb.1
                        have hv1 := hvb.2
                        have HV := Lib.hid hv
                        have HG1 : Hid (∀ W, Upd [] w W → Calls Tryz.prog 18 #[.slice A n c, .int .i64 (b : Int), .int .i64 2] W fun e w' => e = .returned (.tuple #[.int .u64 v, .bool true]) ∧ Upd [] W w') := fun W hW => by
                          have h := rgetLe_ok A n c zs (b) 2 W (HS.out.upd hW (by simp)) HZ.out hnc (by omega) (by omega) (by omega) (by omega)
                          rw [show zs.drop (b) = D.drop (a) from by rw [HDD.out, List.drop_drop, HBA.out], ← hv] at h
                          exact h
                        clear hv hvb
                        have cut36 := run_cut_lh el_byte A n c .i64 .i64 (f : Int) (b : Int) f b rfl rfl (by omega) (by omega)
                        obtain ⟨q, hq⟩ : ∃ q, q = crcOf (D.take a) := ⟨_, rfl⟩
                        have hqb := crcOf_bd (D.take a)
                        rw [← hq] at hqb
                        have hq0 := hqb.1
                        have hq1 := hqb.2
                        have HCR : Hid (∀ W, Upd [] w W → Calls Tryz.prog 20 #[.slice (cutA 1 A c f) (b - f) (c - f)] W fun e w' => e = .returned (.int .u32 q) ∧ W = w') := fun W hW => by
                          have hi := (HS.out.upd hW (by simp)).cut (lo := f) (hi := b) (c := c) (by omega) (by omega) hnc
                          rw [← HDD.out, show b - f = a from by have := HBA.out; omega] at hi
                          rw [hq, show b - f = a from by have := HBA.out; omega]
                          have hba := HBA.out
                          exact rcrc_any (cutA 1 A c f) a (c - f) (D.take a) W hi (fun z hz' => HZ.out z (by have h := List.mem_of_mem_take hz'; rw [HDD.out] at h; exact List.mem_of_mem_drop h)) (by omega)
                        have HQ := Lib.hid hq
                        obtain ⟨p, hp⟩ : ∃ p, p = q % 65536 := ⟨_, rfl⟩
                        have hrem : q % 65536 = p := hp.symm
                        have hp0 : 0 ≤ p := by omega
                        have hp1 : p ≤ 65535 := by omega
                        have HP := Lib.hid hp
                        clear hq hqb hp
                        go_upto_region 34 with (go_at_call 18; refine (HG1.out _ HU8.out).mono ?_; rintro e w9 ⟨rfl, hu9⟩)
                        have HU9c := Lib.hid (HU8.out.trans hu9)
                        have HB9c := Lib.hid (HB8.out.upd hu9 (by simp))
                        have HG9c := Lib.hid (HG8.out.upd hu9 (by simp))
                        clear hu9
                        by_cases hvq : v = p
                        · have dv : (p != v) = false := by simp [hvq]
                          have HVQ := Lib.hid hvq
                          clear hvq
                          go_wp2_with (first | (go_at_call 20; refine (HCR.out _ HU9c.out).mono ?_; rintro e w' ⟨rfl, rfl⟩) | fail)
                          go_meet
                          case rel =>
                            refine ⟨a + 2, b + 2, by go_num, by show _ = _; rw [HBA.out]; omega, by omega, by omega, HU9c, HB9c, HG9c, ?_⟩
                            show _ = _
                            rw [HHc.out, head4, if_pos (by rw [HX3.out]; exact hf2), if_neg (by rw [HDL.out]; have := HBA.out; omega), ← HV.out, ← HQ.out, ← HP.out, if_neg (by simpa using HVQ.out)]
                        · have dv : (p != v) = true := by simp; exact fun e => hvq e.symm
                          have k0 := HB9c.out.cell 0
                          have k1 := HB9c.out.cell 1
                          have k2 := HB9c.out.cell 2
                          have k3 := HB9c.out.cell 3
                          have k4 := HB9c.out.cell 4
                          have f0 := HB9c.out.frozen 0
                          have f1 := HB9c.out.frozen 1
                          have f2 := HB9c.out.frozen 2
                          have f3 := HB9c.out.frozen 3
                          have f4 := HB9c.out.frozen 4
                          simp at k0 k1 k2 k3 k4
                          go_wp2_with (first | (go_at_call 20; refine (HCR.out _ HU9c.out).mono ?_; rintro e w' ⟨rfl, rfl⟩) | fail)
                          have HB9 := Lib.hid (blk5 (y0 := .string ⟨#[]⟩) (y1 := .int .i64 0) (y2 := .slice none 0 0) (y3 := .int .i64 0) (y4 := .int .i64 5) HB9c.out)
                          have HU9 := Lib.hid (put5 (g := R) (y0 := .string ⟨#[]⟩) (y1 := .int .i64 0) (y2 := .slice none 0 0) (y3 := .int .i64 0) (y4 := .int .i64 5) HU9c.out hRw)
                          clear k0 k1 k2 k3 k4 f0 f1 f2 f3 f4
                          generalize World.setCell _ _ _ = w9 at HB9 HU9 ⊢
                          have k0 := HB9.out.cell 0
                          have k1 := HB9.out.cell 1
                          have k2 := HB9.out.cell 2
                          have k3 := HB9.out.cell 3
                          have k4 := HB9.out.cell 4
                          simp at k0 k1 k2 k3 k4
                          refine bodyPost_ret (by simp [results, Tryz.results10, go_sem, k0, k1, k2, k3, k4]; rfl) rfl ?_
                          exact rmem_bad (er := 5) (by rw [HR.out]; exact memOf_bad (by rw [HHc.out, head4, if_pos (by rw [HX3.out]; exact hf2), if_neg (by rw [HDL.out]; have := HBA.out; omega), ← HV.out, ← HQ.out, ← HP.out, if_pos hvq])) (by omega) rfl HU9.out
                    · have b2 : (x3 / 2 % 2 == 1) = false := by simpa using hf2
                      go_wp2
                      go_meet
                      case rel => exact ⟨a, b, rfl, HBA, hb0, hbn, HU8, HB8, HG8, by show _ = _; rw [HHc.out, head4, if_neg (by rw [HX3.out]; exact hf2)]⟩
                  case rest =>
                    clear HHc HU8 HB8 HG8 HBA hb0 hbn
                    obtain ⟨a, b, rfl, HBA, hb0, hbn, HU10, HB10, HG10, HHd⟩ := hcut
                    obtain ⟨w10, hw10⟩ : ∃ w10 : World, w10 = wc := ⟨_, rfl⟩
                    rw [← hw10] at HU10 HB10 HG10 ⊢
                    clear hw10
                    have cut39 := run_cut_l el_byte A n c .i64 (b : Int) b rfl hbn
                    have HDB : Hid (zs.drop b = D.drop a) := by show _ = _; rw [HDD.out, List.drop_drop, HBA.out]
                    have HI := Lib.hid (cut_from (HS.out.upd HU10.out (by simp)) (c := c) hbn hnc)
                    rw [HDB.out] at HI
                    have HZD : Hid (∀ z ∈ D.drop a, 0 ≤ z ∧ z ≤ 255) := fun z h => HZ.out z (by rw [HDD.out] at h; exact List.mem_of_mem_drop (List.mem_of_mem_drop h))
                    have HDA : Hid ((bitsOf (D.drop a)).length = 8 * (n - b)) := by show _ = _; rw [bitsOf_len, List.length_drop, HDL.out]; have := HBA.out; omega
                    go_wp2_with fail
                    refine (rinflate_any (cutA 1 A c b) (n - b) (c - b) (D.drop a) (most : Int) w10 HI.out HZD.out (by omega) F (by have := HF.out; omega)).mono ?_
                    rintro e w11 ⟨OA, on, oc, used, er, rfl, hu11, ⟨h, _⟩ | ⟨_, _, hx0, rfl, rfl, rfl, hrun⟩ | ⟨_, _, rfl, out, p, hrun, rfl, hi, hon, hbd, hom, hfr⟩⟩
                    · exact absurd ⟨by omega, by omega⟩ h
                    · rw [Int.toNat_natCast] at hrun
                      have HRUN := Lib.hid hrun
                      have der : (er != 0) = true := by simpa using hx0
                      have HER := Lib.hid hx0
                      have HU11 := Lib.hid (HU10.out.trans hu11)
                      have HB11 := Lib.hid (HB10.out.upd hu11 (by simp))
                      have HG11 := Lib.hid (HG10.out.upd hu11 (by simp))
                      clear hrun hx0 hu11 cut39 HI
                      go_upto_region 40 with (fail)
                      have hv12 : Upd [] w11 (w11.alloc (.cells #[.slice none 0 oc, .int .i64 0, .int .i64 er] 57)) := (Upd.refl _ _).alloc _
                      have HX12 : Hid (Blk (w11.alloc (.cells #[.slice none 0 oc, .int .i64 0, .int .i64 er] 57)) w11.heap.size 57 #[.slice none 0 oc, .int .i64 0, .int .i64 er]) := Blk.new _ _ _
                      have HU12 := Lib.hid (HU11.out.trans hv12)
                      have HB12 := Lib.hid (HB11.out.upd hv12 (by simp))
                      have HG12 := Lib.hid (HG11.out.upd hv12 (by simp))
                      obtain ⟨x, hx⟩ : ∃ x, x = w11.heap.size := ⟨_, rfl⟩
                      rw [← hx] at HX12 ⊢
                      generalize w11.alloc _ = w12 at hv12 HX12 HU12 HB12 HG12 ⊢
                      clear hx hv12 HU11 HB11 HG11
                      have x2 := HX12.out.cell 2
                      simp at x2
                      have k0 := HB12.out.cell 0
                      have k1 := HB12.out.cell 1
                      have k2 := HB12.out.cell 2
                      have k3 := HB12.out.cell 3
                      have k4 := HB12.out.cell 4
                      have f0 := HB12.out.frozen 0
                      have f1 := HB12.out.frozen 1
                      have f2 := HB12.out.frozen 2
                      have f3 := HB12.out.frozen 3
                      have f4 := HB12.out.frozen 4
                      simp at k0 k1 k2 k3 k4
                      go_wp2
                      have HB9 := Lib.hid (blk5 (y0 := .string ⟨#[]⟩) (y1 := .int .i64 0) (y2 := .slice none 0 0) (y3 := .int .i64 0) (y4 := .int .i64 er) HB12.out)
                      have HU9 := Lib.hid (put5 (g := R) (y0 := .string ⟨#[]⟩) (y1 := .int .i64 0) (y2 := .slice none 0 0) (y3 := .int .i64 0) (y4 := .int .i64 er) HU12.out hRw)
                      clear k0 k1 k2 k3 k4 f0 f1 f2 f3 f4
                      generalize World.setCell _ _ _ = w9 at HB9 HU9 ⊢
                      have k0 := HB9.out.cell 0
                      have k1 := HB9.out.cell 1
                      have k2 := HB9.out.cell 2
                      have k3 := HB9.out.cell 3
                      have k4 := HB9.out.cell 4
                      simp at k0 k1 k2 k3 k4
                      refine bodyPost_ret (by simp [results, Tryz.results10, go_sem, k0, k1, k2, k3, k4]; rfl) rfl ?_
                      exact rmem_bad (er := er) (by rw [HR.out, memOf, HHd.out]; simp only [HRUN.out]) HER.out rfl HU9.out
                    · rw [Int.toNat_natCast] at hrun hom
                      have HRUN := Lib.hid hrun
                      have hp8 : p ≤ 8 * (n - b) := run_le HDA.out _ (Nat.zero_le _) hrun
                      obtain ⟨q, hq⟩ : ∃ q, q = (p + 7) / 8 := ⟨_, rfl⟩
                      have hqn : b + q ≤ n := by omega
                      rw [← hq]
                      have HQ := Lib.hid hq
                      have HI11 := Lib.hid hi
                      have HBD := Lib.hid hbd
                      have hR10 : R < w10.heap.size := HB10.out.lt
                      have hg10 : g < w10.heap.size := HG10.out.lt
                      have HFR : Hid (∀ x, ob OA = some x → w10.heap.size ≤ x) := hfr
                      have HU10s : Hid (w.heap.size ≤ w10.heap.size) := HU10.out.size
                      have HU11 := Lib.hid (HU10.out.trans hu11)
                      have HB11 := Lib.hid (HB10.out.upd hu11 (by simp))
                      have HG11 := Lib.hid (HG10.out.upd hu11 (by simp))
                      clear hrun hu11 cut39 HI hq hi hbd hfr hp8
                      go_upto_region 40 with (fail)
                      have hv12 : Upd [] w11 (w11.alloc (.cells #[.slice OA on oc, .int .i64 (q : Int), .int .i64 0] 57)) := (Upd.refl _ _).alloc _
                      have HX12 : Hid (Blk (w11.alloc (.cells #[.slice OA on oc, .int .i64 (q : Int), .int .i64 0] 57)) w11.heap.size 57 #[.slice OA on oc, .int .i64 (q : Int), .int .i64 0]) := Blk.new _ _ _
                      have HU12 := Lib.hid (HU11.out.trans hv12)
                      have HB12 := Lib.hid (HB11.out.upd hv12 (by simp))
                      have HG12 := Lib.hid (HG11.out.upd hv12 (by simp))
                      have HI12 := Lib.hid (HI11.out.upd hv12 (by simp))
                      obtain ⟨x, hx⟩ : ∃ x, x = w11.heap.size := ⟨_, rfl⟩
                      rw [← hx] at HX12 ⊢
                      generalize w11.alloc _ = w12 at hv12 HX12 HU12 HB12 HG12 HI12 ⊢
                      clear hx hv12 HU11 HB11 HG11 HI11
                      have x0 := HX12.out.cell 0
                      have x1 := HX12.out.cell 1
                      have x2 := HX12.out.cell 2
                      simp at x0 x1 x2
                      by_cases h8 : n < b + q + 8
                      · have d8 : decide ((n : Int) - ((b : Int) + q) < 8) = true := by simp; omega
                        have k0 := HB12.out.cell 0
                        have k1 := HB12.out.cell 1
                        have k2 := HB12.out.cell 2
                        have k3 := HB12.out.cell 3
                        have k4 := HB12.out.cell 4
                        have f0 := HB12.out.frozen 0
                        have f1 := HB12.out.frozen 1
                        have f2 := HB12.out.frozen 2
                        have f3 := HB12.out.frozen 3
                        have f4 := HB12.out.frozen 4
                        simp at k0 k1 k2 k3 k4
                        go_wp2
                        have HB9 := Lib.hid (blk5 (y0 := .string ⟨#[]⟩) (y1 := .int .i64 0) (y2 := .slice none 0 0) (y3 := .int .i64 0) (y4 := .int .i64 2) HB12.out)
                        have HU9 := Lib.hid (put5 (g := R) (y0 := .string ⟨#[]⟩) (y1 := .int .i64 0) (y2 := .slice none 0 0) (y3 := .int .i64 0) (y4 := .int .i64 2) HU12.out hRw)
                        clear k0 k1 k2 k3 k4 f0 f1 f2 f3 f4
                        generalize World.setCell _ _ _ = w9 at HB9 HU9 ⊢
                        have k0 := HB9.out.cell 0
                        have k1 := HB9.out.cell 1
                        have k2 := HB9.out.cell 2
                        have k3 := HB9.out.cell 3
                        have k4 := HB9.out.cell 4
                        simp at k0 k1 k2 k3 k4
                        refine bodyPost_ret (by simp [results, Tryz.results10, go_sem, k0, k1, k2, k3, k4]; rfl) rfl ?_
                        exact rmem_bad (er := 2) (by rw [HR.out, memOf, HHd.out]; simp only [HRUN.out]; rw [← HQ.out, if_pos (by rw [HDL.out]; have := HBA.out; omega)]) (by omega) rfl HU9.out
                      · have d8 : decide ((n : Int) - ((b : Int) + q) < 8) = false := by simp; omega
                        obtain ⟨qc, hqc⟩ : ∃ qc, qc = crcOf out := ⟨_, rfl⟩
                        have hqb := crcOf_bd out
                        rw [← hqc] at hqb
                        have hqc0 := hqb.1
                        have hqc1 := hqb.2
                        have HQC := Lib.hid hqc
                        have HON := Lib.hid (HI12.out.len.out)
                        clear hqb hqc
                        go_upto_region 45 with (fail)
                        clear x1 x2
                        go_cut [19] from 178 to 188 (fun v19 wc => ∃ (Y : Option Addr) (yc : Nat), v19 = .slice Y 8 yc ∧ Ints .u8 wc Y 8 (sums8 out) ∧ Upd [] w12 wc)
                        case first =>
                          rename_i J' K' hJ' hK'
                          refine wp_region_relyT 10 (GotR w12.heap.size x OA on oc qc) (fun a b => Upd [] a b) (by kernel_rfl) (by decide) (show relyB _ 206 = true by kernel_rfl) (by kernel_rfl) (by kernel_rfl) (by kernel_rfl) (Upd.refl _ _) GotR.stable (fun _ _ _ h1 h2 => h1.trans h2) ?_ ?_
                          · intro i o hi10 hi a' w' hfr hdep hrel
                            have e18 : a'.tmps.getD 18 undef = .pointer (some ⟨x, 0, none⟩) := hfr 18 (by decide +kernel)
                            rw [Array.getD_eq_getD_getElem?] at e18
                            match i, hi10, hi, hdep with
                            | 0, _, hi, hdep =>
                              simp only [List.getElem?_toArray, List.getElem?_cons_zero, Option.some.injEq] at hi
                              subst hi
                              exact wp_val (v := .pointer (some ⟨x, 0, none⟩)) (w' := w') (by simp [execOp, Act.eval, e18, go_sem]) ⟨_, rfl, rfl, Upd.refl _ _⟩
                            | 1, _, hi, hdep =>
                              simp only [List.getElem?_toArray, List.getElem?_cons_zero, List.getElem?_cons_succ, Option.some.injEq] at hi
                              subst hi
                              have d0 : a'.tmps.getD 178 undef = .pointer (some ⟨x, 0, none⟩) := hdep ⟨0, .data⟩ (by simp) rfl
                              rw [Array.getD_eq_getD_getElem?] at d0
                              have c0 := (HX12.out.drew.upd hrel (by simp)).cell 0
                              simp at c0
                              exact wp_val (v := .slice OA on oc) (w' := w') (by simp [execOp, Act.eval, d0, go_sem, c0]) ⟨_, rfl, rfl, Upd.refl _ _⟩
                            | 2, _, hi, hdep =>
                              simp only [List.getElem?_toArray, List.getElem?_cons_zero, List.getElem?_cons_succ, Option.some.injEq] at hi
                              subst hi
                              have d1 : a'.tmps.getD 179 undef = .slice OA on oc := hdep ⟨1, .data⟩ (by simp) rfl
                              rw [Array.getD_eq_getD_getElem?] at d1
                              refine wp_call rfl Tryz.func20 rfl rfl rfl (args := #[.slice OA on oc]) (by simp [Act.eval, d1]) (rcrc_any OA on oc out w' ((Ints.upd HI12.out (Upd.refl [] w12).drew (by simp)).upd hrel (by simp)) HBD.out (by omega)) ?_
                              rintro e w5 ⟨rfl, rfl⟩
                              exact ⟨_, rfl, _, rfl, by rw [HQC.out]; rfl, Upd.refl _ _⟩
                            | 3, _, hi, hdep =>
                              simp only [List.getElem?_toArray, List.getElem?_cons_zero, List.getElem?_cons_succ, Option.some.injEq] at hi
                              subst hi
                              have d2 : a'.tmps.getD 180 undef = .int .u32 qc := hdep ⟨2, .data⟩ (by simp) rfl
                              rw [Array.getD_eq_getD_getElem?] at d2
                              have hw : IntKind.u64.wrap qc = qc := by rw [IntKind.wrap_u64]; omega
                              exact wp_val (v := .int .u64 qc) (w' := w') (by simp [execOp, Act.eval, d2, go_sem, hw]) ⟨_, rfl, rfl, Upd.refl _ _⟩
                            | 4, _, hi, hdep =>
                              simp only [List.getElem?_toArray, List.getElem?_cons_zero, List.getElem?_cons_succ, Option.some.injEq] at hi
                              subst hi
                              have d3 : a'.tmps.getD 181 undef = .int .u64 qc := hdep ⟨3, .data⟩ (by simp) rfl
                              rw [Array.getD_eq_getD_getElem?] at d3
                              refine wp_call rfl Tryz.func22 rfl rfl rfl (args := #[.int .u64 qc, .int .i64 4]) (by simp [Act.eval, d3]) (rle4_any w' qc (by omega) (by omega)) ?_
                              rintro e w5 ⟨Y, yc, rfl, ho, hu⟩
                              exact ⟨_, rfl, _, rfl, ⟨Y, yc, rfl, ho.monoB (by have h := hrel.size; simpa using h)⟩, hu⟩
                            | 5, _, hi, hdep =>
                              simp only [List.getElem?_toArray, List.getElem?_cons_zero, List.getElem?_cons_succ, Option.some.injEq] at hi
                              subst hi
                              exact wp_val (v := .pointer (some ⟨x, 0, none⟩)) (w' := w') (by simp [execOp, Act.eval, e18, go_sem]) ⟨_, rfl, rfl, Upd.refl _ _⟩
                            | 6, _, hi, hdep =>
                              simp only [List.getElem?_toArray, List.getElem?_cons_zero, List.getElem?_cons_succ, Option.some.injEq] at hi
                              subst hi
                              have d5 : a'.tmps.getD 183 undef = .pointer (some ⟨x, 0, none⟩) := hdep ⟨5, .data⟩ (by simp) rfl
                              rw [Array.getD_eq_getD_getElem?] at d5
                              have c0 := (HX12.out.drew.upd hrel (by simp)).cell 0
                              simp at c0
                              exact wp_val (v := .slice OA on oc) (w' := w') (by simp [execOp, Act.eval, d5, go_sem, c0]) ⟨_, rfl, rfl, Upd.refl _ _⟩
                            | 7, _, hi, hdep =>
                              simp only [List.getElem?_toArray, List.getElem?_cons_zero, List.getElem?_cons_succ, Option.some.injEq] at hi
                              subst hi
                              have d6 : a'.tmps.getD 184 undef = .slice OA on oc := hdep ⟨6, .data⟩ (by simp) rfl
                              rw [Array.getD_eq_getD_getElem?] at d6
                              exact wp_val (v := .int .i64 (on : Int)) (w' := w') (by simp [Act.eval, d6, go_sem]) ⟨_, rfl, rfl, Upd.refl _ _⟩
                            | 8, _, hi, hdep =>
                              simp only [List.getElem?_toArray, List.getElem?_cons_zero, List.getElem?_cons_succ, Option.some.injEq] at hi
                              subst hi
                              have d7 : a'.tmps.getD 185 undef = .int .i64 (on : Int) := hdep ⟨7, .data⟩ (by simp) rfl
                              rw [Array.getD_eq_getD_getElem?] at d7
                              have hw : IntKind.u64.wrap (on : Int) = (on : Int) := by rw [IntKind.wrap_u64]; omega
                              exact wp_val (v := .int .u64 (on : Int)) (w' := w') (by simp [execOp, Act.eval, d7, go_sem, hw]) ⟨_, rfl, rfl, Upd.refl _ _⟩
                            | 9, _, hi, hdep =>
                              simp only [List.getElem?_toArray, List.getElem?_cons_zero, List.getElem?_cons_succ, Option.some.injEq] at hi
                              subst hi
                              have d8 : a'.tmps.getD 186 undef = .int .u64 (on : Int) := hdep ⟨8, .data⟩ (by simp) rfl
                              rw [Array.getD_eq_getD_getElem?] at d8
                              refine wp_call rfl Tryz.func22 rfl rfl rfl (args := #[.int .u64 (on : Int), .int .i64 4]) (by simp [Act.eval, d8]) (rle4_any w' (on : Int) (by omega) (by omega)) ?_
                              rintro e w5 ⟨Y, yc, rfl, ho, hu⟩
                              exact ⟨_, rfl, _, rfl, ⟨Y, yc, rfl, ho.monoB (by have h := hrel.size; simpa using h)⟩, hu⟩
                          · intro a' w' hsize hdf hfr hpost hrel
                            obtain ⟨Y, yc, dY, hoY⟩ : ∃ Y yc, a'.tmps.getD 182 undef = .slice Y 4 yc ∧ Own w' w12.heap.size 5 1 Y 4 yc ((leB qc 4).map (Value.int .u8)) := hpost 4 (by decide)
                            obtain ⟨V, vc, dV, hoV⟩ : ∃ Y yc, a'.tmps.getD 187 undef = .slice Y 4 yc ∧ Own w' w12.heap.size 5 1 Y 4 yc ((leB (on : Int) 4).map (Value.int .u8)) := hpost 9 (by decide)
                            have hsz12 : w12.heap.size ≤ w'.heap.size := by have h := hrel.size; simpa using h
                            rw [Array.getD_eq_getD_getElem?] at dY dV
                            simp only [List.drop_succ_cons, List.drop_zero]
                            refine wpList_app rfl rfl el_byte (by simpa [Act.eval] using dY) hoY (by simpa [Act.eval] using dV) hoV.seg (ints_one _ _) (by simp [maxLen]) (by omega) hsz12 ?_
                            intro Z zc wz hoZ huZ hfZ
                            refine wpList_plain rfl fun K hK => ?_
                            refine wp_val (v := .slice Z (4 + 4) zc) (w' := wz) (by simp [execOp, Act.eval, Act.put, hsize]) (hK _ _ ?_)
                            have hIZ : Ints .u8 wz Z 8 (sums8 out) := by
                              rw [← List.map_append] at hoZ
                              have h := Ints.ofOwn hoZ
                              unfold sums8
                              rw [← HQC.out, HON.out]
                              exact h
                            have hUZ : Upd [] w12 wz := (((Upd.refl [] w12).drew).trans hrel).then huZ (fun b hb => by right; simp at hb; exact (hoY.base hb.symm).1)
                            refine hK' _ _ (hJ' _ _ ?_)
                            obtain ⟨af, haf⟩ : ∃ af : Act, af = (a'.put (some 188) (.slice Z (4 + 4) zc)).put (some 19) (.slice Z (4 + 4) zc) := ⟨_, rfl⟩
                            have h19 : af.tmps.getD 19 undef = .slice Z 8 zc := by rw [haf]; simp [Act.put, hsize]
                            refine ⟨af.tmps.getD 19 undef, af.tmps.getD 178 undef, af.tmps.getD 179 undef, af.tmps.getD 180 undef, af.tmps.getD 181 undef, af.tmps.getD 182 undef, af.tmps.getD 183 undef, af.tmps.getD 184 undef, af.tmps.getD 185 undef, af.tmps.getD 186 undef, af.tmps.getD 187 undef, af.tmps.getD 188 undef, ⟨Z, zc, h19, hIZ, hUZ⟩, ?_⟩
                            subst haf
                            exact frame_meet [19, 178, 179, 180, 181, 182, 183, 184, 185, 186, 187, 188] hsize hdf hfr rfl rfl (show 188 < 206 from by decide) (show 19 < 206 from by decide) (by kernel_rfl) rfl
                        case rest =>
                          obtain ⟨Y, yc, rfl, hY, hV⟩ := hcut
                          obtain ⟨w13, hw13⟩ : ∃ w13 : World, w13 = wc := ⟨_, rfl⟩
                          rw [← hw13] at hY hV ⊢
                          clear hw13
                          have HU13 := Lib.hid (HU12.out.trans hV)
                          have HB13 := Lib.hid (HB12.out.upd hV (by simp))
                          have HG13 := Lib.hid (HG12.out.upd hV (by simp))
                          have HX13 := Lib.hid (HX12.out.upd hV (by simp))
                          have HI13 := Lib.hid (HI12.out.upd hV (by simp))
                          have HY13 := Lib.hid hY
                          clear hY hV HU12 HB12 HG12 HX12 HI12 x0
                          obtain ⟨X, hX⟩ : ∃ X, X = cutA 1 A c (b + q) := ⟨_, rfl⟩
                          obtain ⟨cc, hcc⟩ : ∃ cc, cc = c - (b + q) := ⟨_, rfl⟩
                          have cut46 := run_cut_lh el_byte A n c .i64 .i64 ((b : Int) + q) ((b : Int) + q + 8) (b + q) (b + q + 8) (by omega) (by omega) (by omega) (by omega)
                          have HI8 := Lib.hid ((HS.out.upd HU13.out (by simp)).cut (lo := b + q) (hi := b + q + 8) (c := c) (by omega) (by omega) hnc)
                          rw [show b + q + 8 - (b + q) = 8 from by omega, ← hX, ← hcc] at cut46
                          rw [show b + q + 8 - (b + q) = 8 from by omega, ← hX] at HI8
                          obtain ⟨t8, ht8⟩ : ∃ t8, t8 = (D.drop (a + q)).take 8 := ⟨_, rfl⟩
                          rw [show zs.drop (b + q) = D.drop (a + q) from by rw [HDD.out, List.drop_drop, HBA.out, Nat.add_assoc], ← ht8] at HI8
                          have HT8 := Lib.hid ht8
                          have HZ8 : Hid (∀ z ∈ t8, 0 ≤ z ∧ z ≤ 255) := fun z h => HZ.out z (by rw [ht8, HDD.out] at h; exact List.mem_of_mem_drop (List.mem_of_mem_drop (List.mem_of_mem_take h)))
                          have HZS : Hid (∀ z ∈ sums8 out, 0 ≤ z ∧ z ≤ 255) := fun z h => by
                            unfold sums8 at h
                            rcases List.mem_append.1 h with h | h
                            · exact leB_bd _ _ z h
                            · exact leB_bd _ _ z h
                          clear hX hcc ht8
                          have hw8 : IntKind.i64.wrap ((b : Int) + q + 8) = (b : Int) + q + 8 := by rw [IntKind.wrap_i64]; omega
                          have s1 : ∀ i, (convert 22 9 (.slice Y 8 yc)).run Tryz.prog (w13.drewN i) = .ok (.string (strOfNums (sums8 out))) (w13.drewN i) := fun i => str_cut (HY13.out.drewN i)
                          have s2 : ∀ i, (convert 22 9 (.slice X 8 cc)).run Tryz.prog (w13.drewN i) = .ok (.string (strOfNums t8)) (w13.drewN i) := fun i => str_cut (HI8.out.drewN i)
                          obtain ⟨S1, hS1⟩ : ∃ S1, S1 = strOfNums (sums8 out) := ⟨_, rfl⟩
                          rw [← hS1] at s1
                          have HS1N := Lib.hid hS1
                          clear hS1
                          by_cases hne : t8 = sums8 out
                          · rw [hne, ← HS1N.out] at s2
                            have HNE := Lib.hid hne
                            clear hne
                            go_upto_region 46 with (fail)
                            go_quiet (fail)
                            generalize hw14 : w13.drewN _ = w14
                            have hv14 : Upd [] w13 w14 := by rw [← hw14]; exact (Upd.refl _ _).drewN _
                            have HU14 := Lib.hid (HU13.out.trans hv14)
                            have HB14 := Lib.hid (HB13.out.upd hv14 (by simp))
                            have HG14 := Lib.hid (HG13.out.upd hv14 (by simp))
                            have HX14 := Lib.hid (HX13.out.upd hv14 (by simp))
                            have HI14 := Lib.hid (HI13.out.upd hv14 (by simp))
                            clear hw14 hv14 s1 s2 cut46 hw8 HU13 HB13 HG13 HX13 HI13 HY13 HI8
                            have x0 := HX14.out.cell 0
                            simp at x0
                            have m0 := HG14.out.cell 0
                            have m1 := HG14.out.cell 1
                            have m2 := HG14.out.cell 2
                            have n0 := HG14.out.frozen 0
                            have n1 := HG14.out.frozen 1
                            have n2 := HG14.out.frozen 2
                            simp at m0 m1 m2
                            go_upto_region 49 with (fail)
                            have hv15 : Upd [some g] w14 (w14.setCell ⟨g, 2, none⟩ (.slice OA on oc)) := (Upd.refl _ _).putIn (by simp) _
                            have HU15 := Lib.hid (HU14.out.put (o := 2) hgw (.slice OA on oc))
                            have HB15 := Lib.hid (HB14.out.far (p := ⟨g, 2, none⟩) (by show R ≠ g; omega) (.slice OA on oc))
                            have HG15 : Hid (Blk (w14.setCell ⟨g, 2, none⟩ (.slice OA on oc)) g 35 #[.string S, .int .i64 t, .slice OA on oc]) := HG14.out.set 2 _
                            have HNG : Hid (0 < on → w10.heap.size ≤ bl OA) := fun h0 => HFR.out (bl OA) (by have hY := Seg.at_ HI14.out h0; rw [hY]; rfl)
                            have HI15 := Lib.hid (HI14.out.upd hv15 (fun h0 => by have := HNG.out h0; simp; omega))
                            clear m0 m1 m2 n0 n1 n2 x0 hv15 HU14 HB14 HG14 HI14
                            generalize World.setCell _ _ _ = w15 at HU15 HB15 HG15 HI15 ⊢
                            have m0 := HG15.out.cell 0
                            have m1 := HG15.out.cell 1
                            have m2 := HG15.out.cell 2
                            have n0 := HG15.out.frozen 0
                            have n1 := HG15.out.frozen 1
                            have n2 := HG15.out.frozen 2
                            simp at m0 m1 m2
                            have k0 := HB15.out.cell 0
                            have k1 := HB15.out.cell 1
                            have k2 := HB15.out.cell 2
                            have k3 := HB15.out.cell 3
                            have k4 := HB15.out.cell 4
                            have f0 := HB15.out.frozen 0
                            have f1 := HB15.out.frozen 1
                            have f2 := HB15.out.frozen 2
                            have f3 := HB15.out.frozen 3
                            have f4 := HB15.out.frozen 4
                            simp at k0 k1 k2 k3 k4
                            go_wp2
                            have hv9 : Upd [some R] w15 (((((w15.setCell ⟨R, 0, none⟩ (.string S)).setCell ⟨R, 1, none⟩ (.int .i64 t)).setCell ⟨R, 2, none⟩ (.slice OA on oc)).setCell ⟨R, 3, none⟩ (.int .i64 ((b : Int) + q + 8))).setCell ⟨R, 4, none⟩ (.int .i64 0)) := (((((Upd.refl _ _).putIn (by simp) _).putIn (by simp) _).putIn (by simp) _).putIn (by simp) _).putIn (by simp) _
                            have HB9 := Lib.hid (blk5 (y0 := .string S) (y1 := .int .i64 t) (y2 := .slice OA on oc) (y3 := .int .i64 ((b : Int) + q + 8)) (y4 := .int .i64 0) HB15.out)
                            have HU9 := Lib.hid (put5 (g := R) (y0 := .string S) (y1 := .int .i64 t) (y2 := .slice OA on oc) (y3 := .int .i64 ((b : Int) + q + 8)) (y4 := .int .i64 0) HU15.out hRw)
                            have HI9 := Lib.hid (HI15.out.upd hv9 (fun h0 => by have := HNG.out h0; simp; omega))
                            clear k0 k1 k2 k3 k4 f0 f1 f2 f3 f4 m0 m1 m2 n0 n1 n2 hv9
                            generalize World.setCell _ _ _ = w9 at HB9 HU9 HI9 ⊢
                            have k0 := HB9.out.cell 0
                            have k1 := HB9.out.cell 1
                            have k2 := HB9.out.cell 2
                            have k3 := HB9.out.cell 3
                            have k4 := HB9.out.cell 4
                            simp at k0 k1 k2 k3 k4
                            refine bodyPost_ret (by simp [results, Tryz.results10, go_sem, k0, k1, k2, k3, k4]; rfl) rfl ?_
                            refine rmem_good (tm := t) (nm := S) (k := a + q + 8) (by rw [HR.out, memOf, HHd.out]; simp only [HRUN.out]; rw [← HQ.out, if_neg (by rw [HDL.out]; have := HBA.out; omega), ← HT8.out, if_neg (by rw [HNE.out]; simp), HSN.out]) ?_ HI9.out HBD.out hon (fun x hx => Nat.le_trans HU10s.out (HFR.out x hx)) HU9.out
                            have hfk : ((f + (a + q + 8) : Nat) : Int) = (b : Int) + q + 8 := by have := HBA.out; omega
                            rw [hfk]
                          · have hsn : strOfNums t8 ≠ S1 := by rw [HS1N.out]; exact strOfNums_ne HZ8.out HZS.out hne
                            obtain ⟨S2, hS2⟩ : ∃ S2, S2 = strOfNums t8 := ⟨_, rfl⟩
                            rw [← hS2] at s2 hsn
                            have hbq : (S1.toList == S2.toList) = false := by
                              simp only [beq_eq_false_iff_ne, ne_eq]
                              intro e
                              exact hsn (by
                                rw [ByteArray.toList_eq, ByteArray.toList_eq] at e
                                have h1 := Array.toList_inj.1 e
                                exact (ByteArray.ext h1).symm)
                            have HNE := Lib.hid hne
                            clear hne hS2 hsn
                            go_upto_region 46 with (fail)
                            go_quiet (fail)
                            generalize hw14 : w13.drewN _ = w14
                            have hv14 : Upd [] w13 w14 := by rw [← hw14]; exact (Upd.refl _ _).drewN _
                            have HU14 := Lib.hid (HU13.out.trans hv14)
                            have HB14 := Lib.hid (HB13.out.upd hv14 (by simp))
                            have HG14 := Lib.hid (HG13.out.upd hv14 (by simp))
                            have HX14 := Lib.hid (HX13.out.upd hv14 (by simp))
                            have HI14 := Lib.hid (HI13.out.upd hv14 (by simp))
                            clear hw14 hv14 s1 s2 cut46 hw8 HU13 HB13 HG13 HX13 HI13 HY13 HI8
                            clear hbq
                            have k0 := HB14.out.cell 0
                            have k1 := HB14.out.cell 1
                            have k2 := HB14.out.cell 2
                            have k3 := HB14.out.cell 3
                            have k4 := HB14.out.cell 4
                            have f0 := HB14.out.frozen 0
                            have f1 := HB14.out.frozen 1
                            have f2 := HB14.out.frozen 2
                            have f3 := HB14.out.frozen 3
                            have f4 := HB14.out.frozen 4
                            simp at k0 k1 k2 k3 k4
                            go_wp2
                            have HB9 := Lib.hid (blk5 (y0 := .string ⟨#[]⟩) (y1 := .int .i64 0) (y2 := .slice none 0 0) (y3 := .int .i64 0) (y4 := .int .i64 5) HB14.out)
                            have HU9 := Lib.hid (put5 (g := R) (y0 := .string ⟨#[]⟩) (y1 := .int .i64 0) (y2 := .slice none 0 0) (y3 := .int .i64 0) (y4 := .int .i64 5) HU14.out hRw)
                            clear k0 k1 k2 k3 k4 f0 f1 f2 f3 f4
                            generalize World.setCell _ _ _ = w9 at HB9 HU9 ⊢
                            have k0 := HB9.out.cell 0
                            have k1 := HB9.out.cell 1
                            have k2 := HB9.out.cell 2
                            have k3 := HB9.out.cell 3
                            have k4 := HB9.out.cell 4
                            simp at k0 k1 k2 k3 k4
                            refine bodyPost_ret (by simp [results, Tryz.results10, go_sem, k0, k1, k2, k3, k4]; rfl) rfl ?_
                            exact rmem_bad (er := 5) (by rw [HR.out, memOf, HHd.out]; simp only [HRUN.out]; rw [← HQ.out, if_neg (by rw [HDL.out]; have := HBA.out; omega), ← HT8.out, if_pos HNE.out]) (by omega) rfl HU9.out
        · have q0 : (x0 != 31) = false := by simpa using h0
          have q1 : (x1 != 139) = false := by simpa using h1
          have q2 : (x2 != 8) = true := by simpa using h2
          have k0 := HB1.out.cell 0
          have k1 := HB1.out.cell 1
          have k2 := HB1.out.cell 2
          have k3 := HB1.out.cell 3
          have k4 := HB1.out.cell 4
          have f0 := HB1.out.frozen 0
          have f1 := HB1.out.frozen 1
          have f2 := HB1.out.frozen 2
          have f3 := HB1.out.frozen 3
          have f4 := HB1.out.frozen 4
          simp at k0 k1 k2 k3 k4
          go_wp2
          have HB9 := Lib.hid (blk5 (y0 := .string ⟨#[]⟩) (y1 := .int .i64 0) (y2 := .slice none 0 0) (y3 := .int .i64 0) (y4 := .int .i64 14) HB1.out)
          have HU9 := Lib.hid (put5 (g := R) (y0 := .string ⟨#[]⟩) (y1 := .int .i64 0) (y2 := .slice none 0 0) (y3 := .int .i64 0) (y4 := .int .i64 14) HU1.out hRw)
          clear k0 k1 k2 k3 k4 f0 f1 f2 f3 f4
          generalize World.setCell _ _ _ = w9 at HB9 HU9 ⊢
          have k0 := HB9.out.cell 0
          have k1 := HB9.out.cell 1
          have k2 := HB9.out.cell 2
          have k3 := HB9.out.cell 3
          have k4 := HB9.out.cell 4
          simp at k0 k1 k2 k3 k4
          refine bodyPost_ret (by simp [results, Tryz.results10, go_sem, k0, k1, k2, k3, k4]; rfl) rfl ?_
          exact rmem_bad (er := 14) (by rw [HR.out]; exact memOf_bad (by rw [HH0.out, if_neg (by simp [h0, h1]), if_pos h2])) (by omega) rfl HU9.out
      · have q0 : (x0 != 31) = false := by simpa using h0
        have q1 : (x1 != 139) = true := by simpa using h1
        have k0 := HB1.out.cell 0
        have k1 := HB1.out.cell 1
        have k2 := HB1.out.cell 2
        have k3 := HB1.out.cell 3
        have k4 := HB1.out.cell 4
        have f0 := HB1.out.frozen 0
        have f1 := HB1.out.frozen 1
        have f2 := HB1.out.frozen 2
        have f3 := HB1.out.frozen 3
        have f4 := HB1.out.frozen 4
        simp at k0 k1 k2 k3 k4
        go_wp2
        have HB9 := Lib.hid (blk5 (y0 := .string ⟨#[]⟩) (y1 := .int .i64 0) (y2 := .slice none 0 0) (y3 := .int .i64 0) (y4 := .int .i64 3) HB1.out)
        have HU9 := Lib.hid (put5 (g := R) (y0 := .string ⟨#[]⟩) (y1 := .int .i64 0) (y2 := .slice none 0 0) (y3 := .int .i64 0) (y4 := .int .i64 3) HU1.out hRw)
        clear k0 k1 k2 k3 k4 f0 f1 f2 f3 f4
        generalize World.setCell _ _ _ = w9 at HB9 HU9 ⊢
        have k0 := HB9.out.cell 0
        have k1 := HB9.out.cell 1
        have k2 := HB9.out.cell 2
        have k3 := HB9.out.cell 3
        have k4 := HB9.out.cell 4
        simp at k0 k1 k2 k3 k4
        refine bodyPost_ret (by simp [results, Tryz.results10, go_sem, k0, k1, k2, k3, k4]; rfl) rfl ?_
        exact rmem_bad (er := 3) (by rw [HR.out]; exact memOf_bad (by rw [HH0.out, if_pos (Or.inr h1)])) (by omega) rfl HU9.out
    · have q0 : (x0 != 31) = true := by simpa using h0
      have k0 := HB1.out.cell 0
      have k1 := HB1.out.cell 1
      have k2 := HB1.out.cell 2
      have k3 := HB1.out.cell 3
      have k4 := HB1.out.cell 4
      have f0 := HB1.out.frozen 0
      have f1 := HB1.out.frozen 1
      have f2 := HB1.out.frozen 2
      have f3 := HB1.out.frozen 3
      have f4 := HB1.out.frozen 4
      simp at k0 k1 k2 k3 k4
      go_wp2
      have HB9 := Lib.hid (blk5 (y0 := .string ⟨#[]⟩) (y1 := .int .i64 0) (y2 := .slice none 0 0) (y3 := .int .i64 0) (y4 := .int .i64 3) HB1.out)
      have HU9 := Lib.hid (put5 (g := R) (y0 := .string ⟨#[]⟩) (y1 := .int .i64 0) (y2 := .slice none 0 0) (y3 := .int .i64 0) (y4 := .int .i64 3) HU1.out hRw)
      clear k0 k1 k2 k3 k4 f0 f1 f2 f3 f4
      generalize World.setCell _ _ _ = w9 at HB9 HU9 ⊢
      have k0 := HB9.out.cell 0
      have k1 := HB9.out.cell 1
      have k2 := HB9.out.cell 2
      have k3 := HB9.out.cell 3
      have k4 := HB9.out.cell 4
      simp at k0 k1 k2 k3 k4
      refine bodyPost_ret (by simp [results, Tryz.results10, go_sem, k0, k1, k2, k3, k4]; rfl) rfl ?_
      exact rmem_bad (er := 3) (by rw [HR.out]; exact memOf_bad (by rw [HH0.out, if_pos (Or.inl h0)])) (by omega) rfl HU9.out

end Go.Proofs.YtolcdlopgbgilaaGreatDoor
