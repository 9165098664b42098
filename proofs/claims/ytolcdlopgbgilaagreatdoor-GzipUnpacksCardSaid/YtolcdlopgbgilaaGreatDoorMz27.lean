/- Merged by wip/tools/merge.py: GzX GzN GzU GzA GzY RelyT. -/
import Derived.BigQuiet
import Derived.Lib.SlBytesConst
import Derived.Test.YtolcdlopgbgilaaGreatDoorMz05
import Derived.Test.YtolcdlopgbgilaaGreatDoorMz24
import Derived.Test.YtolcdlopgbgilaaGreatDoorMz26

/-! Text GzX. -/
namespace Go.Proofs.YtolcdlopgbgilaaGreatDoor
open Go.RowKit Go.Dray

theorem head_any (A : Option Addr) (n c : Nat) (zs : List Int) (w : World) (hs : Ints .u8 w A n zs) (hz : ∀ z ∈ zs, 0 ≤ z ∧ z ≤ 255) (hnc : n ≤ c) (hbig : n ≤ 100000000) :
    Calls Tryz.prog 16 #[.slice A n c] w (GzHeadPost (headOf zs) w) := by
  have HL := hs.len
  unfold headOf
  by_cases hn : n < 10
  · rw [if_pos (by rw [HL.out]; exact hn)]
    exact head_short A n c w hn
  · have hn' : 10 ≤ n := by omega
    have g : ∀ i, i < 10 → ∃ x, zs[i]? = some x ∧ zs.getD i 0 = x ∧ 0 ≤ x ∧ x ≤ 255 := fun i hi => by
      have hl : i < zs.length := by rw [HL.out]; omega
      exact ⟨zs[i], List.getElem?_eq_getElem hl, by simp [List.getD, hl], hz _ (List.getElem_mem hl)⟩
    obtain ⟨x0, e0, d0, b0⟩ := g 0 (by omega)
    obtain ⟨x1, e1, d1, b1⟩ := g 1 (by omega)
    obtain ⟨x2, e2, d2, b2⟩ := g 2 (by omega)
    obtain ⟨x3, e3, d3, b3⟩ := g 3 (by omega)
    rw [if_neg (by rw [HL.out]; exact hn), d0, d1, d2, d3]
    by_cases h0 : x0 = 31
    · by_cases h1 : x1 = 139
      · rw [if_neg (by simp [h0, h1])]
        subst h0 h1
        by_cases h2 : x2 = 8
        · rw [if_neg (by simp [h2])]
          subst h2
          by_cases h3 : 32 ≤ x3
          · rw [if_pos h3]
            exact head_flags A n c zs x3 w hs hn' e0 e1 e2 e3 h3 b3.2
          · rw [if_neg h3]
            exact gzHead_any A n c zs x3 w hs hz hnc hn' hbig e0 e1 e2 e3 b3.1 (by omega)
        · rw [if_pos h2]
          exact head_method A n c zs x2 w hs hn' e0 e1 e2 h2
      · rw [if_pos (Or.inr h1)]
        exact head_form1 A n c zs x0 x1 w hs hn' e0 e1 h0 h1
    · rw [if_pos (Or.inl h0)]
      exact head_form0 A n c zs x0 x1 w hs hn' e0 e1 h0
theorem bad_code {a e : Int} (h : HeadR.bad a = .bad e) (ha : a ≠ 0) : e ≠ 0 := by
  injection h with h
  rwa [← h]
theorem ok_code {t : Int} {nm : List Int} {k : Nat} {e : Int} (h : HeadR.ok t nm k = .bad e) : e ≠ 0 := by cases h
theorem head4_code {zs : List Int} {t : Int} {nm : List Int} {k : Nat} {e : Int} (h : head4 zs t nm k = .bad e) : e ≠ 0 := by
  unfold head4 at h
  by_cases h1 : zs.getD 3 0 / 2 % 2 = 1
  · rw [if_pos h1] at h
    by_cases h2 : zs.length < k + 2
    · rw [if_pos h2] at h; exact bad_code h (by decide)
    · rw [if_neg h2] at h
      by_cases h3 : leNum ((zs.drop k).take 2) ≠ crcOf (zs.take k) % 65536
      · rw [if_pos h3] at h; exact bad_code h (by decide)
      · rw [if_neg h3] at h; exact ok_code h
  · rw [if_neg h1] at h; exact ok_code h
theorem head3_code {zs : List Int} {t : Int} {nm : List Int} {k : Nat} {e : Int} (h : head3 zs t nm k = .bad e) : e ≠ 0 := by
  unfold head3 at h
  by_cases h1 : zs.getD 3 0 / 16 % 2 = 1
  · rw [if_pos h1] at h
    by_cases h2 : noughtAt (zs.drop k) < zs.length - k
    · rw [if_pos h2] at h; exact head4_code h
    · rw [if_neg h2] at h; exact bad_code h (by decide)
  · rw [if_neg h1] at h; exact head4_code h
theorem head2_code {zs : List Int} {t : Int} {k : Nat} {e : Int} (h : head2 zs t k = .bad e) : e ≠ 0 := by
  unfold head2 at h
  by_cases h1 : zs.getD 3 0 / 8 % 2 = 1
  · rw [if_pos h1] at h
    by_cases h2 : noughtAt (zs.drop k) < zs.length - k
    · rw [if_pos h2] at h
      by_cases h3 : 200 < noughtAt (zs.drop k)
      · rw [if_pos h3] at h; exact bad_code h (by decide)
      · rw [if_neg h3] at h; exact head3_code h
    · rw [if_neg h2] at h; exact bad_code h (by decide)
  · rw [if_neg h1] at h; exact head3_code h
theorem headOf_code {zs : List Int} {e : Int} (h : headOf zs = .bad e) : e ≠ 0 := by
  unfold headOf at h
  by_cases h1 : zs.length < 10
  · rw [if_pos h1] at h; exact bad_code h (by decide)
  rw [if_neg h1] at h
  by_cases h2 : zs.getD 0 0 ≠ 31 ∨ zs.getD 1 0 ≠ 139
  · rw [if_pos h2] at h; exact bad_code h (by decide)
  rw [if_neg h2] at h
  by_cases h3 : zs.getD 2 0 ≠ 8
  · rw [if_pos h3] at h; exact bad_code h (by decide)
  rw [if_neg h3] at h
  by_cases h4 : 32 ≤ zs.getD 3 0
  · rw [if_pos h4] at h; exact bad_code h (by decide)
  rw [if_neg h4] at h
  unfold head1 at h
  by_cases h5 : zs.getD 3 0 / 4 % 2 = 1
  · rw [if_pos h5] at h
    by_cases h6 : zs.length < 12
    · rw [if_pos h6] at h; exact bad_code h (by decide)
    · rw [if_neg h6] at h
      by_cases h7 : (zs.length : Int) - 12 < leNum ((zs.drop 10).take 2)
      · rw [if_pos h7] at h; exact bad_code h (by decide)
      · rw [if_neg h7] at h; exact head2_code h
  · rw [if_neg h5] at h; exact head2_code h

end Go.Proofs.YtolcdlopgbgilaaGreatDoor

/-! Text GzN. -/
namespace Go.Proofs.YtolcdlopgbgilaaGreatDoor
open Go.RowKit Go.Dray

/-- What member hands back. -/
def MemPost (r : MemR) (w : World) (e : Ending) (w' : World) : Prop := match r with
  | .bad er => er ≠ 0 ∧ e = .returned (.tuple #[.agg #[.string ⟨#[]⟩, .int .i64 0, .slice none 0 0], .int .i64 0, .int .i64 er]) ∧ Upd [] w w'
  | .ok m k => ∃ p : MemP, e = .returned (.tuple #[.agg #[.string m.name, .int .i64 m.time, .slice p.A p.n p.c], .int .i64 (k : Nat), .int .i64 0]) ∧ MemM w' p m ∧ (∀ x, ob p.A = some x → w.heap.size ≤ x) ∧ Upd [] w w'
theorem mem_bad {r : MemR} {er : Int} {w w' : World} {e : Ending} (h : r = .bad er) (hn : er ≠ 0) (he : e = .returned (.tuple #[.agg #[.string ⟨#[]⟩, .int .i64 0, .slice none 0 0], .int .i64 0, .int .i64 er])) (hu : Upd [] w w') : MemPost r w e w' := by
  subst h
  exact ⟨hn, he, hu⟩
theorem mem_good {r : MemR} {tm : Int} {nm : ByteArray} {out : List Int} {k : Nat} {A : Option Addr} {on oc : Nat} {w w' : World} {e : Ending} (h : r = .ok ⟨tm, nm, out⟩ k) (he : e = .returned (.tuple #[.agg #[.string nm, .int .i64 tm, .slice A on oc], .int .i64 (k : Nat), .int .i64 0]))
    (hi : Ints .u8 w' A on out) (hb : ∀ z ∈ out, 0 ≤ z ∧ z ≤ 255) (hl : on ≤ oc) (hf : ∀ x, ob A = some x → w.heap.size ≤ x) (hu : Upd [] w w') : MemPost r w e w' := by
  subst h
  exact ⟨⟨A, on, oc⟩, he, ⟨hi, hb, hl⟩, hf, hu⟩
theorem run_arrayAt {P : Program} {t e : TypeId} {n : Nat} (h : P.underlying t = some (.array n e)) (A : Option Addr) (m c : Nat) (hm : n ≤ m) : ∀ W : World, (Instr.arrayAt t (.slice A m c)).run P W = .ok (.pointer A) W := by
  intro W
  simp [Instr.arrayAt, run_underlying h, show ¬ m < n by omega]
theorem blk3 {w : World} {g : Nat} {t : TypeId} {x0 x1 x2 y0 y1 y2 : Value} (h : Blk w g t #[x0, x1, x2]) : Blk (((w.setCell ⟨g, 0, none⟩ y0).setCell ⟨g, 1, none⟩ y1).setCell ⟨g, 2, none⟩ y2) g t #[y0, y1, y2] := ((h.set 0 y0).set 1 y1).set 2 y2
theorem put3 {L : List (Option Nat)} {w0 w : World} {g : Nat} {y0 y1 y2 : Value} (h : Upd L w0 w) (hg : w0.heap.size ≤ g) : Upd L w0 (((w.setCell ⟨g, 0, none⟩ y0).setCell ⟨g, 1, none⟩ y1).setCell ⟨g, 2, none⟩ y2) := ((h.put hg _).put hg _).put hg _

set_option maxRecDepth 100000 in
set_option maxHeartbeats 8000000 in
theorem member_any (A : Option Addr) (n c : Nat) (zs : List Int) (most F : Nat) (w : World) (hs : Ints .u8 w A n zs) (hz : ∀ z ∈ zs, 0 ≤ z ∧ z ≤ 255) (hnc : n ≤ c) (hbig : n ≤ 100000000) (hm : most ≤ 16777216) (hF : 8 * n < F) (ho : OrdI w) :
    Calls Tryz.prog 9 #[.slice A n c, .int .i64 most] w (MemPost (memOf F zs most) w) := by
  have HS := Lib.hid hs
  have HZ := Lib.hid hz
  have HO := Lib.hid ho
  have HL := hs.len
  have HF := Lib.hid hF
  clear hs hz ho hF
  obtain ⟨r, hr⟩ : ∃ r, r = memOf F zs most := ⟨_, rfl⟩
  rw [← hr]
  have HR := Lib.hid hr
  clear hr
  have HB1 : Hid (Blk (w.alloc (.cells #[.string ⟨#[]⟩, .int .i64 0, .slice none 0 0] 35)) w.heap.size 35 #[.string ⟨#[]⟩, .int .i64 0, .slice none 0 0]) := Blk.new w _ _
  have HU1 : Hid (Upd [] w (w.alloc (.cells #[.string ⟨#[]⟩, .int .i64 0, .slice none 0 0] 35))) := (Upd.refl _ _).alloc _
  obtain ⟨g, hg⟩ : ∃ g, g = w.heap.size := ⟨_, rfl⟩
  have hgw : w.heap.size ≤ g := by omega
  go_enter Tryz.func9, Tryz.ntmps9
  go_upto_region 1 with (fail)
  rw [← hg] at HB1 ⊢
  generalize hw1 : w.alloc _ = w1 at HB1 HU1 ⊢
  clear hw1 hg
  go_wp2_with fail
  refine (head_any A n c zs w1 (HS.out.upd HU1.out (by simp)) HZ.out hnc hbig).mono ?_
  obtain ⟨hd, hhd⟩ : ∃ hd, hd = headOf zs := ⟨_, rfl⟩
  rw [← hhd]
  have HHD := Lib.hid hhd
  clear hhd
  cases hd with
  | bad er =>
    rintro e w2 ⟨s, t, rfl, hu2⟩
    have HU2 := Lib.hid (HU1.out.trans hu2)
    have HB2 := Lib.hid (HB1.out.upd hu2 (by simp))
    clear hu2
    have her := headOf_code HHD.out.symm
    have der : (er != 0) = true := by simpa using her
    have HER := Lib.hid her
    clear her
    have k0 := HB2.out.cell 0
    have k1 := HB2.out.cell 1
    have k2 := HB2.out.cell 2
    have f0 := HB2.out.frozen 0
    have f1 := HB2.out.frozen 1
    have f2 := HB2.out.frozen 2
    simp at k0 k1 k2
    go_upto_region 3 with (fail)
    have HB3 := Lib.hid (blk3 (y0 := .string s) (y1 := .int .i64 t) (y2 := .slice none 0 0) HB2.out)
    have HU3 := Lib.hid (put3 (g := g) (y0 := .string s) (y1 := .int .i64 t) (y2 := .slice none 0 0) HU2.out hgw)
    clear k0 k1 k2 f0 f1 f2
    generalize World.setCell _ _ _ = w3 at HB3 HU3 ⊢
    have k0 := HB3.out.cell 0
    have k1 := HB3.out.cell 1
    have k2 := HB3.out.cell 2
    have f0 := HB3.out.frozen 0
    have f1 := HB3.out.frozen 1
    have f2 := HB3.out.frozen 2
    simp at k0 k1 k2
    go_wp2
    have HB4 := Lib.hid (blk3 (y0 := .string ⟨#[]⟩) (y1 := .int .i64 0) (y2 := .slice none 0 0) HB3.out)
    have HU4 := Lib.hid (put3 (g := g) (y0 := .string ⟨#[]⟩) (y1 := .int .i64 0) (y2 := .slice none 0 0) HU3.out hgw)
    clear k0 k1 k2 f0 f1 f2
    generalize World.setCell _ _ _ = w4 at HB4 HU4 ⊢
    have k0 := HB4.out.cell 0
    have k1 := HB4.out.cell 1
    have k2 := HB4.out.cell 2
    simp at k0 k1 k2
    refine bodyPost_ret (by simp [results, Tryz.results9, go_sem, k0, k1, k2]; rfl) rfl ?_
    exact mem_bad (er := er) (by rw [HR.out, memOf, ← HHD.out]) HER.out rfl HU4.out
  | ok tm nm a =>
    rintro e w2 ⟨rfl, hu2⟩
    have HU2 := Lib.hid (HU1.out.trans hu2)
    have HB2 := Lib.hid (HB1.out.upd hu2 (by simp))
    clear hu2
    have hge := headOf_ge HHD.out.symm
    rw [HL.out] at hge
    have ha0 := hge.1
    have ha1 := hge.2
    obtain ⟨S, hS⟩ : ∃ S, S = strOfNums nm := ⟨_, rfl⟩
    rw [← hS]
    have HSN := Lib.hid hS
    clear hge hS
    have k0 := HB2.out.cell 0
    have k1 := HB2.out.cell 1
    have k2 := HB2.out.cell 2
    have f0 := HB2.out.frozen 0
    have f1 := HB2.out.frozen 1
    have f2 := HB2.out.frozen 2
    simp at k0 k1 k2
    go_upto_region 4 with (fail)
    have HB3 := Lib.hid (blk3 (y0 := .string S) (y1 := .int .i64 tm) (y2 := .slice none 0 0) HB2.out)
    have HU3 := Lib.hid (put3 (g := g) (y0 := .string S) (y1 := .int .i64 tm) (y2 := .slice none 0 0) HU2.out hgw)
    clear k0 k1 k2 f0 f1 f2
    generalize World.setCell _ _ _ = w3 at HB3 HU3 ⊢
    have cut4 := run_cut_l el_byte A n c .i64 (a : Int) a rfl ha1
    have HI := Lib.hid (cut_from (HS.out.upd HU3.out (by simp)) (c := c) ha1 hnc)
    have HZD : Hid (∀ z ∈ zs.drop a, 0 ≤ z ∧ z ≤ 255) := fun z hz => HZ.out z (List.mem_of_mem_drop hz)
    go_wp2_with fail
    refine (inflate_any (cutA 1 A c a) (n - a) (c - a) (zs.drop a) (most : Int) w3 HI.out HZD.out (HO.out.upd HU3.out) (by omega) F (by have := HF.out; omega)).mono ?_
    rintro e w4 ⟨hu4, ⟨h, _⟩ | ⟨_, _, x, hx0, hrun, rfl⟩ | ⟨_, _, out, p, Y, on, oc, hrun, rfl, hi, hon, hoc, hbd, hfr, hp, hom⟩⟩
    · exact absurd ⟨by omega, by omega⟩ h
    · rw [Int.toNat_natCast] at hrun
      have HRUN := Lib.hid hrun
      have HU4 := Lib.hid (HU3.out.trans hu4)
      have HB4 := Lib.hid (HB3.out.upd hu4 (by simp))
      have der : (x != 0) = true := by simpa using hx0
      have HER := Lib.hid hx0
      clear hrun hu4 hx0 cut4 HI
      have k0 := HB4.out.cell 0
      have k1 := HB4.out.cell 1
      have k2 := HB4.out.cell 2
      have f0 := HB4.out.frozen 0
      have f1 := HB4.out.frozen 1
      have f2 := HB4.out.frozen 2
      simp at k0 k1 k2
      go_wp2
      have HB9 := Lib.hid (blk3 (y0 := .string ⟨#[]⟩) (y1 := .int .i64 0) (y2 := .slice none 0 0) HB4.out)
      have HU9 := Lib.hid (put3 (g := g) (y0 := .string ⟨#[]⟩) (y1 := .int .i64 0) (y2 := .slice none 0 0) HU4.out hgw)
      clear k0 k1 k2 f0 f1 f2
      generalize World.setCell _ _ _ = w9 at HB9 HU9 ⊢
      have k0 := HB9.out.cell 0
      have k1 := HB9.out.cell 1
      have k2 := HB9.out.cell 2
      simp at k0 k1 k2
      refine bodyPost_ret (by simp [results, Tryz.results9, go_sem, k0, k1, k2]; rfl) rfl ?_
      exact mem_bad (er := x) (by rw [HR.out, memOf, ← HHD.out]; simp only [HRUN.out]) HER.out rfl HU9.out
    · rw [Int.toNat_natCast] at hrun
      rw [Int.toNat_natCast] at hom
      have HRUN := Lib.hid hrun
      have HU4 := Lib.hid (HU3.out.trans hu4)
      have HB4 := Lib.hid (HB3.out.upd hu4 (by simp))
      have HI4 := Lib.hid hi
      have HBD := Lib.hid hbd
      have HFR : Hid (∀ x, ob Y = some x → w3.heap.size ≤ x) := hfr
      have hg3 : g < w3.heap.size := HB3.out.lt
      obtain ⟨q, hq⟩ : ∃ q, q = (p + 7) / 8 := ⟨_, rfl⟩
      have hqn : a + q ≤ n := by omega
      rw [← hq]
      have HQ := Lib.hid hq
      clear hrun hu4 hi hbd hfr hq hp hoc cut4 HI
      have k0 := HB4.out.cell 0
      have k1 := HB4.out.cell 1
      have k2 := HB4.out.cell 2
      have f0 := HB4.out.frozen 0
      have f1 := HB4.out.frozen 1
      have f2 := HB4.out.frozen 2
      simp at k0 k1 k2
      go_upto_region 9 with (fail)
      have hv5 : Upd [some g] w4 (w4.setCell ⟨g, 2, none⟩ (.slice Y on oc)) := (Upd.refl _ _).putIn (by simp) _
      have HB5 : Hid (Blk (w4.setCell ⟨g, 2, none⟩ (.slice Y on oc)) g 35 #[.string S, .int .i64 tm, .slice Y on oc]) := HB4.out.set 2 _
      have HU5 := Lib.hid (HU4.out.put (o := 2) hgw (.slice Y on oc))
      have HI5 := Lib.hid (HI4.out.upd hv5 (fun hp0 => by
        have hY := Seg.at_ HI4.out hp0
        have := HFR.out (bl Y) (by rw [hY]; rfl)
        simp
        omega))
      clear k0 k1 k2 f0 f1 f2 hv5
      generalize World.setCell _ _ _ = w5 at HB5 HU5 HI5 ⊢
      have HNG : Hid (0 < on → some (bl Y) ∉ [some g]) := fun hp0 => by
        have hY := Seg.at_ HI5.out hp0
        have := HFR.out (bl Y) (by rw [hY]; rfl)
        simp
        omega
      have HFW : Hid (∀ x, ob Y = some x → w.heap.size ≤ x) := fun x hx => Nat.le_trans HU3.out.size (HFR.out x hx)
      clear HFR hg3 HI4 HB4 HU4 HB3 HB2 HB1
      by_cases h8 : n < a + q + 8
      · have d8 : decide ((n : Int) - ((a : Int) + q) < 8) = true := by simp; omega
        have k0 := HB5.out.cell 0
        have k1 := HB5.out.cell 1
        have k2 := HB5.out.cell 2
        have f0 := HB5.out.frozen 0
        have f1 := HB5.out.frozen 1
        have f2 := HB5.out.frozen 2
        simp at k0 k1 k2
        go_wp2
        have HB9 := Lib.hid (blk3 (y0 := .string ⟨#[]⟩) (y1 := .int .i64 0) (y2 := .slice none 0 0) HB5.out)
        have HU9 := Lib.hid (put3 (g := g) (y0 := .string ⟨#[]⟩) (y1 := .int .i64 0) (y2 := .slice none 0 0) HU5.out hgw)
        clear k0 k1 k2 f0 f1 f2
        generalize World.setCell _ _ _ = w9 at HB9 HU9 ⊢
        have k0 := HB9.out.cell 0
        have k1 := HB9.out.cell 1
        have k2 := HB9.out.cell 2
        simp at k0 k1 k2
        refine bodyPost_ret (by simp [results, Tryz.results9, go_sem, k0, k1, k2]; rfl) rfl ?_
        exact mem_bad (er := 2) (by rw [HR.out, memOf, ← HHD.out]; simp only [HRUN.out]; rw [← HQ.out, if_pos (by rw [HL.out]; exact h8)]) (by omega) rfl HU9.out
      · have d8 : decide ((n : Int) - ((a : Int) + q) < 8) = false := by simp; omega
        obtain ⟨X, hX⟩ : ∃ X, X = cutA 1 A c (a + q) := ⟨_, rfl⟩
        obtain ⟨cc, hcc⟩ : ∃ cc, cc = c - (a + q) := ⟨_, rfl⟩
        have cut11 := run_cut_lh el_byte A n c .i64 .i64 ((a : Int) + q) ((a : Int) + q + 8) (a + q) (a + q + 8) (by omega) (by omega) (by omega) (by omega)
        have HI8 := Lib.hid ((HS.out.upd HU5.out (by simp)).cut (lo := a + q) (hi := a + q + 8) (c := c) (by omega) (by omega) hnc)
        rw [show a + q + 8 - (a + q) = 8 from by omega, ← hX, ← hcc] at cut11
        rw [show a + q + 8 - (a + q) = 8 from by omega, ← hX] at HI8
        clear hX hcc
        obtain ⟨t8, ht8⟩ : ∃ t8, t8 = (zs.drop (a + q)).take 8 := ⟨_, rfl⟩
        rw [← ht8] at HI8
        have HT8 := Lib.hid ht8
        clear ht8
        have a8 : Tryz.prog.underlying 43 = some (.array 8 5) := by kernel_rfl
        have hArr := run_arrayAt a8 X 8 cc (Nat.le_refl _)
        rw [Seg.at_ HI8.out (by omega)] at hArr cut11
        obtain ⟨b0, b1, b2, b3, b4, b5, b6, b7, hE⟩ := eight (sums8_len out)
        have HE : Hid (((sums8 out).map (Value.int .u8)).toArray = #[.int .u8 b0, .int .u8 b1, .int .u8 b2, .int .u8 b3, .int .u8 b4, .int .u8 b5, .int .u8 b6, .int .u8 b7]) := by show _ = _; rw [hE]; rfl
        obtain ⟨y0, y1, y2, y3, y4, y5, y6, y7, hy⟩ := eight HI8.out.len.out
        have HCS : Hid (∀ x, Calls Tryz.prog 13 #[.slice Y on oc] (later w5 x) fun e w' => e = .returned (.agg #[.int .u8 b0, .int .u8 b1, .int .u8 b2, .int .u8 b3, .int .u8 b4, .int .u8 b5, .int .u8 b6, .int .u8 b7]) ∧ Upd [] (later w5 x) w') := fun x => by
          have h := sums_any Y on oc out (later w5 x) (HI5.out.upd (later_upd _ _) (by simp)) HBD.out (by omega)
          rw [HE.out] at h
          exact h
        have HYA : Hid (Value.agg #[.int .u8 y0, .int .u8 y1, .int .u8 y2, .int .u8 y3, .int .u8 y4, .int .u8 y5, .int .u8 y6, .int .u8 y7] = arr t8) := by show _ = _; rw [hy]; rfl
        have HBA : Hid (Value.agg #[.int .u8 b0, .int .u8 b1, .int .u8 b2, .int .u8 b3, .int .u8 b4, .int .u8 b5, .int .u8 b6, .int .u8 b7] = arr (sums8 out)) := by show _ = _; rw [hE]; rfl
        have heq : ∀ W : World, (Op.equalIn 10000 43 (.agg #[.int .u8 y0, .int .u8 y1, .int .u8 y2, .int .u8 y3, .int .u8 y4, .int .u8 y5, .int .u8 y6, .int .u8 y7]) (.agg #[.int .u8 b0, .int .u8 b1, .int .u8 b2, .int .u8 b3, .int .u8 b4, .int .u8 b5, .int .u8 b6, .int .u8 b7])).run Tryz.prog W = .ok (t8 == sums8 out) W := fun W => by
          rw [HYA.out, HBA.out]
          exact run_equalIn_arr W 9998 43 5 8 a8 Tryz.underlying5 size_byte t8 (sums8 out) HI8.out.len.out (sums8_len out)
        rw [hy] at HI8
        clear hE hy a8
        have c0 := HI8.out.cell (i := 0) rfl
        have c1 := HI8.out.cell (i := 1) rfl
        have c2 := HI8.out.cell (i := 2) rfl
        have c3 := HI8.out.cell (i := 3) rfl
        have c4 := HI8.out.cell (i := 4) rfl
        have c5 := HI8.out.cell (i := 5) rfl
        have c6 := HI8.out.cell (i := 6) rfl
        have c7 := HI8.out.cell (i := 7) rfl
        simp only [Nat.add_zero] at c0
        have g0 := fun x => later_cell c0 x
        have g1 := fun x => later_cell c1 x
        have g2 := fun x => later_cell c2 x
        have g3 := fun x => later_cell c3 x
        have g4 := fun x => later_cell c4 x
        have g5 := fun x => later_cell c5 x
        have g6 := fun x => later_cell c6 x
        have g7 := fun x => later_cell c7 x
        clear c0 c1 c2 c3 c4 c5 c6 c7
        have hw8 : IntKind.i64.wrap ((a : Int) + q + 8) = (a : Int) + q + 8 := by rw [IntKind.wrap_i64]; omega
        go_wp2
        by_cases hne : t8 = sums8 out
        · have hb : (t8 == sums8 out) = true := by simpa using hne
          simp only [hb] at heq
          have HNE := Lib.hid hne
          clear hne hb
          refine wp_region_later (by kernel_rfl) (by kernel_rfl) ?_
          repeat (go_big_quiet_step (first | (go_at_call 13; exact laterU (HCS.out _))))
          refine wpQuiet_nil ?_
          intro _ hw'
          obtain ⟨xq, hw''⟩ := hw'
          subst hw''
          obtain ⟨w6, hw6⟩ : ∃ w6 : World, w6 = later w5 xq := ⟨_, rfl⟩
          rw [← hw6]
          have HV6 : Hid (Upd [] w5 w6) := by rw [hw6]; exact later_upd w5 xq
          have HU6 : Hid (Upd [] w w6) := HU5.out.trans HV6.out
          have HB6 := Lib.hid (HB5.out.upd HV6.out (by simp))
          have HI6 := Lib.hid (HI5.out.upd HV6.out (by simp))
          clear hw6 g0 g1 g2 g3 g4 g5 g6 g7 cut11 hArr HI8
          clear hw8 heq
          have k0 := HB6.out.cell 0
          have k1 := HB6.out.cell 1
          have k2 := HB6.out.cell 2
          have f0 := HB6.out.frozen 0
          have f1 := HB6.out.frozen 1
          have f2 := HB6.out.frozen 2
          simp at k0 k1 k2
          go_wp2
          have HB9 := Lib.hid (blk3 (y0 := .string S) (y1 := .int .i64 tm) (y2 := .slice Y on oc) HB6.out)
          have HU9 := Lib.hid (put3 (g := g) (y0 := .string S) (y1 := .int .i64 tm) (y2 := .slice Y on oc) HU6.out hgw)
          have hv9 : Upd [some g] w6 (((w6.setCell ⟨g, 0, none⟩ (.string S)).setCell ⟨g, 1, none⟩ (.int .i64 tm)).setCell ⟨g, 2, none⟩ (.slice Y on oc)) := (((Upd.refl _ _).putIn (by simp) _).putIn (by simp) _).putIn (by simp) _
          have HI9 := Lib.hid (HI6.out.upd hv9 HNG.out)
          clear k0 k1 k2 f0 f1 f2 hv9
          generalize World.setCell _ _ _ = w9 at HB9 HU9 HI9 ⊢
          have k0 := HB9.out.cell 0
          have k1 := HB9.out.cell 1
          have k2 := HB9.out.cell 2
          simp at k0 k1 k2
          refine bodyPost_ret (by simp [results, Tryz.results9, go_sem, k0, k1, k2]; rfl) rfl ?_
          refine mem_good (tm := tm) (nm := S) (k := a + q + 8) (by rw [HR.out, memOf, ← HHD.out]; simp only [HRUN.out]; rw [← HQ.out, if_neg (by rw [HL.out]; exact h8), ← HT8.out, if_neg (by rw [HNE.out]; simp), HSN.out]) ?_ HI9.out HBD.out hon HFW.out HU9.out
          congr 5
        · have hb : (t8 == sums8 out) = false := by simpa using hne
          simp only [hb] at heq
          have HNE := Lib.hid hne
          clear hne hb
          refine wp_region_later (by kernel_rfl) (by kernel_rfl) ?_
          repeat (go_big_quiet_step (first | (go_at_call 13; exact laterU (HCS.out _))))
          refine wpQuiet_nil ?_
          intro _ hw'
          obtain ⟨xq, hw''⟩ := hw'
          subst hw''
          obtain ⟨w6, hw6⟩ : ∃ w6 : World, w6 = later w5 xq := ⟨_, rfl⟩
          rw [← hw6]
          have HV6 : Hid (Upd [] w5 w6) := by rw [hw6]; exact later_upd w5 xq
          have HU6 : Hid (Upd [] w w6) := HU5.out.trans HV6.out
          have HB6 := Lib.hid (HB5.out.upd HV6.out (by simp))
          have HI6 := Lib.hid (HI5.out.upd HV6.out (by simp))
          clear hw6 g0 g1 g2 g3 g4 g5 g6 g7 cut11 hArr HI8
          clear hw8 heq
          have k0 := HB6.out.cell 0
          have k1 := HB6.out.cell 1
          have k2 := HB6.out.cell 2
          have f0 := HB6.out.frozen 0
          have f1 := HB6.out.frozen 1
          have f2 := HB6.out.frozen 2
          simp at k0 k1 k2
          go_wp2
          have HB9 := Lib.hid (blk3 (y0 := .string ⟨#[]⟩) (y1 := .int .i64 0) (y2 := .slice none 0 0) HB6.out)
          have HU9 := Lib.hid (put3 (g := g) (y0 := .string ⟨#[]⟩) (y1 := .int .i64 0) (y2 := .slice none 0 0) HU6.out hgw)
          clear k0 k1 k2 f0 f1 f2
          generalize World.setCell _ _ _ = w9 at HB9 HU9 ⊢
          have k0 := HB9.out.cell 0
          have k1 := HB9.out.cell 1
          have k2 := HB9.out.cell 2
          simp at k0 k1 k2
          refine bodyPost_ret (by simp [results, Tryz.results9, go_sem, k0, k1, k2]; rfl) rfl ?_
          exact mem_bad (er := 5) (by rw [HR.out, memOf, ← HHD.out]; simp only [HRUN.out]; rw [← HQ.out, if_neg (by rw [HL.out]; exact h8), ← HT8.out, if_pos HNE.out]) (by omega) rfl HU9.out

end Go.Proofs.YtolcdlopgbgilaaGreatDoor

/-! Text GzU. -/
namespace Go.Proofs.YtolcdlopgbgilaaGreatDoor
open Go.RowKit Go.Dray

/-- What Unpack hands back. -/
def UnpPost (r : UnpR) (w : World) (e : Ending) (w' : World) : Prop := match r with
  | .bad k er => er ≠ 0 ∧ e = .returned (.tuple #[.slice none 0 0, .agg #[.string ⟨#[]⟩, .int .i64 (k : Nat), .int .i64 er]]) ∧ Upd [] w w'
  | .ok l => ∃ L lc xs, l = xs.map (·.2) ∧ e = .returned (.tuple #[.slice L (List.length xs) lc, .agg #[.string ⟨#[]⟩, .int .i64 0, .int .i64 0]]) ∧ MemsO w' w.heap.size L lc xs ∧ Upd [] w w'
theorem unp_bad {r : UnpR} {k : Nat} {er : Int} {w w' : World} {e : Ending} (h : r = .bad k er) (hn : er ≠ 0) (he : e = .returned (.tuple #[.slice none 0 0, .agg #[.string ⟨#[]⟩, .int .i64 (k : Nat), .int .i64 er]])) (hu : Upd [] w w') : UnpPost r w e w' := by
  subst h
  exact ⟨hn, he, hu⟩
theorem unp_good {r : UnpR} {L : Option Addr} {lc j : Nat} {xs : List (MemP × Mem)} {w w' : World} {e : Ending} (h : r = .ok (xs.map (·.2))) (hj : xs.length = j) (he : e = .returned (.tuple #[.slice L j lc, .agg #[.string ⟨#[]⟩, .int .i64 0, .int .i64 0]])) (hm : MemsO w' w.heap.size L lc xs) (hu : Upd [] w w') : UnpPost r w e w' := by
  subst h hj
  exact ⟨L, lc, xs, rfl, he, hm, hu⟩
theorem unpackAt_succ (F : Nat) (zs : List Int) (f k M : Nat) (ms : List Mem) : unpackAt F zs (f + 1) k M ms = match memOf F (zs.drop k) M with
    | .bad e => .bad k e
    | .ok m n => if zs.length ≤ k + n then .ok (ms ++ [m]) else unpackAt F zs f (k + n) (M - m.data.length) (ms ++ [m]) := rfl
/-- What is still to be unpacked. -/
def GoU (F : Nat) (zs : List Int) (n : Nat) (U : UnpR) (k M : Nat) (ms : List Mem) : Prop := if k < n then ∃ f, n < k + f ∧ U = unpackAt F zs f k M ms else U = .ok ms
theorem GoU.bad {F : Nat} {zs : List Int} {n k M : Nat} {U : UnpR} {ms : List Mem} {er : Int} (h : GoU F zs n U k M ms) (hk : k < n) (hr : memOf F (zs.drop k) M = .bad er) : U = .bad k er := by
  unfold GoU at h
  rw [if_pos hk] at h
  obtain ⟨f, hf, rfl⟩ := h
  obtain ⟨f', rfl⟩ : ∃ f', f = f' + 1 := ⟨f - 1, by omega⟩
  unfold unpackAt
  rw [hr]
theorem GoU.next {F : Nat} {zs : List Int} {n k M q : Nat} {U : UnpR} {ms : List Mem} {m : Mem} (h : GoU F zs n U k M ms) (hl : zs.length = n) (hk : k < n) (hr : memOf F (zs.drop k) M = .ok m q) (hq : 18 ≤ q) (hqn : k + q ≤ n) : GoU F zs n U (k + q) (M - m.data.length) (ms ++ [m]) := by
  unfold GoU at h ⊢
  rw [if_pos hk] at h
  obtain ⟨f, hf, rfl⟩ := h
  obtain ⟨f', rfl⟩ : ∃ f', f = f' + 1 := ⟨f - 1, by omega⟩
  rw [unpackAt_succ, hr]
  simp only
  by_cases hc : k + q < n
  · rw [if_pos hc, if_neg (by omega)]
    exact ⟨f', by omega, rfl⟩
  · rw [if_neg hc, if_pos (by omega)]

set_option maxRecDepth 100000 in
set_option maxHeartbeats 8000000 in
theorem unpack_pos (A : Option Addr) (n c : Nat) (zs : List Int) (most F : Nat) (w : World) (hs : Ints .u8 w A n zs) (hz : ∀ z ∈ zs, 0 ≤ z ∧ z ≤ 255) (hnc : n ≤ c) (h0 : 0 < n) (hbig : n ≤ 100000000) (hm : most ≤ 16777216) (hF : 8 * n < F) (ho : OrdI w) :
    Calls Tryz.prog 5 #[.slice A n c, .int .i64 most] w (UnpPost (unpackAt F zs (n + 1) 0 most []) w) := by
  have HS := Lib.hid hs
  have HZ := Lib.hid hz
  have HO := Lib.hid ho
  have HL := hs.len
  have HF := Lib.hid hF
  clear hs hz ho hF
  obtain ⟨U, hU⟩ : ∃ U, U = unpackAt F zs (n + 1) 0 most [] := ⟨_, rfl⟩
  rw [← hU]
  have HGO : Hid (GoU F zs n U 0 most []) := by
    show GoU _ _ _ _ _ _ _
    unfold GoU
    rw [if_pos h0]
    exact ⟨n + 1, by omega, hU⟩
  clear hU
  have HB1 : Hid (Blk (w.alloc (.cells #[.string ⟨#[]⟩, .int .i64 0, .int .i64 0] 27)) w.heap.size 27 #[.string ⟨#[]⟩, .int .i64 0, .int .i64 0]) := Blk.new w _ _
  have HU1 : Hid (Upd [] w (w.alloc (.cells #[.string ⟨#[]⟩, .int .i64 0, .int .i64 0] 27))) := (Upd.refl _ _).alloc _
  obtain ⟨R, hR⟩ : ∃ R, R = w.heap.size := ⟨_, rfl⟩
  have hRw : w.heap.size ≤ R := by omega
  have d1 : decide ((most : Int) < 0) = false := by simp
  have d2 : decide ((16777216 : Int) < most) = false := by simp; omega
  go_enter Tryz.func5, Tryz.ntmps5
  go_upto_region 1 with (fail)
  rw [← hR] at HB1 ⊢
  generalize hw1 : w.alloc _ = w1 at HB1 HU1 ⊢
  clear hw1 hR
  go_wp2_with fail
  clear d1 d2
  go_loopw [1, 6, 7] (fun v1 v6 v7 wr => ∃ (k M j : Nat) (L : Option Addr) (lc : Nat) (xs : List (MemP × Mem)), v7 = .int .i64 k ∧ v1 = .int .i64 M ∧ v6 = .slice L j lc ∧ xs.length = j ∧ j ≤ k ∧ k ≤ n ∧ M ≤ 16777216 ∧ Hid (MemsO wr w.heap.size L lc xs) ∧ Hid (Upd [] w wr) ∧ Hid (Blk wr R 27 #[.string ⟨#[]⟩, .int .i64 0, .int .i64 0]) ∧ Hid (GoU F zs n U k M (xs.map (·.2))) ∧ Hid (∀ x ∈ xs, 0 < x.1.n → R < bl x.1.A)) (fun _ _ v7 _ => n + 1 - (intOf v7).toNat)
  case atStart => exact ⟨0, most, 0, none, 0, [], rfl, rfl, rfl, rfl, by omega, by omega, hm, MemsO.nil _ _, HU1, HB1, HGO, fun x hx => by cases hx⟩
  case round =>
    clear HB1 HU1 HGO
    obtain ⟨k, M, j, L, lc, xs, rfl, rfl, rfl, hxl, hjk, hkn, hM, HM, HU, HK, HGO, HD⟩ := hrel
    by_cases hlt : k < n
    · have dlt : decide ((k : Int) < n) = true := by simp; omega
      have cut6 := run_cut_l el_byte A n c .i64 (k : Int) k rfl hkn
      have HI := Lib.hid (cut_from (HS.out.upd HU.out (by simp)) (c := c) hkn hnc)
      have HZD : Hid (∀ z ∈ zs.drop k, 0 ≤ z ∧ z ≤ 255) := fun z hz => HZ.out z (List.mem_of_mem_drop hz)
      go_wp2_with fail
      refine (member_any (cutA 1 A c k) (n - k) (c - k) (zs.drop k) M F wr HI.out HZD.out (by omega) (by omega) hM (by have := HF.out; omega) (HO.out.upd HU.out)).mono ?_
      obtain ⟨r, hr⟩ : ∃ r, r = memOf F (zs.drop k) M := ⟨_, rfl⟩
      rw [← hr]
      have HR := Lib.hid hr
      clear hr cut6 HI
      cases r with
      | bad er =>
        rintro e w4 ⟨her, rfl, hu4⟩
        have HU4 := Lib.hid (HU.out.trans hu4)
        have HK4 := Lib.hid (HK.out.upd hu4 (by simp))
        have der : (er != 0) = true := by simpa using her
        have HER := Lib.hid her
        clear hu4 her
        go_upto_region 7 with (fail)
        have HU5 : Hid (Upd [] w (w4.alloc (.cells #[.string ⟨#[]⟩, .int .i64 0, .slice none 0 0] 35))) := HU4.out.alloc _
        have HK5 : Hid (Blk (w4.alloc (.cells #[.string ⟨#[]⟩, .int .i64 0, .slice none 0 0] 35)) R 27 #[.string ⟨#[]⟩, .int .i64 0, .int .i64 0]) := HK4.out.alloc _
        generalize w4.alloc _ = w5 at HU5 HK5 ⊢
        have k0 := HK5.out.cell 0
        have k1 := HK5.out.cell 1
        have k2 := HK5.out.cell 2
        have f0 := HK5.out.frozen 0
        have f1 := HK5.out.frozen 1
        have f2 := HK5.out.frozen 2
        simp at k0 k1 k2
        go_wp2
        have HK9 := Lib.hid (blk3 (y0 := .string ⟨#[]⟩) (y1 := .int .i64 (k : Int)) (y2 := .int .i64 er) HK5.out)
        have HU9 := Lib.hid (put3 (g := R) (y0 := .string ⟨#[]⟩) (y1 := .int .i64 (k : Int)) (y2 := .int .i64 er) HU5.out hRw)
        clear k0 k1 k2 f0 f1 f2
        generalize World.setCell _ _ _ = w9 at HK9 HU9 ⊢
        have k0 := HK9.out.cell 0
        have k1 := HK9.out.cell 1
        have k2 := HK9.out.cell 2
        simp at k0 k1 k2
        refine bodyPost_ret (by simp [results, Tryz.results5, go_sem, k0, k1, k2]; rfl) rfl ?_
        exact unp_bad (HGO.out.bad hlt HR.out.symm) HER.out rfl HU9.out
      | ok m q =>
        rintro e w4 ⟨p, rfl, hp4, hfr, hu4⟩
        have hge := memOf_ge HR.out.symm
        rw [List.length_drop, HL.out] at hge
        have hpl := hp4.ints.len.out
        have HGN := Lib.hid (HGO.out.next HL.out hlt HR.out.symm hge.1 (by omega))
        have hq0 := hge.1
        have hqn : k + q ≤ n := by have := hge.2.1; omega
        have hpM : p.n ≤ M := by have := hge.2.2; omega
        rw [hpl] at HGN
        have HU4 := Lib.hid (HU.out.trans hu4)
        have HK4 := Lib.hid (HK.out.upd hu4 (by simp))
        have HM4 := Lib.hid (HM.out.upd hu4)
        have HP4 := Lib.hid hp4
        have HAP : Hid (0 < p.n → ob L ≠ some (bl p.A)) := fun h0 hL => by
          have h1 := HM.out.own.base hL
          have hY := Seg.at_ hp4.ints h0
          have := hfr (bl p.A) (by rw [hY]; rfl)
          omega
        have HD7 : Hid (∀ x ∈ xs ++ [(p, m)], 0 < x.1.n → R < bl x.1.A) := fun x hx h0 => by
          rcases List.mem_append.1 hx with hx | hx
          · exact HD.out x hx h0
          · simp at hx
            subst hx
            have hY := Seg.at_ hp4.ints h0
            have h1 := hfr (bl p.A) (by rw [hY]; rfl)
            have h2 := HK.out.lt
            exact Nat.lt_of_lt_of_le h2 h1
        clear hge hpl hp4 hfr hu4 HGO HR HM HK HD
        obtain ⟨S, hS⟩ : ∃ S, S = m.name := ⟨_, rfl⟩
        obtain ⟨tm, htm⟩ : ∃ tm, tm = m.time := ⟨_, rfl⟩
        rw [← hS, ← htm]
        have HSN := Lib.hid hS
        have HTM := Lib.hid htm
        clear hS htm
        go_upto_region 7 with (fail)
        have hv5 : Upd [] w4 (w4.alloc (.cells #[.string S, .int .i64 tm, .slice p.A p.n p.c] 35)) := (Upd.refl _ _).alloc _
        have HG5 : Hid (Blk (w4.alloc (.cells #[.string S, .int .i64 tm, .slice p.A p.n p.c] 35)) w4.heap.size 35 #[.string S, .int .i64 tm, .slice p.A p.n p.c]) := Blk.new _ _ _
        have HLG : Hid (∀ g, ob L = some g → g < w4.heap.size) := fun g hg => (HM4.out.own.base hg).2
        have HU5 := Lib.hid (HU4.out.trans hv5)
        have HK5 := Lib.hid (HK4.out.upd hv5 (by simp))
        have HM5 := Lib.hid (HM4.out.upd hv5)
        have HP5 := Lib.hid (HP4.out.upd hv5 (by simp))
        obtain ⟨G, hG⟩ : ∃ G, G = w4.heap.size := ⟨_, rfl⟩
        rw [← hG] at HG5 HLG ⊢
        generalize w4.alloc _ = w5 at hv5 HG5 HU5 HK5 HM5 HP5 ⊢
        clear hG hv5 HU4 HK4 HM4 HP4
        have k0 := HG5.out.cell 0
        have k1 := HG5.out.cell 1
        have k2 := HG5.out.cell 2
        simp at k0 k1 k2
        have HOW := HM5.out.own
        rw [hxl] at HOW
        have HOW := Lib.hid HOW
        have hsz5 := HU5.out.size
        go_upto_region 10 with (at_builtin; refine wpList_app rfl rfl el_mem rfl (HOW.out.alloc _) rfl (seg_mem _ _ _ _ _) (by intro u hu; simp at hu; rcases hu with rfl | rfl | rfl <;> rfl) (by simp only [maxLen]; omega) (by omega) (by simp; omega) ?_; intro L7 c7 w7 hown7 hu7 hfr7)
        have HV7 : Hid (Upd [ob L] w5 w7) := ((Upd.refl _ _).alloc _).trans hu7
        rw [HSN.out, HTM.out] at hown7
        have HM7 := Lib.hid (HM5.out.more HP5.out HAP.out (k := j + 1) (by omega) hown7 HV7.out (fun g hg => by rcases hfr7 g hg with h | h; exact Or.inl h; right; simp at h; omega))
        have HG7 := Lib.hid (HG5.out.upd HV7.out (by simp; exact fun e => Nat.lt_irrefl _ (HLG.out G e.symm)))
        have HK7 := Lib.hid (HK5.out.upd HV7.out (by simp; exact fun h => HM5.out.own.neBlk HK5.out (by decide) h.symm))
        have HU7 := Lib.hid (HU5.out.then HV7.out (fun b hb => by simp at hb; right; exact (HM5.out.own.base hb.symm).1))
        clear hown7 hu7 hfr7 HOW HM5 HK5 HU5 k0 k1 k2
        have k2 := HG7.out.cell 2
        simp at k2
        go_wp2
        go_roundw
        case rel => exact ⟨k + q, M - p.n, j + 1, L7, c7, xs ++ [(p, m)], by go_num, by congr 1; omega, by go_num, by simp [hxl], by omega, hqn, by omega, HM7, HU7, HK7, by have := HGN.out; rw [List.map_append]; exact this, HD7⟩
        case measure => simp [intOf]; omega
    · obtain rfl : k = n := by omega
      have dlt : decide ((k : Int) < k) = false := by simp
      have d0 : ((k : Int) == 0) = false := by simp; omega
      have HGE : Hid (U = .ok (xs.map (·.2))) := by
        have h := HGO.out
        unfold GoU at h
        rw [if_neg (by omega)] at h
        exact h
      have k0 := HK.out.cell 0
      have k1 := HK.out.cell 1
      have k2 := HK.out.cell 2
      have f0 := HK.out.frozen 0
      have f1 := HK.out.frozen 1
      have f2 := HK.out.frozen 2
      simp at k0 k1 k2
      go_wp2
      have HK9 := Lib.hid (blk3 (y0 := .string ⟨#[]⟩) (y1 := .int .i64 0) (y2 := .int .i64 0) HK.out)
      have hv9 : Upd [some R] wr (((wr.setCell ⟨R, 0, none⟩ (.string ⟨#[]⟩)).setCell ⟨R, 1, none⟩ (.int .i64 0)).setCell ⟨R, 2, none⟩ (.int .i64 0)) := (((Upd.refl _ _).putIn (by simp) _).putIn (by simp) _).putIn (by simp) _
      have HU9 := Lib.hid (put3 (g := R) (y0 := .string ⟨#[]⟩) (y1 := .int .i64 0) (y2 := .int .i64 0) HU.out hRw)
      have HM9 := Lib.hid (HM.out.fault HK.out HD.out hv9)
      clear k0 k1 k2 f0 f1 f2 hv9
      generalize World.setCell _ _ _ = w9 at HK9 HU9 HM9 ⊢
      have k0 := HK9.out.cell 0
      have k1 := HK9.out.cell 1
      have k2 := HK9.out.cell 2
      simp at k0 k1 k2
      refine bodyPost_ret (by simp [results, Tryz.results5, go_sem, k0, k1, k2]; rfl) rfl ?_
      exact unp_good HGE.out hxl rfl HM9.out HU9.out

set_option maxRecDepth 100000 in
set_option maxHeartbeats 4000000 in
/-- No bytes at all: too short. -/
theorem unpack_zero (A : Option Addr) (c : Nat) (most : Nat) (w : World) (hm : most ≤ 16777216) (ho : OrdI w) :
    Calls Tryz.prog 5 #[.slice A 0 c, .int .i64 most] w (UnpPost (.bad 0 2) w) := by
  have HO := Lib.hid ho
  clear ho
  have HB1 : Hid (Blk (w.alloc (.cells #[.string ⟨#[]⟩, .int .i64 0, .int .i64 0] 27)) w.heap.size 27 #[.string ⟨#[]⟩, .int .i64 0, .int .i64 0]) := Blk.new w _ _
  have HU1 : Hid (Upd [] w (w.alloc (.cells #[.string ⟨#[]⟩, .int .i64 0, .int .i64 0] 27))) := (Upd.refl _ _).alloc _
  obtain ⟨R, hR⟩ : ∃ R, R = w.heap.size := ⟨_, rfl⟩
  have hRw : w.heap.size ≤ R := by omega
  have d1 : decide ((most : Int) < 0) = false := by simp
  have d2 : decide ((16777216 : Int) < most) = false := by simp; omega
  go_enter Tryz.func5, Tryz.ntmps5
  go_upto_region 1 with (fail)
  rw [← hR] at HB1 ⊢
  generalize hw1 : w.alloc _ = w1 at HB1 HU1 ⊢
  clear hw1 hR
  go_wp2_with fail
  clear d1 d2
  go_loopw [1, 6, 7] (fun v1 v6 v7 wr => v7 = .int .i64 0 ∧ v1 = .int .i64 most ∧ v6 = .slice none 0 0 ∧ Hid (Upd [] w wr) ∧ Hid (Blk wr R 27 #[.string ⟨#[]⟩, .int .i64 0, .int .i64 0])) (fun _ _ _ _ => 0)
  case atStart => exact ⟨rfl, rfl, rfl, HU1, HB1⟩
  case round =>
    clear HB1 HU1
    obtain ⟨rfl, rfl, rfl, HU, HK⟩ := hrel
    have cut6 := run_cut_l el_byte A 0 c .i64 0 0 rfl (Nat.le_refl _)
    go_wp2_with fail
    refine (member_any (cutA 1 A c 0) (0 - 0) (c - 0) [] most 1 wr (Seg.nil _ _ _) (by simp) (by omega) (by omega) hm (by omega) (HO.out.upd HU.out)).mono ?_
    rw [show memOf 1 [] most = .bad 2 from rfl]
    rintro e w4 ⟨-, rfl, hu4⟩
    have HU4 := Lib.hid (HU.out.trans hu4)
    have HK4 := Lib.hid (HK.out.upd hu4 (by simp))
    clear hu4
    go_upto_region 7 with (fail)
    have HU5 : Hid (Upd [] w (w4.alloc (.cells #[.string ⟨#[]⟩, .int .i64 0, .slice none 0 0] 35))) := HU4.out.alloc _
    have HK5 : Hid (Blk (w4.alloc (.cells #[.string ⟨#[]⟩, .int .i64 0, .slice none 0 0] 35)) R 27 #[.string ⟨#[]⟩, .int .i64 0, .int .i64 0]) := HK4.out.alloc _
    generalize w4.alloc _ = w5 at HU5 HK5 ⊢
    have k0 := HK5.out.cell 0
    have k1 := HK5.out.cell 1
    have k2 := HK5.out.cell 2
    have f0 := HK5.out.frozen 0
    have f1 := HK5.out.frozen 1
    have f2 := HK5.out.frozen 2
    simp at k0 k1 k2
    go_wp2
    have HK9 := Lib.hid (blk3 (y0 := .string ⟨#[]⟩) (y1 := .int .i64 0) (y2 := .int .i64 2) HK5.out)
    have HU9 := Lib.hid (put3 (g := R) (y0 := .string ⟨#[]⟩) (y1 := .int .i64 0) (y2 := .int .i64 2) HU5.out hRw)
    clear k0 k1 k2 f0 f1 f2
    generalize World.setCell _ _ _ = w9 at HK9 HU9 ⊢
    have k0 := HK9.out.cell 0
    have k1 := HK9.out.cell 1
    have k2 := HK9.out.cell 2
    simp at k0 k1 k2
    refine bodyPost_ret (by simp [results, Tryz.results5, go_sem, k0, k1, k2]; rfl) rfl ?_
    exact unp_bad rfl (by omega) rfl HU9.out

/-- gzip.Unpack, where it is told how much there may be. -/
theorem unpack_any (A : Option Addr) (n c : Nat) (zs : List Int) (most F : Nat) (w : World) (hs : Ints .u8 w A n zs) (hz : ∀ z ∈ zs, 0 ≤ z ∧ z ≤ 255) (hnc : n ≤ c) (hbig : n ≤ 100000000) (hm : most ≤ 16777216) (hF : 8 * n < F) (ho : OrdI w) :
    Calls Tryz.prog 5 #[.slice A n c, .int .i64 most] w (UnpPost (unpackAt F zs (n + 1) 0 most []) w) := by
  rcases Nat.eq_zero_or_pos n with h0 | h0
  · subst h0
    have hl := hs.len.out
    have hz0 : zs = [] := List.length_eq_zero_iff.1 hl
    subst hz0
    rw [unpack_none]
    exact unpack_zero A c most w hm ho
  · exact unpack_pos A n c zs most F w hs hz hnc h0 hbig hm hF ho

end Go.Proofs.YtolcdlopgbgilaaGreatDoor

/-! Text GzA. -/
namespace Go.Proofs.YtolcdlopgbgilaaGreatDoor
open Go.RowKit Go.Dray

def packedA : List Int := gzBytes ⟨#[110]⟩ 1 [1, 1, 0, 254, 255, 97] [97]
theorem packedA_len : packedA.length = 26 := by decide +kernel
theorem packedA_str : strOfNums (packedA.take 12) = { data := #[31, 139, 8, 8, 1, 0, 0, 0, 0, 3, 110, 0] } := by
  have h : packedA.take 12 = [31, 139, 8, 8, 1, 0, 0, 0, 0, 3, 110, 0] := by decide +kernel
  rw [h]
  rfl
theorem bytes_a (w : World) : Ints .u8 (w.alloc (.cells #[.int .u8 97] 5 (1, 2))) (some ⟨w.heap.size, 0, none⟩) 1 [97] :=
  ⟨rfl, fun _ => rfl, fun k u hu => by
    match k, hu with
    | 0, hu =>
      injection hu with hu
      subst hu
      have h1 : (w.alloc (.cells #[.int .u8 97] 5 (1, 2))).heap[w.heap.size]? = some (.cells #[.int .u8 97] 5 (1, 2)) := by
        show (w.heap.push _)[w.heap.size]? = _
        simp
      show World.cell? _ ⟨w.heap.size, 0, none⟩ = _
      unfold World.cell?
      rw [h1]
      rfl⟩
theorem gzBytes_bd {s : ByteArray} {mt : Int} {out zs : List Int} (ho : ∀ z ∈ out, 0 ≤ z ∧ z ≤ 255) : ∀ z ∈ gzBytes s mt out zs, 0 ≤ z ∧ z ≤ 255 := by
  intro z hz
  have hf : gzFlag s = 0 ∨ gzFlag s = 8 := by unfold gzFlag; split <;> simp
  have hb := leB_bd mt 4
  have hs : ∀ y ∈ sums8 zs, 0 ≤ y ∧ y ≤ 255 := fun y hy => by
    unfold sums8 at hy
    rcases List.mem_append.1 hy with h | h
    · exact leB_bd _ _ y h
    · exact leB_bd _ _ y h
  have hn := sb_bd (gzTail s)
  unfold gzBytes at hz
  simp only [List.mem_append, List.mem_cons, List.not_mem_nil, or_false] at hz
  rcases hz with (rfl | rfl | rfl | rfl) | h | (rfl | rfl) | h | h | h
  · omega
  · omega
  · omega
  · omega
  · exact hb z h
  · omega
  · omega
  · exact hn z h
  · exact ho z h
  · exact hs z h

set_option maxRecDepth 100000 in
set_option maxHeartbeats 4000000 in
theorem awake6_any (w : World) (hT : Ords w) : Calls Tryz.prog 4 #[] w fun e w' => e = .returned (.bool true) ∧ Upd [] w w' := by
  have hs1 := Lib.hid (bytes_a w)
  have hu1 : Upd [] w (w.alloc (.cells #[.int .u8 97] 5 (1, 2))) := (Upd.refl _ w).alloc _
  have HU1 := Lib.hid hu1
  have HT := Lib.hid hT
  clear hT hu1
  have kc : (convert 22 22 (.slice (some ⟨w.heap.size, 0, none⟩) 1 1)).run Tryz.prog (w.alloc (.cells #[.int .u8 97] 5)) = .ok (.slice (some ⟨w.heap.size, 0, none⟩) 1 1) (w.alloc (.cells #[.int .u8 97] 5 (1, 2))) :=
    Lib.run_convert_bytes_const (P := Tryz.prog) w 22 5 #[.int .u8 97] 1 1 Tryz.underlying22 Tryz.underlying5
  go_enter Tryz.func4, Tryz.ntmps4
  go_wp2_with fail
  refine (pack_ok ⟨#[110]⟩ 1 (some ⟨w.heap.size, 0, none⟩) 1 1 [97] 0 _ hs1.out (by decide) (by omega) (by omega) (Or.inl rfl) (HT.out.2.upd HU1.out (by simp)) (by omega) (by omega) (by decide +kernel) (by decide +kernel)).mono ?_
  rintro e w2 ⟨X, N, xc, out, rfl, hN, hown, hd, -, hu2⟩
  obtain rfl := stored_a hd
  replace hown : Own w2 _ 5 1 X N xc (packedA.map (Value.int .u8)) := hown
  replace hN : N = 26 := hN.trans packedA_len
  subst hN
  have HU2 := Lib.hid (HU1.out.trans hu2)
  have HI2 := Lib.hid (Ints.ofOwn hown)
  have hxc := hown.le
  have HT2 := Lib.hid (HT.out.upd HU2.out)
  have HBD : Hid (∀ z ∈ packedA, 0 ≤ z ∧ z ≤ 255) := gzBytes_bd (by decide)
  have HSAY : Hid (unpackAt 3400 packedA (26 + 1) 0 10 [] = .ok [⟨1, ⟨#[110]⟩, [97]⟩]) := by
    have h := unpack_all (F := 3400) (Nat.le_refl _) [(packedA, ⟨1, ⟨#[110]⟩, [97]⟩)] (26 + 1) 10 (by simp) (fun x hx => by
      simp at hx
      subst hx
      exact says_own ⟨#[110]⟩ 1 _ [97] (by omega) (by omega) (by decide +kernel) (by decide +kernel) hd (by decide) (by simp)) (by simp [dataSum]) (by simp)
    simp only [List.map_cons, List.map_nil, List.flatten_cons, List.flatten_nil, List.append_nil] at h
    exact h
  clear hs1 hown hd hu2 kc HT
  go_wp2_with fail
  refine (unpack_any X 26 xc packedA 10 3400 w2 HI2.out HBD.out hxc (by omega) (by omega) (by omega) HT2.out.1).mono ?_
  rw [HSAY.out]
  rintro e w3 ⟨L, lc, xs, hxs, rfl, hm, hu3⟩
  obtain ⟨⟨p, m⟩, rfl⟩ : ∃ x, xs = [x] := by
    have h := congrArg List.length hxs
    simp at h
    exact List.length_eq_one_iff.1 h.symm
  simp at hxs
  subst hxs
  have hr := hm.reads
  simp only [List.length_cons, List.length_nil, Nat.zero_add] at hr ⊢
  have HU3 := Lib.hid (HU2.out.trans hu3)
  have HM3 := Lib.hid hr
  have HI3 := Lib.hid (HI2.out.upd hu3 (by simp))
  clear hm hr hu3
  go_upto_region 3 with (fail)
  have hv4 : Upd [] w3 (w3.alloc (.cells #[.string ⟨#[]⟩, .int .i64 0, .int .i64 0] 27)) := (Upd.refl _ _).alloc _
  have HB4 : Hid (Blk (w3.alloc (.cells #[.string ⟨#[]⟩, .int .i64 0, .int .i64 0] 27)) w3.heap.size 27 #[.string ⟨#[]⟩, .int .i64 0, .int .i64 0]) := Blk.new _ _ _
  have HU4 := Lib.hid (HU3.out.trans hv4)
  have HM4 := Lib.hid (HM3.out.upd0 hv4)
  have HI4 := Lib.hid (HI3.out.upd hv4 (by simp))
  obtain ⟨g, hg⟩ : ∃ g, g = w3.heap.size := ⟨_, rfl⟩
  rw [← hg] at HB4 ⊢
  generalize w3.alloc _ = w4 at hv4 HB4 HU4 HM4 HI4 ⊢
  clear hg hv4
  have k0 := HB4.out.cell 0
  have k1 := HB4.out.cell 1
  have k2 := HB4.out.cell 2
  simp at k0 k1 k2
  obtain ⟨m, q, HM, HQ, c0, c1, c2⟩ := HM4.out.get (k := 0) (by omega)
  have hix := HM4.out.index lc 0 (by omega)
  have hm := HM.out
  simp at hm
  subst hm
  have cut12 := run_cut_h el_byte X 26 xc .i64 12 12 rfl (by omega)
  have st1 := str_cut (c := xc) (HI4.out.pre (k := 12) (by omega))
  rw [packedA_str] at st1
  have hq1 : q.n = 1 := by have := HQ.out.ints.len.out; simpa using this.symm
  have HQI := HQ.out.ints
  rw [hq1] at HQI c2
  have st2 := str_cut (c := q.c) HQI
  rw [show strOfNums [97] = { data := #[97] } from rfl] at st2
  simp only [Nat.zero_mul, Nat.add_zero] at c0 c1 c2 hix
  rw [show ((0 : Nat) : Int) = 0 from rfl] at hix
  clear hq1 HQI HM HQ c1
  go_wp2
  go_ret
  exact ⟨rfl, HU4.out⟩

end Go.Proofs.YtolcdlopgbgilaaGreatDoor

/-! Text GzY. -/
namespace Go.Proofs.YtolcdlopgbgilaaGreatDoor
open Go.RowKit Go.Dray

set_option maxRecDepth 100000 in
set_option maxHeartbeats 4000000 in
theorem same6_any (w : World) (A : Option Addr) (n c : Nat) (D : Option Addr) (d : Nat) (ms : List Mem) (hA : MemsR w A n ms) (hD : MemsR w D n ms) (hn : n ≤ 1000000000) :
    Calls Tryz.prog 7 #[.slice A n c, .slice D n d] w fun e w' => e = .returned (.bool true) ∧ Upd [] w w' := by
  have HA := Lib.hid hA
  have HD := Lib.hid hD
  clear hA hD
  go_enter Tryz.func7, Tryz.ntmps7
  go_wp2_with fail
  go_loopw [5] (fun x wr => ∃ k : Nat, k ≤ n ∧ x = .int .i64 k ∧ Hid (Upd [] w wr)) (fun x _ => n - (intOf x).toNat)
  case atStart => exact ⟨0, by omega, rfl, Upd.refl _ _⟩
  case round =>
    obtain ⟨k, hk, rfl, HU⟩ := hrel
    by_cases hlt : k < n
    · have dlt : decide ((k : Int) < n) = true := by simp; omega
      obtain ⟨m, p, HM, HP, a0, a1, a2⟩ := (HA.out.upd0 HU.out).get hlt
      obtain ⟨u, q, HS, HQ, b0, b1, b2⟩ := (HD.out.upd0 HU.out).get hlt
      obtain rfl : u = m := by have h1 := HM.out; rw [HS.out] at h1; injection h1
      have hix := (HA.out.upd0 HU.out).index c k hlt
      have hiy := (HD.out.upd0 HU.out).index d k hlt
      have s1 : ∀ i, (convert 22 9 (.slice p.A p.n p.c)).run Tryz.prog (wr.drewN i) = .ok (.string (strOfNums u.data)) (wr.drewN i) := fun i => str_cut (HP.out.ints.drewN i)
      have s2 : ∀ i, (convert 22 9 (.slice q.A q.n q.c)).run Tryz.prog (wr.drewN i) = .ok (.string (strOfNums u.data)) (wr.drewN i) := fun i => str_cut (HQ.out.ints.drewN i)
      obtain ⟨S, hS⟩ : ∃ S, S = strOfNums u.data := ⟨_, rfl⟩
      obtain ⟨N, hN⟩ : ∃ N, N = u.name := ⟨_, rfl⟩
      obtain ⟨tm, ht⟩ : ∃ tm, tm = u.time := ⟨_, rfl⟩
      rw [← hS] at s1 s2
      rw [← hN] at a0 b0
      rw [← ht] at a1 b1
      clear hS hN ht HM HS HP HQ
      go_wp2
      go_quiet (fail)
      generalize hw3 : wr.drewN _ = w3
      have HV3 : Hid (Upd [] w w3) := by rw [← hw3]; exact HU.out.drewN _
      clear hw3 hix hiy a0 a1 a2 b0 b1 b2 s1 s2
      go_wp2
      go_roundw
      case rel => exact ⟨k + 1, by omega, by go_num, HV3⟩
      case measure => simp [intOf]; omega
    · obtain rfl : k = n := by omega
      have dlt : decide ((k : Int) < k) = false := by simp
      go_wp2
      go_ret
      exact ⟨rfl, HU.out⟩

end Go.Proofs.YtolcdlopgbgilaaGreatDoor

/-! Text RelyT. -/
namespace Go.Dray
open Go.RowKit

section
variable {P : Program} {l : List Oper} {Q : Exit → Act → World → Prop}
variable {a0 : Act} {w0 : World} {Post : Nat → Value → World → Prop} {Rel : World → World → Prop}

theorem LagInv.start (l : List Oper) (n : Nat) : LagInv .any l.toArray 0 n (Array.replicate l.toArray.size false) :=
  ⟨⟨by simp, fun j oj hj hl => by
    exfalso
    have hjl : j < l.toArray.size := (Array.getElem?_eq_some_iff.1 hj).1
    simp only [List.size_toArray] at hjl
    simp [Array.getD, hjl] at hl, fun t _ ht => by
    simp only [List.size_toArray] at ht
    simp [Array.getD, ht]⟩, fun i hi => by omega⟩
theorem rely_ready {n : Nat} {listed : Array Bool} (hB : relyB l.toArray a0.tmps.size = true) (hs : listed.size = l.toArray.size) : ∀ i, i < n → i < l.toArray.size → listed.getD i true = false → (∀ j, j < i → listed.getD j true ≠ false) → i ∈ Region.ready .any l.toArray listed := by
  intro i _ hi hun hmin
  obtain ⟨o, ho⟩ : ∃ o, l.toArray[i]? = some o := ⟨_, Array.getElem?_eq_getElem hi⟩
  have hb := relyB_at hB ho
  unfold Region.ready
  rw [List.mem_filter, List.mem_range]
  refine ⟨hi, ?_⟩
  rw [ho]
  simp only [hun, Bool.not_false, Bool.true_and, Option.map_some, Option.getD_some]
  refine Array.all_eq_true'.2 fun e he => ?_
  by_cases hbe : Region.binds .any e = true
  · have h1 := hb.2.2.2.1 e he hbe
    have h2 := hmin e.on h1
    have h3 : e.on < listed.size := by omega
    have h4 : listed.getD e.on false = true := by
      simp [Array.getD, h3] at h2 ⊢
      exact h2
    simp [hbe, h4]
  · simp [hbe]
theorem first_open {listed : Array Bool} : ∀ i, listed.getD i true = false → ∃ k, k ≤ i ∧ listed.getD k true = false ∧ ∀ j, j < k → listed.getD j true ≠ false := by
  intro i
  induction i using Nat.strongRecOn with
  | _ i ih =>
    intro h
    by_cases hex : ∃ j, j < i ∧ listed.getD j true = false
    · obtain ⟨j, hj, hl⟩ := hex
      obtain ⟨k, hk, h1, h2⟩ := ih j hj hl
      exact ⟨k, by omega, h1, h2⟩
    · exact ⟨i, Nat.le_refl _, h, fun j hj hl => hex ⟨j, hj, hl⟩⟩

theorem leftN_pre (n : Nat) (hn : n ≤ l.length) : leftN (preL l.toArray n) = l.length - n := by
  unfold leftN preL
  rw [Array.toList_ofFn]
  have e : (List.ofFn fun i : Fin l.toArray.size => decide (i.val < n)) = List.replicate n true ++ List.replicate (l.length - n) false := by
    apply List.ext_getElem
    · simp; omega
    · intro i h1 h2
      rw [List.getElem_ofFn]
      by_cases hi : i < n
      · rw [List.getElem_append_left (by simpa using hi)]
        simp [hi]
      · rw [List.getElem_append_right (by simp; omega)]
        simp [hi]
  rw [e, List.count_append, List.count_replicate, List.count_replicate]
  simp

theorem wpAny_relyT (n : Nat) (hn : n ≤ l.length) (hB : relyB l.toArray a0.tmps.size = true) (hsk : sinkFrom .any l.toArray 0 n = true) (hch : Region.chainB .any l.toArray n = true) (hsq : Region.seqB .any l.toArray (l.length - n) n (preL l.toArray n) = true)
    (st : ∀ i v w w', Rel w w' → Post i v w → Post i v w') (tr : ∀ w w' w'', Rel w w' → Rel w' w'' → Rel w w'')
    (step : ∀ i o, i < n → l.toArray[i]? = some o → ∀ a w, (∀ t, (∀ k, k < l.toArray.size → dstOf l.toArray k ≠ t) → a.tmps.getD t undef = a0.tmps.getD t undef) → (∀ e ∈ o.after, Region.binds .any e = true → Post e.on (a.tmps.getD (dstOf l.toArray e.on) undef) w) → Rel w0 w →
      Oper.wp P o a w (fun a' w' => ∃ v, a' = a.put o.dst v ∧ Post i v w' ∧ Rel w w') Q)
    (fin : ∀ a w, a.tmps.size = a0.tmps.size → a.defers = a0.defers → (∀ t, (∀ k, k < l.toArray.size → dstOf l.toArray k ≠ t) → a.tmps.getD t undef = a0.tmps.getD t undef) → (∀ i, i < n → Post i (a.tmps.getD (dstOf l.toArray i) undef) w) → Rel w0 w → wpList P l.toArray Q (l.drop n) a w) :
    ∀ (fuel : Nat) (listed : Array Bool) (a : Act) (w : World), leftN listed = fuel → LagInv .any l.toArray 0 n listed → RelyInv l.toArray a0 w0 Post Rel listed a w → wpAny P .any l.toArray Q fuel listed a w := by
  intro fuel
  induction fuel with
  | zero =>
    intro listed a w hf lag h
    have hall : ∀ i, i < l.toArray.size → listed.getD i true ≠ false := fun i hi hl => by
      have := leftN_set hl
      omega
    have hnl : n = l.length := by
      rcases Nat.lt_or_ge n l.length with h1 | h1
      · exact absurd (lag.head.tail n (Nat.le_refl _) (by simpa using h1)) (hall n (by simpa using h1))
      · omega
    have e : listed = preL l.toArray n := by
      apply Array.ext
      · rw [lag.head.size]; simp [preL]
      · intro i h1 h2
        have h3 := hall i (by rw [← lag.head.size]; exact h1)
        simp [Array.getD, h1] at h3
        rw [h3]
        have h4 : i < l.length := by have := lag.head.size; simp at this; omega
        simp [preL]
        omega
    subst e
    have h5 := wpAny_of_seq (P := P) (ops := l.toArray) (md := .any) (Q' := Q) (l.drop n) n (preL l.toArray n) a w (fun j => by simp [List.getElem?_drop]) (by rw [List.length_drop]; exact hsq)
      (fin a w h.tsize h.defers (fun t ht => h.fr t fun i hi _ => ht i hi) (fun i hi => h.post i (by simp; omega) (by rw [preL_false]; simp; omega)) h.rel)
    rw [List.length_drop, hnl, Nat.sub_self] at h5
    rw [hnl]
    exact h5
  | succ fuel ih =>
    intro listed a w hf lag h
    by_cases hex : ∃ i, i < n ∧ listed.getD i true = false
    · obtain ⟨i0, hi0, hl0⟩ := hex
      obtain ⟨k, hk, hk1, hk2⟩ := first_open i0 hl0
      have hkr := rely_ready (n := n) hB lag.head.size k (by omega) (by simp; omega) hk1 hk2
      refine ⟨fun h1 => (by rw [h1] at hkr; cases hkr), fun i hi => ?_⟩
      have hin : i < n := by
        rcases Nat.lt_or_ge i n with h1 | h1
        · exact h1
        · exact absurd hi (lag_waits hsk hch lag _ k rfl (by omega) hk1 i h1)
      obtain ⟨o, ho, hl, hdep⟩ := ready_mem hi
      have hb := relyB_at hB ho
      have hsz := (Array.getElem?_eq_some_iff.1 ho).1
      unfold wpOp
      rw [ho]
      simp only
      rw [if_pos (by simp [Region.wanted, hb.1])]
      refine Or.inl (Oper.wp_mono ?_ (step i o hin ho a w (fun t ht => h.fr t fun k hk _ => ht k hk) (fun e he hbe => h.post e.on (by have := hb.2.2.2.1 e he hbe; omega) (hdep e he hbe)) h.rel))
      rintro a' w' ⟨v, rfl, hv, hr⟩
      exact ih _ _ _ (by have := leftN_set hl; omega) (lag.set hi hin) (h.set hB ho st tr hv hr)
    · have hall : ∀ i, i < n → listed.getD i true ≠ false := fun i hi hl => hex ⟨i, hi, hl⟩
      have e : listed = preL l.toArray n := by
        apply Array.ext
        · rw [lag.head.size]; simp [preL]
        · intro i h1 h2
          have h4 : i < l.length := by have := lag.head.size; simp at this; omega
          by_cases hin : i < n
          · have h3 := hall i hin
            simp [Array.getD, h1] at h3
            rw [h3]
            simp [preL, hin]
          · have h3 := lag.head.tail i (by omega) (by simpa using h4)
            simp [Array.getD, h1] at h3
            rw [h3]
            simp [preL]
            omega
      have hfl : fuel + 1 = (l.drop n).length := by
        rw [← hf, e, List.length_drop]
        rw [leftN_pre n hn]
      subst e
      rw [hfl]
      exact wpAny_of_seq (P := P) (ops := l.toArray) (md := .any) (Q' := Q) (l.drop n) n (preL l.toArray n) a w (fun j => by simp [List.getElem?_drop]) (by rw [List.length_drop]; exact hsq)
        (fin a w h.tsize h.defers (fun t ht => h.fr t fun i hi _ => ht i hi) (fun i hi => h.post i (by simp; omega) (by rw [preL_false]; simp; omega)) h.rel)

theorem wp_region_relyT {id : Nat} {a : Act} {w : World} (n : Nat) (Post : Nat → Value → World → Prop) (Rel : World → World → Prop) (hm : P.follows .mixedOrders = true) (hn : n ≤ l.length) (hB : relyB l.toArray a.tmps.size = true) (hsk : sinkFrom .any l.toArray 0 n = true) (hch : Region.chainB .any l.toArray n = true) (hsq : Region.seqB .any l.toArray (l.length - n) n (preL l.toArray n) = true)
    (rf : Rel w.drew w.drew) (st : ∀ i v w w', Rel w w' → Post i v w → Post i v w') (tr : ∀ w w' w'', Rel w w' → Rel w' w'' → Rel w w'')
    (step : ∀ i o, i < n → l.toArray[i]? = some o → ∀ a' w', (∀ t, (∀ k, k < l.toArray.size → dstOf l.toArray k ≠ t) → a'.tmps.getD t undef = a.tmps.getD t undef) → (∀ e ∈ o.after, Region.binds .any e = true → Post e.on (a'.tmps.getD (dstOf l.toArray e.on) undef) w') → Rel w.drew w' →
      Oper.wp P o a' w' (fun a2 w2 => ∃ v, a2 = a'.put o.dst v ∧ Post i v w2 ∧ Rel w' w2) Q)
    (fin : ∀ a' w', a'.tmps.size = a.tmps.size → a'.defers = a.defers → (∀ t, (∀ k, k < l.toArray.size → dstOf l.toArray k ≠ t) → a'.tmps.getD t undef = a.tmps.getD t undef) → (∀ i, i < n → Post i (a'.tmps.getD (dstOf l.toArray i) undef) w') → Rel w.drew w' → wpList P l.toArray Q (l.drop n) a' w') :
    (Code.region id l.toArray true).wp P Q a w := by
  refine wp_region_any hm ?_
  refine wpAny_relyT (a0 := a) (w0 := w.drew) (Post := Post) (Rel := Rel) n hn hB hsk hch hsq st tr step fin _ _ _ _ ?_ (LagInv.start l n) ⟨by simp, rfl, rfl, fun _ _ => rfl, fun i hi hl => ?_, rf⟩
  · unfold leftN
    simp
  · simp only [List.size_toArray] at hi
    simp [Array.getD, hi] at hl
end

end Go.Dray
