/- The walk of drayagelaw02.DigestParts. -/
import Derived.Test.YthojhmkahjpflaaDoorDigLawsB
namespace Go.Proofs.YthojhmkahjpflaaDoor
open Go.ChangeShapes Go.WideShapes Go.ChangeAt Go.RowKit Go.Dray

theorem el_part : El Tryd.prog 30 22 (.slice none 0 0) 1 24 := ⟨Tryd.underlying30, by kernel_rfl, rfl, by omega⟩

/-- A slice of slices of bytes that came in. -/
def InParts (W : World) (L : Option Addr) (n c : Nat) (_ : Unit) : Prop :=
  n ≤ c ∧ (0 < n → L = some ⟨bl L, ofs L, none⟩) ∧ ∀ i, i < n → ∃ (A : Option Addr) (m d : Nat) (zs : List Int), W.cell? ⟨bl L, ofs L + i, none⟩ = some (.slice A m d) ∧ InInts .u8 W A m d zs

theorem open_parts {H : Type} {enc : TypeId × Value → H} {W : World} {base : Nat} {sp : Nat → Bool} {held : Bool} {A : Option Addr} {n c : Nat} {d : DataW H} {p : List MemPlace}
    (h : DataW.Trod enc Tryd.prog W base sp held 30 (.slice A n c) d p) : ∃ u, InParts W A n c u := by
  obtain ⟨h1, _, h3, h4⟩ := open_deep Tryd.underlying30 (C := 1) (by kernel_rfl) (by omega) h
  refine ⟨(), h1, h3, fun i hi => ?_⟩
  obtain ⟨cs, fuel, x, hl, hc, ht⟩ := h4 i hi
  match cs, hl with
  | [v], _ =>
    have hv : ∃ A' m d', v = .slice A' m d' := by
      rcases open_ints Tryd.underlying22 Tryd.underlying5 (by kernel_rfl) ht with ⟨hcs, _⟩ | ⟨a, l, c', zs, hcs, _⟩
      · injection hcs with hcs; exact ⟨_, _, _, hcs⟩
      · injection hcs with hcs; exact ⟨_, _, _, hcs⟩
    obtain ⟨A', m, d', rfl⟩ := hv
    obtain ⟨zs, hz⟩ := open_in (A := A') (n := m) (c := d') (d := x.1) (p := x.2) Tryd.underlying22 Tryd.underlying5 (by kernel_rfl) ⟨fuel, ht⟩
    refine ⟨A', m, d', zs, ?_, hz⟩
    have := hc 0 (by omega)
    simpa using this

theorem InParts.index {W : World} {L : Option Addr} {n c : Nat} {u : Unit} (h : InParts W L n c u) (k : Nat) (hk : k < n) :
    ∀ W : World, (Instr.indexAt 30 (.slice L n c) (.int .i64 k)).run Tryd.prog W = .ok (.pointer (some ⟨bl L, ofs L + k, none⟩)) W := by
  have := run_index el_part h.2.1 c .i64 k hk
  simpa using this


/-- What holds at the head of each round. -/
structure PartsRel (w : World) (g : Nat) (kind : Int) (wr : World) (X : Option Addr) (xc : Nat) (bs tl : List Int) : Prop where
  own : Own wr w.heap.size 5 1 X bs.length xc (bs.map (Value.int .u8))
  hash : HashIs wr g kind bs tl
  bd : ∀ z ∈ bs, 0 ≤ z ∧ z ≤ 255
  upd : Upd [] w wr

theorem PartsRel.step {w : World} {g : Nat} {kind : Int} {wr w' : World} {X : Option Addr} {xc : Nat} {bs tl : List Int} (h : PartsRel w g kind wr X xc bs tl) {L : List (Option Nat)} (hu : Upd L wr w') (hg : some g ∉ L) (hX : ∀ b, ob X = some b → some b ∉ L)
    (hL : ∀ b, some b ∈ L → w.heap.size ≤ b) : PartsRel w g kind w' X xc bs tl :=
  ⟨h.own.upd hu hX, h.hash.upd hu hg, h.bd, h.upd.then hu fun b hb => Or.inr (hL b hb)⟩

set_option maxRecDepth 100000 in
set_option maxHeartbeats 1000000 in
theorem digestParts_walk (kind : Int) (L : Option Addr) (n c : Nat) (u : Unit) (w : World) (_hk : (Lit.int .i64 kind).wf = true) (hin : InParts w L n c u) (hT : Tabs w) :
    Calls Tryd.prog 5 #[.int .i64 kind, .slice L n c] w fun e w' => e = .returned (.bool true) ∧ Below w.heap.size w w' := by
  have HT := Lib.hid hT
  have HP := Lib.hid hin
  clear hin hT
  by_cases hn : 30 < n
  · have d1 : decide ((30 : Int) < n) = true := by simp; omega
    go_enter Tryd.func5, Tryd.ntmps5
    go_wp2_with (go_at_call 7; refine (awake_any _ HT.out).mono ?_; rintro e w1 ⟨rfl, hu1⟩; have HU1 := Lib.hid hu1; clear hu1)
    go_ret
    exact ⟨rfl, HU1.out.below (Nat.le_refl _) (by simp)⟩
  · have d1 : decide ((30 : Int) < n) = false := by simp; omega
    by_cases hk : IsKind kind
    · have HK := Lib.hid hk
      have d2 : decide (kind < 1) = false := by unfold IsKind at hk; simp; omega
      have d3 : decide (3 < kind) = false := by unfold IsKind at hk; simp; omega
      clear hk
      go_enter Tryd.func5, Tryd.ntmps5
      go_upto_region 5 with (go_at_call 7; refine (awake_any _ HT.out).mono ?_; rintro e w1 ⟨rfl, hu1⟩; have HU1 := Lib.hid hu1; clear hu1)
      go_wp2_with fail
      refine (new_any w1 kind HK.out).mono ?_
      rintro e w2 ⟨rfl, hh2, hv2⟩
      obtain ⟨g, HG⟩ : ∃ g, Hid (g = w1.heap.size) := ⟨_, rfl⟩
      rw [← HG.out] at hh2 ⊢
      have HU2 := Lib.hid (HU1.out.trans hv2)
      have HR2 : Hid (PartsRel w g kind w2 none 0 [] (List.replicate 64 0)) := ⟨Own.nil _ _ _ _, hh2, by simp, HU2.out⟩
      have hgw : w.heap.size ≤ g := by have h1 := HU1.out.size; have h2 := HG.out; omega
      have hg3 : 3 ≤ g := by have := HT.out.size; omega
      clear hh2 hv2 HU1
      go_wp2_with fail
      go_loopw [7, 8] (fun x i wr => ∃ (k : Nat) (X : Option Addr) (xc m : Nat) (bs tl : List Int), k ≤ n ∧ i = .int .i64 k ∧ x = .slice X m xc ∧ m ≤ 3000 ∧ Hid (m = bs.length) ∧ Hid (PartsRel w g kind wr X xc bs tl)) (fun _ i _ => n - (intOf i).toNat)
      case atStart => exact ⟨0, none, 0, 0, [], _, by omega, rfl, rfl, by omega, rfl, HR2⟩
      case round =>
        clear HR2 HU2
        obtain ⟨k, X, xc, m, bs, tl, hk, rfl, rfl, hm, HM, HR⟩ := hrel
        by_cases hlt : k < n
        · obtain ⟨A, l, d, zs, hcell0, hin⟩ := HP.out.2.2 k hlt
          have hcell : wr.cell? ⟨bl L, ofs L + k, none⟩ = some (.slice A l d) := HR.out.upd.cell hcell0 (by simp)
          have hix := HP.out.index k hlt
          have hLl := cell_lt hcell
          simp only at hLl
          have HZ := Lib.hid (bytes_bd hin)
          have HI := Lib.hid hin.1
          have hld := hin.2.1
          have HC0 := Lib.hid hcell0
          clear hin hcell0
          by_cases hbig : (3000 : Int) - m < l
          · have d4 : decide ((3000 : Int) - m < l) = true := by simp; omega
            go_wp2
            go_ret
            exact ⟨rfl, HR.out.upd.below (Nat.le_refl _) (by simp)⟩
          · have d4 : decide ((3000 : Int) - m < l) = false := by simp; omega
            have hl : m + l ≤ 3000 := by omega
            have HIr := Lib.hid (HI.out.upd HR.out.upd (by simp))
            clear hbig
            go_upto_region 17 with (at_builtin; refine wpList_app rfl rfl el_byte rfl (Own.empty wr wr.heap.size _ (Nat.le_refl _)) rfl (Seg.upd HIr.out ((Upd.refl [] wr).alloc _) (by omega) (by simp)) (ints_one _ _) (by simp only [maxLen]; omega) (by omega) (by simp) ?_; intro O oc w3 hown3 hu3 hfr3; rw [Nat.zero_add, List.nil_append] at *; have HO3 := Lib.hid hown3; have HV3 : Hid (Upd [] wr w3) := ((Upd.refl [] wr).alloc _).then hu3 (by intro b hb; right; simp [ob] at hb; omega); clear hown3 hu3 hfr3)
            have HR3 := Lib.hid (HR.out.step HV3.out (by simp) (by simp) (by simp))
            have HT3 : Hid (Tabs w3) := HT.out.upd HR3.out.upd (by simp)
            have hbr : w.heap.size ≤ wr.heap.size := HR.out.upd.size
            have HXB : Hid (∀ b, ob X = some b → b < wr.heap.size) := fun b hb => (HR.out.own.base hb).2
            have hgl : g < wr.heap.size := HR.out.hash.at_.blk.lt
            clear HR HIr hcell
            go_wp2_with fail
            refine (write_any w3 g kind HK.out bs tl HR3.out.hash O l oc zs (Ints.ofOwn HO3.out) HZ.out HO3.out.le (fun hp => by have := (HO3.out.base (HO3.out.obl hp)).1; omega) HT3.out hg3 (by have := HM.out; omega)).mono ?_
            rintro e w4 ⟨rfl, ⟨tl4, hh4⟩, hv4⟩
            have HH4 := Lib.hid hh4
            have HU4 : Hid (Upd [] w w4) := HR3.out.upd.then hv4 (by intro b hb; right; simp at hb; omega)
            have HX4 := Lib.hid (HR3.out.own.upd hv4 (fun b hb => by simp; intro h; subst h; exact HR3.out.own.neBlk HR3.out.hash.at_.blk (by decide) hb))
            have HO4 := Lib.hid (HO3.out.upd hv4 (fun b hb => by simp; intro h; subst h; exact HO3.out.neBlk HR3.out.hash.at_.blk (by decide) hb))
            have HI4 := Lib.hid (HI.out.upd HU4.out (by simp))
            have HBD := Lib.hid HR3.out.bd
            have hcell4 : w4.cell? ⟨bl L, ofs L + k, none⟩ = some (.slice A l d) := HU4.out.cell HC0.out (by simp)
            have hOw : Hid (∀ b, ob O = some b → wr.heap.size ≤ b ∧ b < w4.heap.size) := fun b hb => HO4.out.base hb
            rw [← HM.out] at HX4
            clear hh4 hv4 HR3 HO3 HV3 HT3
            go_wp2_with (at_builtin; refine wpList_app rfl rfl el_byte rfl HX4.out rfl HI4.out (ints_one _ _) (by simp only [maxLen]; omega) (by omega) HU4.out.size ?_; intro X5 c5 w5 hown5 hu5 hfr5)
            have HO5 := Lib.hid (HO4.out.upd hu5 (fun b hb => by
              simp
              intro h
              have h1 := HXB.out b h.symm
              have h2 := (hOw.out b hb).1
              omega))
            have HR5 : Hid (PartsRel w g kind w5 X5 c5 (bs ++ zs) tl4) := by
              refine ⟨?_, ?_, ?_, ?_⟩
              · rw [List.map_append, List.length_append, ← HM.out, HI.out.len.out]
                exact hown5
              · refine HH4.out.upd hu5 ?_
                simp
                exact fun h => HX4.out.neBlk HH4.out.at_.blk (by decide) h.symm
              · intro z hz
                rcases List.mem_append.1 hz with h | h
                · exact HBD.out z h
                · exact HZ.out z h
              · exact HU4.out.then hu5 (fun b hb => by simp at hb; right; exact (HX4.out.base hb.symm).1)
            have HOX : Hid (∀ b, ob O = some b → ob X5 ≠ some b) := fun b hb hx => by
              have h1 := hOw.out b hb
              rcases hfr5 b hx with h | h
              · have := HXB.out b h
                omega
              · omega
            have HM5 : Hid (m + l = (bs ++ zs).length) := by
              show _ = _
              rw [List.length_append, ← HM.out, HI.out.len.out]
            clear hown5 hu5 hfr5 HX4 HI4 HH4 HU4 HO4 hcell4 HBD hOw
            obtain ⟨wo, HWO⟩ : ∃ wo : World, Hid (wo = wr) := ⟨_, rfl⟩
            rw [← HWO.out] at HO5 hbr hgl
            go_loopw [10] (fun i wr => ∃ (j : Nat) (os : List Int), j ≤ l ∧ i = .int .i64 j ∧ Hid (Own wr wo.heap.size 5 1 O l oc (os.map (Value.int .u8))) ∧ Hid (PartsRel w g kind wr X5 c5 (bs ++ zs) tl4)) (fun i _ => l - (intOf i).toNat)
            case atStart => exact ⟨0, zs, by omega, rfl, HO5, HR5⟩
            case round =>
              clear HO5 HR5
              obtain ⟨j, os, hj, rfl, HO, HR⟩ := hrel
              by_cases hjl : j < l
              · obtain ⟨x, HX, hxc⟩ := (Ints.ofOwn HO.out).int hjl
                have hxi := (Ints.ofOwn HO.out).index el_byte oc .i64 j hjl
                have hxf := HO.out.frozen (by omega) j
                have HO6 := Lib.hid (HO.out.set (k := j) (by omega) (.int .u8 (bits .xor .u8 x 255)))
                rw [← List.map_set] at HO6
                have hob := HO.out.obl (by omega)
                have HOB := Lib.hid hob
                have HR6 : Hid (PartsRel w g kind (wr.setCell ⟨bl O, ofs O + j, none⟩ (.int .u8 (bits .xor .u8 x 255))) X5 c5 (bs ++ zs) tl4) := by
                  refine HR.out.step ((Upd.refl [some (bl O)] wr).putIn (by simp) _) ?_ ?_ ?_
                  · simp
                    intro h
                    exact HO.out.neBlk HR.out.hash.at_.blk (by decide) (by rw [h]; exact HOB.out)
                  · intro b hb
                    simp
                    intro h
                    exact HOX.out b (by rw [h]; exact HOB.out) hb
                  · intro b hb
                    simp at hb
                    have := (HO.out.base HOB.out).1
                    omega
                clear hob HO HR
                go_wp2
                go_roundw
                case rel => exact ⟨j + 1, _, by omega, by go_num, HO6, HR6⟩
                case measure => simp [intOf]; omega
              · obtain rfl : j = l := by omega
                by_cases h3 : k % 3 = 0
                · have d5 : ((k : Int) % 3 == 0) = true := by simp; omega
                  have HTr : Hid (Tabs wr) := HT.out.upd HR.out.upd (by simp)
                  go_wp2_with fail
                  refine (sum_any wr g kind HK.out _ tl4 HR.out.hash HTr.out hg3 (by rw [← HM5.out]; omega)).mono ?_
                  rintro e w6 ⟨S, sc, rfl, hso, hv6⟩
                  have HR6 := Lib.hid (HR.out.step hv6 (by simp) (by simp) (by simp))
                  have HSO := Lib.hid hso
                  have hnw : 0 < 4 * nwK kind := by unfold nwK; split <;> (try split) <;> omega
                  have hgr : Hid (g < wr.heap.size) := HR.out.hash.at_.blk.lt
                  have hxr : Hid (∀ b, ob X5 = some b → b < wr.heap.size) := fun b hb => (HR.out.own.base hb).2
                  have hwr : Hid (w.heap.size ≤ wr.heap.size) := HR.out.upd.size
                  clear hso hv6 d5
                  obtain ⟨x, HX, hxc⟩ := (Ints.ofOwn HSO.out).int hnw
                  have hxi := (Ints.ofOwn HSO.out).indexI el_byte sc .i64 0 0 rfl hnw
                  have hxf := HSO.out.frozen hnw 0
                  rw [Nat.add_zero] at hxc hxi hxf
                  have HSB := Lib.hid (HSO.out.base (HSO.out.obl hnw))
                  have HR7 : Hid (PartsRel w g kind (w6.setCell ⟨bl S, ofs S, none⟩ (.int .u8 (bits .xor .u8 x 255))) X5 c5 (bs ++ zs) tl4) := by
                    refine HR6.out.step ((Upd.refl [some (bl S)] w6).putIn (by simp) _) ?_ ?_ ?_
                    · simp
                      intro h
                      have h1 := HSB.out.1
                      have h2 := hgr.out
                      omega
                    · intro b hb
                      simp
                      intro h
                      have h1 := HSB.out.1
                      have h2 := hxr.out b hb
                      omega
                    · intro b hb
                      simp at hb
                      have h1 := HSB.out.1
                      have h2 := hwr.out
                      omega
                  clear HR HR6 HSO
                  go_wp2
                  go_roundw
                  case rel => exact ⟨k + 1, X5, c5, m + j, bs ++ zs, tl4, by omega, by go_num, rfl, by omega, HM5, HR7⟩
                  case measure => simp [intOf]; omega
                · have d5 : ((k : Int) % 3 == 0) = false := by simp; omega
                  go_wp2
                  go_roundw
                  case rel => exact ⟨k + 1, X5, c5, m + j, bs ++ zs, tl4, by omega, by go_num, rfl, by omega, HM5, HR⟩
                  case measure => simp [intOf]; omega
        · obtain rfl : k = n := by omega
          have HI : Hid (∀ W, Upd [] wr W → Ints .u8 W X m bs) := fun W hW => by
            have h := Ints.ofOwn HR.out.own
            rw [← HM.out] at h
            exact h.upd hW (by simp)
          have HHH : Hid (∀ W, Upd [] wr W → HashIs W g kind bs tl) := fun W hW => HR.out.hash.upd hW (by simp)
          have HTT : Hid (∀ W, Upd [] wr W → Tabs W) := fun W hW => (HT.out.upd HR.out.upd (by simp)).upd hW (by simp)
          have hcur : Upd [] wr wr.drew := (Upd.refl _ _).drew
          have HBD := Lib.hid HR.out.bd
          have HU := Lib.hid HR.out.upd
          clear HR
          go_wp2
          go_region_with (first
            | (go_at_call 15; refine (sum_any _ g kind HK.out bs tl (HHH.out _ (by assumption)) (HTT.out _ (by assumption)) hg3 (by rw [← HM.out]; omega)).mono ?_; rintro e wa ⟨A1, c1, rfl, ho1, hv1⟩; have hca := Upd.trans (by assumption) hv1; have s1 := sum_str ho1; (try have t2 := sum_str (ho2.upd hv1 (by simp))))
            | (go_at_call 12; refine (rof_ok _ kind HK.out X m xc bs (HI.out _ (by assumption)) HBD.out (HTT.out _ (by assumption)) (by omega)).mono ?_; rintro e wb ⟨A2, c2, rfl, ho2, hv2⟩; have hcb := Upd.trans (by assumption) hv2; have s2 := sum_str ho2; (try have t1 := sum_str (ho1.upd hv2 (by simp)))))
          all_goals
            go_wp2
            go_ret
            exact ⟨rfl, (HU.out.trans (by assumption)).below (Nat.le_refl _) (by simp)⟩
    · have HK := Lib.hid hk
      by_cases h1 : kind < 1
      · have d2 : decide (kind < 1) = true := by simp; omega
        clear hk h1
        go_enter Tryd.func5, Tryd.ntmps5
        go_upto_region 5 with (go_at_call 7; refine (awake_any _ HT.out).mono ?_; rintro e w1 ⟨rfl, hu1⟩; have HU1 := Lib.hid hu1; clear hu1)
        go_wp2_with fail
        refine (new_bad w1 kind HK.out).mono ?_
        rintro e w2 ⟨rfl, hv2⟩
        go_wp2
        go_ret
        exact ⟨rfl, (HU1.out.trans hv2).below (Nat.le_refl _) (by simp)⟩
      · have d2 : decide (kind < 1) = false := by simp; omega
        have d3 : decide (3 < kind) = true := by unfold IsKind at hk; simp; omega
        clear hk h1
        go_enter Tryd.func5, Tryd.ntmps5
        go_upto_region 5 with (go_at_call 7; refine (awake_any _ HT.out).mono ?_; rintro e w1 ⟨rfl, hu1⟩; have HU1 := Lib.hid hu1; clear hu1)
        go_wp2_with fail
        refine (new_bad w1 kind HK.out).mono ?_
        rintro e w2 ⟨rfl, hv2⟩
        go_wp2
        go_ret
        exact ⟨rfl, (HU1.out.trans hv2).below (Nat.le_refl _) (by simp)⟩

end Go.Proofs.YthojhmkahjpflaaDoor
