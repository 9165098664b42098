/- Merged by wip/tools/merge.py: LenX InfJ InfK. -/
import Derived.Test.YtolcdlopgbgilaaDoorMc01
import Derived.Test.YtolcdlopgbgilaaDoorMc08
import Derived.Test.YtolcdlopgbgilaaDoorMc11

/-! Text LenX. -/
namespace Go.Proofs.YtolcdlopgbgilaaDoor
open Go.RowKit Go.Dray

theorem pow2_bd {M : Nat} (h1 : 1 ≤ M) (h : M ≤ 15) : (2 : Int) ≤ 2 ^ M ∧ (2 : Int) ^ M ≤ 32768 := by
  match M, h1, h with
  | 1, _, _ | 2, _, _ | 3, _, _ | 4, _, _ | 5, _, _ | 6, _, _ | 7, _, _ | 8, _, _ | 9, _, _ | 10, _, _ | 11, _, _ | 12, _, _ | 13, _, _ | 14, _, _ | 15, _, _ => decide

set_option maxRecDepth 100000 in
set_option maxHeartbeats 4000000 in
theorem lengths_any (CA : Option Addr) (cn cc : Nat) (zs : List Int) (most : Int) (w : World) (hs : Ints .i64 w CA cn zs) :
    Calls Tryd.prog 77 #[.slice CA cn cc, .int .i64 most] w (LenAny zs most cn w) := by
  have HL := hs.len
  have HC := Lib.hid hs
  obtain ⟨bx, hbx⟩ : ∃ bx, bx = w.heap.size := ⟨_, rfl⟩
  have hbox0 : Blk (w.alloc (.cells #[.slice CA cn cc] 61)) bx 61 #[.slice CA cn cc] := by rw [hbx]; exact Blk.new _ _ _
  have hu0 : Upd [] w (w.alloc (.cells #[.slice CA cn cc] 61)) := (Upd.refl [] w).alloc _
  have hsz0 : (w.alloc (.cells #[.slice CA cn cc] 61)).heap.size = bx + 1 := by rw [hbx]; simp
  by_cases hm1 : most < 1
  · have HE : Hid (badL zs most = 1) := badL_arg (Or.inl hm1)
    go_enter Tryd.func77, Tryd.ntmps77
    go_wp2
    go_ret2
    exact Or.inl ⟨by rw [HE.out]; decide, by rw [HE.out]; exact ⟨rfl, hu0⟩⟩
  · by_cases hm2 : 15 < most
    · have HE : Hid (badL zs most = 1) := badL_arg (Or.inr hm2)
      go_enter Tryd.func77, Tryd.ntmps77
      go_wp2
      go_ret2
      exact Or.inl ⟨by rw [HE.out]; decide, by rw [HE.out]; exact ⟨rfl, hu0⟩⟩
    · obtain ⟨M, rfl⟩ := Int.eq_ofNat_of_zero_le (show 0 ≤ most by omega)
      by_cases hbig : 320 < cn
      · have HE : Hid (badL zs M = 4) := badL_large (by omega) (by rw [HL.out]; exact hbig)
        go_enter Tryd.func77, Tryd.ntmps77
        go_wp2
        go_ret2
        exact Or.inl ⟨by rw [HE.out]; decide, by rw [HE.out]; exact ⟨rfl, hu0⟩⟩
      · have hcn : cn ≤ 320 := by omega
        have hM1 : 1 ≤ M := by omega
        have hM2 : M ≤ 15 := by omega
        have hpw := pow2_bd hM1 hM2
        clear hm1 hm2 hbig
        have dM1 : decide ((M : Int) < 1) = false := by simp; omega
        have dM2 : decide ((15 : Int) < M) = false := by simp; omega
        have dM3 : decide ((320 : Int) < cn) = false := by simp; omega
        go_enter Tryd.func77, Tryd.ntmps77
        go_wp2
        generalize hw1 : w.alloc (.cells #[.slice CA cn cc] 61) = w1 at hbox0 hu0 hsz0 ⊢
        rw [← hbx]
        have HBX := Lib.hid hbx
        clear hw1 hbx
        go_loopw [6, 33] (fun v i wr => ∃ k un : Nat, k ≤ cn ∧ un ≤ k ∧ i = .int .i64 k ∧ Hid (∀ z ∈ zs.take k, 0 ≤ z ∧ z ≤ 4294967296) ∧ Hid (un = (usedI zs k).length) ∧ ∃ UA uc, v = .slice UA un uc ∧ Hid (Own wr (bx + 1) 3 1 UA un uc ((usedI zs k).map (Value.int .i64)) ∧ Upd [] w1 wr)) (fun _ i _ => cn - (intOf i).toNat)
        case atStart => exact ⟨0, 0, by omega, by omega, rfl, by intro z hz; simp at hz, rfl, none, 0, rfl, ⟨Own.nil _ _ _ _, Upd.refl _ _⟩⟩
        case round =>
          obtain ⟨k, un, hk, hun, rfl, HB, HU, UA, uc, rfl, HO⟩ := hrel
          have hcr := (hs.upd hu0 (by simp)).upd HO.out.2 (by simp)
          by_cases hlt : k < cn
          · obtain ⟨x, HX, hcell⟩ := hcr.int hlt
            have hix := hs.index el_int cc .i64 k hlt
            clear hcr
            by_cases hx1 : x < 0
            · have HE : Hid (badL zs M = 1) := badL_count (by omega) (by rw [HL.out]; exact hcn) HX.out (Or.inl hx1)
              clear hs
              go_wp2
              go_ret2
              exact Or.inl ⟨by rw [HE.out]; decide, by rw [HE.out]; exact ⟨rfl, hu0.trans HO.out.2⟩⟩
            · by_cases hx2 : 4294967296 < x
              · have HE : Hid (badL zs M = 1) := badL_count (by omega) (by rw [HL.out]; exact hcn) HX.out (Or.inr hx2)
                clear hs
                go_wp2
                go_ret2
                exact Or.inl ⟨by rw [HE.out]; decide, by rw [HE.out]; exact ⟨rfl, hu0.trans HO.out.2⟩⟩
              · have hx0 : 0 ≤ x := by omega
                have hx3 : x ≤ 4294967296 := by omega
                have HG : Hid (zs.getD k 0 = x) := getD_of2 HX.out
                have hO := HO.out.1
                have hsz := HO.out.2.size
                by_cases hpos : 0 < x
                · clear hs hx1 hx2
                  go_wp2_with (at_builtin; refine wpList_app rfl rfl el_int rfl (hO.alloc _) rfl (Seg.one _ _ _) (by simp [Value.oneCell']) (by simp only [maxLen]; omega) (by omega) (by simp; omega) ?_; intro X3 c3 w3 hown3 hu3 hfr3)
                  go_roundw
                  case rel =>
                    refine ⟨k + 1, un + 1, by omega, by omega, by go_num, takeC HX.out HB.out ⟨hx0, hx3⟩, ?_, X3, c3, rfl, ?_, ?_⟩
                    · show _ = _
                      rw [usedI_succ, HG.out, if_pos hpos, List.length_append, ← HU.out]
                      rfl
                    · rw [usedI_succ, HG.out, if_pos hpos, List.map_append]
                      exact hown3
                    · exact (HO.out.2.alloc _).then hu3 (fun b hb => by simp at hb; have := (hO.base hb.symm).1; right; omega)
                  case measure => simp [intOf]; omega
                · clear hs hx1 hx2
                  go_wp2
                  go_roundw
                  case rel =>
                    refine ⟨k + 1, un, by omega, by omega, by go_num, takeC HX.out HB.out ⟨hx0, hx3⟩, ?_, UA, uc, rfl, ?_⟩
                    · show _ = _
                      rw [usedI_succ, HG.out, if_neg (by omega), List.append_nil]
                      exact HU.out
                    · rw [usedI_succ, HG.out, if_neg (by omega), List.append_nil]
                      exact HO.out
                  case measure => simp [intOf]; omega
          · obtain rfl : k = cn := by omega
            have HB2 : Hid (∀ z ∈ zs, 0 ≤ z ∧ z ≤ 4294967296) := by
              have := HB.out
              rw [List.take_of_length_le (by rw [HL.out]; omega)] at this
              exact this
            have HU2 : Hid (un = (usedI zs zs.length).length) := by rw [HL.out]; exact HU.out
            clear hcr HB
            by_cases hmany : (2 : Int) ^ M < un
            · have HE : Hid (badL zs M = 4) := badL_many (by omega) (by rw [HL.out]; exact hcn) HB2.out (by
                rw [← HU2.out, Int.toNat_natCast]
                have e : ((2 ^ M : Nat) : Int) = (2 : Int) ^ M := by simp
                omega)
              clear hs
              go_wp2
              go_ret2
              exact Or.inl ⟨by rw [HE.out]; decide, by rw [HE.out]; exact ⟨rfl, hu0.trans HO.out.2⟩⟩
            · have hfit : un ≤ 2 ^ M := by
                have e : ((2 ^ M : Nat) : Int) = (2 : Int) ^ M := by simp
                omega
              have HE : Hid (badL zs M = 0) := badL_ok (by omega) (by rw [HL.out]; exact hcn) HB2.out (by rw [← HU2.out, Int.toNat_natCast]; exact hfit)
              have HFIT := Lib.hid hfit
              clear hfit
              obtain ⟨us, hus⟩ : ∃ us, us = usedI zs k := ⟨_, rfl⟩
              have HUS := Lib.hid hus
              rw [← hus] at HO HU
              have HND : Hid us.Nodup := by rw [hus]; exact usedI_nodup _ _
              have HMEM : Hid (∀ x ∈ us, 0 ≤ x ∧ x < k) := fun x hx => by rw [hus] at hx; have := usedI_mem.1 hx; exact ⟨this.1, this.2.1⟩
              clear hus
              have hb0 := (hbox0.upd HO.out.2 (by simp)).cell 0
              simp at hb0
              have d4 : decide ((2 : Int) ^ M < un) = false := by simp; omega
              have hsz := HO.out.2.size
              have HUP := Lib.hid (hu0.trans HO.out.2)
              have HBR := Lib.hid (hbox0.upd HO.out.2 (by simp))
              have HCR := Lib.hid ((hs.upd hu0 (by simp)).upd HO.out.2 (by simp))
              have HOU := Lib.hid HO.out.1
              clear hs hmany HO
              have HG0 : Hid (∀ LA w2, Own w2 (bx + 1) 3 1 LA k k (List.replicate k (.int .i64 0)) → Upd [] wr w2 → ob LA = some wr.heap.size → GSt w w2 bx CA k cc zs UA un uc us LA (stepG 0 fun _ => 0)) := by
                intro LA w2 h1 h2 h3
                refine ⟨HBX.out.symm, HBR.out.upd h2 (by simp), HCR.out.upd h2 (by simp), HOU.out.upd h2 (by simp), ?_, ?_, HUP.out.trans h2⟩
                · rw [stepG_zero, tab_congr (fun j _ => LF_zero us j), ← tab_rep, List.map_replicate]
                  exact h1
                · intro x hx e
                  rw [h3] at e
                  injection e with e
                  have := (HOU.out.base hx).2
                  omega
              by_cases hfew : un < 2
              · have d5 : decide ((un : Int) < 2) = true := by simp; omega
                go_wp2_with (at_make; refine wpList_mk rfl rfl (bx + 1) el_int k rfl rfl rfl rfl rfl (by omega) (by simp only [maxLen]; omega) (by omega) ?_; intro LA w2 hlen hu2 hobL)
                have HG := Lib.hid (HG0.out LA w2 hlen hu2 hobL)
                clear hlen hu2 hobL HG0 HBR HCR HOU hb0 HUP
                go_loopw [64] (fun i wr => ∃ t : Nat, t ≤ un ∧ i = .int .i64 t ∧ Hid (GSt w wr bx CA k cc zs UA un uc us LA (stepG t fun _ => 0))) (fun i _ => un - (intOf i).toNat)
                case atStart => exact ⟨0, by omega, rfl, HG⟩
                case round =>
                  clear HG
                  obtain ⟨t, ht, rfl, HG⟩ := hrel
                  by_cases hlt2 : t < un
                  · obtain ⟨x, HX, hcell⟩ := (Ints.ofOwn HG.out.used).int hlt2
                    have hix := (Ints.ofOwn HG.out.used).index el_int uc .i64 t hlt2
                    obtain ⟨hx0, hxk⟩ := HMEM.out x (List.mem_of_getElem? HX.out)
                    obtain ⟨p, rfl⟩ := Int.eq_ofNat_of_zero_le hx0
                    have hpk : p < k := by omega
                    have lix := (Ints.ofOwn HG.out.lens).index el_int k .i64 p hpk
                    have lcell := HG.out.lenCell hpk
                    have lfz := HG.out.lens.frozen (by omega) p
                    have hra := HG.out.raise HC.out HND.out HX.out hpk
                    have e1 : LF us (stepG t fun _ => 0) p + 1 = 1 := by rw [LF_at HND.out HX.out]; unfold stepG; rw [if_neg (by omega)]; rfl
                    rw [e1] at hra
                    have HRA := Lib.hid hra
                    clear e1 hra HG
                    go_wp2
                    go_roundw
                    case rel => exact ⟨t + 1, by omega, by go_num, HRA⟩
                    case measure => simp [intOf]; omega
                  · obtain rfl : t = un := by omega
                    go_wp2
                    go_ret2
                    refine Or.inr ⟨HE.out, LA, k, _, rfl, HG.out.lens.monoB (by have := HBX.out; omega), ?_, HG.out.upd⟩
                    have hone := one_ok (zs := zs) (most := M) hM1 (by rw [← HU2.out]; exact hfew)
                    rw [HL.out, ← HUS.out] at hone
                    have e2 : tab k (LF us (stepG t fun _ => 0)) = tab k (LF us fun _ => 1) := tab_congr fun j _ => by rw [HU.out]; exact stepG_one us j
                    rw [e2, Int.toNat_natCast]
                    exact hone
              · have d5 : decide ((un : Int) < 2) = false := by simp; omega
                have hmf : ∀ (fn : Fn) (first cap : Array Value) (w : World), (Instr.makeFunc fn first cap).run Tryd.prog w = .ok (.func fn first cap) w := fun _ _ _ _ => rfl
                go_wp2_with (at_make; refine wpList_mk rfl rfl (bx + 1) el_int k rfl rfl rfl rfl rfl (by omega) (by simp only [maxLen]; omega) (by omega) ?_; intro LA w2 hlen hu2 hobL)
                have HG := Lib.hid (HG0.out LA w2 hlen hu2 hobL)
                clear hlen hu2 hobL HG0 HBR HCR HOU hb0 HUP hmf
                obtain ⟨d0, hd0⟩ : ∃ d0 : Nat → Int, d0 = fun j => us.getD j 0 := ⟨_, rfl⟩
                have htab : us = tab un d0 := by rw [hd0, HU.out]; exact tab_of us 0
                have HASC : Hid (Asc un d0) := fun i j h1 h2 => by
                  rw [hd0]
                  show us.getD i 0 < us.getD j 0
                  rw [HUS.out]
                  exact usedI_lt h1 (by rw [← HUS.out, ← HU.out]; exact h2)
                have hSS : SS w2 w2 (bx + 1) UA un uc bx CA k cc zs d0 := by
                  have h0 := HG.out.used
                  rw [htab] at h0
                  refine ⟨h0, ⟨?_, HG.out.cnt⟩, Upd.refl _ _, ?_, ?_, ?_, by omega⟩
                  · have := HG.out.box.cell 0
                    simpa using this
                  · intro e; have := (h0.base e).1; omega
                  · intro hp e
                    have h1 := (h0.base e).1
                    have h2 := HC.out.lt hp (by omega)
                    have := HBX.out
                    omega
                  · intro j hj
                    have h1 : d0 j ∈ us := by rw [htab]; exact List.mem_of_getElem? (tab_get d0 hj)
                    exact HMEM.out _ h1
                refine (sortStable_any hSS (by omega) HASC.out).mono ?_
                rintro e w3 ⟨d1, rfl, hS1, hmv, hsd⟩
                have HPM : Hid ((tab un d1).Perm us) := by rw [htab]; exact perm_of_mv hmv
                have HSD := Lib.hid hsd
                have HG1 : Hid (GSt w w3 bx CA k cc zs UA un uc (tab un d1) LA fun _ => 0) := by
                  refine ⟨HG.out.bw, HG.out.box.upd hS1.upd (by simp; exact fun e => hSS.far e.symm), hS1.cmp.2, hS1.own, ?_, HG.out.sep, HG.out.upd.then hS1.upd ?_⟩
                  · have := HG.out.lens.upd hS1.upd (by intro y hy; simp; intro e; exact HG.out.sep y e.symm hy)
                    rw [stepG_zero, tab_congr (fun j _ => LF_zero us j)] at this
                    rw [tab_congr (fun j _ => LF_zero (tab un d1) j)]
                    exact this
                  · intro b hb
                    simp at hb
                    have := (HG.out.used.base hb.symm).1
                    have := HBX.out
                    right; omega
                have HGD := Lib.hid hS1.good
                clear hS1 hmv hsd hSS htab hd0 HG
                have HSY : Hid (Syms (itemsOf zs (tab un d1))) := syms_of (fun i j g1 g2 g3 => by
                  have b1 := HGD.out i (by omega)
                  have b2 := HGD.out j g3
                  exact key2_of (HSD.out i j g1 g2 g3) b1.1 (by omega)) fun j hj => by
                  have := HGD.out j hj
                  unfold keyOf
                  rw [List.getD]
                  cases hx : zs[(d1 j).toNat]? with
                  | none => simp
                  | some z => exact HB2.out z (List.mem_of_getElem? hx)
                have HND1 : Hid (tab un d1).Nodup := HPM.out.nodup_iff.2 HND.out
                have hun2 : 2 ≤ un := by omega
                have hsz3 : bx + 1 ≤ w3.heap.size := by have := HG1.out.upd.size; have := HBX.out; have := HG1.out.box.lt; omega
                go_wp2_with (at_make; refine wpList_mkn rfl rfl (bx + 1) el_item un rfl rfl rfl rfl (by omega) (by simp only [maxLen]; omega) hsz3 ?_; intro SA w4 xs hsym hu4 hobS)
                have HG2 := Lib.hid (HG1.out.grow hu4)
                have HX2 : Hid (Own w4 (bx + 1) 154 2 SA un un xs ∧ xs.take (0 * 2) = itemV (itemsOf zs (tab 0 d1))) := ⟨hsym, by simp [tab, itemsOf, itemV]⟩
                clear hsym hu4 hobS HG1
                go_loopw [81] (fun i wr => ∃ t : Nat, t ≤ un ∧ i = .int .i64 t ∧ ∃ xs, Hid (GSt w wr bx CA k cc zs UA un uc (tab un d1) LA fun _ => 0) ∧ Hid (Own wr (bx + 1) 154 2 SA un un xs ∧ xs.take (t * 2) = itemV (itemsOf zs (tab t d1)))) (fun i _ => un - (intOf i).toNat)
                case atStart => exact ⟨0, by omega, rfl, xs, HG2, HX2⟩
                case round =>
                  clear HG2 HX2
                  obtain ⟨t, ht, rfl, xs, HG, HXS⟩ := hrel
                  by_cases hlt3 : t < un
                  · have uix := (Ints.ofOwn HG.out.used).index el_int uc .i64 t hlt3
                    have ucell := (Ints.ofOwn HG.out.used).cell (tab_get d1 hlt3)
                    obtain ⟨hx0, hxk⟩ := HGD.out t hlt3
                    obtain ⟨p, hp⟩ := Int.eq_ofNat_of_zero_le hx0
                    rw [hp] at ucell hxk
                    have hpk : p < k := by omega
                    obtain ⟨v, HV, ccell⟩ := HG.out.cnt.int hpk
                    have cix := HG.out.cnt.index el_int cc .i64 p hpk
                    have hb0 := HG.out.box.cell 0
                    simp at hb0
                    have hown := HXS.out.1
                    have hxl := hown.len
                    have six := run_index el_item hown.seg.at_ un .i64 t hlt3
                    have sc0 := hown.seg.cell (t * 2) _ (List.getElem?_eq_getElem (show t * 2 < xs.length by omega))
                    have sc1 := hown.seg.cell (t * 2 + 1) _ (List.getElem?_eq_getElem (show t * 2 + 1 < xs.length by omega))
                    have sf0 := hown.frozen (by omega) (t * 2)
                    have sf1 := hown.frozen (by omega) (t * 2 + 1)
                    rw [← Nat.add_assoc] at sc1 sf1
                    have HP := Lib.hid hp
                    clear hp hx0 hxk
                    go_wp2
                    go_roundw
                    case rel =>
                      have hob := hown.obl (by omega)
                      have hsu : Upd [some (bl SA)] wr ((wr.setCell ⟨bl SA, ofs SA + t * 2, none⟩ (.int .i64 v)).setCell ⟨bl SA, ofs SA + t * 2 + 1, none⟩ (.bool true)) := ((Upd.refl _ wr).setCell (p := ⟨bl SA, ofs SA + t * 2, none⟩) (Or.inl (by simp)) _).setCell (p := ⟨bl SA, ofs SA + t * 2 + 1, none⟩) (Or.inl (by simp)) _
                      have hset := (hown.set (k := t * 2) (by omega) (.int .i64 v)).set (k := t * 2 + 1) (by omega) (.bool true)
                      rw [← Nat.add_assoc] at hset
                      refine ⟨t + 1, by omega, by go_num, _, HG.out.far hsu HC.out (hown.base hob).1 ?_ ?_, hset, ?_⟩
                      · intro e; exact HG.out.used.neOwn hown (by decide) e hob
                      · intro e; exact HG.out.lens.neOwn hown (by decide) e hob
                      · rw [take_set2 (by omega), HXS.out.2, tab_snoc, itemsOf, itemsOf, List.map_append, itemV_app]
                        have hv : keyOf zs (d1 t) = v := by unfold keyOf; rw [HP.out, Int.toNat_natCast]; exact getD_of2 HV.out
                        rw [List.map_cons, hv]
                        rfl
                    case measure => simp [intOf]; omega
                  · obtain rfl : t = un := by omega
                    obtain ⟨S, hS⟩ : ∃ S, S = itemsOf zs (tab t d1) := ⟨_, rfl⟩
                    have HSE := Lib.hid hS
                    have HSL : Hid (S.length = t) := by show _ = _; rw [hS, itemsOf_len, tab_len]
                    have HSYM : Hid (Own wr (bx + 1) 154 2 SA t t (itemV S)) := by
                      have h1 := HXS.out.1
                      have h2 := HXS.out.2
                      rw [List.take_of_length_le (by rw [h1.len]; omega), ← hS] at h2
                      rw [← h2]
                      exact h1
                    rw [← hS] at HSY
                    clear hS HXS
                    have hszr : bx + 1 ≤ wr.heap.size := by have := HG.out.box.lt; omega
                    have hmk := fun (ops : Array Oper) => (rfl : ops = ops)
                    clear hmk
                    go_wp2_with (at_make; refine wpList_mk rfl rfl (bx + 1) el_rows M rfl rfl rfl rfl rfl (by omega) (by simp only [maxLen]; omega) hszr ?_; intro VA w5 hlv hu5 hobV)
                    have HG5 := Lib.hid (HG.out.grow hu5)
                    have HS5 := Lib.hid (HSYM.out.upd hu5 (by simp))
                    have HV5 : Hid (LvSt w5 bx VA M (List.replicate M (.slice none 0 0)) LA S 0) := ⟨hlv, fun j hj => by omega⟩
                    clear hlv hu5 hobV HG HSYM
                    go_loopw [98] (fun i wr => ∃ j : Nat, j ≤ M ∧ i = .int .i64 j ∧ ∃ vs, Hid (GSt w wr bx CA k cc zs UA t uc (tab t d1) LA fun _ => 0) ∧ Hid (Own wr (bx + 1) 154 2 SA t t (itemV S)) ∧ Hid (LvSt wr bx VA M vs LA S j)) (fun i _ => M - (intOf i).toNat)
                    case atStart => exact ⟨0, by omega, rfl, _, HG5, HS5, HV5⟩
                    case round =>
                      clear HG5 HS5 HV5
                      obtain ⟨j, hj, rfl, vs, HG, HSYM, HLV⟩ := hrel
                      by_cases hjM : j < M
                      · have hvl := HLV.out.own.len
                        have vix := run_index el_rows HLV.out.own.seg.at_ M .i64 j hjM
                        have vcell := HLV.out.own.seg.cell j _ (List.getElem?_eq_getElem (show j < vs.length by omega))
                        have vfz := HLV.out.own.frozen (by omega) j
                        rw [Nat.mul_one] at vix
                        have hobv := HLV.out.own.obl (by omega)
                        have hobs := HSYM.out.obl (by omega)
                        have hsv : some (bl SA) ≠ ob VA := fun e => HSYM.out.neOwn HLV.out.own (by decide) hobs e.symm
                        have hsl : ob LA ≠ some (bl SA) := fun e => HSYM.out.neOwn HG.out.lens (by decide) hobs e
                        have hitS : Items wr SA t t S := ⟨HSYM.out.seg, Nat.le_refl _⟩
                        have hju := Lib.hid (HLV.out.junk hjM (.slice SA t t))
                        have hvu : Upd [some (bl VA)] wr (wr.setCell ⟨bl VA, ofs VA + j, none⟩ (.slice SA t t)) := (Upd.refl _ wr).setCell (p := ⟨bl VA, ofs VA + j, none⟩) (Or.inl (by simp)) _
                        have hgv : GSt w (wr.setCell ⟨bl VA, ofs VA + j, none⟩ (.slice SA t t)) bx CA k cc zs UA t uc (tab t d1) LA (fun _ => 0) := HG.out.far hvu HC.out (HLV.out.own.base hobv).1 (fun e => HG.out.used.neOwn HLV.out.own (by decide) e hobv) (fun e => HG.out.lens.neOwn HLV.out.own (by decide) e hobv)
                        have HGV := Lib.hid hgv
                        have HSV := Lib.hid (HSYM.out.upd hvu (by intro y hy; simp; rintro rfl; exact hsv (by rw [← hobs, hy, hobv])))
                        by_cases hj0 : j = 0
                        · have HP0 := Lib.hid (HLV.out.put (A := SA) (n := t) (c := t) hjM (by rw [hj0]; exact hitS) (fun _ => ⟨hsv, hsl⟩))
                          have d6 : decide ((0 : Int) < j) = false := by simp; omega
                          have d7 : decide (0 < j) = false := by simp; omega
                          have d8 : ¬ 0 < j := by omega
                          have HJ0 := Lib.hid hj0
                          clear hj0 hju hvu hgv hitS hsv hsl hobs hobv HLV HG HSYM
                          go_wp2
                          go_roundw
                          case rel => exact ⟨j + 1, by omega, by go_num, _, HGV, HSV, HP0⟩
                          case measure => simp [intOf]; omega
                        · obtain ⟨jp, rfl⟩ : ∃ jp, j = jp + 1 := ⟨j - 1, by omega⟩
                          obtain ⟨PA, pn, pc, hpv, hpi, hpn⟩ := hju.out.lvs jp (by omega)
                          have pix := run_index el_rows hju.out.own.seg.at_ M .i64 jp (by omega)
                          have pcell := hju.out.own.seg.cell jp _ hpv
                          rw [Nat.mul_one] at pix
                          have vix' : ∀ W : World, (Instr.indexAt 155 (.slice VA M M) (.int .i64 ((jp : Int) + 1))).run Tryd.prog W = .ok (.pointer (some ⟨bl VA, ofs VA + (jp + 1), none⟩)) W := vix
                          have pix' : ∀ W : World, (Instr.indexAt 155 (.slice VA M M) (.int .i64 (jp : Int))).run Tryd.prog W = .ok (.pointer (some ⟨bl VA, ofs VA + jp, none⟩)) W := pix
                          have HPI := Lib.hid hpi
                          clear hpi hitS vix pix hpv hpn
                          obtain ⟨q, hq⟩ : ∃ q, q = ofs VA + (jp + 1) := ⟨_, rfl⟩
                          obtain ⟨q0, hq0⟩ : ∃ q0, q0 = ofs VA + jp := ⟨_, rfl⟩
                          rw [← hq] at vix' vcell vfz hju hvu hgv HGV HSV pcell
                          rw [← hq0] at pix' pcell
                          rw [← hq] at HPI
                          have HQ := Lib.hid hq
                          clear hq hq0 hobs hsv hsl hvu hgv HLV HG HSYM
                          go_wp2_with fail
                          generalize wr.setCell ⟨bl VA, q, none⟩ (.slice SA t t) = w6 at HGV HSV HPI hju pcell ⊢
                          have hlen6 : pn ≤ 639 := by have := HPI.out.len; have := lv_few (S := S) (by rw [HSL.out]; omega) (by rw [HSL.out]; omega) jp; omega
                          refine (level_any SA PA t t pn pc S (lv S jp) w6 ⟨HSV.out.seg, Nat.le_refl _⟩ HPI.out (by omega) (by omega) (by have := lv_bds HSY.out (k := 0) (by omega); exact this) (lv_bds HSY.out (by omega))).mono ?_
                          rintro e w7 ⟨RA, rm, rc, rfl, hrm, hrown, hru⟩
                          have hju7 := hju.out.grow hru
                          have HG7 := Lib.hid (HGV.out.grow hru)
                          have HS7 := Lib.hid (HSV.out.upd hru (by simp))
                          have hob7 := hju7.own.obl (by omega)
                          have hrb : 0 < rm → some (bl RA) ≠ ob VA ∧ ob LA ≠ some (bl RA) := fun hp => ⟨fun e => hrown.neOwn hju7.own (by decide) (hrown.obl hp) e.symm, fun e => hrown.neOwn HG7.out.lens (by decide) (hrown.obl hp) e⟩
                          have HP7 := Lib.hid (hju7.put (A := RA) (n := rm) (c := rc) hjM ⟨hrown.seg, hrown.le⟩ hrb)
                          have hvl7 := hju7.own.len
                          have vc7 := hju7.own.seg.cell (jp + 1) _ (List.getElem?_eq_getElem (show jp + 1 < (vs.set (jp + 1) (.slice SA t t)).length by omega))
                          have vf7 := hju7.own.frozen (by omega) (jp + 1)
                          have hv7 : Upd [some (bl VA)] w7 (w7.setCell ⟨bl VA, q, none⟩ (.slice RA rm rc)) := (Upd.refl _ w7).setCell (p := ⟨bl VA, q, none⟩) (Or.inl (by simp)) _
                          have HGE := Lib.hid (HG7.out.far hv7 HC.out (hju7.own.base hob7).1 (fun e => HG7.out.used.neOwn hju7.own (by decide) e hob7) (fun e => HG7.out.lens.neOwn hju7.own (by decide) e hob7))
                          have HSF := Lib.hid (HS7.out.upd hv7 (by intro y hy; simp; rintro rfl; exact HS7.out.neOwn hju7.own (by decide) hy hob7))
                          rw [← HQ.out] at HP7 vc7 vf7
                          clear hrm hju7 hru hrown hrb hv7 hju HGV HSV HG7 HS7 HPI hob7 vcell vfz pcell
                          go_wp2
                          go_roundw
                          case rel => exact ⟨jp + 1 + 1, by omega, by go_num, _, HGE, HSF, HP7⟩
                          case measure => simp [intOf]; omega
                      · obtain rfl : j = M := by omega
                        have hks : bx + 1 ≤ wr.heap.size := by have := HG.out.box.lt; omega
                        clear hks HSYM
                        have htop := lv_top (S := S) (k := j - 1) (by rw [HSL.out]; omega) (by rw [HSL.out, show j - 1 + 1 = j from by omega]; exact HFIT.out)
                        rw [HSL.out] at htop
                        have HT0 : Hid ((0 < j → 2 * t - 2 ≤ (lv S (j - 1)).length) ∧ ∀ i : Nat, (0 : Int) ≤ (fun _ => 0 : Nat → Int) i ∧ (fun _ => 0 : Nat → Int) i ≤ 15 - (j : Int)) := ⟨fun _ => htop, fun i => ⟨Int.le_refl _, by show (0 : Int) ≤ _; omega⟩⟩
                        clear htop
                        go_wp2
                        go_loopw [17, 18] (fun v i wr => ∃ (kk T : Nat) (g : Nat → Int), kk ≤ j ∧ T ≤ 2000 ∧ v = .int .i64 T ∧ i = .int .i64 ((kk : Int) - 1) ∧ Hid (fin S kk T g = lensG S j) ∧ Hid ((0 < kk → T ≤ (lv S (kk - 1)).length) ∧ ∀ i, 0 ≤ g i ∧ g i ≤ 15 - (kk : Int)) ∧ Hid (GSt w wr bx CA k cc zs UA t uc (tab t d1) LA g) ∧ Hid (LvSt wr bx VA j vs LA S j)) (fun _ i _ => (intOf i + 1).toNat)
                        case atStart => exact ⟨j, 2 * t - 2, fun _ => 0, by omega, by omega, by go_num, rfl, by show _ = _; unfold lensG; rw [HSL.out], HT0, HG, HLV⟩
                        case round =>
                          clear HG HLV HT0
                          obtain ⟨kk, T, g, hkk, hT, rfl, rfl, HF, HT, HG, HLV⟩ := hrel
                          by_cases hk0 : 1 ≤ kk
                          · obtain ⟨kp, rfl⟩ : ∃ kp, kk = kp + 1 := ⟨kk - 1, by omega⟩
                            have ekp : ((kp + 1 : Nat) : Int) - 1 = (kp : Int) := by omega
                            rw [ekp]
                            obtain ⟨QA, qn, qc, hqv, hqi, hqn⟩ := HLV.out.lvs kp (by omega)
                            have hTl : T ≤ qn := by have := HT.out.1 (by omega); rw [show kp + 1 - 1 = kp from rfl] at this; rw [← hqi.len]; exact this
                            have hql : qn ≤ 639 := by have := hqi.len; have := lv_few (S := S) (by rw [HSL.out]; omega) (by rw [HSL.out]; omega) kp; omega
                            have qix := run_index el_rows HLV.out.own.seg.at_ j .i64 kp (by omega)
                            rw [Nat.mul_one] at qix
                            have qcell := HLV.out.own.seg.cell kp _ hqv
                            have qcut := run_cut_h el_item QA qn qc .i64 (T : Int) T rfl (by have := hqi.le; omega)
                            have HPRE : Hid (∀ W, Items W QA qn qc (lv S kp) → Items W QA T qc ((lv S kp).take T)) := fun W h => h.pre hTl
                            have HQV := Lib.hid hqv
                            have HQN := Lib.hid hqn
                            clear hqv hqi hqn ekp
                            go_wp2
                            clear qcut qcell qix
                            obtain ⟨wo, rfl⟩ : ∃ wo : World, wo = wr := ⟨_, rfl⟩
                            have HG0 : Hid (GSt w wo bx CA k cc zs UA t uc (tab t d1) LA (stepG 0 g)) := by rw [stepG_zero]; exact HG
                            go_loopw [19, 135] (fun v i wr => ∃ i' tk : Nat, i' ≤ T ∧ tk ≤ i' ∧ v = .int .i64 tk ∧ i = .int .i64 i' ∧ Hid (tk = sy ((lv S kp).take i')) ∧ Hid (GSt w wr bx CA k cc zs UA t uc (tab t d1) LA (stepG tk g)) ∧ Hid (LvSt wr bx VA j vs LA S j)) (fun _ i _ => T - (intOf i).toNat)
                            case atStart => exact ⟨0, 0, by omega, by omega, rfl, rfl, rfl, HG0, HLV⟩
                            case round =>
                              clear HG HLV HG0
                              obtain ⟨i, tk, hi, htk, rfl, rfl, HTK, HG, HLV⟩ := hrel
                              by_cases hlt6 : i < T
                              · obtain ⟨QA', qn', qc', hqv', hqi, hqn⟩ := HLV.out.lvs kp (by omega)
                                rw [HQV.out] at hqv'
                                injection hqv' with hqv'
                                injection hqv' with e1 e2 e3
                                subst e1 e2 e3
                                have hpre := HPRE.out wr hqi
                                have hlen := hpre.len
                                obtain ⟨x, hx⟩ : ∃ x, ((lv S kp).take T)[i]? = some x := ⟨_, List.getElem?_eq_getElem (by omega)⟩
                                have HXI : Hid ((lv S kp)[i]? = some x) := by rw [List.getElem?_take_of_lt hlt6] at hx; exact hx
                                obtain ⟨cx0, cx1⟩ := hpre.cells hx
                                have xix := hpre.ix i (i : Int) rfl hlt6
                                obtain ⟨xv, xb⟩ := x
                                simp only at cx0 cx1
                                have hst := sy_succ HXI.out
                                have hstl := lv_sy_take HSY.out kp (i + 1)
                                rw [HSL.out] at hstl
                                rw [← HTK.out] at hst
                                have hal : Upd [] wr (wr.alloc (.cells #[.int .i64 xv, .bool xb] 154)) := (Upd.refl [] wr).alloc _
                                have HGA := Lib.hid (HG.out.grow hal)
                                have HLA := Lib.hid (HLV.out.grow hal)
                                obtain ⟨gx, hgx⟩ : ∃ gx, gx = wr.heap.size := ⟨_, rfl⟩
                                clear hpre hlen hx hqi hqn
                                cases xb with
                                | true =>
                                  have htt : tk < t := by simp only [if_true] at hst; omega
                                  have uix := (Ints.ofOwn HGA.out.used).index el_int uc .i64 tk htt
                                  have ucell := (Ints.ofOwn HGA.out.used).cell (tab_get d1 htt)
                                  obtain ⟨hx0, hxk⟩ := HGD.out tk htt
                                  obtain ⟨p, hp⟩ := Int.eq_ofNat_of_zero_le hx0
                                  rw [hp] at ucell hxk
                                  have hpk : p < k := by omega
                                  have HPT : Hid ((tab t d1)[tk]? = some (p : Int)) := by rw [← hp]; exact tab_get d1 htt
                                  have lix := (Ints.ofOwn HGA.out.lens).index el_int k .i64 p hpk
                                  have lcell := HGA.out.lenCell hpk
                                  have lfz := HGA.out.lens.frozen (by omega) p
                                  have hra := HGA.out.raise HC.out HND1.out HPT.out hpk
                                  have hobl := HGA.out.lens.obl (by omega)
                                  obtain ⟨lv0, hlv0⟩ : ∃ lv0, lv0 = LF (tab t d1) (stepG tk g) p := ⟨_, rfl⟩
                                  have hlvb : 0 ≤ lv0 ∧ lv0 ≤ 15 := by
                                    rw [hlv0, LF_at HND1.out HPT.out]
                                    unfold stepG
                                    rw [if_neg (by omega)]
                                    have := HT.out.2 tk
                                    omega
                                  have hlu : Upd [some (bl LA)] (wr.alloc (.cells #[.int .i64 xv, .bool true] 154)) ((wr.alloc (.cells #[.int .i64 xv, .bool true] 154)).setCell ⟨bl LA, ofs LA + p, none⟩ (.int .i64 (lv0 + 1))) := (Upd.refl _ _).setCell (p := ⟨bl LA, ofs LA + p, none⟩) (Or.inl (by simp)) _
                                  have HLB := Lib.hid (HLA.out.lens hlu hobl (fun e => HLA.out.own.neOwn HGA.out.lens (by decide) e hobl))
                                  rw [← hlv0] at lcell hra
                                  have HRA := Lib.hid hra
                                  have HST : Hid (tk + 1 = sy ((lv S kp).take (i + 1))) := by show _ = _; rw [hst]; rfl
                                  clear hlv0 hra hobl hlu hp hx0 hxk hst hstl hal hgx
                                  go_wp2
                                  go_roundw
                                  case rel => exact ⟨i + 1, tk + 1, by omega, by omega, by go_num, by go_num, HST, HRA, HLB⟩
                                  case measure => simp [intOf]; omega
                                | false =>
                                  have HST : Hid (tk = sy ((lv S kp).take (i + 1))) := by show _ = _; rw [hst]; rfl
                                  clear hst hstl hal hgx
                                  go_wp2
                                  go_roundw
                                  case rel => exact ⟨i + 1, tk, by omega, by omega, rfl, by go_num, HST, HGA, HLA⟩
                                  case measure => simp [intOf]; omega
                              · obtain rfl : i = T := by omega
                                have hroom : 0 < kp → 2 * (i - tk) ≤ (lv S (kp - 1)).length := fun h => by
                                  obtain ⟨kq, rfl⟩ : ∃ kq, kp = kq + 1 := ⟨kp - 1, by omega⟩
                                  have := lv_room HSY.out kq i (by have := HT.out.1 (by omega); exact this)
                                  rw [← HTK.out] at this
                                  exact this
                                have HROOM := Lib.hid hroom
                                clear hroom
                                go_wp2
                                go_roundw
                                case rel =>
                                  refine ⟨kp, 2 * (i - tk), stepG tk g, by omega, by omega, by go_num, rfl, ?_, ⟨HROOM.out, ?_⟩, HG, HLV⟩
                                  · have := HF.out
                                    rw [fin, ← HTK.out] at this
                                    exact this
                                  · intro x
                                    have := HT.out.2 x
                                    unfold stepG
                                    split <;> omega
                                case measure => simp [intOf]
                          · obtain rfl : kk = 0 := by omega
                            go_wp2
                            go_ret2
                            have hfin : g = lensG S j := HF.out
                            have hlens := HG.out.lens
                            rw [hfin, HSE.out] at hlens
                            refine Or.inr ⟨HE.out, LA, k, _, rfl, hlens.monoB (by have := HBX.out; omega), ?_, HG.out.upd⟩
                            rw [Int.toNat_natCast, ← HL.out]
                            exact lens_ok hM1 hM2 (by rw [HL.out, ← HUS.out]; exact HPM.out) HSD.out (by rw [HL.out]; omega) HB2.out hun2 HFIT.out

end Go.Proofs.YtolcdlopgbgilaaDoor

/-! Text InfJ. -/
namespace Go.Proofs.YtolcdlopgbgilaaDoor
open Go.RowKit Go.Dray

/-- The variable order, as the program's text lays it. -/
def OrdI (w : World) : Prop := ∀ i, i < 19 → w.cell? ⟨1, i, none⟩ = some (.int .i64 (orderL.getD i 0 : Nat))
theorem OrdI.low {w : World} (h : OrdI w) : 1 < w.heap.size := cell_lt (h 0 (by omega))
theorem OrdI.upd {w w' : World} (h : OrdI w) (hu : Upd [] w w') : OrdI w' := fun i hi => hu.cell (h i hi) (by simp)

/-- What Inflate hands back. -/
def InflPost (w : World) (ys : List Int) (n : Nat) (most : Int) (F : Nat) (e : Ending) (w' : World) : Prop :=
  Upd [] w w' ∧ ((¬ (0 ≤ most ∧ most ≤ 16777216) ∧ e = .returned (.tuple #[.slice none 0 0, .int .i64 0, .int .i64 1])) ∨
    (0 ≤ most ∧ most ≤ 16777216 ∧ ∃ x, x ≠ 0 ∧ run (bitsOf ys) most.toNat (infPr F F) 0 [] = .err x ∧ e = .returned (.tuple #[.slice none 0 0, .int .i64 0, .int .i64 x])) ∨
    (0 ≤ most ∧ most ≤ 16777216 ∧ ∃ out p A on oc, run (bitsOf ys) most.toNat (infPr F F) 0 [] = .ok out p ∧ e = .returned (.tuple #[.slice A on oc, .int .i64 ((p + 7) / 8 : Nat), .int .i64 0]) ∧
      Ints .u8 w' A on out ∧ on ≤ oc ∧ oc ≤ maxLen ∧ (∀ z ∈ out, 0 ≤ z ∧ z ≤ 255) ∧ (∀ x, ob A = some x → w.heap.size ≤ x) ∧ p ≤ 8 * n ∧ on ≤ most.toNat))

set_option maxRecDepth 100000 in
set_option maxHeartbeats 4000000 in
theorem inflate_any (A : Option Addr) (n c : Nat) (ys : List Int) (most : Int) (w : World) (hs : Ints .u8 w A n ys) (hb : ∀ z ∈ ys, 0 ≤ z ∧ z ≤ 255) (ho : OrdI w) (hn : n ≤ 1000000000000) (F : Nat) (hF : 8 * n < F) :
    Calls Tryd.prog 12 #[.slice A n c, .int .i64 most] w (InflPost w ys n most F) := by
  have HS := Lib.hid hs
  have HB := Lib.hid hb
  have HO := Lib.hid ho
  clear hs hb ho
  by_cases hneg : most < 0
  · go_enter Tryd.func12, Tryd.ntmps12
    go_wp2
    go_ret3
    exact ⟨Upd.refl _ _, Or.inl ⟨by omega, rfl⟩⟩
  · by_cases hbig : 16777216 < most
    · go_enter Tryd.func12, Tryd.ntmps12
      go_wp2
      go_ret3
      exact ⟨Upd.refl _ _, Or.inl ⟨by omega, rfl⟩⟩
    · obtain ⟨M, rfl⟩ := Int.eq_ofNat_of_zero_le (show 0 ≤ most by omega)
      have hM : M ≤ 16777216 := by omega
      have d1 : decide ((M : Int) < 0) = false := by simp
      have d2 : decide ((16777216 : Int) < M) = false := by simp; omega
      clear hneg hbig
      go_enter Tryd.func12, Tryd.ntmps12
      go_wp2_with fail
      refine (newReader_any A n c ys w HS.out (by omega)).mono ?_
      rintro e w1 ⟨g, RA, rc, rfl, hg, hr1, hv1⟩
      have HG := Lib.hid hg
      obtain ⟨u, hu⟩ : ∃ u, u = w1.heap.size := ⟨_, rfl⟩
      obtain ⟨w2, hw2⟩ : ∃ w2 : World, w2 = w1.alloc (.cells #[.pointer (some ⟨g, 0, none⟩), .slice none 0 0, .int .i64 M] 55) := ⟨_, rfl⟩
      have hb2 : Blk w2 u 55 #[.pointer (some ⟨g, 0, none⟩), .slice none 0 0, .int .i64 M] := by rw [hw2, hu]; exact Blk.new _ _ _
      have hv2 : Upd [] w1 w2 := by rw [hw2]; exact (Upd.refl _ _).alloc _
      have HUB : Hid (w.heap.size ≤ u) := by rw [hu]; exact hv1.size
      have HU2 : Hid (USt w2 w.heap.size u g RA n rc ys M 0 none 0 0 []) := ⟨hb2, hr1.upd hv2 (by simp) (by simp), Own.nil _ _ _ _, fun x hx => (by cases hx), Nat.zero_le _, Nat.zero_le _, HB.out, hn, hM, by simp, (hv1.trans hv2).size⟩
      have HV2 : Hid (Upd [] w w2) := hv1.trans hv2
      have HO2 : Hid (OSt w2 w.heap.size u g) := ⟨HO.out.upd HV2.out, HO.out.low, HUB.out, hg⟩
      clear hb2 hv2 hr1 hv1 hg
      go_wp2
      rw [← hw2, ← hu]
      clear hw2 hu
      go_loopw [8] (fun v wr => ∃ (last : Int) (q : Nat) (OA : Option Addr) (on oc : Nat) (o : List Int), v = .int .i64 last ∧ (last = 0 ∨ last = 1) ∧ q ≤ 8 * n ∧ Hid (USt wr w.heap.size u g RA n rc ys M q OA on oc o) ∧ Hid (Upd [] w wr ∧ OSt wr w.heap.size u g) ∧ Hid (if last = 0 then ∃ f, 8 * n - q < f ∧ run (bitsOf ys) M (infPr F F) 0 [] = run (bitsOf ys) M (infPr F f) q o else run (bitsOf ys) M (infPr F F) 0 [] = .ok o q))
        (fun v wr => if intOf v = 0 then 8 * n + 1 - (intOf ((wr.cell? ⟨g, 1, none⟩).getD undef)).toNat else 0)
      case atStart => exact ⟨0, 0, none, 0, 0, [], rfl, Or.inl rfl, by omega, HU2, ⟨HV2.out, HO2.out⟩, by show ite _ _ _; rw [if_pos rfl]; exact ⟨F, by omega, rfl⟩⟩
      case round =>
        clear HU2 HV2 HO2
        obtain ⟨last, q, OA, on, oc, o, rfl, hl, hq, HU, HX, HR⟩ := hrel
        have hmeas := HU.out.rd.1.cell 1
        simp at hmeas
        have hc0 := HU.out.blk.cell 0
        have hc1 := HU.out.blk.cell 1
        simp at hc0 hc1
        rcases hl with rfl | rfl
        · have hR := HR.out
          rw [if_pos rfl] at hR
          obtain ⟨f, hf, hrun⟩ := hR
          obtain ⟨f', rfl⟩ : ∃ f', f = f' + 1 := ⟨f - 1, by omega⟩
          have HRUN := Lib.hid hrun
          clear hrun HR
          go_wp2_with fail
          refine (take_any HU.out 1 (by omega)).mono ?_
          rintro e w3 (⟨hl3, rfl, hr3, hv3⟩ | ⟨hl3, rfl, hr3, hv3⟩)
          · have hnb := num_bd ((bitsOf ys).drop q) 1 1 (Nat.le_refl _)
            obtain ⟨v, hv⟩ : ∃ v, v = num (((bitsOf ys).drop q).take 1) := ⟨_, rfl⟩
            rw [← hv] at hnb ⊢
            have hv01 : v = 0 ∨ v = 1 := by have := hnb.1; have := hnb.2; omega
            have HS3 : Hid (run (bitsOf ys) M (infPr F F) 0 [] = run (bitsOf ys) M (blockPr F (if v = 0 then infPr F f' else .done)) (q + 1) o) := by
              show _ = _
              rw [HRUN.out, infPr, run_take_ok (by rw [HU.out.bits]; exact hl3), ← hv]
            have HU3 := Lib.hid (HU.out.read hr3 hv3 hl3)
            have HV3 : Hid (Upd [] w w3) := HX.out.1.then hv3 (by intro b hb; simp at hb; rw [hb]; exact Or.inr HG.out)
            have HO3 := Lib.hid (HX.out.2.upd hv3 (by intro b hb; simp at hb; rw [hb]; exact HG.out))
            clear hr3 hv3 hv hnb HRUN HX hc0 hc1
            go_wp2_with fail
            refine (block_any HU3.out HO3.out F (by omega)).mono ?_
            rintro e w4 ⟨err, p4, OA4, on4, oc4, o4, rfl, hu4, hv4, hf4, hres⟩
            have hL : ∀ b, some b ∈ [some u, some g, ob OA] → w.heap.size ≤ b := by
              intro b hb
              simp at hb
              rcases hb with rfl | rfl | hb
              · exact HUB.out
              · exact HG.out
              · exact (HU3.out.own.base hb.symm).1
            have HV4 : Hid (Upd [] w w4) := HV3.out.then hv4 (fun b hb => Or.inr (hL b hb))
            have HO4 := Lib.hid (HO3.out.upd hv4 hL)
            have HU4 := Lib.hid hu4
            clear hv4 hL hu4
            rcases hres with ⟨he, hrun⟩ | ⟨rfl, hp4, hrun⟩
            · have hde : (err != 0) = true := by simp [he]
              go_wp2
              go_ret3
              exact ⟨HV4.out, Or.inr (Or.inl ⟨by omega, by omega, err, he, by rw [Int.toNat_natCast, HS3.out, hrun], rfl⟩)⟩
            · have HS4 : Hid (run (bitsOf ys) M (infPr F F) 0 [] = run (bitsOf ys) M (if v = 0 then infPr F f' else .done) p4 o4) := by show _ = _; rw [HS3.out, hrun]
              have hm4 := HU4.out.rd.1.cell 1
              simp at hm4
              have hp48 := HU4.out.pos
              clear hrun HS3
              go_wp2
              go_roundw
              case rel =>
                refine ⟨v, p4, OA4, on4, oc4, o4, rfl, hv01, hp48, HU4, ⟨HV4.out, HO4.out⟩, ?_⟩
                show ite _ _ _
                by_cases hv0 : v = 0
                · rw [if_pos hv0]
                  refine ⟨f', by omega, ?_⟩
                  rw [HS4.out, if_pos hv0]
                · rw [if_neg hv0, HS4.out, if_neg hv0, run]
              case measure => simp [intOf, hmeas, hm4]; split <;> omega
          · go_wp2
            go_ret3
            exact ⟨HX.out.1.then hv3 (by intro b hb; simp at hb; rw [hb]; exact Or.inr HG.out), Or.inr (Or.inl ⟨by omega, by omega, 2, by decide, by rw [Int.toNat_natCast, HRUN.out, infPr, run_take_no (by rw [HU.out.bits]; exact hl3)], rfl⟩)⟩
        · have hR := HR.out
          rw [if_neg (by decide)] at hR
          have HRUN := Lib.hid hR
          clear hR HR
          have cut := run_cut_hm el_byte OA on oc .i64 .i64 (on : Int) (on : Int) on on rfl rfl (Nat.le_refl _) HU.out.own.le
          have hrb := HU.out.rb
          have HRD := Lib.hid HU.out.rd
          go_wp2
          go_quiet ((go_at_call 26; exact quietL (at_any (HRD.out.drewN _))))
          go_wp2
          go_ret3
          refine ⟨HX.out.1.drewN _, Or.inr (Or.inr ⟨by omega, by omega, o, q, OA, on, on, by rw [Int.toNat_natCast]; exact HRUN.out, ?_, (Ints.ofOwn HU.out.own).drewN _, Nat.le_refl _, by have := HU.out.room; simp only [maxLen]; omega, HU.out.obd, fun x hx => (HU.out.own.base hx).1, hq, by rw [Int.toNat_natCast]; exact HU.out.room⟩)⟩
          rw [show (((q + 7) / 8 : Nat) : Int) = ((q : Int) + 7) / 8 from by omega]
          rfl

end Go.Proofs.YtolcdlopgbgilaaDoor

/-! Text InfK. -/
namespace Go.Proofs.YtolcdlopgbgilaaDoor
open Go.RowKit Go.Dray

theorem inBytes_bd {W : World} {A : Option Addr} {n c : Nat} {zs : List Int} (h : InInts .u8 W A n c zs) : ∀ z ∈ zs, 0 ≤ z ∧ z ≤ 255 := fun z hz => bounds_u8 (h.2.2.2 z hz)

theorem run_take_val {bs : List Bool} {most n p : Nat} {k : Int → Pr} {o : List Int} (v : Int) (h : p + n ≤ bs.length) (hv : num ((bs.drop p).take n) = v) : run bs most (.take n k) p o = run bs most (k v) (p + n) o := by rw [run, if_pos h, hv]

def aw1 : List Int := [1, 1, 0, 254, 255, 97]
def aw2 : List Int := [75, 4, 0, 9]
theorem aw1_run (F f : Nat) : run (bitsOf aw1) 10 (infPr F (f + 1)) 0 [] = .ok [97] 48 := by
  have hl : (bitsOf aw1).length = 48 := by rw [bitsOf_len]; rfl
  rw [infPr, run_take_val 1 (by rw [hl]; decide) (by decide +kernel)]
  unfold blockPr
  rw [run_take_val 0 (by rw [hl]; decide) (by decide +kernel), if_pos rfl]
  unfold storedPr
  rw [run, show alignUp (0 + 1 + 2) = 8 from rfl]
  rw [run_take_val 1 (by rw [hl]; decide) (by decide +kernel), run_take_val 65534 (by rw [hl]; decide) (by decide +kernel), if_neg (by decide), run]
  rw [show alignUp (8 + 16 + 16) = 40 from rfl, if_pos (by rw [hl]; decide), run, show bytesAt (bitsOf aw1) 40 (Int.toNat 1) = [97] from by decide +kernel, if_pos (by decide), if_neg (by decide), run]
  rfl
theorem aw2_run (F f : Nat) (hF : 2 ≤ F) : run (bitsOf aw2) 10 (infPr F (f + 1)) 0 [] = .ok [97] 18 := by
  have hl : (bitsOf aw2).length = 32 := by rw [bitsOf_len]; rfl
  rw [infPr, run_take_val 1 (by rw [hl]; decide) (by decide +kernel)]
  unfold blockPr
  rw [run_take_val 1 (by rw [hl]; decide) (by decide +kernel), if_neg (by decide), if_pos rfl]
  have hh : Has fixedL 97 := by unfold Has; decide +kernel
  have h256 : Has fixedL 256 := by unfold Has; decide +kernel
  have e := sym_back (bs := bitsOf aw2) (most := 10) (k := if (1 : Int) = 0 then infPr F f else .done) fixedL_chk fixedD_chk h256 [(97, 0)] [] (0 + 1 + 2) F (by rw [hl]; decide)
    (by intro x hx; rw [List.mem_singleton] at hx; subst hx; unfold PieceHas; rw [if_pos rfl]; exact hh) ⟨Or.inl ⟨rfl, by decide, by decide⟩, trivial⟩ ⟨(bitsOf aw2).drop 18, by decide +kernel⟩ (by show 1 < F; omega) (by decide)
  rw [e, if_neg (by decide), run, show (blockBits fixedL fixedD [(97, 0)]).length = 15 from by decide +kernel]
  rfl

theorem str_cut {w : World} {A : Option Addr} {n c : Nat} {zs : List Int} (h : Ints .u8 w A n zs) : (convert 22 9 (.slice A n c)).run Tryd.prog w = .ok (.string (strOfNums zs)) w :=
  h.str Tryd.underlying22 Tryd.underlying5 Tryd.underlying9 c

set_option maxRecDepth 100000 in
set_option maxHeartbeats 1000000 in
theorem awake_any (w : World) (ho : OrdI w) : Calls Tryd.prog 11 #[] w fun e w' => e = .returned (.bool true) ∧ Upd [] w w' := by
  have HO := Lib.hid ho
  clear ho
  obtain ⟨w1, hw1⟩ : ∃ w1 : World, w1 = w.alloc (.cells #[.int .u8 1, .int .u8 1, .int .u8 0, .int .u8 254, .int .u8 255, .int .u8 97] 5) := ⟨_, rfl⟩
  have hs1 : Ints .u8 w1 (some ⟨w.heap.size, 0, none⟩) 6 aw1 := by rw [hw1]; exact (Blk.new _ _ _).seg
  have hu1 : Upd [] w w1 := by rw [hw1]; exact (Upd.refl _ _).alloc _
  go_enter Tryd.func11, Tryd.ntmps11
  go_wp2_with fail
  rw [← hw1]
  refine (inflate_any _ 6 6 aw1 10 w1 hs1 (by decide) (HO.out.upd hu1) (by omega) 49 (by omega)).mono ?_
  rintro e w2 ⟨hu2, ⟨h, _⟩ | ⟨_, _, x, _, hr, _⟩ | ⟨_, _, out, p, A, on, oc, hr, rfl, hi, hon, -, -, hfr, -, -⟩⟩
  · exact absurd h (by decide)
  · rw [show Int.toNat 10 = 10 from rfl, aw1_run] at hr; cases hr
  rw [show Int.toNat 10 = 10 from rfl, aw1_run] at hr
  injection hr with h1 h2
  subst h1 h2
  have hU2 := hu1.trans hu2
  obtain ⟨w3, hw3⟩ : ∃ w3 : World, w3 = w2.alloc (.cells #[.int .u8 75, .int .u8 4, .int .u8 0, .int .u8 9] 5) := ⟨_, rfl⟩
  have hs3 : Ints .u8 w3 (some ⟨w2.heap.size, 0, none⟩) 4 aw2 := by rw [hw3]; exact (Blk.new _ _ _).seg
  have hu3 : Upd [] w2 w3 := by rw [hw3]; exact (Upd.refl _ _).alloc _
  clear hs1 hu1 hw1
  go_wp2_with fail
  rw [← hw3]
  refine (inflate_any _ 4 4 aw2 10 w3 hs3 (by decide) (HO.out.upd (hU2.trans hu3)) (by omega) 33 (by omega)).mono ?_
  rintro e w4 ⟨hu4, ⟨h, _⟩ | ⟨_, _, x, _, hr, _⟩ | ⟨_, _, out, p, A2, on2, oc2, hr, rfl, hi2, hon2, -, -, hfr2, -, -⟩⟩
  · exact absurd h (by decide)
  · rw [show Int.toNat 10 = 10 from rfl, aw2_run _ _ (by omega)] at hr; cases hr
  rw [show Int.toNat 10 = 10 from rfl, aw2_run _ _ (by omega)] at hr
  injection hr with h1 h2
  subst h1 h2
  have hi4 := hi.upd (hu3.trans hu4) (by simp)
  have c1 := str_cut (c := oc) hi4
  have c2 := str_cut (c := oc2) hi2
  have HU := Lib.hid ((hU2.trans hu3).trans hu4)
  have es : strOfNums [97] = { data := #[97] } := rfl
  rw [es] at c1 c2
  clear hi hi2 hi4 hu2 hu3 hu4 hU2 hs3 hw3 hfr hfr2 hon hon2
  go_wp2
  go_ret
  exact ⟨rfl, HU.out⟩

/-- Where Inflate ends is behind the first bit. -/
theorem infl_pos {bs : List Bool} {most F f p : Nat} {out : List Int} (h : run bs most (infPr F (f + 1)) 0 [] = .ok out p) : 1 ≤ p := by
  rw [infPr, run] at h
  split at h
  · exact (run_ge _ h).1
  · cases h

theorem bitsOf_cut (zs : List Int) (k : Nat) (h : k ≤ zs.length) : bitsOf (zs.take k) = (bitsOf zs).take (8 * k) := by
  apply List.ext_getElem?
  intro i
  by_cases hi : i < 8 * k
  · rw [List.getElem?_take_of_lt hi]
    unfold bitsOf
    rw [tab_get _ (by rw [List.length_take]; omega), tab_get _ (by omega)]
    have h1 : (zs.take k).getD (i / 8) 0 = zs.getD (i / 8) 0 := by
      simp only [List.getD, List.getElem?_take_of_lt (show i / 8 < k by omega)]
    rw [h1]
  · rw [List.getElem?_eq_none (by rw [bitsOf_len, List.length_take]; omega), List.getElem?_eq_none (by rw [List.length_take]; omega)]

set_option maxRecDepth 100000 in
set_option maxHeartbeats 1000000 in
theorem inflateShort_walk (A : Option Addr) (n c : Nat) (zs : List Int) (cut : Int) (w : World) (hin : InInts .u8 w A n c zs) (hw : (Lit.int .i64 cut).wf = true) (hT : OrdI w) :
    Calls Tryd.prog 5 #[.slice A n c, .int .i64 cut] w fun e w' => e = .returned (.bool true) ∧ Below w.heap.size w w' := by
  have HZ := Lib.hid (inBytes_bd hin)
  have HT := Lib.hid hT
  have HS := Lib.hid hin.1
  have hnc := hin.2.1
  have HL := hin.1.len
  clear hin hT
  by_cases hn : 300 < n
  · have d1 : decide ((300 : Int) < n) = true := by simp; omega
    go_enter Tryd.func5, Tryd.ntmps5
    go_wp2_with (go_at_call 11; refine (awake_any _ HT.out).mono ?_; rintro e w1 ⟨rfl, hu1⟩)
    go_ret
    exact ⟨rfl, hu1.below (Nat.le_refl _) (by simp)⟩
  · have d1 : decide ((300 : Int) < n) = false := by simp; omega
    go_enter Tryd.func5, Tryd.ntmps5
    go_wp2_with (first | (go_at_call 11; refine (awake_any _ HT.out).mono ?_; rintro e w1 ⟨rfl, hu1⟩) | fail)
    have HT1 := Lib.hid (HT.out.upd hu1)
    have HS1 := Lib.hid (HS.out.upd hu1 (by simp))
    have HU1 := Lib.hid hu1
    clear hu1
    refine (inflate_any A n c zs 5000 w1 HS1.out HZ.out HT1.out (by omega) (8 * n + 1) (by omega)).mono ?_
    rintro e w2 ⟨hu2, ⟨h, _⟩ | ⟨_, _, x, hx0, hr, rfl⟩ | ⟨_, _, out, p, A1, on, oc, hr, rfl, hi, hon, -, -, hfr, hp8, -⟩⟩
    · exact absurd h (by decide)
    · have dx : (x != 0) = true := by simp [hx0]
      go_wp2
      go_ret
      exact ⟨rfl, (HU1.out.trans hu2).below (Nat.le_refl _) (by simp)⟩
    · have HR := Lib.hid hr
      have HU2 := Lib.hid (HU1.out.trans hu2)
      have HS2 := Lib.hid (HS1.out.upd hu2 (by simp))
      have HT2 := Lib.hid (HT1.out.upd hu2)
      have HP := Lib.hid (infl_pos hr)
      clear hr hu2 hi hfr
      by_cases hc0 : cut < 0
      · have d2 : decide (cut < 0) = true := by simp [hc0]
        go_wp2
        go_ret
        exact ⟨rfl, HU2.out.below (Nat.le_refl _) (by simp)⟩
      · have d2 : decide (cut < 0) = false := by simp; omega
        obtain ⟨k, rfl⟩ := Int.eq_ofNat_of_zero_le (show 0 ≤ cut by omega)
        obtain ⟨used, hus⟩ : ∃ used, used = (p + 7) / 8 := ⟨_, rfl⟩
        rw [← hus]
        have HUS := Lib.hid hus
        clear hus hc0
        by_cases hcu : used ≤ k
        · have d3 : decide ((used : Int) ≤ k) = true := by simp; omega
          go_wp2
          go_ret
          exact ⟨rfl, HU2.out.below (Nat.le_refl _) (by simp)⟩
        · have d3 : decide ((used : Int) ≤ k) = false := by simp; omega
          have hkn : k ≤ n := by have := HUS.out; omega
          have cut1 := run_cut_h el_byte A n c .i64 (k : Int) k rfl (by omega)
          have HSK : Hid (Ints .u8 w2 A k (zs.take k)) := HS2.out.pre hkn
          have HRK : Hid (run (bitsOf (zs.take k)) 5000 (infPr (8 * n + 1) (8 * n + 1)) 0 [] = .err 2) := by
            show _ = _
            have := HUS.out
            rw [bitsOf_cut zs k (by rw [HL.out]; exact hkn)]
            exact run_cut _ HR.out (by omega) (by omega) (by rw [bitsOf_len, HL.out]; omega)
          clear HR
          go_wp2_with fail
          refine (inflate_any A k c (zs.take k) 5000 w2 HSK.out (fun z hz => HZ.out z (List.mem_of_mem_take hz)) HT2.out (by omega) (8 * n + 1) (by omega)).mono ?_
          rintro e w3 ⟨hu3, ⟨h, _⟩ | ⟨_, _, x, hx0, hr, rfl⟩ | ⟨_, _, out, p, A1, on, oc, hr, rfl, hi, hon, -, -, hfr, hp8, -⟩⟩
          · exact absurd h (by decide)
          · rw [show Int.toNat 5000 = 5000 from rfl, HRK.out] at hr
            injection hr with hr
            subst hr
            have HU3 := Lib.hid (HU2.out.trans hu3)
            clear hu3
            go_wp2
            go_ret
            exact ⟨rfl, HU3.out.below (Nat.le_refl _) (by simp)⟩
          · rw [show Int.toNat 5000 = 5000 from rfl, HRK.out] at hr
            cases hr

end Go.Proofs.YtolcdlopgbgilaaDoor
