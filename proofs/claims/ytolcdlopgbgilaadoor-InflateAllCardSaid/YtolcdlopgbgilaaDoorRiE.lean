/- The reference's Inflate: stored. -/
import Derived.Test.YtolcdlopgbgilaaDoorRiD
import Derived.Test.YtolcdlopgbgilaaDoorStepCall
namespace Go.Proofs.YtolcdlopgbgilaaDoor
open Go.RowKit Go.Dray

theorem bytesAt_succ (bs : List Bool) (p n : Nat) : bytesAt bs p (n + 1) = bytesAt bs p n ++ [num ((bs.drop (p + 8 * n)).take 8)] := by unfold bytesAt; rw [tab_succ]
theorem bytesAt_len (bs : List Bool) (p n : Nat) : (bytesAt bs p n).length = n := tab_len _ _

theorem run_alignR {bs : List Bool} {most p : Nat} {o : List Int} {k : Pr} : run bs most (.align k) p o = run bs most k (alignUp p) o := by rw [run]

set_option maxRecDepth 100000 in
set_option maxHeartbeats 4000000 in
theorem rstored_any {w : World} {B s : Nat} {X : Option Addr} {xc : Nat} {bs : List Bool} {p : Nat} {OA : Option Addr} {on oc : Nat} {o : List Int} {most : Nat} (h : RSt w B s X xc bs p OA on oc o most 0) (h8 : bs.length % 8 = 0) :
    Calls Tryd.prog 29 #[.pointer (some ⟨s, 0, none⟩)] w (RGoPost w B s X xc bs p OA o most storedPr) := by
  have HS := Lib.hid h
  have hp := h.pos
  have hbl := h.blen
  have hau : alignUp p ≤ bs.length := by unfold alignUp; omega
  have hage := alignUp_ge p
  obtain ⟨q, hq⟩ : ∃ q, q = alignUp p := ⟨_, rfl⟩
  have HQ := Lib.hid hq
  have hq8 : q % 8 = 0 := by rw [hq]; unfold alignUp; omega
  have hqp : p ≤ q ∧ q < p + 8 := by rw [hq]; unfold alignUp; omega
  rw [← hq] at hau
  clear h hq hage
  go_enter Tryd.func29, Tryd.ntmps29
  go_wp2
  go_loopw [5] (fun _ wr => ∃ r : Nat, p ≤ r ∧ r ≤ q ∧ Hid (RSt wr B s X xc bs r OA on oc o most 0) ∧ Hid (Upd [some s] w wr)) (fun _ wr => q - (intOf ((wr.cell? ⟨s, 1, none⟩).getD undef)).toNat)
  case atStart => exact ⟨p, by omega, by omega, HS, Upd.refl _ _⟩
  case round =>
    clear HS
    obtain ⟨r, hr1, hr2, HS, HU⟩ := hrel
    have c1 := HS.out.blk.cell 1
    have f1 := HS.out.blk.frozen 1
    simp at c1
    by_cases hr8 : r % 8 = 0
    · obtain rfl : r = q := by omega
      have d0 : ((r : Int) % 8 != 0) = false := by simp; omega
      go_wp2_with fail
      refine (number_any HS.out 16 (by omega)).mono ?_
      rintro e w1 ⟨v1, p1, err1, rfl, hs1, hv1, hp1, hv10, hv1n, hc1⟩
      have HS1 := Lib.hid hs1
      have HU1 := Lib.hid (HU.out.trans hv1)
      have HC1 := Lib.hid hc1
      clear hs1 hv1 hc1 c1 f1 HU
      go_wp2_with fail
      refine (number_any HS1.out 16 (by omega)).mono ?_
      rintro e w2 ⟨v2, p2, err2, rfl, hs2, hv2, hp2, hv20, hv2n, hc2⟩
      have HS2 := Lib.hid hs2
      have HU2 := Lib.hid (HU1.out.trans hv2)
      have HK2 : Hid ((err2 = 0 ∧ p2 = r + 16 + 16 ∧ ∀ K, run bs most (storedPr K) p o = run bs most (if v2 ≠ 65535 - v1 then .fail 3 else .bytes v1.toNat fun b => .emit b K) p2 o) ∨ (err2 ≠ 0 ∧ ∀ K, run bs most (storedPr K) p o = .err err2)) := by
        have e0 : ∀ K, run bs most (storedPr K) p o = run bs most (.take 16 fun n => .take 16 fun m => if m ≠ 65535 - n then .fail 3 else .bytes n.toNat fun b => .emit b K) r o := fun K => by unfold storedPr; rw [run_alignR, ← HQ.out]
        rcases HC1.out with ⟨h, _⟩ | ⟨_, h1, rfl, rfl, h2⟩ | ⟨_, h1, rfl, rfl, h2⟩
        · exact absurd rfl h
        · rcases hc2 with ⟨h, _⟩ | ⟨_, h3, rfl, rfl, h4⟩ | ⟨_, h3, rfl, rfl, h4⟩
          · exact absurd rfl h
          · exact Or.inl ⟨rfl, rfl, fun K => by rw [e0, run_take_ok h1, run_take_ok h3, ← h2, ← h4]⟩
          · exact Or.inr ⟨by decide, fun K => by rw [e0, run_take_ok h1, run_take_no h3]⟩
        · rcases hc2 with ⟨_, h3, h4, h5⟩ | ⟨h, _⟩ | ⟨h, _⟩
          · rw [h3]; exact Or.inr ⟨by decide, fun K => by rw [e0, run_take_no h1]⟩
          · exact absurd h (by decide)
          · exact absurd h (by decide)
      clear hs2 hv2 hc2 HC1 HS1 HU1
      go_wp2_with fail
      refine (bad_any HS2.out (v2 != 65535 - v1) 3 (by decide)).mono ?_
      rintro e w3 ⟨rfl, hs3, hv3⟩
      obtain ⟨err3, h3⟩ : ∃ err3, err3 = badE err2 (v2 != 65535 - v1) 3 := ⟨_, rfl⟩
      rw [← h3] at hs3
      have HK3 : Hid ((err3 = 0 ∧ p2 = r + 16 + 16 ∧ ∀ K, run bs most (storedPr K) p o = run bs most (.bytes v1.toNat fun b => .emit b K) p2 o) ∨ (err3 ≠ 0 ∧ ∀ K, run bs most (storedPr K) p o = .err err3)) := by
        rcases HK2.out with ⟨h1, h4, h2⟩ | ⟨h1, h2⟩
        · rw [h1] at h3
          by_cases hne : v2 = 65535 - v1
          · rw [show (v2 != 65535 - v1) = false from by simp [hne], badE_false] at h3
            exact Or.inl ⟨h3, h4, fun K => by rw [h2, if_neg (fun h => h hne)]⟩
          · rw [show (v2 != 65535 - v1) = true from by simp [hne], badE_true] at h3
            exact Or.inr ⟨by omega, fun K => by rw [h2, if_pos hne, run, h3]⟩
        · rw [badE_err h1] at h3
          exact Or.inr ⟨by omega, fun K => by rw [h2, h3]⟩
      have HS3 := Lib.hid hs3
      have HU3 := Lib.hid (HU2.out.trans hv3)
      have k4 := hs3.blk.cell 4
      simp at k4
      clear hs3 hv3 h3 HK2 HS2 HU2
      by_cases he3 : err3 = 0
      · subst he3
        obtain ⟨-, hp232, hrun⟩ : _ ∧ _ ∧ _ := by rcases HK3.out with h | ⟨h, _⟩; exact h; exact absurd rfl h
        have HR3 := Lib.hid hrun
        have HA2 : Hid (alignUp p2 = p2) := by show _ = _; unfold alignUp; omega
        clear hrun HK3
        obtain ⟨N, rfl⟩ := Int.eq_ofNat_of_zero_le hv10
        have hN : N ≤ 70000 := by omega
        clear hv1n hv2n hv20
        have k0 := HS3.out.blk.cell 0
        have k1 := HS3.out.blk.cell 1
        have k2 := HS3.out.blk.cell 2
        have k3 := HS3.out.blk.cell 3
        simp at k0 k1 k2 k3
        obtain ⟨bn, hbn⟩ : ∃ bn, bn = bs.length := ⟨_, rfl⟩
        have HBN := Lib.hid hbn
        rw [← hbn] at k0 hau hbl
        have hp2l : p2 ≤ bn := by rw [hbn]; exact HS3.out.pos
        have hroom := HS3.out.room0 rfl
        have hmb := HS3.out.mb
        have kf4 := HS3.out.blk.frozen 4
        clear hbn
        by_cases hshort : (bn : Int) - p2 < 8 * N
        · have ds : decide ((bn : Int) - p2 < 8 * N) = true := by simp; omega
          have HE : Hid (∀ K, run bs most (storedPr K) p o = .err 2) := fun K => by
            rw [HR3.out, run, HA2.out, if_neg (by rw [← HBN.out]; omega)]
          go_wp2
          go_quiet (fail)
          have HS4 := Lib.hid (HS3.out.drewN nq)
          have HU4 : Hid (Upd [some s] w (w3.drewN nq)) := HU3.out.drewN nq
          have k4' : (w3.drewN nq).cell? ⟨s, 4, none⟩ = some (.int .i64 0) := k4
          have kf4' : (w3.drewN nq).frozen? ⟨s, 4, none⟩ = false := kf4
          generalize w3.drewN nq = w4 at HS4 HU4 k4' kf4' ⊢
          clear k0 k1 k2 k3 k4 kf4 HS3 HU3
          go_wp2
          go_end0
          exact ⟨p2, OA, on, oc, o, 2, rfl, HS4.out.err (by decide), (HU4.out.trans (HS4.out.put 4 _)).two, Fresh.refl _ _, Or.inl ⟨by decide, HE.out⟩⟩
        · have ds : decide ((bn : Int) - p2 < 8 * N) = false := by simp; omega
          go_wp2
          go_quiet (fail)
          have HS4 := Lib.hid (HS3.out.drewN nq)
          have HU4 : Hid (Upd [some s] w (w3.drewN nq)) := HU3.out.drewN nq
          have k4' : (w3.drewN nq).cell? ⟨s, 4, none⟩ = some (.int .i64 0) := k4
          have k2' : (w3.drewN nq).cell? ⟨s, 2, none⟩ = some (.slice OA on oc) := k2
          have k3' : (w3.drewN nq).cell? ⟨s, 3, none⟩ = some (.int .i64 most) := k3
          have kf4' : (w3.drewN nq).frozen? ⟨s, 4, none⟩ = false := kf4
          generalize w3.drewN nq = w4 at HS4 HU4 k4' k2' k3' kf4' ⊢
          clear k0 k1 k2 k3 k4 kf4 HS3 HU3
          by_cases hlarge : (most : Int) - on < N
          · have dl : decide ((most : Int) - on < N) = true := by simp; omega
            have HE : Hid (∀ K, run bs most (storedPr K) p o = .err 4) := fun K => by
              rw [HR3.out, run, HA2.out, if_pos (by rw [← HBN.out]; omega), run, bytesAt_len, HS4.out.olen, if_neg (by omega)]
            go_wp2
            go_quiet (fail)
            have HS5 := Lib.hid (HS4.out.drewN nq)
            have HU5 : Hid (Upd [some s] w (w4.drewN nq)) := HU4.out.drewN nq
            have k4 : (w4.drewN nq).cell? ⟨s, 4, none⟩ = some (.int .i64 0) := k4'
            have kf4 : (w4.drewN nq).frozen? ⟨s, 4, none⟩ = false := kf4'
            generalize w4.drewN nq = w5 at HS5 HU5 k4 kf4 ⊢
            clear k4' k2' k3' kf4' HS4 HU4
            go_wp2
            go_end0
            exact ⟨p2, OA, on, oc, o, 4, rfl, HS5.out.err (by decide), (HU5.out.trans (HS5.out.put 4 _)).two, Fresh.refl _ _, Or.inl ⟨by decide, HE.out⟩⟩
          · have dl : decide ((most : Int) - on < N) = false := by simp; omega
            have HE : Hid (∀ K, run bs most (storedPr K) p o = run bs most K (p2 + 8 * N) (o ++ bytesAt bs p2 N)) := fun K => by
              rw [HR3.out, run, HA2.out, if_pos (by rw [← HBN.out, Int.toNat_natCast]; omega), run, bytesAt_len, HS4.out.olen, Int.toNat_natCast, if_pos (by omega)]
            go_wp2
            go_quiet (fail)
            have HS5 := Lib.hid (HS4.out.drewN nq)
            have HU5 : Hid (Upd [some s, ob OA] w (w4.drewN nq)) := (HU4.out.drewN nq).two
            generalize w4.drewN nq = w5 at HS5 HU5 ⊢
            clear k4' k2' k3' kf4' HS4 HU4
            go_wp2
            go_loopw [4] (fun v wr => ∃ k : Nat, k ≤ N ∧ v = .int .i64 k ∧ ∃ OX xc', Hid (RSt wr B s X xc bs (p2 + 8 * k) OX (on + k) xc' (o ++ bytesAt bs p2 k) most 0) ∧ Hid (Upd [some s, ob OA] w wr ∧ Fresh w OA OX)) (fun v _ => N - (intOf v).toNat)
            case atStart => exact ⟨0, by omega, rfl, OA, oc, by simp only [bytesAt, tab, List.range_zero, List.map_nil, List.append_nil, Nat.mul_zero, Nat.add_zero]; exact HS5, ⟨HU5.out, Fresh.refl _ _⟩⟩
            case round =>
              clear HS5 HU5
              obtain ⟨k, hkN, rfl, OX, xc', HX, HF⟩ := hrel
              by_cases hlt : k < N
              · have y2 := HX.out.blk.cell 2
                simp at y2
                obtain ⟨xn, hxn⟩ : ∃ xn, xn = on + k := ⟨_, rfl⟩
                obtain ⟨ox, hox⟩ : ∃ ox, ox = o ++ bytesAt bs p2 k := ⟨_, rfl⟩
                obtain ⟨pk, hpk⟩ : ∃ pk, pk = p2 + 8 * k := ⟨_, rfl⟩
                rw [← hxn, ← hox, ← hpk] at HX
                rw [← hxn] at y2
                have HXN := Lib.hid hxn
                have HOX := Lib.hid hox
                have HPK := Lib.hid hpk
                have hpk8 : pk + 8 ≤ bn := by omega
                have hxnb : xn ≤ 16777217 := by have := HX.out.room; omega
                clear hxn hox hpk
                have HNM : Hid (∀ W, Upd [] wr W → Calls Tryd.prog 28 #[.pointer (some ⟨s, 0, none⟩), .int .i64 8] W (NumPost W B s X xc bs pk OX xn xc' ox most 0 8)) := fun W hW => number_any (HX.out.grow hW) 8 (by omega)
                go_wp2
                go_region_law (first
                  | (go_simp; go_at_call 28; go_wp2_with (go_at_call 28; refine (HNM.out _ ((Upd.refl [] wr).drew)).mono ?_; rintro e w5 ⟨v, p5, err5, rfl, hs5, hv5, hp5, hv50, hv5n, hc5⟩; obtain ⟨hE, hP, hV⟩ : err5 = 0 ∧ p5 = pk + 8 ∧ v = num ((bs.drop pk).take 8) := (by rcases hc5 with ⟨h, _⟩ | ⟨_, _, h1, h2, h3⟩ | ⟨_, h, _⟩; exact absurd rfl h; exact ⟨h1, h2, h3⟩; rw [← HBN.out] at h; omega); subst hE hP; have HV := Lib.hid hV; have HV5 : Hid (Upd [some s] wr w5) := ((Upd.refl _ wr).drew).trans hv5; have HS5 := Lib.hid hs5; have hv255 : v ≤ 255 := (by omega); have hvw : IntKind.u8.wrap v = v := (by rw [IntKind.wrap_u8]; omega); have z2 := hs5.blk.cell 2; simp at z2; have z2' : (w5.alloc (.cells #[.int .u8 v] 5)).cell? ⟨s, 2, none⟩ = some (.slice OX xn xc') := ((Upd.refl [] w5).alloc _).cell z2 (by simp); clear hc5 hs5 hv5 hv5n hV))
                  | (refine step_app rfl rfl el_byte rfl (HS5.out.own.alloc _) rfl (Seg.one w5 _ _) (by simp [Value.oneCell']) (by simp only [maxLen]; omega) (by omega) (by have := HS5.out.bw; simp; omega) ?_; intro X3 c3 w6 hown6 hu6 hfr6; have HB6 := Lib.hid (((HS5.out.blk.alloc _)).upd hu6 (by have := HS5.out.own.neBlk HS5.out.blk (by decide); simp; exact fun e => this e.symm)); have k1 : w6.cell? ⟨s, 2, none⟩ = some (.slice OX xn xc') := (by rw [HB6.out.cell]; rfl); have kf := HB6.out.frozen 2))
                all_goals
                  have hga : Upd [] w5 (w5.alloc (.cells #[.int .u8 v] 5)) := (Upd.refl [] w5).alloc _
                  have hpu := (HS5.out.grow hga).push (l := [v]) (m := 1) hown6 hu6 (by have := HXN.out; omega) (fun _ => by have := HXN.out; omega) (by intro z hz; rw [List.mem_singleton] at hz; subst hz; exact ⟨hv50, hv255⟩)
                  have HP1 := Lib.hid hpu.1
                  have HP2 : Hid (Upd [some s, ob OA] w (w6.setCell ⟨s, 2, none⟩ (.slice X3 (xn + 1) c3))) := ((HF.out.1.next2 HF.out.2 HV5.out.two).next2 HF.out.2 (hga.nil2.trans hpu.2))
                  have HF6 : Hid (Fresh w OA X3) := HF.out.2.next hfr6 (by have h1 := HF.out.1.size; have h2 := HV5.out.size; have h3 := hga.size; omega)
                  clear hpu hga hown6 hu6 hfr6 HB6 k1 kf z2 z2' HS5 HV5
                  generalize w6.setCell ⟨s, 2, none⟩ (.slice X3 (xn + 1) c3) = w7 at HP1 HP2 ⊢
                  go_wp2
                  go_roundw
                  case rel =>
                    refine ⟨k + 1, by omega, by go_num, X3, c3, ?_, ⟨HP2.out, HF6.out⟩⟩
                    have h1 := HP1.out
                    rw [bytesAt_succ, ← List.append_assoc, ← HOX.out, ← HPK.out, ← HV.out, show p2 + 8 * (k + 1) = pk + 8 from by rw [HPK.out]; omega, show on + (k + 1) = xn + 1 from by rw [HXN.out]; omega]
                    exact h1
                  case measure => simp [intOf]; omega
              · obtain rfl : k = N := by omega
                go_wp2
                go_end0
                exact ⟨p2 + 8 * k, OX, on + k, xc', o ++ bytesAt bs p2 k, 0, rfl, HX.out, HF.out.1, HF.out.2, Or.inr ⟨rfl, by omega, HE.out⟩⟩
      · have d3 : (err3 != 0) = true := by simp [he3]
        have HE : Hid (∀ K, run bs most (storedPr K) p o = .err err3) := by rcases HK3.out with ⟨h, _⟩ | ⟨_, h⟩; exact absurd h he3; exact h
        go_wp2
        go_end0
        exact ⟨p2, OA, on, oc, o, err3, rfl, HS3.out, HU3.out.two, Fresh.refl _ _, Or.inl ⟨he3, HE.out⟩⟩
    · have d0 : ((r : Int) % 8 != 0) = true := by simp; omega
      have hrl : r + 1 ≤ bs.length := by omega
      have HS' : Hid (RSt (wr.setCell ⟨s, 1, none⟩ (.int .i64 ((r : Int) + 1))) B s X xc bs (r + 1) OA on oc o most 0) := HS.out.move (q := r + 1) hrl
      have HU' : Hid (Upd [some s] w (wr.setCell ⟨s, 1, none⟩ (.int .i64 ((r : Int) + 1)))) := HU.out.trans (HS.out.put 1 _)
      have m1 := HS'.out.blk.cell 1
      simp at m1
      clear HS HU
      go_wp2
      go_roundw
      case rel => exact ⟨r + 1, by omega, by omega, HS', HU'⟩
      case measure => simp [intOf, c1, m1]; omega

end Go.Proofs.YtolcdlopgbgilaaDoor
