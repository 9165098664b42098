/- The walk of inflate's unpacker: again. -/
import Derived.Test.YtolcdlopgbgilaaDoorInfA
import Derived.Test.YtolcdlopgbgilaaDoorCalm
import Derived.Deep.RegionHeld3
namespace Go.Proofs.YtolcdlopgbgilaaDoor
open Go.RowKit Go.Dray

/-- What a step that may write leaves: an error, or where it has come to. -/
def GoPost (w : World) (B u g : Nat) (RA : Option Addr) (rn rc : Nat) (ys : List Int) (most p : Nat) (OA : Option Addr) (o : List Int) (X : Pr → Pr) (e : Ending) (w' : World) : Prop :=
  ∃ err p' OA' on' oc' o', e = .returned (.int .i64 err) ∧ USt w' B u g RA rn rc ys most p' OA' on' oc' o' ∧ Upd [some u, some g, ob OA] w w' ∧ Fresh w OA OA' ∧
    ((err ≠ 0 ∧ ∀ k, run (bitsOf ys) most (X k) p o = .err err) ∨ (err = 0 ∧ p ≤ p' ∧ ∀ k, run (bitsOf ys) most (X k) p o = run (bitsOf ys) most k p' o'))

/-- A byte that came is put behind. -/
theorem USt.push {w w1 : World} {B u g : Nat} {RA : Option Addr} {rn rc : Nat} {ys : List Int} {most p : Nat} {OA : Option Addr} {on oc : Nat} {o : List Int} (h : USt w B u g RA rn rc ys most p OA on oc o) {X : Option Addr} {c m : Nat} {l : List Int}
    (hown : Own w1 B 5 1 X (on + m) c (o.map (Value.int .u8) ++ l.map (Value.int .u8))) (hu : Upd [ob OA] w w1) (hf : Fresh w OA X) (hr : on + m ≤ most) (hb : ∀ z ∈ l, 0 ≤ z ∧ z ≤ 255) :
    USt (w1.setCell ⟨u, 1, none⟩ (.slice X (on + m) c)) B u g RA rn rc ys most p X (on + m) c (o ++ l) ∧ Upd [some u, some g, ob OA] w (w1.setCell ⟨u, 1, none⟩ (.slice X (on + m) c)) := by
  have hou : ob OA ≠ some u := h.own.neBlk h.blk (by decide)
  have hog : ob OA ≠ some g := h.own.neBlk h.rd.1 (by decide)
  have hb1 := h.blk.upd hu (by simp; exact fun e => hou e.symm)
  have hr1 := h.rd.upd hu (by simp; exact fun e => hog e.symm) (by intro k hk; simp; intro e; exact h.sep k e.symm hk)
  have hxu : ob X ≠ some u := hown.neBlk hb1 (by decide)
  refine ⟨⟨?_, ?_, ?_, ?_, h.pos, hr, h.yb, h.rb, h.mb, ?_, ?_⟩, ?_⟩
  · exact hb1.set 1 _
  · exact ⟨hr1.1.far (p := ⟨u, 1, none⟩) (fun e => h.ug e.symm) _, hr1.2.far (p := ⟨u, 1, none⟩) (hr1.2.neBlk hb1 (by decide)) _⟩
  · rw [List.map_append]; exact hown.far (p := ⟨u, 1, none⟩) hxu _
  · intro x hx e
    rcases hf x hx with h' | h'
    · exact h.sep x h' e
    · have := (h.rd.2.base e).2; omega
  · intro z hz
    rcases List.mem_append.1 hz with h' | h'
    · exact h.obd z h'
    · exact hb z h'
  · have h1 := h.bw; have h2 := hu.size; simp; omega
  · exact (hu.mono (by intro b hb; simp at hb ⊢; exact Or.inr (Or.inr hb))).putIn (by simp) _

set_option maxRecDepth 100000 in
set_option maxHeartbeats 20000000 in
theorem again_any {w : World} {B u g : Nat} {RA : Option Addr} {rn rc : Nat} {ys : List Int} {most p : Nat} {OA : Option Addr} {on oc : Nat} {o : List Int} (h : USt w B u g RA rn rc ys most p OA on oc o)
    {B' gt : Nat} {TA : Option Addr} {tn tc : Nat} {dz : List Int} {P : List (List Bool)} (ht : Tree w B' gt TA tn tc dz P) (hdz : dz.length ≤ 320) (s : Int) (hs : 257 ≤ s) (hs2 : s ≤ 1000) :
    Calls Tryd.prog 88 #[.pointer (some ⟨u, 0, none⟩), .int .i64 s, .pointer (some ⟨gt, 0, none⟩)] w (GoPost w B u g RA rn rc ys most p OA o (againPr s dz)) := by
  have HU := Lib.hid h
  have HT := Lib.hid ht
  have HDZ := Lib.hid hdz
  have HX0 : Hid (o.length = on) := h.olen
  clear h ht hdz
  by_cases h286 : 286 ≤ s
  · go_enter Tryd.func88, Tryd.ntmps88
    go_wp2
    go_ret
    exact ⟨3, p, OA, on, oc, o, rfl, HU.out, Upd.refl _ _, fun x hx => Or.inl hx, Or.inl ⟨by decide, fun k => by unfold againPr; rw [if_pos h286]; rfl⟩⟩
  · have hd1 : decide (286 ≤ s) = false := by simp; omega
    go_enter Tryd.func88, Tryd.ntmps88
    go_wp2_with fail
    have es : s - 256 - 1 = s - 257 := by omega
    rw [es]
    refine (length_any HU.out (s - 257) (by omega) (by omega)).mono ?_
    rintro e w1 ⟨cnt, err, p1, rfl, hu1, hv1, hp1, ⟨he, hrun⟩ | ⟨rfl, hc3, hc258, hrun⟩⟩
    · have hd2 : (err != 0) = true := by simp [he]
      go_wp2
      go_ret
      exact ⟨err, p1, OA, on, oc, o, rfl, hu1, hv1.mono (by intro b hb; simp at hb ⊢; exact Or.inr (Or.inl hb)), fun x hx => Or.inl hx, Or.inl ⟨he, fun k => by unfold againPr; rw [if_neg (by omega), hrun]⟩⟩
    · have HU1 := Lib.hid hu1
      have HRUN1 := Lib.hid hrun
      have HV1 := Lib.hid hv1
      have hT1 : Tree w1 B' gt TA tn tc dz P := ⟨HT.out.1.upd hv1 (by simp; exact HT.out.1.ne HU.out.rd.1 (by decide)), HT.out.2.1.upd hv1 (by intro x hx; simp; rintro rfl; exact HT.out.2.1.neBlk HU.out.rd.1 (by decide) hx), HT.out.2.2⟩
      have hc0 := hu1.blk.cell 0
      simp at hc0
      have hrb := hu1.rb
      clear hu1 hrun hv1
      go_wp2_with fail
      refine (next_any hT1 HU1.out.rd HU1.out.pos (by omega) HU1.out.yb).mono ?_
      rintro e w2 ⟨j, t, err, rfl, hnx, hr2, hv2⟩
      have hj : p1 + j ≤ 8 * rn := by have := hnx.1; rw [List.length_drop, HU1.out.bits] at this; have := HU1.out.pos; omega
      have HU2 := Lib.hid (HU1.out.read hr2 hv2 hj)
      have HV2 := Lib.hid (HV1.out.trans hv2)
      have HNX := Lib.hid (nextF_eq hnx)
      have HNI := Lib.hid hnx
      clear hr2 hv2 hT1 hc0 hnx
      by_cases he : err = 0
      · subst he
        have HC : Hid (∀ k, run (bitsOf ys) most (againPr s dz k) p o = run (bitsOf ys) most (if 30 ≤ t then .fail 3 else distPr t fun back => .look fun out => if (out.length : Int) < back then .fail 3 else .emit (cp out back.toNat cnt.toNat) k) (p1 + j) o) := fun k => by
          unfold againPr
          rw [if_neg (by omega), HRUN1.out, run, HNX.out, if_pos rfl]
        have ht0 : 0 ≤ t := by
          rcases HNI.out.2.2 with ⟨h1, _⟩ | ⟨h1, _⟩ | ⟨_, _, t', h3, _⟩ <;> omega
        have htb : t ≤ 1000000 := by
          rcases HNI.out.2.2 with ⟨h1, _⟩ | ⟨h1, _⟩ | ⟨_, _, t', h3, h4⟩
          · omega
          · omega
          · have := (leafF_in h4).1
            have hl := HDZ.out
            omega
        clear HRUN1 HNX HNI
        by_cases h30 : 30 ≤ t
        · go_wp2
          go_ret
          exact ⟨3, p1 + j, OA, on, oc, o, rfl, HU2.out, HV2.out.mono (by intro b hb; simp at hb ⊢; exact Or.inr (Or.inl hb)), fun x hx => Or.inl hx, Or.inl ⟨by decide, fun k => by rw [HC.out, if_pos h30, run]⟩⟩
        · have hd3 : decide (30 ≤ t) = false := by simp; omega
          go_wp2_with fail
          refine (distance_any HU2.out t ht0 (by omega)).mono ?_
          rintro e w3 ⟨back, err, p3, rfl, hu3, hv3, hp3, ⟨he, hrun⟩ | ⟨rfl, hb1, hb2, hrun⟩⟩
          · have hd2 : (err != 0) = true := by simp [he]
            go_wp2
            go_ret
            exact ⟨err, p3, OA, on, oc, o, rfl, hu3, (HV2.out.trans hv3).mono (by intro b hb; simp at hb ⊢; exact Or.inr (Or.inl hb)), fun x hx => Or.inl hx, Or.inl ⟨he, fun k => by rw [HC.out, if_neg (by omega), hrun]⟩⟩
          · have HU3 := Lib.hid hu3
            have HV3 : Hid (Upd [some u, some g, ob OA] w w3) := (HV2.out.trans hv3).mono (by intro b hb; simp at hb ⊢; exact Or.inr (Or.inl hb))
            have HSZ3 : Hid (w.heap.size ≤ w3.heap.size) := HV3.out.size
            have HC3 : Hid (∀ k, run (bitsOf ys) most (againPr s dz k) p o = run (bitsOf ys) most (if (on : Int) < back then .fail 3 else .emit (cp o back.toNat cnt.toNat) k) p3 o) := fun k => by
              rw [HC.out, if_neg (by omega), hrun, run, hu3.olen]
            have HP3 : Hid (p ≤ p3) := by show _ ≤ _; omega
            have hc1 := hu3.blk.cell 1
            have hc2 := hu3.blk.cell 2
            simp at hc1 hc2
            have hmb := hu3.mb
            have hroom := hu3.room
            clear hu3 hv3 hrun HC HU2 HV2 HU1 HV1
            by_cases hbk : (on : Int) < back
            · go_wp2
              go_ret
              exact ⟨3, p3, OA, on, oc, o, rfl, HU3.out, HV3.out, fun x hx => Or.inl hx, Or.inl ⟨by decide, fun k => by rw [HC3.out, if_pos hbk, run]⟩⟩
            · have hd4 : decide ((on : Int) < back) = false := by simp; omega
              by_cases hlg : (most : Int) - on < cnt
              · have hd5 : decide ((most : Int) - on < cnt) = true := by simp; omega
                go_wp2
                go_quiet (fail)
                go_wp2
                go_ret
                exact ⟨4, p3, OA, on, oc, o, rfl, HU3.out.drewN _, HV3.out.drewN _, fun x hx => Or.inl hx, Or.inl ⟨by decide, fun k => by rw [HC3.out, if_neg (by omega), run, cp_len, HU3.out.olen, if_neg (by omega)]⟩⟩
              · have hd5 : decide ((most : Int) - on < cnt) = false := by simp; omega
                go_wp2
                go_quiet (fail)
                have HU4 : Hid (USt (w3.drewN nq) B u g RA rn rc ys most p3 OA on oc o) := HU3.out.drewN nq
                have HV4 : Hid (Upd [some u, some g, ob OA] w (w3.drewN nq)) := HV3.out.drewN nq
                generalize w3.drewN nq = w4 at HU4 HV4 ⊢
                obtain ⟨N, rfl⟩ := Int.eq_ofNat_of_zero_le (show 0 ≤ cnt by omega)
                obtain ⟨bk, rfl⟩ := Int.eq_ofNat_of_zero_le (show 0 ≤ back by omega)
                clear hc1 hc2 HU3 HV3
                go_wp2
                go_loopw [67] (fun i wr => ∃ k : Nat, k ≤ N ∧ i = .int .i64 k ∧ ∃ OX xc, Hid (USt wr B u g RA rn rc ys most p3 OX (on + k) xc (o ++ cp o bk k)) ∧ Hid (Upd [some u, some g, ob OA] w wr ∧ Fresh w OA OX)) (fun i _ => N - (intOf i).toNat)
                case atStart => exact ⟨0, by omega, rfl, OA, oc, by simp only [cp, List.append_nil]; exact HU4, ⟨HV4.out, fun x hx => Or.inl hx⟩⟩
                case round =>
                  clear HU4 HV4
                  obtain ⟨k, hk, rfl, OX, xc, HX, HF⟩ := hrel
                  by_cases hkN : k < N
                  · obtain ⟨ox, hox⟩ : ∃ ox, ox = o ++ cp o bk k := ⟨_, rfl⟩
                    obtain ⟨xn, hxn⟩ : ∃ xn, xn = on + k := ⟨_, rfl⟩
                    rw [← hox, ← hxn] at HX
                    have HOX := Lib.hid hox
                    have HXN := Lib.hid hxn
                    have hlen := HX.out.olen
                    obtain ⟨v, hv⟩ : ∃ v, ox[xn - bk]? = some v := ⟨_, List.getElem?_eq_getElem (by omega)⟩
                    have hvb := HX.out.obd v (List.mem_of_getElem? hv)
                    have HVG : Hid (ox.getD (ox.length - bk) 0 = v) := by show _ = _; rw [hlen, List.getD, hv]; rfl
                    have hc1 := HX.out.blk.cell 1
                    have hf1 := HX.out.blk.frozen 1
                    simp at hc1
                    obtain ⟨q, hq⟩ : ∃ q, q + bk = xn := ⟨xn - bk, by omega⟩
                    have hvc := (Ints.ofOwn HX.out.own).cell hv
                    have hix := (Ints.ofOwn HX.out.own).indexI el_byte xc .i64 ((xn : Int) - bk) (xn - bk) (by omega) (by omega)
                    have hxb : xn ≤ 16777216 := by have := HX.out.room; have := HX.out.mb; omega
                    clear hv hox hxn hlen
                    go_wp2_with fail
                    have hwr : IntKind.i64.wrap ((xn : Int) - bk) = (xn : Int) - bk := by rw [IntKind.wrap_i64]; omega
                    have hbw := HX.out.bw
                    have HPU : Hid (∀ (X3 : Option Addr) (c3 : Nat) (w5 : World), Own w5 B 5 1 X3 (xn + 1) c3 (ox.map (Value.int .u8) ++ [.int .u8 v]) → Upd [ob OX] (wr.alloc (.cells #[.int .u8 v] 5)).drew w5 → Fresh (wr.alloc (.cells #[.int .u8 v] 5)).drew OX X3 →
                        USt (w5.setCell ⟨u, 1, none⟩ (.slice X3 (xn + 1) c3)) B u g RA rn rc ys most p3 X3 (xn + 1) c3 (ox ++ [v]) ∧ Upd [some u, some g, ob OA] w (w5.setCell ⟨u, 1, none⟩ (.slice X3 (xn + 1) c3)) ∧ Fresh w OA X3) := fun X3 c3 w5 h1 h2 h3 => by
                      have hga : Upd [] wr (wr.alloc (.cells #[.int .u8 v] 5)).drew := ((Upd.refl [] wr).alloc _).drew
                      have hpu := (HX.out.grow hga).push (l := [v]) (m := 1) h1 h2 h3 (by rw [HXN.out]; omega) (by intro z hz; rw [List.mem_singleton] at hz; subst hz; exact hvb)
                      refine ⟨hpu.1, ((HF.out.1.trans (hga.mono (by simp))).then hpu.2 ?_), ?_⟩
                      · intro b hb
                        simp at hb
                        rcases hb with rfl | rfl | hb
                        · left; simp
                        · left; simp
                        · rcases HF.out.2 b hb.symm with h4 | h4
                          · left; simp [h4]
                          · right; exact h4
                      · intro x hx
                        rcases h3 x hx with h4 | h4
                        · exact HF.out.2 x h4
                        · right
                          have h5 := HF.out.1.size
                          have h6 := hga.size
                          omega
                    have hc1' : (wr.alloc (.cells #[.int .u8 v] 5)).cell? ⟨u, 1, none⟩ = some (.slice OX xn xc) := ((Upd.refl [] wr).alloc _).cell hc1 (by simp)
                    go_region_law (first | (refine step_app rfl rfl el_byte rfl ((HX.out.own.alloc _).drew) rfl ((Seg.one wr _ _).drewN 1) (by simp [Value.oneCell']) (by simp only [maxLen]; omega) (by omega) (by simp; omega) ?_; intro X3 c3 w5 hown5 hu5 hfr5; have HB5 := Lib.hid (((HX.out.blk.alloc _).drew).upd hu5 (by have := HX.out.own.neBlk HX.out.blk (by decide); simp; exact fun e => this e.symm)); have k1 : w5.cell? ⟨u, 1, none⟩ = some (.slice OX xn xc) := (by rw [HB5.out.cell]; rfl); have kf := HB5.out.frozen 1))
                    all_goals
                      have hp := Lib.hid (HPU.out _ _ _ hown5 hu5 hfr5)
                      clear hown5 hu5 hfr5 HB5 k1 kf
                      generalize w5.setCell ⟨u, 1, none⟩ (.slice X3 (xn + 1) c3) = w6 at hp ⊢
                      go_wp2
                      go_roundw
                      case rel =>
                        refine ⟨k + 1, by omega, by go_num, X3, c3, ?_, ⟨hp.out.2.1, hp.out.2.2⟩⟩
                        have h1 := hp.out.1
                        rw [cp, ← List.append_assoc, ← HOX.out, HVG.out, show on + (k + 1) = xn + 1 from by rw [HXN.out]; omega]
                        exact h1
                      case measure => simp [intOf]; omega
                  · obtain rfl : k = N := by omega
                    go_wp2
                    go_ret
                    refine ⟨0, p3, OX, on + k, xc, o ++ cp o bk k, rfl, HX.out, HF.out.1, HF.out.2, Or.inr ⟨rfl, HP3.out, fun kk => ?_⟩⟩
                    rw [HC3.out, if_neg (by omega), run, cp_len, Int.toNat_natCast, Int.toNat_natCast, if_pos (by have := HX.out.room; rw [HX0.out]; omega)]
      · have hd2 : (err != 0) = true := by simp [he]
        go_wp2
        go_ret
        exact ⟨err, p1 + j, OA, on, oc, o, rfl, HU2.out, HV2.out.mono (by intro b hb; simp at hb ⊢; exact Or.inr (Or.inl hb)), fun x hx => Or.inl hx, Or.inl ⟨he, fun k => by unfold againPr; rw [if_neg (by omega), HRUN1.out, run, HNX.out, if_neg he]⟩⟩

end Go.Proofs.YtolcdlopgbgilaaDoor
