/- The walk of inflate's unpacker: symbols. -/
import Derived.Test.YtolcdlopgbgilaaDoorInfB
namespace Go.Dray
open Go.RowKit
theorem Upd.one {w w' : World} {u g : Nat} {A : Option Addr} (h : Upd [some g] w w') : Upd [some u, some g, ob A] w w' := h.mono (by intro b hb; simp at hb ⊢; exact Or.inr (Or.inl hb))
theorem Upd.none3 {w w' : World} {u g : Nat} {A : Option Addr} (h : Upd [] w w') : Upd [some u, some g, ob A] w w' := h.mono (by simp)
/-- Steps of an unpacker, one behind the other. -/
theorem Upd.next3 {w w1 w2 : World} {u g : Nat} {A A1 : Option Addr} (h : Upd [some u, some g, ob A] w w1) (hf : Fresh w A A1) (h2 : Upd [some u, some g, ob A1] w1 w2) : Upd [some u, some g, ob A] w w2 :=
  h.then h2 (by
    intro b hb
    simp at hb
    rcases hb with rfl | rfl | hb
    · left; simp
    · left; simp
    · rcases hf b hb.symm with h4 | h4
      · left; simp [h4]
      · right; exact h4)
theorem Fresh.trans {w w1 : World} {A A1 A2 : Option Addr} (h : Fresh w A A1) (h2 : Fresh w1 A1 A2) (hs : w.heap.size ≤ w1.heap.size) : Fresh w A A2 := fun x hx => by
  rcases h2 x hx with h3 | h3
  · exact h x h3
  · right; omega
end Go.Dray

namespace Go.Proofs.YtolcdlopgbgilaaDoor
open Go.RowKit Go.Dray

/-- A tree is apart from all that an unpacker writes. -/
theorem Tree.keep {w w' : World} {B' gt : Nat} {TA : Option Addr} {tn tc : Nat} {dz : List Int} {P : List (List Bool)} (ht : Tree w B' gt TA tn tc dz P) {B u g : Nat} {RA : Option Addr} {rn rc : Nat} {ys : List Int} {most p : Nat} {OA : Option Addr} {on oc : Nat} {o : List Int} (h : USt w B u g RA rn rc ys most p OA on oc o)
    (hu : Upd [some u, some g, ob OA] w w') : Tree w' B' gt TA tn tc dz P := by
  refine ⟨ht.1.upd hu ?_, ht.2.1.upd hu ?_, ht.2.2⟩
  · simp
    exact ⟨ht.1.ne h.blk (by decide), ht.1.ne h.rd.1 (by decide), fun e => h.own.neBlk ht.1 (by decide) e.symm⟩
  · intro x hx
    simp
    refine ⟨?_, ?_, ?_⟩
    · rintro rfl; exact ht.2.1.neBlk h.blk (by decide) hx
    · rintro rfl; exact ht.2.1.neBlk h.rd.1 (by decide) hx
    · intro e; exact ht.2.1.neOwn h.own (by decide) hx e.symm
theorem run_next_ok {bs : List Bool} {most p j : Nat} {t : Int} {zs : List Int} {k : Int → Pr} {o : List Int} (h : nextF zs (bs.drop p) = (j, t, 0)) : run bs most (.next zs k) p o = run bs most (k t) (p + j) o := by rw [run, h, if_pos rfl]
theorem run_next_no {bs : List Bool} {most p j : Nat} {t err : Int} {zs : List Int} {k : Int → Pr} {o : List Int} (h : nextF zs (bs.drop p) = (j, t, err)) (he : err ≠ 0) : run bs most (.next zs k) p o = .err err := by rw [run, h, if_neg he]

/-- What a symbol read is. -/
theorem NextIs.sym {zs : List Int} {bs : List Bool} {k : Nat} {t : Int} (h : NextIs zs bs k t 0) : 0 ≤ t ∧ t < zs.length ∧ 1 ≤ k := by
  rcases h.2.2 with ⟨h1, _⟩ | ⟨h1, _⟩ | ⟨_, h2, t', h3, h4⟩
  · omega
  · omega
  · have := (leafF_in h4).1; exact ⟨by omega, by omega, h2⟩

/-- What is said between two symbols. -/
structure SySt (w wr : World) (B u g : Nat) (RA : Option Addr) (rn rc : Nat) (ys : List Int) (most p : Nat) (OA : Option Addr) (o : List Int) (lz dz : List Int) (F : Nat) (g1 g2 : Nat) (q : Nat) (OX : Option Addr) (xn xc : Nat) (ox : List Int) : Prop where
  st : USt wr B u g RA rn rc ys most q OX xn xc ox
  upd : Upd [some u, some g, ob OA] w wr
  fresh : Fresh w OA OX
  t1 : ∃ B1 A1 n1 c1 P1, Tree wr B1 g1 A1 n1 c1 lz P1
  t2 : ∃ B2 A2 n2 c2 P2, Tree wr B2 g2 A2 n2 c2 dz P2
  ge : p ≤ q
  run_ : ∃ f, 8 * rn - q < f ∧ ∀ K, run (bitsOf ys) most (symPr lz dz F K) p o = run (bitsOf ys) most (symPr lz dz f K) q ox

set_option maxRecDepth 100000 in
set_option maxHeartbeats 4000000 in
theorem symbols_any {w : World} {B u g : Nat} {RA : Option Addr} {rn rc : Nat} {ys : List Int} {most p : Nat} {OA : Option Addr} {on oc : Nat} {o : List Int} (h : USt w B u g RA rn rc ys most p OA on oc o)
    (LA DA : Option Addr) (ln lc dn dc : Nat) (lz dz : List Int) (hl : Ints .i64 w LA ln lz) (hd : Ints .i64 w DA dn dz) (kl : chk lz = 0) (kd : chk dz = 0) (F : Nat) (hF : 8 * rn - p < F) :
    Calls Tryd.prog 56 #[.pointer (some ⟨u, 0, none⟩), .slice LA ln lc, .slice DA dn dc] w (GoPost w B u g RA rn rc ys most p OA o (symPr lz dz F)) := by
  have HU := Lib.hid h
  have HKL := Lib.hid kl
  have HKD := Lib.hid kd
  have hll := (chk_zero kl).1
  have hdl := (chk_zero kd).1
  have HLL := Lib.hid hll
  have HDL := Lib.hid hdl
  have HLI := Lib.hid hl
  have HDI := Lib.hid hd
  clear h kl kd hl hd hll hdl
  go_enter Tryd.func56, Tryd.ntmps56
  go_wp2_with fail
  refine (newTree_ok LA ln lc lz w HLI.out HKL.out).mono ?_
  rintro e w1 ⟨g1, A1, n1, c1, P1, rfl, hg1, ht1, hv1⟩
  go_wp2_with fail
  refine (newTree_ok DA dn dc dz w1 (HDI.out.upd hv1 (by simp)) HKD.out).mono ?_
  rintro e w2 ⟨g2, A2, n2, c2, P2, rfl, hg2, ht2, hv2⟩
  have HS0 : Hid (SySt w w2 B u g RA rn rc ys most p OA o lz dz F g1 g2 p OA on oc o) :=
    ⟨HU.out.grow (hv1.trans hv2), (hv1.trans hv2).none3, fun x hx => Or.inl hx, ⟨_, _, _, _, _, ht1.1.upd hv2 (by simp), ht1.2.1.upd hv2 (by simp), ht1.2.2⟩, ⟨_, _, _, _, _, ht2⟩, Nat.le_refl _, ⟨F, hF, fun _ => rfl⟩⟩
  clear hg1 ht1 hv1 hg2 ht2 hv2
  go_wp2
  go_loopw [10] (fun _ wr => ∃ q OX xn xc ox, Hid (SySt w wr B u g RA rn rc ys most p OA o lz dz F g1 g2 q OX xn xc ox)) (fun _ wr => 8 * rn - (intOf ((wr.cell? ⟨g, 1, none⟩).getD undef)).toNat)
  case atStart => exact ⟨p, OA, on, oc, o, HS0⟩
  case round =>
    clear HS0
    obtain ⟨q, OX, xn, xc, ox, HS⟩ := hrel
    obtain ⟨B1, A1', n1', c1', P1', ht1⟩ := HS.out.t1
    obtain ⟨B2, A2', n2', c2', P2', ht2⟩ := HS.out.t2
    have hmeas := HS.out.st.rd.1.cell 1
    simp at hmeas
    have hc0 := HS.out.st.blk.cell 0
    simp at hc0
    have hrb := HS.out.st.rb
    have HT1 := Lib.hid ht1
    have HT2 := Lib.hid ht2
    clear ht1 ht2
    go_wp2_with fail
    refine (next_any HT1.out HS.out.st.rd HS.out.st.pos (by omega) HS.out.st.yb).mono ?_
    rintro e w3 ⟨j, s, err, rfl, hnx, hr3, hv3⟩
    have hj : q + j ≤ 8 * rn := by have := hnx.1; rw [List.length_drop, HS.out.st.bits] at this; have := HS.out.st.pos; omega
    have HU3 := Lib.hid (HS.out.st.read hr3 hv3 hj)
    have HV3 : Hid (Upd [some u, some g, ob OA] w w3) := HS.out.upd.next3 HS.out.fresh hv3.one
    have HNX := Lib.hid (nextF_eq hnx)
    have hT1 := HT1.out.keep HS.out.st hv3.one
    have hT2 := HT2.out.keep HS.out.st hv3.one
    have HT13 := Lib.hid hT1
    have HT23 := Lib.hid hT2
    have HSZ : Hid (w.heap.size ≤ w3.heap.size) := HV3.out.size
    have HNI := Lib.hid hnx
    clear hr3 hv3 hT1 hT2 hnx hc0
    obtain ⟨f, hf, hrun⟩ := HS.out.run_
    obtain ⟨f', rfl⟩ : ∃ f', f = f' + 1 := ⟨f - 1, by omega⟩
    have HRUN := Lib.hid hrun
    clear hrun
    by_cases he : err = 0
    · subst he
      obtain ⟨hs0, hs1, hj1⟩ := HNI.out.sym
      have hs2 : s ≤ 320 := by have := HLL.out; omega
      have HR3 : Hid (∀ K, run (bitsOf ys) most (symPr lz dz F K) p o = run (bitsOf ys) most (if s = 256 then K else if 256 < s then againPr s dz (symPr lz dz f' K) else .emit [s] (symPr lz dz f' K)) (q + j) ox) := fun K => by
        rw [HRUN.out, symPr, run_next_ok HNX.out]
      clear HRUN HNX HNI hs1
      by_cases h256 : s = 256
      · subst h256
        go_wp2
        go_ret
        exact ⟨0, q + j, OX, xn, xc, ox, rfl, HU3.out, HV3.out, HS.out.fresh, Or.inr ⟨rfl, by have := HS.out.ge; omega, fun K => by rw [HR3.out]; simp⟩⟩
      · have hd1 : (s == 256) = false := by simp [h256]
        by_cases hgt : 256 < s
        · have hd2 : decide (256 < s) = true := by simp; omega
          go_wp2_with fail
          refine (again_any HU3.out HT23.out HDL.out s (by omega) (by omega)).mono ?_
          rintro e w4 ⟨err, q4, OX4, xn4, xc4, ox4, rfl, hu4, hv4, hf4, ⟨he, hrun⟩ | ⟨rfl, hq4, hrun⟩⟩
          · have hd3 : (err != 0) = true := by simp [he]
            go_wp2
            go_ret
            exact ⟨err, q4, OX4, xn4, xc4, ox4, rfl, hu4, HV3.out.next3 HS.out.fresh hv4, HS.out.fresh.trans hf4 HSZ.out, Or.inl ⟨he, fun K => by rw [HR3.out, if_neg h256, if_pos hgt, hrun]⟩⟩
          · have HS4 : Hid (SySt w w4 B u g RA rn rc ys most p OA o lz dz F g1 g2 q4 OX4 xn4 xc4 ox4) :=
              ⟨hu4, HV3.out.next3 HS.out.fresh hv4, HS.out.fresh.trans hf4 HSZ.out, ⟨_, _, _, _, _, HT13.out.keep HU3.out hv4⟩, ⟨_, _, _, _, _, HT23.out.keep HU3.out hv4⟩, by have := HS.out.ge; omega, ⟨f', by omega, fun K => by rw [HR3.out, if_neg h256, if_pos hgt, hrun]⟩⟩
            have hm4 := hu4.rd.1.cell 1
            simp at hm4
            have hq8 := hu4.pos
            clear hu4 hv4 hf4 hrun HV3 HU3 HT13 HT23 HS HR3
            go_wp2
            go_roundw
            case rel => exact ⟨q4, OX4, xn4, xc4, ox4, HS4⟩
            case measure => simp [intOf, hmeas, hm4]; omega
        · have hd2 : decide (256 < s) = false := by simp; omega
          have hc1 := HU3.out.blk.cell 1
          have hc2 := HU3.out.blk.cell 2
          simp at hc1 hc2
          have hroom := HU3.out.room
          have hmb := HU3.out.mb
          by_cases hfull : xn = most
          · have hd3 : ((xn : Int) == most) = true := by simp [hfull]
            have HFU := Lib.hid hfull
            clear hfull
            go_wp2
            go_quiet (fail)
            go_wp2
            go_ret
            exact ⟨4, q + j, OX, xn, xc, ox, rfl, HU3.out.drewN _, HV3.out.drewN _, HS.out.fresh, Or.inl ⟨by decide, fun K => by rw [HR3.out, if_neg h256, if_neg (by omega), run, HU3.out.olen, if_neg (by have := HFU.out; simp; omega)]⟩⟩
          · have hd3 : ((xn : Int) == most) = false := by simp; omega
            have hlt : xn < most := by omega
            clear hfull
            go_wp2
            go_quiet (fail)
            have HU4 := Lib.hid (HU3.out.drewN nq)
            have HV4 := Lib.hid (HV3.out.drewN nq)
            have HT14 : Hid (∃ B1 A1 n1 c1 P1, Tree (w3.drewN nq) B1 g1 A1 n1 c1 lz P1) := ⟨_, _, _, _, _, HT13.out.1.drewN nq, HT13.out.2.1.drewN nq, HT13.out.2.2⟩
            have HT24 : Hid (∃ B1 A1 n1 c1 P1, Tree (w3.drewN nq) B1 g2 A1 n1 c1 dz P1) := ⟨_, _, _, _, _, HT23.out.1.drewN nq, HT23.out.2.1.drewN nq, HT23.out.2.2⟩
            have HSZ4 : Hid (w.heap.size ≤ (w3.drewN nq).heap.size) := HSZ.out
            generalize w3.drewN nq = w4 at HU4 HV4 HT14 HT24 HSZ4 ⊢
            clear hc1 hc2 HU3 HV3 HT13 HT23
            have hc1 := HU4.out.blk.cell 1
            have hf1 := HU4.out.blk.frozen 1
            simp at hc1
            have hbw := HU4.out.bw
            have hO := HU4.out.own
            have hsv : IntKind.u8.wrap s = s := by rw [IntKind.wrap_u8]; omega
            go_wp2_with (at_builtin; refine wpList_app rfl rfl el_byte rfl (hO.alloc _) rfl (Seg.one _ _ _) (by simp [Value.oneCell']) (by simp only [maxLen]; omega) (by omega) (by simp; omega) ?_; intro X5 c5 w5 hown5 hu5 hfr5; have HB5 := Lib.hid ((HU4.out.blk.alloc _).upd hu5 (by have := HU4.out.own.neBlk HU4.out.blk (by decide); simp; exact fun e => this e.symm)); have k1 : w5.cell? ⟨u, 1, none⟩ = some (.slice OX xn xc) := (by rw [HB5.out.cell]; rfl); have kf := HB5.out.frozen 1)
            have hga : Upd [] w4 (w4.alloc (.cells #[.int .u8 s] 5)) := (Upd.refl [] w4).alloc _
            have hpu := (HU4.out.grow hga).push (l := [s]) (m := 1) hown5 hu5 hfr5 (by omega) (by intro z hz; rw [List.mem_singleton] at hz; subst hz; omega)
            obtain ⟨C1, D1, E1, F1, G1, hk1⟩ := HT14.out
            obtain ⟨C2, D2, E2, F2, G2, hk2⟩ := HT24.out
            have hq1 : Tree (w4.alloc (.cells #[.int .u8 s] 5)) C1 g1 D1 E1 F1 lz G1 := ⟨hk1.1.upd hga (by simp), hk1.2.1.upd hga (by simp), hk1.2.2⟩
            have hq2 : Tree (w4.alloc (.cells #[.int .u8 s] 5)) C2 g2 D2 E2 F2 dz G2 := ⟨hk2.1.upd hga (by simp), hk2.2.1.upd hga (by simp), hk2.2.2⟩
            have HS5 : Hid (SySt w (w5.setCell ⟨u, 1, none⟩ (.slice X5 (xn + 1) c5)) B u g RA rn rc ys most p OA o lz dz F g1 g2 (q + j) X5 (xn + 1) c5 (ox ++ [s])) :=
              ⟨hpu.1, (HV4.out.trans hga.none3).next3 HS.out.fresh hpu.2, HS.out.fresh.trans hfr5 (by have := HSZ4.out; simp; omega), ⟨_, _, _, _, _, hq1.keep (HU4.out.grow hga) hpu.2⟩, ⟨_, _, _, _, _, hq2.keep (HU4.out.grow hga) hpu.2⟩, by have := HS.out.ge; omega,
                ⟨f', by omega, fun K => by rw [HR3.out, if_neg h256, if_neg (by omega), run, HU4.out.olen, if_pos (by simp; omega)]⟩⟩
            have hm4 := hpu.1.rd.1.cell 1
            simp at hm4
            clear hpu hq1 hq2 hk1 hk2 hga hown5 hu5 hfr5 HB5 k1 kf
            generalize w5.setCell ⟨u, 1, none⟩ (.slice X5 (xn + 1) c5) = w6 at HS5 hm4 ⊢
            go_wp2
            go_roundw
            case rel => exact ⟨q + j, X5, xn + 1, c5, ox ++ [s], HS5⟩
            case measure => simp [intOf, hmeas, hm4]; omega
    · have hd3 : (err != 0) = true := by simp [he]
      go_wp2
      go_ret
      exact ⟨err, q + j, OX, xn, xc, ox, rfl, HU3.out, HV3.out, HS.out.fresh, Or.inl ⟨he, fun K => by rw [HRUN.out, symPr, run_next_no HNX.out he]⟩⟩

end Go.Proofs.YtolcdlopgbgilaaDoor
