/- Merged by wip/tools/merge.py: InfC InfD. -/
import Derived.Test.YtolcdlopgbgilaaGreatDoorMz05

/-! Text InfC. -/
namespace Go.Dray
open Go.RowKit
theorem Upd.one {w w' : World} {u g : Nat} {A : Option Addr} (h : Upd [some g] w w') : Upd [some u, some g, ob A] w w' := h.mono (by intro b hb; simp at hb ⊢; exact Or.inr (Or.inl hb))
theorem Upd.none3 {w w' : World} {u g : Nat} {A : Option Addr} (h : Upd [] w w') : Upd [some u, some g, ob A] w w' := h.mono (by simp)
/-- Steps of an unpacker, one behind the other. -/
theorem Upd.next3 {w w1 w2 : World} {u g : Nat} {A A1 : Option Addr} (h : Upd [some u, some g, ob A] w w1) (hf : Fresh w A A1) (h2 : Upd [some u, some g, ob A1] w1 w2) : Upd [some u, some g, ob A] w w2 :=
  h.then h2 (by
    intro b hb
    simp at hb
    rcases hb with rfl | rfl | hb
    · left; simp
    · left; simp
    · rcases hf b hb.symm with h4 | h4
      · left; simp [h4]
      · right; exact h4)
theorem Fresh.trans {w w1 : World} {A A1 A2 : Option Addr} (h : Fresh w A A1) (h2 : Fresh w1 A1 A2) (hs : w.heap.size ≤ w1.heap.size) : Fresh w A A2 := fun x hx => by
  rcases h2 x hx with h3 | h3
  · exact h x h3
  · right; omega
end Go.Dray

namespace Go.Proofs.YtolcdlopgbgilaaGreatDoor
open Go.RowKit Go.Dray

/-- A tree is apart from all that an unpacker writes. -/
theorem Tree.keep {w w' : World} {B' gt : Nat} {TA : Option Addr} {tn tc : Nat} {dz : List Int} {P : List (List Bool)} (ht : Tree w B' gt TA tn tc dz P) {B u g : Nat} {RA : Option Addr} {rn rc : Nat} {ys : List Int} {most p : Nat} {OA : Option Addr} {on oc : Nat} {o : List Int} (h : USt w B u g RA rn rc ys most p OA on oc o)
    (hu : Upd [some u, some g, ob OA] w w') : Tree w' B' gt TA tn tc dz P := by
  refine ⟨ht.1.upd hu ?_, ht.2.1.upd hu ?_, ht.2.2⟩
  · simp
    exact ⟨ht.1.ne h.blk (by decide), ht.1.ne h.rd.1 (by decide), fun e => h.own.neBlk ht.1 (by decide) e.symm⟩
  · intro x hx
    simp
    refine ⟨?_, ?_, ?_⟩
    · rintro rfl; exact ht.2.1.neBlk h.blk (by decide) hx
    · rintro rfl; exact ht.2.1.neBlk h.rd.1 (by decide) hx
    · intro e; exact ht.2.1.neOwn h.own (by decide) hx e.symm
theorem run_next_ok {bs : List Bool} {most p j : Nat} {t : Int} {zs : List Int} {k : Int → Pr} {o : List Int} (h : nextF zs (bs.drop p) = (j, t, 0)) : run bs most (.next zs k) p o = run bs most (k t) (p + j) o := by rw [run, h, if_pos rfl]
theorem run_next_no {bs : List Bool} {most p j : Nat} {t err : Int} {zs : List Int} {k : Int → Pr} {o : List Int} (h : nextF zs (bs.drop p) = (j, t, err)) (he : err ≠ 0) : run bs most (.next zs k) p o = .err err := by rw [run, h, if_neg he]

/-- What a symbol read is. -/
theorem NextIs.sym {zs : List Int} {bs : List Bool} {k : Nat} {t : Int} (h : NextIs zs bs k t 0) : 0 ≤ t ∧ t < zs.length ∧ 1 ≤ k := by
  rcases h.2.2 with ⟨h1, _⟩ | ⟨h1, _⟩ | ⟨_, h2, t', h3, h4⟩
  · omega
  · omega
  · have := (leafF_in h4).1; exact ⟨by omega, by omega, h2⟩

/-- What is said between two symbols. -/
structure SySt (w wr : World) (B u g : Nat) (RA : Option Addr) (rn rc : Nat) (ys : List Int) (most p : Nat) (OA : Option Addr) (o : List Int) (lz dz : List Int) (F : Nat) (g1 g2 : Nat) (q : Nat) (OX : Option Addr) (xn xc : Nat) (ox : List Int) : Prop where
  st : USt wr B u g RA rn rc ys most q OX xn xc ox
  upd : Upd [some u, some g, ob OA] w wr
  fresh : Fresh w OA OX
  t1 : ∃ B1 A1 n1 c1 P1, Tree wr B1 g1 A1 n1 c1 lz P1
  t2 : ∃ B2 A2 n2 c2 P2, Tree wr B2 g2 A2 n2 c2 dz P2
  ge : p ≤ q
  run_ : ∃ f, 8 * rn - q < f ∧ ∀ K, run (bitsOf ys) most (symPr lz dz F K) p o = run (bitsOf ys) most (symPr lz dz f K) q ox

set_option maxRecDepth 100000 in
set_option maxHeartbeats 4000000 in
theorem symbols_any {w : World} {B u g : Nat} {RA : Option Addr} {rn rc : Nat} {ys : List Int} {most p : Nat} {OA : Option Addr} {on oc : Nat} {o : List Int} (h : USt w B u g RA rn rc ys most p OA on oc o)
    (LA DA : Option Addr) (ln lc dn dc : Nat) (lz dz : List Int) (hl : Ints .i64 w LA ln lz) (hd : Ints .i64 w DA dn dz) (kl : chk lz = 0) (kd : chk dz = 0) (F : Nat) (hF : 8 * rn - p < F) :
    Calls Tryz.prog 71 #[.pointer (some ⟨u, 0, none⟩), .slice LA ln lc, .slice DA dn dc] w (GoPost w B u g RA rn rc ys most p OA o (symPr lz dz F)) := by
  have HU := Lib.hid h
  have HKL := Lib.hid kl
  have HKD := Lib.hid kd
  have hll := (chk_zero kl).1
  have hdl := (chk_zero kd).1
  have HLL := Lib.hid hll
  have HDL := Lib.hid hdl
  have HLI := Lib.hid hl
  have HDI := Lib.hid hd
  clear h kl kd hl hd hll hdl
  go_enter Tryz.func71, Tryz.ntmps71
  go_wp2_with fail
  refine (newTree_ok LA ln lc lz w HLI.out HKL.out).mono ?_
  rintro e w1 ⟨g1, A1, n1, c1, P1, rfl, hg1, ht1, hv1⟩
  go_wp2_with fail
  refine (newTree_ok DA dn dc dz w1 (HDI.out.upd hv1 (by simp)) HKD.out).mono ?_
  rintro e w2 ⟨g2, A2, n2, c2, P2, rfl, hg2, ht2, hv2⟩
  have HS0 : Hid (SySt w w2 B u g RA rn rc ys most p OA o lz dz F g1 g2 p OA on oc o) :=
    ⟨HU.out.grow (hv1.trans hv2), (hv1.trans hv2).none3, fun x hx => Or.inl hx, ⟨_, _, _, _, _, ht1.1.upd hv2 (by simp), ht1.2.1.upd hv2 (by simp), ht1.2.2⟩, ⟨_, _, _, _, _, ht2⟩, Nat.le_refl _, ⟨F, hF, fun _ => rfl⟩⟩
  clear hg1 ht1 hv1 hg2 ht2 hv2
  go_wp2
  go_loopw [10] (fun _ wr => ∃ q OX xn xc ox, Hid (SySt w wr B u g RA rn rc ys most p OA o lz dz F g1 g2 q OX xn xc ox)) (fun _ wr => 8 * rn - (intOf ((wr.cell? ⟨g, 1, none⟩).getD undef)).toNat)
  case atStart => exact ⟨p, OA, on, oc, o, HS0⟩
  case round =>
    clear HS0
    obtain ⟨q, OX, xn, xc, ox, HS⟩ := hrel
    obtain ⟨B1, A1', n1', c1', P1', ht1⟩ := HS.out.t1
    obtain ⟨B2, A2', n2', c2', P2', ht2⟩ := HS.out.t2
    have hmeas := HS.out.st.rd.1.cell 1
    simp at hmeas
    have hc0 := HS.out.st.blk.cell 0
    simp at hc0
    have hrb := HS.out.st.rb
    have HT1 := Lib.hid ht1
    have HT2 := Lib.hid ht2
    clear ht1 ht2
    go_wp2_with fail
    refine (next_any HT1.out HS.out.st.rd HS.out.st.pos (by omega) HS.out.st.yb).mono ?_
    rintro e w3 ⟨j, s, err, rfl, hnx, hr3, hv3⟩
    have hj : q + j ≤ 8 * rn := by have := hnx.1; rw [List.length_drop, HS.out.st.bits] at this; have := HS.out.st.pos; omega
    have HU3 := Lib.hid (HS.out.st.read hr3 hv3 hj)
    have HV3 : Hid (Upd [some u, some g, ob OA] w w3) := HS.out.upd.next3 HS.out.fresh hv3.one
    have HNX := Lib.hid (nextF_eq hnx)
    have hT1 := HT1.out.keep HS.out.st hv3.one
    have hT2 := HT2.out.keep HS.out.st hv3.one
    have HT13 := Lib.hid hT1
    have HT23 := Lib.hid hT2
    have HSZ : Hid (w.heap.size ≤ w3.heap.size) := HV3.out.size
    have HNI := Lib.hid hnx
    clear hr3 hv3 hT1 hT2 hnx hc0
    obtain ⟨f, hf, hrun⟩ := HS.out.run_
    obtain ⟨f', rfl⟩ : ∃ f', f = f' + 1 := ⟨f - 1, by omega⟩
    have HRUN := Lib.hid hrun
    clear hrun
    by_cases he : err = 0
    · subst he
      obtain ⟨hs0, hs1, hj1⟩ := HNI.out.sym
      have hs2 : s ≤ 320 := by have := HLL.out; omega
      have HR3 : Hid (∀ K, run (bitsOf ys) most (symPr lz dz F K) p o = run (bitsOf ys) most (if s = 256 then K else if 256 < s then againPr s dz (symPr lz dz f' K) else .emit [s] (symPr lz dz f' K)) (q + j) ox) := fun K => by
        rw [HRUN.out, symPr, run_next_ok HNX.out]
      clear HRUN HNX HNI hs1
      by_cases h256 : s = 256
      · subst h256
        go_wp2
        go_ret
        exact ⟨0, q + j, OX, xn, xc, ox, rfl, HU3.out, HV3.out, HS.out.fresh, Or.inr ⟨rfl, by have := HS.out.ge; omega, fun K => by rw [HR3.out]; simp⟩⟩
      · have hd1 : (s == 256) = false := by simp [h256]
        by_cases hgt : 256 < s
        · have hd2 : decide (256 < s) = true := by simp; omega
          go_wp2_with fail
          refine (again_any HU3.out HT23.out HDL.out s (by omega) (by omega)).mono ?_
          rintro e w4 ⟨err, q4, OX4, xn4, xc4, ox4, rfl, hu4, hv4, hf4, ⟨he, hrun⟩ | ⟨rfl, hq4, hrun⟩⟩
          · have hd3 : (err != 0) = true := by simp [he]
            go_wp2
            go_ret
            exact ⟨err, q4, OX4, xn4, xc4, ox4, rfl, hu4, HV3.out.next3 HS.out.fresh hv4, HS.out.fresh.trans hf4 HSZ.out, Or.inl ⟨he, fun K => by rw [HR3.out, if_neg h256, if_pos hgt, hrun]⟩⟩
          · have HS4 : Hid (SySt w w4 B u g RA rn rc ys most p OA o lz dz F g1 g2 q4 OX4 xn4 xc4 ox4) :=
              ⟨hu4, HV3.out.next3 HS.out.fresh hv4, HS.out.fresh.trans hf4 HSZ.out, ⟨_, _, _, _, _, HT13.out.keep HU3.out hv4⟩, ⟨_, _, _, _, _, HT23.out.keep HU3.out hv4⟩, by have := HS.out.ge; omega, ⟨f', by omega, fun K => by rw [HR3.out, if_neg h256, if_pos hgt, hrun]⟩⟩
            have hm4 := hu4.rd.1.cell 1
            simp at hm4
            have hq8 := hu4.pos
            clear hu4 hv4 hf4 hrun HV3 HU3 HT13 HT23 HS HR3
            go_wp2
            go_roundw
            case rel => exact ⟨q4, OX4, xn4, xc4, ox4, HS4⟩
            case measure => simp [intOf, hmeas, hm4]; omega
        · have hd2 : decide (256 < s) = false := by simp; omega
          have hc1 := HU3.out.blk.cell 1
          have hc2 := HU3.out.blk.cell 2
          simp at hc1 hc2
          have hroom := HU3.out.room
          have hmb := HU3.out.mb
          by_cases hfull : xn = most
          · have hd3 : ((xn : Int) == most) = true := by simp [hfull]
            have HFU := Lib.hid hfull
            clear hfull
            go_wp2
            go_quiet (fail)
            go_wp2
            go_ret
            exact ⟨4, q + j, OX, xn, xc, ox, rfl, HU3.out.drewN _, HV3.out.drewN _, HS.out.fresh, Or.inl ⟨by decide, fun K => by rw [HR3.out, if_neg h256, if_neg (by omega), run, HU3.out.olen, if_neg (by have := HFU.out; simp; omega)]⟩⟩
          · have hd3 : ((xn : Int) == most) = false := by simp; omega
            have hlt : xn < most := by omega
            clear hfull
            go_wp2
            go_quiet (fail)
            have HU4 := Lib.hid (HU3.out.drewN nq)
            have HV4 := Lib.hid (HV3.out.drewN nq)
            have HT14 : Hid (∃ B1 A1 n1 c1 P1, Tree (w3.drewN nq) B1 g1 A1 n1 c1 lz P1) := ⟨_, _, _, _, _, HT13.out.1.drewN nq, HT13.out.2.1.drewN nq, HT13.out.2.2⟩
            have HT24 : Hid (∃ B1 A1 n1 c1 P1, Tree (w3.drewN nq) B1 g2 A1 n1 c1 dz P1) := ⟨_, _, _, _, _, HT23.out.1.drewN nq, HT23.out.2.1.drewN nq, HT23.out.2.2⟩
            have HSZ4 : Hid (w.heap.size ≤ (w3.drewN nq).heap.size) := HSZ.out
            generalize w3.drewN nq = w4 at HU4 HV4 HT14 HT24 HSZ4 ⊢
            clear hc1 hc2 HU3 HV3 HT13 HT23
            have hc1 := HU4.out.blk.cell 1
            have hf1 := HU4.out.blk.frozen 1
            simp at hc1
            have hbw := HU4.out.bw
            have hO := HU4.out.own
            have hsv : IntKind.u8.wrap s = s := by rw [IntKind.wrap_u8]; omega
            go_wp2_with (at_builtin; refine wpList_app rfl rfl el_byte rfl (hO.alloc _) rfl (Seg.one _ _ _) (by simp [Value.oneCell']) (by simp only [maxLen]; omega) (by omega) (by simp; omega) ?_; intro X5 c5 w5 hown5 hu5 hfr5; have HB5 := Lib.hid ((HU4.out.blk.alloc _).upd hu5 (by have := HU4.out.own.neBlk HU4.out.blk (by decide); simp; exact fun e => this e.symm)); have k1 : w5.cell? ⟨u, 1, none⟩ = some (.slice OX xn xc) := (by rw [HB5.out.cell]; rfl); have kf := HB5.out.frozen 1)
            have hga : Upd [] w4 (w4.alloc (.cells #[.int .u8 s] 5)) := (Upd.refl [] w4).alloc _
            have hpu := (HU4.out.grow hga).push (l := [s]) (m := 1) hown5 hu5 hfr5 (by omega) (by intro z hz; rw [List.mem_singleton] at hz; subst hz; omega)
            obtain ⟨C1, D1, E1, F1, G1, hk1⟩ := HT14.out
            obtain ⟨C2, D2, E2, F2, G2, hk2⟩ := HT24.out
            have hq1 : Tree (w4.alloc (.cells #[.int .u8 s] 5)) C1 g1 D1 E1 F1 lz G1 := ⟨hk1.1.upd hga (by simp), hk1.2.1.upd hga (by simp), hk1.2.2⟩
            have hq2 : Tree (w4.alloc (.cells #[.int .u8 s] 5)) C2 g2 D2 E2 F2 dz G2 := ⟨hk2.1.upd hga (by simp), hk2.2.1.upd hga (by simp), hk2.2.2⟩
            have HS5 : Hid (SySt w (w5.setCell ⟨u, 1, none⟩ (.slice X5 (xn + 1) c5)) B u g RA rn rc ys most p OA o lz dz F g1 g2 (q + j) X5 (xn + 1) c5 (ox ++ [s])) :=
              ⟨hpu.1, (HV4.out.trans hga.none3).next3 HS.out.fresh hpu.2, HS.out.fresh.trans hfr5 (by have := HSZ4.out; simp; omega), ⟨_, _, _, _, _, hq1.keep (HU4.out.grow hga) hpu.2⟩, ⟨_, _, _, _, _, hq2.keep (HU4.out.grow hga) hpu.2⟩, by have := HS.out.ge; omega,
                ⟨f', by omega, fun K => by rw [HR3.out, if_neg h256, if_neg (by omega), run, HU4.out.olen, if_pos (by simp; omega)]⟩⟩
            have hm4 := hpu.1.rd.1.cell 1
            simp at hm4
            clear hpu hq1 hq2 hk1 hk2 hga hown5 hu5 hfr5 HB5 k1 kf
            generalize w5.setCell ⟨u, 1, none⟩ (.slice X5 (xn + 1) c5) = w6 at HS5 hm4 ⊢
            go_wp2
            go_roundw
            case rel => exact ⟨q + j, X5, xn + 1, c5, ox ++ [s], HS5⟩
            case measure => simp [intOf, hmeas, hm4]; omega
    · have hd3 : (err != 0) = true := by simp [he]
      go_wp2
      go_ret
      exact ⟨err, q + j, OX, xn, xc, ox, rfl, HU3.out, HV3.out, HS.out.fresh, Or.inl ⟨he, fun K => by rw [HRUN.out, symPr, run_next_no HNX.out he]⟩⟩

end Go.Proofs.YtolcdlopgbgilaaGreatDoor

/-! Text InfD. -/
namespace Go.Proofs.YtolcdlopgbgilaaGreatDoor
open Go.RowKit Go.Dray

/-- An unpacker is apart from a row of ints. -/
theorem USt.updI {w w' : World} {B u g : Nat} {RA : Option Addr} {rn rc : Nat} {ys : List Int} {most p : Nat} {OA : Option Addr} {on oc : Nat} {o : List Int} (h : USt w B u g RA rn rc ys most p OA on oc o) {B' : Nat} {X : Option Addr} {n c : Nat} {xs : List Value} (hx : Own w B' 3 1 X n c xs) (hu : Upd [ob X] w w') : USt w' B u g RA rn rc ys most p OA on oc o :=
  ⟨h.blk.upd hu (by simp; exact fun e => hx.neBlk h.blk (by decide) e.symm), h.rd.upd hu (by simp; exact fun e => hx.neBlk h.rd.1 (by decide) e.symm) (by intro k hk; simp; exact fun e => h.rd.2.neOwn hx (by decide) hk e.symm), h.own.upd hu (by intro k hk; simp; exact fun e => h.own.neOwn hx (by decide) hk e.symm), h.sep, h.pos, h.room, h.yb, h.rb, h.mb, h.obd, Nat.le_trans h.bw hu.size⟩
theorem Tree.updI {w w' : World} {B' gt : Nat} {TA : Option Addr} {tn tc : Nat} {dz : List Int} {P : List (List Bool)} (ht : Tree w B' gt TA tn tc dz P) {B2 : Nat} {X : Option Addr} {n c : Nat} {xs : List Value} (hx : Own w B2 3 1 X n c xs) (hu : Upd [ob X] w w') : Tree w' B' gt TA tn tc dz P :=
  ⟨ht.1.upd hu (by simp; exact fun e => hx.neBlk ht.1 (by decide) e.symm), ht.2.1.upd hu (by intro k hk; simp; exact fun e => ht.2.1.neOwn hx (by decide) hk e.symm), ht.2.2⟩
theorem Tree.grow {w w' : World} {B' gt : Nat} {TA : Option Addr} {tn tc : Nat} {dz : List Int} {P : List (List Bool)} (ht : Tree w B' gt TA tn tc dz P) (hu : Upd [] w w') : Tree w' B' gt TA tn tc dz P := ⟨ht.1.upd hu (by simp), ht.2.1.upd hu (by simp), ht.2.2⟩

/-- What is said while a row of lengths is read: but for what it has to do with the bits. -/
structure RwIn (w wr : World) (B u g : Nat) (RA : Option Addr) (rn rc : Nat) (ys : List Int) (most : Nat) (OA : Option Addr) (on oc : Nat) (o : List Int) (tz : List Int) (gt : Nat) (q : Nat) (X : Option Addr) (xn xc : Nat) (row : List Int) : Prop where
  st : USt wr B u g RA rn rc ys most q OA on oc o
  upd : Upd [some g] w wr
  own : Own wr w.heap.size 3 1 X xn xc (row.map (Value.int .i64))
  tree : ∃ B1 A1 n1 c1 P1, Tree wr B1 gt A1 n1 c1 tz P1
  bd : ∀ z ∈ row, 0 ≤ z ∧ z ≤ 15

theorem RwIn.len {w wr : World} {B u g : Nat} {RA : Option Addr} {rn rc : Nat} {ys : List Int} {most : Nat} {OA : Option Addr} {on oc : Nat} {o : List Int} {tz : List Int} {gt : Nat} {q : Nat} {X : Option Addr} {xn xc : Nat} {row : List Int} (h : RwIn w wr B u g RA rn rc ys most OA on oc o tz gt q X xn xc row) : row.length = xn := by
  have := h.own.len
  rw [List.length_map] at this
  omega
/-- A length is put behind. -/
theorem RwIn.push {w wr w1 : World} {B u g : Nat} {RA : Option Addr} {rn rc : Nat} {ys : List Int} {most : Nat} {OA : Option Addr} {on oc : Nat} {o : List Int} {tz : List Int} {gt : Nat} {q : Nat} {X : Option Addr} {xn xc : Nat} {row : List Int} (h : RwIn w wr B u g RA rn rc ys most OA on oc o tz gt q X xn xc row)
    {y : Int} {X1 : Option Addr} {c1 : Nat} (hy : 0 ≤ y ∧ y ≤ 15) (hown : Own w1 w.heap.size 3 1 X1 (xn + 1) c1 (row.map (Value.int .i64) ++ [.int .i64 y])) (hu : Upd [ob X] (wr.alloc (.cells #[.int .i64 y] 3)) w1) : RwIn w w1 B u g RA rn rc ys most OA on oc o tz gt q X1 (xn + 1) c1 (row ++ [y]) := by
  have hga : Upd [] wr (wr.alloc (.cells #[.int .i64 y] 3)) := (Upd.refl [] wr).alloc _
  have ho := h.own.upd hga (by simp)
  obtain ⟨B1, A1, n1, c1', P1, ht⟩ := h.tree
  refine ⟨(h.st.grow hga).updI ho hu, ?_, ?_, ⟨_, _, _, _, _, (ht.grow hga).updI ho hu⟩, ?_⟩
  · refine (h.upd.trans (hga.mono (by simp))).then hu ?_
    intro b hb
    simp at hb
    right
    exact (h.own.base hb.symm).1
  · rw [List.map_append]; exact hown
  · intro z hz
    rcases List.mem_append.1 hz with h' | h'
    · exact h.bd z h'
    · rw [List.mem_singleton] at h'; subst h'; exact hy

/-- What row leaves. -/
def RowPost (w : World) (B u g : Nat) (RA : Option Addr) (rn rc : Nat) (ys : List Int) (most p : Nat) (OA : Option Addr) (on oc : Nat) (o : List Int) (tz : List Int) (N F : Nat) (e : Ending) (w' : World) : Prop :=
  ∃ err p' X xn xc row, e = .returned (.tuple #[.slice X xn xc, .int .i64 err]) ∧ USt w' B u g RA rn rc ys most p' OA on oc o ∧ Upd [some g] w w' ∧
    ((err ≠ 0 ∧ ∀ k, run (bitsOf ys) most (rowPr tz N F [] k) p o = .err err) ∨ (err = 0 ∧ p ≤ p' ∧ xn = N ∧ Own w' w.heap.size 3 1 X xn xc (row.map (Value.int .i64)) ∧ (∀ z ∈ row, 0 ≤ z ∧ z ≤ 15) ∧ ∀ k, run (bitsOf ys) most (rowPr tz N F [] k) p o = run (bitsOf ys) most (k row) p' o))

theorem rowPr_go {bs : List Bool} {most : Nat} {tz : List Int} {N f : Nat} {row : List Int} {k : List Int → Pr} {q j : Nat} {s : Int} {o : List Int} (hlt : row.length < N) (hn : nextF tz (bs.drop q) = (j, s, 0)) (h16 : ¬ (s = 16 ∧ row.length = 0)) :
    run bs most (rowPr tz N (f + 1) row k) q o = run bs most (.take (stepOf s row).2.2 fun more => if (N : Int) - row.length < (stepOf s row).2.1 + more then .fail 3 else rowPr tz N f (row ++ List.replicate ((stepOf s row).2.1 + more).toNat (stepOf s row).1) k) (q + j) o := by
  rw [rowPr, if_neg (by omega), run_next_ok hn, if_neg h16]

set_option maxRecDepth 100000 in
set_option maxHeartbeats 8000000 in
theorem row_any {w : World} {B u g : Nat} {RA : Option Addr} {rn rc : Nat} {ys : List Int} {most p : Nat} {OA : Option Addr} {on oc : Nat} {o : List Int} (h : USt w B u g RA rn rc ys most p OA on oc o)
    (TA : Option Addr) (tc : Nat) (tz : List Int) (hl : Ints .i64 w TA 19 tz) (kt : chk tz = 0) (N F : Nat) (hN : N ≤ 1000) (hF : 8 * rn - p < F) :
    Calls Tryz.prog 101 #[.pointer (some ⟨u, 0, none⟩), .slice TA 19 tc, .int .i64 N] w (RowPost w B u g RA rn rc ys most p OA on oc o tz N F) := by
  have HU := Lib.hid h
  have HKT := Lib.hid kt
  have HTL : Hid (tz.length = 19) := hl.len
  have HTI := Lib.hid hl
  clear h kt hl
  go_enter Tryz.func101, Tryz.ntmps101
  go_wp2_with fail
  refine (newTree_ok TA 19 tc tz w HTI.out HKT.out).mono ?_
  rintro e w1 ⟨gt, A1, n1, c1, P1, rfl, hg1, ht1, hv1⟩
  have HR0 : Hid (RwIn w w1 B u g RA rn rc ys most OA on oc o tz gt p none 0 0 []) := ⟨HU.out.grow hv1, hv1.mono (by simp), Own.nil _ _ _ _, ⟨_, _, _, _, _, ht1⟩, by simp⟩
  clear hg1 ht1 hv1
  go_wp2
  go_loopw [10] (fun v wr => ∃ q X xn xc row, v = .slice X xn xc ∧ xn ≤ N ∧ q ≤ 8 * rn ∧ p ≤ q ∧ Hid (RwIn w wr B u g RA rn rc ys most OA on oc o tz gt q X xn xc row) ∧ Hid (∃ f, 8 * rn - q < f ∧ ∀ k, run (bitsOf ys) most (rowPr tz N F [] k) p o = run (bitsOf ys) most (rowPr tz N f row k) q o)) (fun _ wr => 8 * rn - (intOf ((wr.cell? ⟨g, 1, none⟩).getD undef)).toNat)
  case atStart => exact ⟨p, none, 0, 0, [], rfl, by omega, HU.out.pos, Nat.le_refl _, HR0, ⟨F, hF, fun _ => rfl⟩⟩
  case round =>
    clear HR0
    obtain ⟨q, X, xn, xc, row, rfl, hxN, hq8, hpq, HR, HF⟩ := hrel
    obtain ⟨f, hf, hrun⟩ := HF.out
    obtain ⟨f', rfl⟩ : ∃ f', f = f' + 1 := ⟨f - 1, by omega⟩
    have HRUN := Lib.hid hrun
    have HLEN := Lib.hid HR.out.len
    clear hrun
    by_cases hlt : xn < N
    · obtain ⟨B1, A1', n1', c1', P1', ht1⟩ := HR.out.tree
      have hmeas := HR.out.st.rd.1.cell 1
      simp at hmeas
      have hc0 := HR.out.st.blk.cell 0
      simp at hc0
      have hrb := HR.out.st.rb
      have HT1 := Lib.hid ht1
      clear ht1
      go_wp2_with fail
      refine (next_any HT1.out HR.out.st.rd HR.out.st.pos (by omega) HR.out.st.yb).mono ?_
      rintro e w3 ⟨j, s, err, rfl, hnx, hr3, hv3⟩
      have hj : q + j ≤ 8 * rn := by have := hnx.1; rw [List.length_drop, HR.out.st.bits] at this; omega
      have HU3 := Lib.hid (HR.out.st.read hr3 hv3 hj)
      have HV3 : Hid (Upd [some g] w w3) := HR.out.upd.trans hv3
      have HNX := Lib.hid (nextF_eq hnx)
      have HT3 : Hid (∃ B1 A1 n1 c1 P1, Tree w3 B1 gt A1 n1 c1 tz P1) := ⟨_, _, _, _, _, HT1.out.keep HR.out.st hv3.one⟩
      have HO3 := Lib.hid (HR.out.own.upd hv3 (by intro k hk; simp; rintro rfl; exact HR.out.own.neBlk HR.out.st.rd.1 (by decide) hk))
      have HR3 : Hid (RwIn w w3 B u g RA rn rc ys most OA on oc o tz gt (q + j) X xn xc row) := ⟨HU3.out, HV3.out, HO3.out, HT3.out, HR.out.bd⟩
      have HNI := Lib.hid hnx
      have hc3 := HU3.out.blk.cell 0
      simp at hc3
      clear hr3 hv3 hnx hc0 HO3 HT3 HT1 HR
      by_cases he : err = 0
      · subst he
        obtain ⟨hs0, hs1, hj1⟩ := HNI.out.sym
        have hs18 : s ≤ 18 := by have := HTL.out; omega
        clear HNI hs1
        by_cases h16 : s = 16
        · subst h16
          by_cases hx0 : xn = 0
          · have hd0 : ((xn : Int) == 0) = true := by simp [hx0]
            have HX0 := Lib.hid hx0
            clear hx0
            go_wp2
            go_ret2
            exact ⟨3, q + j, none, 0, 0, [], rfl, HU3.out, HV3.out, Or.inl ⟨by decide, fun k => by rw [HRUN.out, rowPr, if_neg (by rw [HLEN.out]; omega), run_next_ok HNX.out, if_pos ⟨rfl, by rw [HLEN.out]; exact HX0.out⟩, run]⟩⟩
          · have hd0 : ((xn : Int) == 0) = false := by simp; omega
            obtain ⟨y, HY, ycell⟩ := (Ints.ofOwn HR3.out.own).int (i := xn - 1) (by omega)
            have yix := (Ints.ofOwn HR3.out.own).indexI el_int xc .i64 ((xn : Int) - 1) (xn - 1) (by omega) (by omega)
            have hyb := HR3.out.bd y (List.mem_of_getElem? HY.out)
            have HSTEP : Hid (stepOf 16 row = (y, 3, 2)) := by
              show _ = _
              unfold stepOf
              rw [if_pos rfl, List.getLastD_eq_getLast?, List.getLast?_eq_getElem?, HLEN.out, HY.out]
              rfl
            clear HY
            have HG : Hid (∀ k, run (bitsOf ys) most (rowPr tz N F [] k) p o = run (bitsOf ys) most (.take 2 fun more => if (N : Int) - row.length < 3 + more then .fail 3 else rowPr tz N f' (row ++ List.replicate (3 + more).toNat y) k) (q + j) o) := fun k => by
              rw [HRUN.out, rowPr_go (by rw [HLEN.out]; exact hlt) HNX.out (by rw [HLEN.out]; omega), HSTEP.out]
            go_wp2_with fail
            refine (take_any HU3.out 2 (by omega)).mono ?_
            rintro e w4 (⟨hl4, rfl, hr4, hv4⟩ | ⟨hl4, rfl, hr4, hv4⟩)
            · have hnb := num_bd ((bitsOf ys).drop (q + j)) 2 2 (Nat.le_refl _)
              obtain ⟨v, hv⟩ : ∃ v, v = num (((bitsOf ys).drop (q + j)).take 2) := ⟨_, rfl⟩
              rw [← hv] at hnb ⊢
              have hnb0 := hnb.1
              have hnb1 : v < 128 := by have := hnb.2; omega
              have HV := Lib.hid hv
              clear hv hnb
              have hun4 := hv4.one (u := u) (A := OA)
              obtain ⟨Bt, At, nt, ct, Pt, htr⟩ := HR3.out.tree
              have HR4 : Hid (RwIn w w4 B u g RA rn rc ys most OA on oc o tz gt (q + j + 2) X xn xc row) :=
                ⟨HU3.out.read hr4 hv4 hl4, HV3.out.trans hv4, HR3.out.own.upd hv4 (by intro k hk; simp; rintro rfl; exact HR3.out.own.neBlk HU3.out.rd.1 (by decide) hk), ⟨_, _, _, _, _, htr.keep HU3.out hun4⟩, HR3.out.bd⟩
              have HG4 : Hid (∀ k, run (bitsOf ys) most (rowPr tz N F [] k) p o = run (bitsOf ys) most (if (N : Int) - xn < 3 + v then .fail 3 else rowPr tz N f' (row ++ List.replicate (3 + v).toNat y) k) (q + j + 2) o) := fun k => by
                rw [HG.out, run_take_ok (by rw [HU3.out.bits]; exact hl4), ← HV.out, HLEN.out]
              clear hr4 hv4 hun4 htr HR3 HU3 HV3 HG hc3
              by_cases hbig : (N : Int) - xn < 3 + v
              · go_wp2
                go_ret2
                exact ⟨3, q + j + 2, none, 0, 0, [], rfl, HR4.out.st, HR4.out.upd, Or.inl ⟨by decide, fun k => by rw [HG4.out, if_pos hbig, run]⟩⟩
              · have hdb : decide ((N : Int) - xn < 3 + v) = false := by simp; omega
                obtain ⟨T, hT⟩ : ∃ T : Nat, (T : Int) = 3 + v := ⟨(3 + v).toNat, by omega⟩
                have HT : Hid (3 + v = (T : Int)) := hT.symm
                have hTN : xn + T ≤ N := by omega
                have HG5 : Hid (∀ k, run (bitsOf ys) most (rowPr tz N F [] k) p o = run (bitsOf ys) most (rowPr tz N f' (row ++ List.replicate T y) k) (q + j + 2) o) := fun k => by
                  rw [HG4.out, if_neg (by omega), ← hT, Int.toNat_natCast]
                clear hT HG4
                go_wp2
                rw [HT.out]
                go_loopw [10, 80] (fun v i wr => ∃ (i' : Nat) (Y : Option Addr) (yn yc : Nat), i' ≤ T ∧ v = .slice Y yn yc ∧ i = .int .i64 i' ∧ yn ≤ xn + i' ∧ xn + i' ≤ yn ∧ Hid (RwIn w wr B u g RA rn rc ys most OA on oc o tz gt (q + j + 2) Y yn yc (row ++ List.replicate i' y))) (fun _ i _ => T - (intOf i).toNat)
                case atStart => exact ⟨0, X, xn, xc, by omega, rfl, rfl, by omega, by omega, by simp only [List.replicate_zero, List.append_nil]; exact HR4⟩
                case round =>
                  clear HR4
                  obtain ⟨i, Y, yn, yc, hi, rfl, rfl, hy1, hy2, HR⟩ := hrel
                  by_cases hiT : i < T
                  · have hO := HR.out.own
                    have hsz := HR.out.upd.size
                    go_wp2_with (at_builtin; refine wpList_app rfl rfl el_int rfl (hO.alloc _) rfl (Seg.one _ _ _) (by simp [Value.oneCell']) (by simp only [maxLen]; omega) (by omega) (by simp; omega) ?_; intro X5 c5 w5 hown5 hu5 hfr5)
                    have HP := Lib.hid (HR.out.push (y := y) (by omega) hown5 hu5)
                    clear hown5 hu5 hfr5
                    go_roundw
                    case rel => exact ⟨i + 1, X5, yn + 1, c5, by omega, rfl, by go_num, by omega, by omega, by rw [List.replicate_succ', ← List.append_assoc]; exact HP⟩
                    case measure => simp [intOf]; omega
                  · obtain rfl : i = T := by omega
                    have hm4 := HR.out.st.rd.1.cell 1
                    simp at hm4
                    have hp4 := HR.out.st.pos
                    go_wp2
                    go_roundw
                    case rel => exact ⟨q + j + 2, Y, yn, yc, row ++ List.replicate i y, rfl, by omega, hp4, by omega, HR, ⟨f', by omega, HG5.out⟩⟩
                    case measure => simp [intOf, hmeas, hm4]; omega
            · go_wp2
              go_ret2
              exact ⟨2, q + j, none, 0, 0, [], rfl, HU3.out.read hr4 hv4 hj, HV3.out.trans hv4, Or.inl ⟨by decide, fun k => by rw [HG.out, run_take_no (by rw [HU3.out.bits]; omega)]⟩⟩
        · by_cases h17 : s = 17
          · subst h17
            have HSTEP : Hid (stepOf 17 row = (0, 3, 3)) := rfl
            have HG : Hid (∀ k, run (bitsOf ys) most (rowPr tz N F [] k) p o = run (bitsOf ys) most (.take 3 fun more => if (N : Int) - row.length < 3 + more then .fail 3 else rowPr tz N f' (row ++ List.replicate (3 + more).toNat 0) k) (q + j) o) := fun k => by
              rw [HRUN.out, rowPr_go (by rw [HLEN.out]; exact hlt) HNX.out (by omega), HSTEP.out]
            go_wp2_with fail
            refine (take_any HU3.out 3 (by omega)).mono ?_
            rintro e w4 (⟨hl4, rfl, hr4, hv4⟩ | ⟨hl4, rfl, hr4, hv4⟩)
            · have hnb := num_bd ((bitsOf ys).drop (q + j)) 3 3 (Nat.le_refl _)
              obtain ⟨v, hv⟩ : ∃ v, v = num (((bitsOf ys).drop (q + j)).take 3) := ⟨_, rfl⟩
              rw [← hv] at hnb ⊢
              have hnb0 := hnb.1
              have hnb1 : v < 128 := by have := hnb.2; omega
              have HV := Lib.hid hv
              clear hv hnb
              have hun4 := hv4.one (u := u) (A := OA)
              obtain ⟨Bt, At, nt, ct, Pt, htr⟩ := HR3.out.tree
              have HR4 : Hid (RwIn w w4 B u g RA rn rc ys most OA on oc o tz gt (q + j + 3) X xn xc row) :=
                ⟨HU3.out.read hr4 hv4 hl4, HV3.out.trans hv4, HR3.out.own.upd hv4 (by intro k hk; simp; rintro rfl; exact HR3.out.own.neBlk HU3.out.rd.1 (by decide) hk), ⟨_, _, _, _, _, htr.keep HU3.out hun4⟩, HR3.out.bd⟩
              have HG4 : Hid (∀ k, run (bitsOf ys) most (rowPr tz N F [] k) p o = run (bitsOf ys) most (if (N : Int) - xn < 3 + v then .fail 3 else rowPr tz N f' (row ++ List.replicate (3 + v).toNat 0) k) (q + j + 3) o) := fun k => by
                rw [HG.out, run_take_ok (by rw [HU3.out.bits]; exact hl4), ← HV.out, HLEN.out]
              clear hr4 hv4 hun4 htr HR3 HU3 HV3 HG hc3
              by_cases hbig : (N : Int) - xn < 3 + v
              · go_wp2
                go_ret2
                exact ⟨3, q + j + 3, none, 0, 0, [], rfl, HR4.out.st, HR4.out.upd, Or.inl ⟨by decide, fun k => by rw [HG4.out, if_pos hbig, run]⟩⟩
              · have hdb : decide ((N : Int) - xn < 3 + v) = false := by simp; omega
                obtain ⟨T, hT⟩ : ∃ T : Nat, (T : Int) = 3 + v := ⟨(3 + v).toNat, by omega⟩
                have HT : Hid (3 + v = (T : Int)) := hT.symm
                have hTN : xn + T ≤ N := by omega
                have HG5 : Hid (∀ k, run (bitsOf ys) most (rowPr tz N F [] k) p o = run (bitsOf ys) most (rowPr tz N f' (row ++ List.replicate T 0) k) (q + j + 3) o) := fun k => by
                  rw [HG4.out, if_neg (by omega), ← hT, Int.toNat_natCast]
                clear hT HG4
                go_wp2
                rw [HT.out]
                go_loopw [10, 80] (fun v i wr => ∃ (i' : Nat) (Y : Option Addr) (yn yc : Nat), i' ≤ T ∧ v = .slice Y yn yc ∧ i = .int .i64 i' ∧ yn ≤ xn + i' ∧ xn + i' ≤ yn ∧ Hid (RwIn w wr B u g RA rn rc ys most OA on oc o tz gt (q + j + 3) Y yn yc (row ++ List.replicate i' 0))) (fun _ i _ => T - (intOf i).toNat)
                case atStart => exact ⟨0, X, xn, xc, by omega, rfl, rfl, by omega, by omega, by simp only [List.replicate_zero, List.append_nil]; exact HR4⟩
                case round =>
                  clear HR4
                  obtain ⟨i, Y, yn, yc, hi, rfl, rfl, hy1, hy2, HR⟩ := hrel
                  by_cases hiT : i < T
                  · have hO := HR.out.own
                    have hsz := HR.out.upd.size
                    go_wp2_with (at_builtin; refine wpList_app rfl rfl el_int rfl (hO.alloc _) rfl (Seg.one _ _ _) (by simp [Value.oneCell']) (by simp only [maxLen]; omega) (by omega) (by simp; omega) ?_; intro X5 c5 w5 hown5 hu5 hfr5)
                    have HP := Lib.hid (HR.out.push (y := 0) (by omega) hown5 hu5)
                    clear hown5 hu5 hfr5
                    go_roundw
                    case rel => exact ⟨i + 1, X5, yn + 1, c5, by omega, rfl, by go_num, by omega, by omega, by rw [List.replicate_succ', ← List.append_assoc]; exact HP⟩
                    case measure => simp [intOf]; omega
                  · obtain rfl : i = T := by omega
                    have hm4 := HR.out.st.rd.1.cell 1
                    simp at hm4
                    have hp4 := HR.out.st.pos
                    go_wp2
                    go_roundw
                    case rel => exact ⟨q + j + 3, Y, yn, yc, row ++ List.replicate i 0, rfl, by omega, hp4, by omega, HR, ⟨f', by omega, HG5.out⟩⟩
                    case measure => simp [intOf, hmeas, hm4]; omega
            · go_wp2
              go_ret2
              exact ⟨2, q + j, none, 0, 0, [], rfl, HU3.out.read hr4 hv4 hj, HV3.out.trans hv4, Or.inl ⟨by decide, fun k => by rw [HG.out, run_take_no (by rw [HU3.out.bits]; omega)]⟩⟩
          · by_cases h18 : s = 18
            · subst h18
              have HSTEP : Hid (stepOf 18 row = (0, 11, 7)) := rfl
              have HG : Hid (∀ k, run (bitsOf ys) most (rowPr tz N F [] k) p o = run (bitsOf ys) most (.take 7 fun more => if (N : Int) - row.length < 11 + more then .fail 3 else rowPr tz N f' (row ++ List.replicate (11 + more).toNat 0) k) (q + j) o) := fun k => by
                rw [HRUN.out, rowPr_go (by rw [HLEN.out]; exact hlt) HNX.out (by omega), HSTEP.out]
              go_wp2_with fail
              refine (take_any HU3.out 7 (by omega)).mono ?_
              rintro e w4 (⟨hl4, rfl, hr4, hv4⟩ | ⟨hl4, rfl, hr4, hv4⟩)
              · have hnb := num_bd ((bitsOf ys).drop (q + j)) 7 7 (Nat.le_refl _)
                obtain ⟨v, hv⟩ : ∃ v, v = num (((bitsOf ys).drop (q + j)).take 7) := ⟨_, rfl⟩
                rw [← hv] at hnb ⊢
                have hnb0 := hnb.1
                have hnb1 : v < 128 := by have := hnb.2; omega
                have HV := Lib.hid hv
                clear hv hnb
                have hun4 := hv4.one (u := u) (A := OA)
                obtain ⟨Bt, At, nt, ct, Pt, htr⟩ := HR3.out.tree
                have HR4 : Hid (RwIn w w4 B u g RA rn rc ys most OA on oc o tz gt (q + j + 7) X xn xc row) :=
                  ⟨HU3.out.read hr4 hv4 hl4, HV3.out.trans hv4, HR3.out.own.upd hv4 (by intro k hk; simp; rintro rfl; exact HR3.out.own.neBlk HU3.out.rd.1 (by decide) hk), ⟨_, _, _, _, _, htr.keep HU3.out hun4⟩, HR3.out.bd⟩
                have HG4 : Hid (∀ k, run (bitsOf ys) most (rowPr tz N F [] k) p o = run (bitsOf ys) most (if (N : Int) - xn < 11 + v then .fail 3 else rowPr tz N f' (row ++ List.replicate (11 + v).toNat 0) k) (q + j + 7) o) := fun k => by
                  rw [HG.out, run_take_ok (by rw [HU3.out.bits]; exact hl4), ← HV.out, HLEN.out]
                clear hr4 hv4 hun4 htr HR3 HU3 HV3 HG hc3
                by_cases hbig : (N : Int) - xn < 11 + v
                · go_wp2
                  go_ret2
                  exact ⟨3, q + j + 7, none, 0, 0, [], rfl, HR4.out.st, HR4.out.upd, Or.inl ⟨by decide, fun k => by rw [HG4.out, if_pos hbig, run]⟩⟩
                · have hdb : decide ((N : Int) - xn < 11 + v) = false := by simp; omega
                  obtain ⟨T, hT⟩ : ∃ T : Nat, (T : Int) = 11 + v := ⟨(11 + v).toNat, by omega⟩
                  have HT : Hid (11 + v = (T : Int)) := hT.symm
                  have hTN : xn + T ≤ N := by omega
                  have HG5 : Hid (∀ k, run (bitsOf ys) most (rowPr tz N F [] k) p o = run (bitsOf ys) most (rowPr tz N f' (row ++ List.replicate T 0) k) (q + j + 7) o) := fun k => by
                    rw [HG4.out, if_neg (by omega), ← hT, Int.toNat_natCast]
                  clear hT HG4
                  go_wp2
                  rw [HT.out]
                  go_loopw [10, 80] (fun v i wr => ∃ (i' : Nat) (Y : Option Addr) (yn yc : Nat), i' ≤ T ∧ v = .slice Y yn yc ∧ i = .int .i64 i' ∧ yn ≤ xn + i' ∧ xn + i' ≤ yn ∧ Hid (RwIn w wr B u g RA rn rc ys most OA on oc o tz gt (q + j + 7) Y yn yc (row ++ List.replicate i' 0))) (fun _ i _ => T - (intOf i).toNat)
                  case atStart => exact ⟨0, X, xn, xc, by omega, rfl, rfl, by omega, by omega, by simp only [List.replicate_zero, List.append_nil]; exact HR4⟩
                  case round =>
                    clear HR4
                    obtain ⟨i, Y, yn, yc, hi, rfl, rfl, hy1, hy2, HR⟩ := hrel
                    by_cases hiT : i < T
                    · have hO := HR.out.own
                      have hsz := HR.out.upd.size
                      go_wp2_with (at_builtin; refine wpList_app rfl rfl el_int rfl (hO.alloc _) rfl (Seg.one _ _ _) (by simp [Value.oneCell']) (by simp only [maxLen]; omega) (by omega) (by simp; omega) ?_; intro X5 c5 w5 hown5 hu5 hfr5)
                      have HP := Lib.hid (HR.out.push (y := 0) (by omega) hown5 hu5)
                      clear hown5 hu5 hfr5
                      go_roundw
                      case rel => exact ⟨i + 1, X5, yn + 1, c5, by omega, rfl, by go_num, by omega, by omega, by rw [List.replicate_succ', ← List.append_assoc]; exact HP⟩
                      case measure => simp [intOf]; omega
                    · obtain rfl : i = T := by omega
                      have hm4 := HR.out.st.rd.1.cell 1
                      simp at hm4
                      have hp4 := HR.out.st.pos
                      go_wp2
                      go_roundw
                      case rel => exact ⟨q + j + 7, Y, yn, yc, row ++ List.replicate i 0, rfl, by omega, hp4, by omega, HR, ⟨f', by omega, HG5.out⟩⟩
                      case measure => simp [intOf, hmeas, hm4]; omega
              · go_wp2
                go_ret2
                exact ⟨2, q + j, none, 0, 0, [], rfl, HU3.out.read hr4 hv4 hj, HV3.out.trans hv4, Or.inl ⟨by decide, fun k => by rw [HG.out, run_take_no (by rw [HU3.out.bits]; omega)]⟩⟩
            · have d16 : (s == 16) = false := by simp [h16]
              have d17 : (s == 17) = false := by simp [h17]
              have d18 : (s == 18) = false := by simp [h18]
              have HSTEP : Hid (stepOf s row = (s, 1, 0)) := by show _ = _; unfold stepOf; rw [if_neg h16, if_neg h17, if_neg h18]
              have HG : Hid (∀ k, run (bitsOf ys) most (rowPr tz N F [] k) p o = run (bitsOf ys) most (.take 0 fun more => if (N : Int) - row.length < 1 + more then .fail 3 else rowPr tz N f' (row ++ List.replicate (1 + more).toNat s) k) (q + j) o) := fun k => by
                rw [HRUN.out, rowPr_go (by rw [HLEN.out]; exact hlt) HNX.out (by omega), HSTEP.out]
              go_wp2_with fail
              refine (take_any HU3.out 0 (by omega)).mono ?_
              rintro e w4 (⟨hl4, rfl, hr4, hv4⟩ | ⟨hl4, rfl, hr4, hv4⟩)
              · have hnb := num_bd ((bitsOf ys).drop (q + j)) 0 0 (Nat.le_refl _)
                obtain ⟨v, hv⟩ : ∃ v, v = num (((bitsOf ys).drop (q + j)).take 0) := ⟨_, rfl⟩
                rw [← hv] at hnb ⊢
                have hnb0 := hnb.1
                have hnb1 : v < 128 := by have := hnb.2; omega
                have HV := Lib.hid hv
                clear hv hnb
                have hun4 := hv4.one (u := u) (A := OA)
                obtain ⟨Bt, At, nt, ct, Pt, htr⟩ := HR3.out.tree
                have HR4 : Hid (RwIn w w4 B u g RA rn rc ys most OA on oc o tz gt (q + j + 0) X xn xc row) :=
                  ⟨HU3.out.read hr4 hv4 hl4, HV3.out.trans hv4, HR3.out.own.upd hv4 (by intro k hk; simp; rintro rfl; exact HR3.out.own.neBlk HU3.out.rd.1 (by decide) hk), ⟨_, _, _, _, _, htr.keep HU3.out hun4⟩, HR3.out.bd⟩
                have HG4 : Hid (∀ k, run (bitsOf ys) most (rowPr tz N F [] k) p o = run (bitsOf ys) most (if (N : Int) - xn < 1 + v then .fail 3 else rowPr tz N f' (row ++ List.replicate (1 + v).toNat s) k) (q + j + 0) o) := fun k => by
                  rw [HG.out, run_take_ok (by rw [HU3.out.bits]; exact hl4), ← HV.out, HLEN.out]
                clear hr4 hv4 hun4 htr HR3 HU3 HV3 HG hc3
                by_cases hbig : (N : Int) - xn < 1 + v
                · go_wp2
                  go_ret2
                  exact ⟨3, q + j + 0, none, 0, 0, [], rfl, HR4.out.st, HR4.out.upd, Or.inl ⟨by decide, fun k => by rw [HG4.out, if_pos hbig, run]⟩⟩
                · have hdb : decide ((N : Int) - xn < 1 + v) = false := by simp; omega
                  obtain ⟨T, hT⟩ : ∃ T : Nat, (T : Int) = 1 + v := ⟨(1 + v).toNat, by omega⟩
                  have HT : Hid (1 + v = (T : Int)) := hT.symm
                  have hTN : xn + T ≤ N := by omega
                  have HG5 : Hid (∀ k, run (bitsOf ys) most (rowPr tz N F [] k) p o = run (bitsOf ys) most (rowPr tz N f' (row ++ List.replicate T s) k) (q + j + 0) o) := fun k => by
                    rw [HG4.out, if_neg (by omega), ← hT, Int.toNat_natCast]
                  clear hT HG4
                  go_wp2
                  rw [HT.out]
                  go_loopw [10, 80] (fun v i wr => ∃ (i' : Nat) (Y : Option Addr) (yn yc : Nat), i' ≤ T ∧ v = .slice Y yn yc ∧ i = .int .i64 i' ∧ yn ≤ xn + i' ∧ xn + i' ≤ yn ∧ Hid (RwIn w wr B u g RA rn rc ys most OA on oc o tz gt (q + j + 0) Y yn yc (row ++ List.replicate i' s))) (fun _ i _ => T - (intOf i).toNat)
                  case atStart => exact ⟨0, X, xn, xc, by omega, rfl, rfl, by omega, by omega, by simp only [List.replicate_zero, List.append_nil]; exact HR4⟩
                  case round =>
                    clear HR4
                    obtain ⟨i, Y, yn, yc, hi, rfl, rfl, hy1, hy2, HR⟩ := hrel
                    by_cases hiT : i < T
                    · have hO := HR.out.own
                      have hsz := HR.out.upd.size
                      go_wp2_with (at_builtin; refine wpList_app rfl rfl el_int rfl (hO.alloc _) rfl (Seg.one _ _ _) (by simp [Value.oneCell']) (by simp only [maxLen]; omega) (by omega) (by simp; omega) ?_; intro X5 c5 w5 hown5 hu5 hfr5)
                      have HP := Lib.hid (HR.out.push (y := s) (by omega) hown5 hu5)
                      clear hown5 hu5 hfr5
                      go_roundw
                      case rel => exact ⟨i + 1, X5, yn + 1, c5, by omega, rfl, by go_num, by omega, by omega, by rw [List.replicate_succ', ← List.append_assoc]; exact HP⟩
                      case measure => simp [intOf]; omega
                    · obtain rfl : i = T := by omega
                      have hm4 := HR.out.st.rd.1.cell 1
                      simp at hm4
                      have hp4 := HR.out.st.pos
                      go_wp2
                      go_roundw
                      case rel => exact ⟨q + j + 0, Y, yn, yc, row ++ List.replicate i s, rfl, by omega, hp4, by omega, HR, ⟨f', by omega, HG5.out⟩⟩
                      case measure => simp [intOf, hmeas, hm4]; omega
              · go_wp2
                go_ret2
                exact ⟨2, q + j, none, 0, 0, [], rfl, HU3.out.read hr4 hv4 hj, HV3.out.trans hv4, Or.inl ⟨by decide, fun k => by rw [HG.out, run_take_no (by rw [HU3.out.bits]; omega)]⟩⟩
      · have hd3 : (err != 0) = true := by simp [he]
        go_wp2
        go_ret2
        exact ⟨err, q + j, none, 0, 0, [], rfl, HU3.out, HV3.out, Or.inl ⟨he, fun k => by rw [HRUN.out, rowPr, if_neg (by rw [HLEN.out]; omega), run_next_no HNX.out he]⟩⟩
    · go_wp2
      go_ret2
      exact ⟨0, q, X, xn, xc, row, rfl, HR.out.st, HR.out.upd, Or.inr ⟨rfl, hpq, by omega, HR.out.own, HR.out.bd, fun k => by rw [HRUN.out, rowPr, if_pos (by rw [HLEN.out]; omega)]⟩⟩

end Go.Proofs.YtolcdlopgbgilaaGreatDoor
