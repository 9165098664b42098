/- Merged by wip/tools/merge.py: InfJ InfK0 InfLaid RiA. -/
import Derived.LaidMore
import Derived.Stop.Joined
import Derived.Test.YtolcdlopgbgilaaGreatDoorMz01
import Derived.Test.YtolcdlopgbgilaaGreatDoorMz04
import Derived.Test.YtolcdlopgbgilaaGreatDoorMz05
import Derived.Test.YtolcdlopgbgilaaGreatDoorMz08
import Derived.Test.YtolcdlopgbgilaaGreatDoorMz09

/-! Text InfJ. -/
namespace Go.Proofs.YtolcdlopgbgilaaGreatDoor
open Go.RowKit Go.Dray

/-- The variable order, as the program's text lays it. -/
def OrdI (w : World) : Prop := ∀ i, i < 19 → w.cell? ⟨2, i, none⟩ = some (.int .i64 (orderL.getD i 0 : Nat))
theorem OrdI.low {w : World} (h : OrdI w) : 2 < w.heap.size := cell_lt (h 0 (by omega))
theorem OrdI.upd {w w' : World} (h : OrdI w) (hu : Upd [] w w') : OrdI w' := fun i hi => hu.cell (h i hi) (by simp)

/-- What Inflate hands back. -/
def InflPost (w : World) (ys : List Int) (n : Nat) (most : Int) (F : Nat) (e : Ending) (w' : World) : Prop :=
  Upd [] w w' ∧ ((¬ (0 ≤ most ∧ most ≤ 16777216) ∧ e = .returned (.tuple #[.slice none 0 0, .int .i64 0, .int .i64 1])) ∨
    (0 ≤ most ∧ most ≤ 16777216 ∧ ∃ x, x ≠ 0 ∧ run (bitsOf ys) most.toNat (infPr F F) 0 [] = .err x ∧ e = .returned (.tuple #[.slice none 0 0, .int .i64 0, .int .i64 x])) ∨
    (0 ≤ most ∧ most ≤ 16777216 ∧ ∃ out p A on oc, run (bitsOf ys) most.toNat (infPr F F) 0 [] = .ok out p ∧ e = .returned (.tuple #[.slice A on oc, .int .i64 ((p + 7) / 8 : Nat), .int .i64 0]) ∧
      Ints .u8 w' A on out ∧ on ≤ oc ∧ oc ≤ maxLen ∧ (∀ z ∈ out, 0 ≤ z ∧ z ≤ 255) ∧ (∀ x, ob A = some x → w.heap.size ≤ x) ∧ p ≤ 8 * n ∧ on ≤ most.toNat))

set_option maxRecDepth 100000 in
set_option maxHeartbeats 4000000 in
theorem inflate_any (A : Option Addr) (n c : Nat) (ys : List Int) (most : Int) (w : World) (hs : Ints .u8 w A n ys) (hb : ∀ z ∈ ys, 0 ≤ z ∧ z ≤ 255) (ho : OrdI w) (hn : n ≤ 1000000000000) (F : Nat) (hF : 8 * n < F) :
    Calls Tryz.prog 17 #[.slice A n c, .int .i64 most] w (InflPost w ys n most F) := by
  have HS := Lib.hid hs
  have HB := Lib.hid hb
  have HO := Lib.hid ho
  clear hs hb ho
  by_cases hneg : most < 0
  · go_enter Tryz.func17, Tryz.ntmps17
    go_wp2
    go_ret3
    exact ⟨Upd.refl _ _, Or.inl ⟨by omega, rfl⟩⟩
  · by_cases hbig : 16777216 < most
    · go_enter Tryz.func17, Tryz.ntmps17
      go_wp2
      go_ret3
      exact ⟨Upd.refl _ _, Or.inl ⟨by omega, rfl⟩⟩
    · obtain ⟨M, rfl⟩ := Int.eq_ofNat_of_zero_le (show 0 ≤ most by omega)
      have hM : M ≤ 16777216 := by omega
      have d1 : decide ((M : Int) < 0) = false := by simp
      have d2 : decide ((16777216 : Int) < M) = false := by simp; omega
      clear hneg hbig
      go_enter Tryz.func17, Tryz.ntmps17
      go_wp2_with fail
      refine (newReader_any A n c ys w HS.out (by omega)).mono ?_
      rintro e w1 ⟨g, RA, rc, rfl, hg, hr1, hv1⟩
      have HG := Lib.hid hg
      obtain ⟨u, hu⟩ : ∃ u, u = w1.heap.size := ⟨_, rfl⟩
      obtain ⟨w2, hw2⟩ : ∃ w2 : World, w2 = w1.alloc (.cells #[.pointer (some ⟨g, 0, none⟩), .slice none 0 0, .int .i64 M] 80) := ⟨_, rfl⟩
      have hb2 : Blk w2 u 80 #[.pointer (some ⟨g, 0, none⟩), .slice none 0 0, .int .i64 M] := by rw [hw2, hu]; exact Blk.new _ _ _
      have hv2 : Upd [] w1 w2 := by rw [hw2]; exact (Upd.refl _ _).alloc _
      have HUB : Hid (w.heap.size ≤ u) := by rw [hu]; exact hv1.size
      have HU2 : Hid (USt w2 w.heap.size u g RA n rc ys M 0 none 0 0 []) := ⟨hb2, hr1.upd hv2 (by simp) (by simp), Own.nil _ _ _ _, fun x hx => (by cases hx), Nat.zero_le _, Nat.zero_le _, HB.out, hn, hM, by simp, (hv1.trans hv2).size⟩
      have HV2 : Hid (Upd [] w w2) := hv1.trans hv2
      have HO2 : Hid (OSt w2 w.heap.size u g) := ⟨HO.out.upd HV2.out, HO.out.low, HUB.out, hg⟩
      clear hb2 hv2 hr1 hv1 hg
      go_wp2
      rw [← hw2, ← hu]
      clear hw2 hu
      go_loopw [8] (fun v wr => ∃ (last : Int) (q : Nat) (OA : Option Addr) (on oc : Nat) (o : List Int), v = .int .i64 last ∧ (last = 0 ∨ last = 1) ∧ q ≤ 8 * n ∧ Hid (USt wr w.heap.size u g RA n rc ys M q OA on oc o) ∧ Hid (Upd [] w wr ∧ OSt wr w.heap.size u g) ∧ Hid (if last = 0 then ∃ f, 8 * n - q < f ∧ run (bitsOf ys) M (infPr F F) 0 [] = run (bitsOf ys) M (infPr F f) q o else run (bitsOf ys) M (infPr F F) 0 [] = .ok o q))
        (fun v wr => if intOf v = 0 then 8 * n + 1 - (intOf ((wr.cell? ⟨g, 1, none⟩).getD undef)).toNat else 0)
      case atStart => exact ⟨0, 0, none, 0, 0, [], rfl, Or.inl rfl, by omega, HU2, ⟨HV2.out, HO2.out⟩, by show ite _ _ _; rw [if_pos rfl]; exact ⟨F, by omega, rfl⟩⟩
      case round =>
        clear HU2 HV2 HO2
        obtain ⟨last, q, OA, on, oc, o, rfl, hl, hq, HU, HX, HR⟩ := hrel
        have hmeas := HU.out.rd.1.cell 1
        simp at hmeas
        have hc0 := HU.out.blk.cell 0
        have hc1 := HU.out.blk.cell 1
        simp at hc0 hc1
        rcases hl with rfl | rfl
        · have hR := HR.out
          rw [if_pos rfl] at hR
          obtain ⟨f, hf, hrun⟩ := hR
          obtain ⟨f', rfl⟩ : ∃ f', f = f' + 1 := ⟨f - 1, by omega⟩
          have HRUN := Lib.hid hrun
          clear hrun HR
          go_wp2_with fail
          refine (take_any HU.out 1 (by omega)).mono ?_
          rintro e w3 (⟨hl3, rfl, hr3, hv3⟩ | ⟨hl3, rfl, hr3, hv3⟩)
          · have hnb := num_bd ((bitsOf ys).drop q) 1 1 (Nat.le_refl _)
            obtain ⟨v, hv⟩ : ∃ v, v = num (((bitsOf ys).drop q).take 1) := ⟨_, rfl⟩
            rw [← hv] at hnb ⊢
            have hv01 : v = 0 ∨ v = 1 := by have := hnb.1; have := hnb.2; omega
            have HS3 : Hid (run (bitsOf ys) M (infPr F F) 0 [] = run (bitsOf ys) M (blockPr F (if v = 0 then infPr F f' else .done)) (q + 1) o) := by
              show _ = _
              rw [HRUN.out, infPr, run_take_ok (by rw [HU.out.bits]; exact hl3), ← hv]
            have HU3 := Lib.hid (HU.out.read hr3 hv3 hl3)
            have HV3 : Hid (Upd [] w w3) := HX.out.1.then hv3 (by intro b hb; simp at hb; rw [hb]; exact Or.inr HG.out)
            have HO3 := Lib.hid (HX.out.2.upd hv3 (by intro b hb; simp at hb; rw [hb]; exact HG.out))
            clear hr3 hv3 hv hnb HRUN HX hc0 hc1
            go_wp2_with fail
            refine (block_any HU3.out HO3.out F (by omega)).mono ?_
            rintro e w4 ⟨err, p4, OA4, on4, oc4, o4, rfl, hu4, hv4, hf4, hres⟩
            have hL : ∀ b, some b ∈ [some u, some g, ob OA] → w.heap.size ≤ b := by
              intro b hb
              simp at hb
              rcases hb with rfl | rfl | hb
              · exact HUB.out
              · exact HG.out
              · exact (HU3.out.own.base hb.symm).1
            have HV4 : Hid (Upd [] w w4) := HV3.out.then hv4 (fun b hb => Or.inr (hL b hb))
            have HO4 := Lib.hid (HO3.out.upd hv4 hL)
            have HU4 := Lib.hid hu4
            clear hv4 hL hu4
            rcases hres with ⟨he, hrun⟩ | ⟨rfl, hp4, hrun⟩
            · have hde : (err != 0) = true := by simp [he]
              go_wp2
              go_ret3
              exact ⟨HV4.out, Or.inr (Or.inl ⟨by omega, by omega, err, he, by rw [Int.toNat_natCast, HS3.out, hrun], rfl⟩)⟩
            · have HS4 : Hid (run (bitsOf ys) M (infPr F F) 0 [] = run (bitsOf ys) M (if v = 0 then infPr F f' else .done) p4 o4) := by show _ = _; rw [HS3.out, hrun]
              have hm4 := HU4.out.rd.1.cell 1
              simp at hm4
              have hp48 := HU4.out.pos
              clear hrun HS3
              go_wp2
              go_roundw
              case rel =>
                refine ⟨v, p4, OA4, on4, oc4, o4, rfl, hv01, hp48, HU4, ⟨HV4.out, HO4.out⟩, ?_⟩
                show ite _ _ _
                by_cases hv0 : v = 0
                · rw [if_pos hv0]
                  refine ⟨f', by omega, ?_⟩
                  rw [HS4.out, if_pos hv0]
                · rw [if_neg hv0, HS4.out, if_neg hv0, run]
              case measure => simp [intOf, hmeas, hm4]; split <;> omega
          · go_wp2
            go_ret3
            exact ⟨HX.out.1.then hv3 (by intro b hb; simp at hb; rw [hb]; exact Or.inr HG.out), Or.inr (Or.inl ⟨by omega, by omega, 2, by decide, by rw [Int.toNat_natCast, HRUN.out, infPr, run_take_no (by rw [HU.out.bits]; exact hl3)], rfl⟩)⟩
        · have hR := HR.out
          rw [if_neg (by decide)] at hR
          have HRUN := Lib.hid hR
          clear hR HR
          have cut := run_cut_hm el_byte OA on oc .i64 .i64 (on : Int) (on : Int) on on rfl rfl (Nat.le_refl _) HU.out.own.le
          have hrb := HU.out.rb
          have HRD := Lib.hid HU.out.rd
          go_wp2
          go_quiet ((go_at_call 40; exact quietL (at_any (HRD.out.drewN _))))
          go_wp2
          go_ret3
          refine ⟨HX.out.1.drewN _, Or.inr (Or.inr ⟨by omega, by omega, o, q, OA, on, on, by rw [Int.toNat_natCast]; exact HRUN.out, ?_, (Ints.ofOwn HU.out.own).drewN _, Nat.le_refl _, by have := HU.out.room; simp only [maxLen]; omega, HU.out.obd, fun x hx => (HU.out.own.base hx).1, hq, by rw [Int.toNat_natCast]; exact HU.out.room⟩)⟩
          rw [show (((q + 7) / 8 : Nat) : Int) = ((q : Int) + 7) / 8 from by omega]
          rfl

end Go.Proofs.YtolcdlopgbgilaaGreatDoor

/-! Text InfK0. -/
namespace Go.Proofs.YtolcdlopgbgilaaGreatDoor
open Go.RowKit Go.Dray

theorem inBytes_bd {W : World} {A : Option Addr} {n c : Nat} {zs : List Int} (h : InInts .u8 W A n c zs) : ∀ z ∈ zs, 0 ≤ z ∧ z ≤ 255 := fun z hz => bounds_u8 (h.2.2.2 z hz)

theorem run_take_val {bs : List Bool} {most n p : Nat} {k : Int → Pr} {o : List Int} (v : Int) (h : p + n ≤ bs.length) (hv : num ((bs.drop p).take n) = v) : run bs most (.take n k) p o = run bs most (k v) (p + n) o := by rw [run, if_pos h, hv]

def aw1 : List Int := [1, 1, 0, 254, 255, 97]
def aw2 : List Int := [75, 4, 0, 9]
theorem aw1_run (F f : Nat) : run (bitsOf aw1) 10 (infPr F (f + 1)) 0 [] = .ok [97] 48 := by
  have hl : (bitsOf aw1).length = 48 := by rw [bitsOf_len]; rfl
  rw [infPr, run_take_val 1 (by rw [hl]; decide) (by decide +kernel)]
  unfold blockPr
  rw [run_take_val 0 (by rw [hl]; decide) (by decide +kernel), if_pos rfl]
  unfold storedPr
  rw [run, show alignUp (0 + 1 + 2) = 8 from rfl]
  rw [run_take_val 1 (by rw [hl]; decide) (by decide +kernel), run_take_val 65534 (by rw [hl]; decide) (by decide +kernel), if_neg (by decide), run]
  rw [show alignUp (8 + 16 + 16) = 40 from rfl, if_pos (by rw [hl]; decide), run, show bytesAt (bitsOf aw1) 40 (Int.toNat 1) = [97] from by decide +kernel, if_pos (by decide), if_neg (by decide), run]
  rfl
theorem aw2_run (F f : Nat) (hF : 2 ≤ F) : run (bitsOf aw2) 10 (infPr F (f + 1)) 0 [] = .ok [97] 18 := by
  have hl : (bitsOf aw2).length = 32 := by rw [bitsOf_len]; rfl
  rw [infPr, run_take_val 1 (by rw [hl]; decide) (by decide +kernel)]
  unfold blockPr
  rw [run_take_val 1 (by rw [hl]; decide) (by decide +kernel), if_neg (by decide), if_pos rfl]
  have hh : Has fixedL 97 := by unfold Has; decide +kernel
  have h256 : Has fixedL 256 := by unfold Has; decide +kernel
  have e := sym_back (bs := bitsOf aw2) (most := 10) (k := if (1 : Int) = 0 then infPr F f else .done) fixedL_chk fixedD_chk h256 [(97, 0)] [] (0 + 1 + 2) F (by rw [hl]; decide)
    (by intro x hx; rw [List.mem_singleton] at hx; subst hx; unfold PieceHas; rw [if_pos rfl]; exact hh) ⟨Or.inl ⟨rfl, by decide, by decide⟩, trivial⟩ ⟨(bitsOf aw2).drop 18, by decide +kernel⟩ (by show 1 < F; omega) (by decide)
  rw [e, if_neg (by decide), run, show (blockBits fixedL fixedD [(97, 0)]).length = 15 from by decide +kernel]
  rfl

theorem str_cut {w : World} {A : Option Addr} {n c : Nat} {zs : List Int} (h : Ints .u8 w A n zs) : (convert 22 9 (.slice A n c)).run Tryz.prog w = .ok (.string (strOfNums zs)) w :=
  h.str Tryz.underlying22 Tryz.underlying5 Tryz.underlying9 c

theorem infl_pos {bs : List Bool} {most F f p : Nat} {out : List Int} (h : run bs most (infPr F (f + 1)) 0 [] = .ok out p) : 1 ≤ p := by
  rw [infPr, run] at h
  split at h
  · exact (run_ge _ h).1
  · cases h

theorem bitsOf_cut (zs : List Int) (k : Nat) (h : k ≤ zs.length) : bitsOf (zs.take k) = (bitsOf zs).take (8 * k) := by
  apply List.ext_getElem?
  intro i
  by_cases hi : i < 8 * k
  · rw [List.getElem?_take_of_lt hi]
    unfold bitsOf
    rw [tab_get _ (by rw [List.length_take]; omega), tab_get _ (by omega)]
    have h1 : (zs.take k).getD (i / 8) 0 = zs.getD (i / 8) 0 := by
      simp only [List.getD, List.getElem?_take_of_lt (show i / 8 < k by omega)]
    rw [h1]
  · rw [List.getElem?_eq_none (by rw [bitsOf_len, List.length_take]; omega), List.getElem?_eq_none (by rw [List.length_take]; omega)]

theorem bitsOf_app (xs ys : List Int) : bitsOf (xs ++ ys) = bitsOf xs ++ bitsOf ys := by
  have h := bitsOf_cut (xs ++ ys) xs.length (by rw [List.length_append]; omega)
  rw [List.take_left'] at h
  · have e : bitsOf (xs ++ ys) = (bitsOf (xs ++ ys)).take (8 * xs.length) ++ (bitsOf (xs ++ ys)).drop (8 * xs.length) := (List.take_append_drop _ _).symm
    rw [e, ← h]
    congr 1
    apply List.ext_getElem?
    intro i
    rw [List.getElem?_drop]
    by_cases hi : i < 8 * ys.length
    · unfold bitsOf
      rw [tab_get _ (by rw [List.length_append]; omega), tab_get _ hi]
      have h1 : (xs ++ ys).getD ((8 * xs.length + i) / 8) 0 = ys.getD (i / 8) 0 := by
        simp only [List.getD]
        rw [List.getElem?_append_right (by omega), show (8 * xs.length + i) / 8 - xs.length = i / 8 from by omega]
      rw [h1, show (8 * xs.length + i) % 8 = i % 8 from by omega]
    · rw [List.getElem?_eq_none (by rw [bitsOf_len, List.length_append]; omega), List.getElem?_eq_none (by rw [bitsOf_len]; omega)]
  · rfl

end Go.Proofs.YtolcdlopgbgilaaGreatDoor

/-! Text InfLaid. -/
namespace Go.Proofs.YtolcdlopgbgilaaGreatDoor
open Go.ChangeShapes Go.WideShapes Go.ChangeAt Go.RowKit Go.Dray

/-- A row of integers that reads as a known datum. -/
theorem trod_row {H : Type} {enc : TypeId × Value → H} {W : World} {base : Nat} {sp : Nat → Bool} {held : Bool} {fuel : Nat} {t e : TypeId} {n : Nat} {k : IntKind} {cs : List Value} {x : DataW H × List MemPlace}
    (ht : Tryz.prog.underlying t = some (.array n e)) (he : Tryz.prog.underlying e = some (.int k)) (hc : Tryz.prog.cellsOf e = 1) (hct : Tryz.prog.cellsOf t = n) (h : DataW.trod enc Tryz.prog W base sp held fuel t cs = some x)
    (zs : List Int) (hx : x.1 = .agg (zs.map fun z => .lit (.int k z))) : cs = zs.map (Value.int k) := by
  obtain ⟨xs, m, rfl, rfl, hlen, hn, hel⟩ := DataW.trod_array ht h
  simp only [DataW.agg.injEq] at hx
  have hl : zs.length = n := by
    have := congrArg List.length hx
    simp at this
    omega
  apply List.ext_getElem?
  intro i
  rw [hct] at hlen
  rcases Nat.lt_or_ge i n with hi | hi
  · have h1 := hel i hi
    rw [hc, Nat.mul_one, List.getElem?_eq_getElem (by omega)] at h1
    obtain ⟨z, e1, e2, _⟩ := DataW.trod_int he h1
    have h2 : (xs.map (·.1))[i]? = some (.lit (.int k z)) := by rw [List.getElem?_map, List.getElem?_eq_getElem (by omega), e2]; rfl
    rw [hx, List.getElem?_map, List.getElem?_eq_getElem (by omega)] at h2
    simp at h2
    have h3 : ((cs.drop i).take 1)[0]? = some (Value.int k z) := by rw [e1]; rfl
    rw [List.getElem?_take_of_lt (by omega), List.getElem?_drop, Nat.add_zero] at h3
    rw [h3, List.getElem?_map, List.getElem?_eq_getElem (by omega), ← h2]
    rfl
  · rw [List.getElem?_eq_none (by omega), List.getElem?_eq_none (by rw [List.length_map]; omega)]

def ordI : List Int := orderL.map fun n : Nat => (n : Int)
theorem ordI_cell {cs : Array Value} (h : cs.toList = ordI.map (Value.int .i64)) (i : Nat) (hi : i < 19) : cs[i]? = some (.int .i64 (orderL.getD i 0 : Nat)) := by
  rw [← Array.getElem?_toList, h]
  unfold ordI
  rw [List.map_map, List.getElem?_map, List.getElem?_eq_getElem (show i < orderL.length from hi)]
  simp [List.getD, show i < orderL.length from hi]

def laidI : List (String × DataW Unit) := [("drayage/inflate.order", Rows.laid_drayage_inflate_order)]

theorem doorI (os : Os) (args : Array Value) : laidMetH Tryz.prog laidI ((World.doorLaid Tryz.prog 400 os).forCall (fun _ _ => 0) ⟨#[], args, []⟩).memory :=
  laidMetH_of_parts3 (fuel := 8) (laidMet_of_run' 8 (by kernel_rfl) (by kernel_rfl)) (by kernel_rfl) (by kernel_rfl)

theorem of_laidI {W : World} (h : laidMetH Tryz.prog laidI W) : OrdI W := by
  rw [MakeChecks.laidMetH_plain _ _ _ (by kernel_rfl)] at h
  obtain ⟨ps, ⟨g0, t0, cs0, f0, p0, q0, hg0, ht0, hv0, hd0, _⟩, _, _⟩ := h
  obtain rfl := Option.some.inj ((show Tryz.prog.globalNamed "drayage/inflate.order" = some 2 by kernel_rfl).symm.trans hg0)
  obtain rfl := Option.some.inj ((show (Tryz.prog.globals[2]?).map (·.type) = some 116 by kernel_rfl).symm.trans ht0)
  have r0 := trod_row (n := 19) (e := 3) (k := .i64) (by kernel_rfl) (by kernel_rfl) (by kernel_rfl) (by kernel_rfl) hd0 ordI rfl
  intro i hi
  rw [World.var?_cell hg0 hv0 i]
  exact ordI_cell r0 i hi

end Go.Proofs.YtolcdlopgbgilaaGreatDoor

/-! Text RiA. -/
namespace Go.Proofs.YtolcdlopgbgilaaGreatDoor
open Go.RowKit Go.Dray

/-- The reference's state at block s: p bits are gone of bs; what came: o; the error e. -/
structure RSt (w : World) (B s : Nat) (X : Option Addr) (xc : Nat) (bs : List Bool) (p : Nat) (OA : Option Addr) (on oc : Nat) (o : List Int) (most : Nat) (e : Int) : Prop where
  blk : Blk w s 89 #[.slice X bs.length xc, .int .i64 p, .slice OA on oc, .int .i64 most, .int .i64 e]
  bits : Own w B 3 1 X bs.length xc ((bs.map b2i).map (Value.int .i64))
  own : Own w B 5 1 OA on oc (o.map (Value.int .u8))
  sb : B ≤ s
  pos : p ≤ bs.length
  room : on ≤ most + 1
  room0 : e = 0 → on ≤ most
  blen : bs.length ≤ 8000000000000
  mb : most ≤ 16777216
  obd : ∀ z ∈ o, 0 ≤ z ∧ z ≤ 255
  bw : B ≤ w.heap.size

section
variable {w w' : World} {B s : Nat} {X : Option Addr} {xc : Nat} {bs : List Bool} {p : Nat} {OA : Option Addr} {on oc : Nat} {o : List Int} {most : Nat} {e : Int}
theorem RSt.olen (h : RSt w B s X xc bs p OA on oc o most e) : o.length = on := by have := h.own.len; rw [List.length_map] at this; omega
theorem RSt.grow (h : RSt w B s X xc bs p OA on oc o most e) (hu : Upd [] w w') : RSt w' B s X xc bs p OA on oc o most e :=
  ⟨h.blk.upd hu (by simp), h.bits.upd hu (by simp), h.own.upd hu (by simp), h.sb, h.pos, h.room, h.room0, h.blen, h.mb, h.obd, Nat.le_trans h.bw hu.size⟩
theorem RSt.drewN (h : RSt w B s X xc bs p OA on oc o most e) (q : Nat) : RSt (w.drewN q) B s X xc bs p OA on oc o most e := ⟨h.blk, h.bits, h.own, h.sb, h.pos, h.room, h.room0, h.blen, h.mb, h.obd, h.bw⟩
/-- A place is told. -/
theorem RSt.move (h : RSt w B s X xc bs p OA on oc o most e) {q : Nat} (hq : q ≤ bs.length) : RSt (w.setCell ⟨s, 1, none⟩ (.int .i64 q)) B s X xc bs q OA on oc o most e :=
  ⟨h.blk.set 1 _, h.bits.far (p := ⟨s, 1, none⟩) (h.bits.neBlk h.blk (by decide)) _, h.own.far (p := ⟨s, 1, none⟩) (h.own.neBlk h.blk (by decide)) _, h.sb, hq, h.room, h.room0, h.blen, h.mb, h.obd, by have := h.bw; simp; omega⟩
/-- An error is kept. -/
theorem RSt.err (h : RSt w B s X xc bs p OA on oc o most e) {e' : Int} (he : e' ≠ 0) : RSt (w.setCell ⟨s, 4, none⟩ (.int .i64 e')) B s X xc bs p OA on oc o most e' :=
  ⟨h.blk.set 4 _, h.bits.far (p := ⟨s, 4, none⟩) (h.bits.neBlk h.blk (by decide)) _, h.own.far (p := ⟨s, 4, none⟩) (h.own.neBlk h.blk (by decide)) _, h.sb, h.pos, h.room, fun h => absurd h he, h.blen, h.mb, h.obd, by have := h.bw; simp; omega⟩
theorem RSt.put (_ : RSt w B s X xc bs p OA on oc o most e) (k : Nat) (u : Value) : Upd [some s] w (w.setCell ⟨s, k, none⟩ u) := (Upd.refl _ w).setCell (p := ⟨s, k, none⟩) (Or.inl (by simp)) _
end

/-- What reading a number leaves. -/
def NumPost (w : World) (B s : Nat) (X : Option Addr) (xc : Nat) (bs : List Bool) (p : Nat) (OA : Option Addr) (on oc : Nat) (o : List Int) (most : Nat) (err : Int) (n : Nat) (e : Ending) (w' : World) : Prop :=
  ∃ v p' err', e = .returned (.int .i64 v) ∧ RSt w' B s X xc bs p' OA on oc o most err' ∧ Upd [some s] w w' ∧ p ≤ p' ∧ 0 ≤ v ∧ v < 2 ^ n ∧
    ((err ≠ 0 ∧ err' = err ∧ p' = p ∧ v = 0) ∨ (err = 0 ∧ p + n ≤ bs.length ∧ err' = 0 ∧ p' = p + n ∧ v = num ((bs.drop p).take n)) ∨ (err = 0 ∧ bs.length < p + n ∧ err' = 2 ∧ p' = p ∧ v = 0))

set_option maxRecDepth 100000 in
set_option maxHeartbeats 1000000 in
theorem number_any {w : World} {B s : Nat} {X : Option Addr} {xc : Nat} {bs : List Bool} {p : Nat} {OA : Option Addr} {on oc : Nat} {o : List Int} {most : Nat} {err : Int} (h : RSt w B s X xc bs p OA on oc o most err) (n : Nat) (hn : n ≤ 24) :
    Calls Tryz.prog 44 #[.pointer (some ⟨s, 0, none⟩), .int .i64 n] w (NumPost w B s X xc bs p OA on oc o most err n) := by
  have HS := Lib.hid h
  have c0 := h.blk.cell 0
  have c1 := h.blk.cell 1
  have c4 := h.blk.cell 4
  have f1 := h.blk.frozen 1
  have f4 := h.blk.frozen 4
  simp at c0 c1 c4
  have hp := h.pos
  have hb := h.blen
  have HPW : Hid ((0 : Int) < 2 ^ n) := Int.pow_pos (by decide)
  obtain ⟨N, hN⟩ : ∃ N, N = bs.length := ⟨_, rfl⟩
  have HN := Lib.hid hN
  rw [← hN] at c0 hp hb
  clear h hN
  by_cases he : err = 0
  · subst he
    by_cases hl : p + n ≤ N
    · have d1 : decide ((N : Int) - p < n) = false := by simp; omega
      have HBI : Hid (Ints .i64 w X N (bs.map b2i)) := by rw [HN.out]; exact Ints.ofOwn HS.out.bits
      have hxc : N ≤ xc := by rw [HN.out]; exact HS.out.bits.le
      go_enter Tryz.func44, Tryz.ntmps44
      go_wp2
      go_quiet (fail)
      have HS1 := Lib.hid (HS.out.drewN nq)
      have c0' : (w.drewN nq).cell? ⟨s, 0, none⟩ = some (.slice X N xc) := c0
      have c1' : (w.drewN nq).cell? ⟨s, 1, none⟩ = some (.int .i64 p) := c1
      have f1' : (w.drewN nq).frozen? ⟨s, 1, none⟩ = false := f1
      have HB1 := Lib.hid (HBI.out.drewN nq)
      have HU1 : Hid (Upd [some s] w (w.drewN nq)) := (Upd.refl _ w).drewN nq
      generalize w.drewN nq = w1 at HS1 c0' c1' f1' HB1 HU1 ⊢
      clear c0 c1 c4 f1 f4 HS HBI
      go_wp2
      have HS2 : Hid (RSt (w1.setCell ⟨s, 1, none⟩ (.int .i64 ((p : Int) + n))) B s X xc bs (p + n) OA on oc o most 0) := HS1.out.move (q := p + n) (by rw [← HN.out]; exact hl)
      have HU2 : Hid (Upd [some s] w (w1.setCell ⟨s, 1, none⟩ (.int .i64 ((p : Int) + n)))) := HU1.out.trans (HS1.out.put 1 _)
      have HB2 : Hid (Ints .i64 (w1.setCell ⟨s, 1, none⟩ (.int .i64 ((p : Int) + n))) X N (bs.map b2i)) := by rw [HN.out]; exact Ints.ofOwn HS2.out.bits
      have k0 := HS2.out.blk.cell 0
      have k1 := HS2.out.blk.cell 1
      simp at k0 k1
      rw [← HN.out] at k0
      generalize w1.setCell ⟨s, 1, none⟩ (.int .i64 ((p : Int) + n)) = w2 at HS2 HU2 HB2 k0 k1 ⊢
      clear HS1 HB1 HU1 c0' c1' f1'
      have cut := run_cut_lh el_int X N xc .i64 .i64 (p : Int) ((p : Int) + n) p (p + n) (by omega) (by omega) (by omega) (by omega)
      rw [Nat.add_sub_cancel_left] at cut
      have HC : Hid (Ints .i64 w2 (cutA 1 X xc p) n (((bs.drop p).take n).map b2i)) := by
        have h := HB2.out.cut (lo := p) (hi := p + n) (c := xc) (by omega) hl hxc
        rw [← List.map_drop, ← List.map_take, Nat.add_sub_cancel_left] at h
        exact h
      have hwp : IntKind.i64.wrap (p : Int) = p := by rw [IntKind.wrap_i64]; omega
      go_quiet ((go_at_call 74; exact quietL (rnumber_any _ _ _ _ _ (HC.out.drewN _) (by omega))))
      go_wp2
      go_ret
      have hnb := num_bd (bs.drop p) n n (Nat.le_refl _)
      exact ⟨_, p + n, 0, rfl, HS2.out.drewN _, HU2.out.drewN _, by omega, hnb.1, hnb.2, Or.inr (Or.inl ⟨rfl, by rw [← HN.out]; exact hl, rfl, rfl, rfl⟩)⟩
    · have d1 : decide ((N : Int) - p < n) = true := by simp; omega
      go_enter Tryz.func44, Tryz.ntmps44
      go_wp2
      go_quiet (fail)
      have HS1 := Lib.hid (HS.out.drewN nq)
      have c4' : (w.drewN nq).cell? ⟨s, 4, none⟩ = some (.int .i64 0) := c4
      have f4' : (w.drewN nq).frozen? ⟨s, 4, none⟩ = false := f4
      have HU1 : Hid (Upd [some s] w (w.drewN nq)) := (Upd.refl _ w).drewN nq
      generalize w.drewN nq = w1 at HS1 c4' f4' HU1 ⊢
      clear c0 c1 c4 f1 f4 HS
      go_wp2
      go_ret
      exact ⟨0, p, 2, rfl, HS1.out.err (by decide), HU1.out.trans (HS1.out.put 4 _), by omega, by omega, HPW.out, Or.inr (Or.inr ⟨rfl, by rw [← HN.out]; omega, rfl, rfl, rfl⟩)⟩
  · have d0 : (err != 0) = true := by simp [he]
    go_enter Tryz.func44, Tryz.ntmps44
    go_wp2
    go_ret
    exact ⟨0, p, err, rfl, HS.out, Upd.refl _ _, Nat.le_refl _, by omega, HPW.out, Or.inl ⟨he, rfl, rfl, rfl⟩⟩

def badE (e : Int) (is : Bool) (x : Int) : Int := if is = true ∧ e = 0 then x else e
def BadPost (w : World) (B s : Nat) (X : Option Addr) (xc : Nat) (bs : List Bool) (p : Nat) (OA : Option Addr) (on oc : Nat) (o : List Int) (most : Nat) (err : Int) (e : Ending) (w' : World) : Prop :=
  e = .returned (.tuple #[]) ∧ RSt w' B s X xc bs p OA on oc o most err ∧ Upd [some s] w w'
set_option maxRecDepth 100000 in
set_option maxHeartbeats 1000000 in
theorem bad_any {w : World} {B s : Nat} {X : Option Addr} {xc : Nat} {bs : List Bool} {p : Nat} {OA : Option Addr} {on oc : Nat} {o : List Int} {most : Nat} {err : Int} (h : RSt w B s X xc bs p OA on oc o most err) (is : Bool) (x : Int) (hx : x ≠ 0) :
    Calls Tryz.prog 75 #[.pointer (some ⟨s, 0, none⟩), .bool is, .int .i64 x] w (BadPost w B s X xc bs p OA on oc o most (badE err is x)) := by
  have HS := Lib.hid h
  have c4 := h.blk.cell 4
  have f4 := h.blk.frozen 4
  simp at c4
  clear h
  by_cases hi : is = true
  · subst hi
    by_cases he : err = 0
    · subst he
      have HE : Hid (badE 0 true x = x) := by show _ = _; unfold badE; rw [if_pos ⟨rfl, rfl⟩]
      go_enter Tryz.func75, Tryz.ntmps75
      go_wp2
      go_end0
      exact ⟨rfl, by rw [HE.out]; exact HS.out.err hx, HS.out.put 4 _⟩
    · have HE : Hid (badE err true x = err) := by show _ = _; unfold badE; rw [if_neg (fun h => he h.2)]
      have d0 : (err == 0) = false := by simp [he]
      go_enter Tryz.func75, Tryz.ntmps75
      go_wp2
      go_end0
      exact ⟨rfl, by rw [HE.out]; exact HS.out, Upd.refl _ _⟩
  · obtain rfl : is = false := Bool.eq_false_iff.mpr hi
    have HE : Hid (badE err false x = err) := by show _ = _; unfold badE; rw [if_neg (fun h => absurd h.1 (by decide))]
    go_enter Tryz.func75, Tryz.ntmps75
    go_wp2
    go_end0
    exact ⟨rfl, by rw [HE.out]; exact HS.out, Upd.refl _ _⟩

set_option maxRecDepth 100000 in
set_option maxHeartbeats 1000000 in
theorem times_any (x : Int) (n : Nat) (hn : n ≤ 1000000) (w : World) : Calls Tryz.prog 49 #[.int .i64 x, .int .i64 n] w (NewInts n (List.replicate n x) w) := by
  go_enter Tryz.func49, Tryz.ntmps49
  go_wp2
  go_loopw [5, 6] (fun v i wr => ∃ k : Nat, k ≤ n ∧ i = .int .i64 k ∧ ∃ A c, v = .slice A k c ∧ Hid (Own wr w.heap.size 3 1 A k c ((List.replicate k x).map (Value.int .i64))) ∧ Hid (Upd [] w wr)) (fun _ i _ => n - (intOf i).toNat)
  case atStart => exact ⟨0, by omega, rfl, none, 0, rfl, Own.nil _ _ _ _, Upd.refl _ _⟩
  case round =>
    obtain ⟨k, hk, rfl, A, c, rfl, HO, HU⟩ := hrel
    by_cases hlt : k < n
    · have hsz := HU.out.size
      go_wp2_with (at_builtin; refine wpList_app rfl rfl el_int rfl (HO.out.alloc _) rfl (Seg.one wr _ _) (by simp [Value.oneCell']) (by simp only [maxLen]; omega) (by omega) (by simp; omega) ?_; intro A' c' w' hown hu hfr; have HO' : Hid (Own w' w.heap.size 3 1 A' (k + 1) c' ((List.replicate (k + 1) x).map (Value.int .i64))) := (by rw [List.replicate_succ', List.map_append]; exact hown); have HU' : Hid (Upd [] w w') := (HU.out.alloc _).then hu (by intro b hb; simp at hb; right; exact (HO.out.base hb.symm).1); clear hown hu hfr)
      go_roundw
      case rel => exact ⟨k + 1, by omega, by go_num, A', c', rfl, HO', HU'⟩
      case measure => simp [intOf]; omega
    · obtain rfl : k = n := by omega
      go_wp2
      go_ret
      exact ⟨A, c, rfl, HO.out, HU.out⟩

theorem pow2_14 (k : Nat) (h : k ≤ 14) : (1 : Int) ≤ 2 ^ k ∧ (2 : Int) ^ k ≤ 16384 := by
  have h1 : ∀ k, k ≤ 14 → (1 : Int) ≤ 2 ^ k ∧ (2 : Int) ^ k ≤ 16384 := by decide
  exact h1 k h
set_option maxRecDepth 100000 in
set_option maxHeartbeats 1000000 in
theorem power_any (n : Nat) (hn : n ≤ 13) (w : World) : Calls Tryz.prog 104 #[.int .i64 n] w fun e w' => e = .returned (.int .i64 (2 ^ n)) ∧ w = w' := by
  go_enter Tryz.func104, Tryz.ntmps104
  go_wp2
  go_loop [3, 4] (fun v i => ∃ k : Nat, k ≤ n ∧ i = .int .i64 k ∧ ∃ P : Int, v = .int .i64 P ∧ Hid (P = 2 ^ k)) (fun _ i => n - (intOf i).toNat)
  case atStart => exact ⟨0, by omega, rfl, 1, rfl, rfl⟩
  case round =>
    obtain ⟨k, hk, rfl, P, rfl, HP⟩ := hrel
    have hb := pow2_14 k (by omega)
    rw [← HP.out] at hb
    by_cases hlt : k < n
    · go_wp2
      go_round
      case rel => exact ⟨k + 1, by omega, by go_num, 2 * P, by go_num, by show _ = _; rw [HP.out, Int.pow_succ, Int.mul_comm]⟩
      case measure => simp [intOf]; omega
    · obtain rfl : k = n := by omega
      go_wp2
      go_ret
      exact ⟨by rw [HP.out]; rfl, rfl⟩

end Go.Proofs.YtolcdlopgbgilaaGreatDoor
