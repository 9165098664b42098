/- Merged by wip/tools/merge.py: RiF. -/
import Derived.Deep.CutRange
import Derived.Test.YtolcdlopgbgilaaGreatDoorMz07
import Derived.Test.YtolcdlopgbgilaaGreatDoorMz15

/-! Text RiF. -/
namespace Go.Proofs.YtolcdlopgbgilaaGreatDoor
open Go.RowKit Go.Dray

/-- What is asked of a whole row of lengths. -/
def rowC (F ll : Nat) (k : Pr) (row : List Int) : Pr :=
  if row.getD 256 0 = 0 ∨ fullB (row.take ll) = false then .fail 3 else if fullB (row.drop ll) = false ∧ loneB (row.drop ll) = false then .fail 3 else symPr (row.take ll) (row.drop ll) F k
/-- What is asked of the lengths of the third code. -/
def thdC (F ll dd : Nat) (k : Pr) (acc : List Int) : Pr := if fullB (thirdOf acc) = false then .fail 3 else rowPr (thirdOf acc) (ll + dd) F [] (rowC F ll k)
def toldPr (F : Nat) (k : Pr) : Pr := lensPr F fun lits dists => symPr lits dists F k
theorem toldPr_eq (F : Nat) (k : Pr) : toldPr F k = .take 5 fun l => .take 5 fun d => .take 4 fun c => if 286 < l + 257 ∨ 30 < d + 1 then .fail 3 else tk3 (c + 4).toNat [] fun acc =>
    if fullB (thirdOf acc) = false then .fail 3 else rowPr (thirdOf acc) (l + 257 + (d + 1)).toNat F [] (rowC F (l + 257).toNat k) := rfl

/-- How many are above nought, and the greatest. -/
def usedN (l : List Int) : Int := (l.map fun z => if 0 < z then (1 : Int) else 0).sum
def mostN (l : List Int) : Int := l.foldl (fun a z => if a < z then z else a) 0
theorem usedN_snoc (l : List Int) (z : Int) : usedN (l ++ [z]) = usedN l + if 0 < z then 1 else 0 := by simp [usedN]
theorem mostN_snoc (l : List Int) (z : Int) : mostN (l ++ [z]) = if mostN l < z then z else mostN l := by unfold mostN; rw [List.foldl_append]; rfl
theorem um_inv (l : List Int) : (∀ z ∈ l, 0 ≤ z ∧ z ≤ 15) → 0 ≤ usedN l ∧ usedN l ≤ l.sum ∧ 0 ≤ mostN l ∧ mostN l ≤ 15 ∧ mostN l ≤ l.sum ∧ (usedN l = 0 → l.sum = 0 ∧ mostN l = 0) ∧ (usedN l = 1 → l.sum = mostN l) := by
  induction l using snoc_ind with
  | h0 => intro _; simp [usedN, mostN]
  | h1 l z ih =>
    intro hb
    have h1 := ih fun y hy => hb y (by simp [hy])
    have h2 := hb z (by simp)
    rw [usedN_snoc, mostN_snoc, List.sum_append, List.sum_singleton]
    by_cases hz : 0 < z
    · rw [if_pos hz]
      by_cases hm : mostN l < z
      · rw [if_pos hm]; omega
      · rw [if_neg hm]; omega
    · rw [if_neg hz, if_neg (by omega)]; omega
theorem lone_um {l : List Int} (hb : ∀ z ∈ l, 0 ≤ z ∧ z ≤ 15) : loneB l = true ↔ usedN l ≤ 1 ∧ mostN l ≤ 1 := by
  have h := um_inv l hb
  unfold loneB
  rw [decide_eq_true_eq]
  omega
theorem drop_take_snoc {l : List Int} {a j : Nat} {x : Int} (h : l[a + j]? = some x) : (l.drop a).take (j + 1) = (l.drop a).take j ++ [x] := by
  have hl : a + j < l.length := (List.getElem?_eq_some_iff.1 h).1
  have hx : l[a + j] = x := (List.getElem?_eq_some_iff.1 h).2
  rw [List.take_succ_eq_append_getElem (by rw [List.length_drop]; omega), List.getElem_drop, hx]

/-- The state is apart from a row of ints that is not its own. -/
theorem RSt.updI {w w' : World} {B s : Nat} {X : Option Addr} {xc : Nat} {bs : List Bool} {p : Nat} {OA : Option Addr} {on oc : Nat} {o : List Int} {most : Nat} {e : Int} (h : RSt w B s X xc bs p OA on oc o most e) {A : Option Addr} {n c : Nat} {xs : List Value} {B' : Nat} (hx : Own w B' 3 1 A n c xs) (hB : ∀ g, ob A = some g → ob X ≠ some g) (hu : Upd [ob A] w w') : RSt w' B s X xc bs p OA on oc o most e :=
  ⟨h.blk.upd hu (by simp; exact fun e => hx.neBlk h.blk (by decide) e.symm), h.bits.upd hu (by intro k hk; simp; intro e; exact hB k e.symm hk), h.own.upd hu (by intro k hk; simp; exact fun e => h.own.neOwn hx (by decide) hk e.symm), h.sb, h.pos, h.room, h.room0, h.blen, h.mb, h.obd, Nat.le_trans h.bw hu.size⟩

def ordA : Array Value := #[.int .i64 16, .int .i64 17, .int .i64 18, .int .i64 0, .int .i64 8, .int .i64 7, .int .i64 9, .int .i64 6, .int .i64 10, .int .i64 5, .int .i64 11, .int .i64 4, .int .i64 12, .int .i64 3, .int .i64 13, .int .i64 2, .int .i64 14, .int .i64 1, .int .i64 15]
theorem ordA_cell (i : Nat) (h : i < 19) : ordA[i]? = some (.int .i64 (orderL.getD i 0 : Nat)) := by
  have h1 : ordA.toList = orderL.map fun n : Nat => Value.int .i64 n := rfl
  rw [← Array.getElem?_toList, h1, List.getElem?_map, List.getElem?_eq_getElem (show i < orderL.length from h)]
  simp [List.getD, show i < orderL.length from h]
theorem ordV : (orderL.map fun n : Nat => (n : Int)) = [16, 17, 18, 0, 8, 7, 9, 6, 10, 5, 11, 4, 12, 3, 13, 2, 14, 1, 15] := rfl

set_option maxRecDepth 100000 in
set_option maxHeartbeats 16000000 in
theorem rtold_any {w : World} {B s : Nat} {X : Option Addr} {xc : Nat} {bs : List Bool} {p : Nat} {OA : Option Addr} {on oc : Nat} {o : List Int} {most : Nat} (h : RSt w B s X xc bs p OA on oc o most 0) (F : Nat) (hF : bs.length - p < F) :
    Calls Tryz.prog 50 #[.pointer (some ⟨s, 0, none⟩)] w (RGoPost w B s X xc bs p OA o most (toldPr F)) := by
  have HS := Lib.hid h
  have hbl := h.blen
  have HXB : Hid (∀ g, ob X = some g → g < w.heap.size) := fun g hg => (h.bits.base hg).2
  clear h
  go_enter Tryz.func50, Tryz.ntmps50
  go_wp2_with fail
  refine (number_any HS.out 5 (by omega)).mono ?_
  rintro e w1 ⟨v1, p1, err1, rfl, hs1, hv1, hp1, hv10, hv1n, hc1⟩
  have HS1 := Lib.hid hs1
  have HU1 := Lib.hid hv1
  have hv131 : v1 ≤ 31 := by omega
  have HK1 : Hid ((err1 = 0 ∧ ∀ K : Int → Pr, run bs most (.take 5 K) p o = run bs most (K v1) p1 o) ∨ (err1 ≠ 0 ∧ ∀ K : Int → Pr, run bs most (.take 5 K) p o = .err err1)) := by
    rcases hc1 with ⟨h, _⟩ | ⟨_, h1, h2, h3, h4⟩ | ⟨_, h1, h2, h3, h4⟩
    · exact absurd rfl h
    · exact Or.inl ⟨h2, fun K => by rw [run_take_ok h1, h3, h4]⟩
    · exact Or.inr ⟨by omega, fun K => by rw [run_take_no h1, h2]⟩
  clear hs1 hv1 hc1 hv1n
  go_wp2_with fail
  refine (number_any HS1.out 5 (by omega)).mono ?_
  rintro e w2 ⟨v2, p2, err2, rfl, hs2, hv2, hp2, hv20, hv2n, hc2⟩
  have HS2 := Lib.hid hs2
  have HU2 := Lib.hid (HU1.out.trans hv2)
  have hv231 : v2 ≤ 31 := by omega
  have HK2 : Hid ((err2 = 0 ∧ ∀ K : Int → Int → Pr, run bs most (.take 5 fun a => .take 5 fun b => K a b) p o = run bs most (K v1 v2) p2 o) ∨ (err2 ≠ 0 ∧ ∀ K : Int → Int → Pr, run bs most (.take 5 fun a => .take 5 fun b => K a b) p o = .err err2)) := by
    rcases HK1.out with ⟨h1, h2⟩ | ⟨h1, h2⟩
    · rcases hc2 with ⟨h, _⟩ | ⟨_, h3, h4, h5, h6⟩ | ⟨_, h3, h4, h5, h6⟩
      · exact absurd h1 h
      · exact Or.inl ⟨h4, fun K => by rw [h2, run_take_ok h3, h5, h6]⟩
      · exact Or.inr ⟨by omega, fun K => by rw [h2, run_take_no h3, h4]⟩
    · rcases hc2 with ⟨_, h, _⟩ | ⟨h, _⟩ | ⟨h, _⟩
      · exact Or.inr ⟨by omega, fun K => by rw [h2, h]⟩
      · exact absurd h h1
      · exact absurd h h1
  clear hs2 hv2 hc2 hv2n HK1 HS1 HU1
  go_wp2_with fail
  refine (number_any HS2.out 4 (by omega)).mono ?_
  rintro e w3 ⟨v3, p3, err3, rfl, hs3, hv3, hp3, hv30, hv3n, hc3⟩
  have HS3 := Lib.hid hs3
  have HU3 := Lib.hid (HU2.out.trans hv3)
  have hv315 : v3 ≤ 15 := by omega
  have HK3 : Hid ((err3 = 0 ∧ ∀ K : Int → Int → Int → Pr, run bs most (.take 5 fun a => .take 5 fun b => .take 4 fun c => K a b c) p o = run bs most (K v1 v2 v3) p3 o) ∨ (err3 ≠ 0 ∧ ∀ K : Int → Int → Int → Pr, run bs most (.take 5 fun a => .take 5 fun b => .take 4 fun c => K a b c) p o = .err err3)) := by
    rcases HK2.out with ⟨h1, h2⟩ | ⟨h1, h2⟩
    · rcases hc3 with ⟨h, _⟩ | ⟨_, h3, h4, h5, h6⟩ | ⟨_, h3, h4, h5, h6⟩
      · exact absurd h1 h
      · exact Or.inl ⟨h4, fun K => by rw [h2, run_take_ok h3, h5, h6]⟩
      · exact Or.inr ⟨by omega, fun K => by rw [h2, run_take_no h3, h4]⟩
    · rcases hc3 with ⟨_, h, _⟩ | ⟨h, _⟩ | ⟨h, _⟩
      · exact Or.inr ⟨by omega, fun K => by rw [h2, h]⟩
      · exact absurd h h1
      · exact absurd h h1
  clear hs3 hv3 hc3 hv3n HK2 HS2 HU2
  obtain ⟨ll, hll⟩ : ∃ ll : Nat, (ll : Int) = v1 + 257 := ⟨(v1 + 257).toNat, by omega⟩
  obtain ⟨dd, hdd⟩ : ∃ dd : Nat, (dd : Int) = v2 + 1 := ⟨(v2 + 1).toNat, by omega⟩
  obtain ⟨cc, hcc⟩ : ∃ cc : Nat, (cc : Int) = v3 + 4 := ⟨(v3 + 4).toNat, by omega⟩
  have HLL : Hid (v1 + 257 = (ll : Int)) := hll.symm
  have HDD : Hid (v2 + 1 = (dd : Int)) := hdd.symm
  have HCC : Hid (v3 + 4 = (cc : Int)) := hcc.symm
  have hll2 : 257 ≤ ll ∧ ll ≤ 288 := by omega
  have hdd2 : 1 ≤ dd ∧ dd ≤ 32 := by omega
  have hcc2 : 4 ≤ cc ∧ cc ≤ 19 := by omega
  clear hll hdd hcc
  have HP3 : Hid (p ≤ p3) := by show _ ≤ _; omega

  have HG4 : Hid (∀ (is : Bool) (err4 : Int), (is = true ↔ (286 < ll ∨ 30 < dd)) → err4 = badE err3 is 3 → (err4 = 0 ∧ ll ≤ 286 ∧ dd ≤ 30 ∧ ∀ k, run bs most (toldPr F k) p o = run bs most (tk3 cc [] (thdC F ll dd k)) p3 o) ∨ (err4 ≠ 0 ∧ ∀ k, run bs most (toldPr F k) p o = .err err4)) := fun is err4 hi h4 => by
    rcases HK3.out with ⟨h1, h2⟩ | ⟨h1, h2⟩
    · rw [h1] at h4
      by_cases h5 : is = true
      · have h6 := hi.1 h5
        rw [h5, badE_true] at h4
        exact Or.inr ⟨by omega, fun k => by rw [toldPr_eq, h2, HLL.out, HDD.out, if_pos (by omega), run, h4]⟩
      · have h6 : ¬ (286 < ll ∨ 30 < dd) := fun h => h5 (hi.2 h)
        rw [Bool.eq_false_iff.mpr h5, badE_false] at h4
        exact Or.inl ⟨h4, by omega, by omega, fun k => by rw [toldPr_eq, h2, HLL.out, HDD.out, HCC.out, if_neg (by omega), Int.toNat_natCast, Int.toNat_natCast, show ((ll : Int) + (dd : Int)).toNat = ll + dd from by omega]; rfl⟩
    · rw [badE_err h1] at h4
      exact Or.inr ⟨by omega, fun k => by rw [toldPr_eq, h2, h4]⟩
  have HBAD : Hid (∀ is : Bool, Calls Tryz.prog 75 #[.pointer (some ⟨s, 0, none⟩), .bool is, .int .i64 3] w3 (BadPost w3 B s X xc bs p3 OA on oc o most (badE err3 is 3))) := fun is => bad_any HS3.out is 3 (by decide)
  clear HK3
  have hcv : v3 + 4 = (cc : Int) := HCC.out
  rw [HLL.out, HDD.out]
  go_upto_region 3 with (fail)
  go_cut [] from 16 (fun wc => ∃ err4, Hid (RSt wc B s X xc bs p3 OA on oc o most err4) ∧ Hid (Upd [some s] w wc) ∧ Hid ((err4 = 0 ∧ ll ≤ 286 ∧ dd ≤ 30 ∧ ∀ k, run bs most (toldPr F k) p o = run bs most (tk3 cc [] (thdC F ll dd k)) p3 o) ∨ (err4 ≠ 0 ∧ ∀ k, run bs most (toldPr F k) p o = .err err4)))
  case first =>
    by_cases hA : 286 < ll
    · have dA : decide ((286 : Int) < ll) = true := by simp; omega
      go_wp2_with (go_at_call 75; refine (HBAD.out _).mono ?_; rintro e w4 ⟨rfl, hs4, hv4⟩)
      go_meet
      case rel => exact ⟨_, hs4, HU3.out.trans hv4, HG4.out _ _ (by simp; omega) rfl⟩
    · have dA : decide ((286 : Int) < ll) = false := by simp; omega
      go_wp2_with (go_at_call 75; refine (HBAD.out _).mono ?_; rintro e w4 ⟨rfl, hs4, hv4⟩)
      go_meet
      case rel => exact ⟨_, hs4, HU3.out.trans hv4, HG4.out _ _ (by simp; omega) rfl⟩
  case rest =>
    obtain ⟨err4, HS4, HU4, HK4⟩ := hcut
    clear HG4 HBAD HS3 HU3 HLL HDD HCC
    go_wp2_with fail
    obtain ⟨w4o, hw4o⟩ : ∃ w4o : World, w4o = wc.alloc (.cells ordA 3) := ⟨_, rfl⟩
    have hbo : Blk w4o wc.heap.size 3 ordA := by rw [hw4o]; exact Blk.new _ _ _
    have hu4o : Upd [] wc w4o := by rw [hw4o]; exact (Upd.refl _ _).alloc _
    have HGW : Hid (w.heap.size ≤ wc.heap.size) := HU4.out.size
    rw [show wc.alloc (.cells #[.int .i64 16, .int .i64 17, .int .i64 18, .int .i64 0, .int .i64 8, .int .i64 7, .int .i64 9, .int .i64 6, .int .i64 10, .int .i64 5, .int .i64 11, .int .i64 4, .int .i64 12, .int .i64 3, .int .i64 13, .int .i64 2, .int .i64 14, .int .i64 1, .int .i64 15] 3) = w4o from hw4o.symm]
    clear hw4o
    generalize wc.heap.size = gob at hbo HGW ⊢
    refine (times_any 0 19 (by omega) w4o).mono ?_
    rintro e w5 ⟨TA, tc, rfl, hT5, hv5⟩
    have HS5 := Lib.hid ((HS4.out.grow hu4o).grow hv5)
    have HU5 : Hid (Upd [some s] w w5) := HU4.out.trans ((hu4o.trans hv5).mono (by simp))
    have HT5 : Hid (Own w5 w.heap.size 3 1 TA 19 tc ((List.replicate 19 (0 : Int)).map (Value.int .i64))) := hT5.monoB (by have := HGW.out; have := HU4.out.size; have := hu4o.size; omega)
    have HTG : Hid (∀ g, ob TA = some g → gob ≠ g ∧ w.heap.size ≤ g) := fun g hg => by
      have h1 := (hT5.base hg).1
      have h2 := hbo.lt
      have h3 := HU4.out.size
      have h4 := hu4o.size
      omega
    have HB5 := Lib.hid (hbo.upd hv5 (by simp))
    clear hT5 hv5 hbo hu4o HS4 HU4
    go_wp2
    go_loopw [7] (fun v wr => ∃ (i' q : Nat) (tz : List Int) (err : Int), i' ≤ cc ∧ v = .int .i64 i' ∧ Hid (RSt wr B s X xc bs q OA on oc o most err) ∧ Hid (Upd [some s] w wr ∧ Own wr w.heap.size 3 1 TA 19 tc (tz.map (Value.int .i64)) ∧ Blk wr gob 3 ordA) ∧ Hid ((err = 0 ∧ p3 ≤ q ∧ ll ≤ 286 ∧ dd ≤ 30 ∧ ∃ acc : List Int, acc.length = i' ∧ tz = thirdOf acc ∧ ∀ k, run bs most (toldPr F k) p o = run bs most (tk3 (cc - i') acc (thdC F ll dd k)) q o) ∨ (err ≠ 0 ∧ ∀ k, run bs most (toldPr F k) p o = .err err))) (fun v _ => cc - (intOf v).toNat)
    case atStart => exact ⟨0, p3, List.replicate 19 0, err4, by omega, rfl, HS5, ⟨HU5.out, HT5.out, HB5.out⟩, by
      rcases HK4.out with ⟨h1, h2, h3, h4⟩ | h
      · exact Or.inl ⟨h1, Nat.le_refl _, h2, h3, [], rfl, third_nil.symm, h4⟩
      · exact Or.inr h⟩
    case round =>
      clear HS5 HU5 HT5 HB5 HK4
      obtain ⟨i, q, tz, err, hi, rfl, HSq, HX, HKq⟩ := hrel
      by_cases hic : i < cc
      · obtain ⟨oi, hoi⟩ : ∃ oi, oi = orderL.getD i 0 := ⟨_, rfl⟩
        have HOI := Lib.hid hoi
        have hoi19 : oi < 19 := by rw [hoi]; exact ord_lt i (by omega)
        have HOC : Hid (∀ W, Blk W gob 3 ordA → W.cell? ⟨gob, i, none⟩ = some (.int .i64 oi)) := fun W hW => by rw [hW.cell, hoi]; exact ordA_cell i (by omega)
        have ocell := HOC.out _ HX.out.2.2
        have oix := run_index el_int (A := some ⟨gob, 0, none⟩) (n := 19) (fun _ => rfl) 19 .i64 i (by omega)
        rw [Nat.mul_one] at oix
        have oix' : ∀ W : World, (Instr.indexAt 64 (.slice (some ⟨gob, 0, none⟩) 19 19) (.int .i64 i)).run Tryz.prog W = .ok (.pointer (some ⟨gob, i, none⟩)) W := fun W => by rw [oix W]; show Result.ok (Value.pointer (some ⟨gob, 0 + i, none⟩)) W = _; rw [Nat.zero_add]
        have tix := (Ints.ofOwn HX.out.2.1).index el_int tc .i64 oi hoi19
        have HNM : Hid (∀ W, Upd [] wr W → Calls Tryz.prog 44 #[.pointer (some ⟨s, 0, none⟩), .int .i64 3] W (NumPost W B s X xc bs q OA on oc o most err 3)) := fun W hW => number_any (HSq.out.grow hW) 3 (by omega)
        clear hoi oix
        go_wp2
        go_region_law (go_simp; go_at_call 44; go_wp2_with (go_at_call 44; refine (HNM.out _ ((Upd.refl [] wr).drew)).mono ?_; rintro e w6 ⟨v, q6, err6, rfl, hs6, hv6, hq6, hv60, hv6n, hc6⟩; have HV6 : Hid (Upd [some s] wr w6) := ((Upd.refl _ wr).drew).trans hv6; have HS6 := Lib.hid hs6; have HC6 := Lib.hid hc6; have hB6 : Blk w6 gob 3 ordA := HX.out.2.2.upd HV6.out (by simp; exact HX.out.2.2.ne HSq.out.blk (by decide)); have hT6 : Own w6 w.heap.size 3 1 TA 19 tc (tz.map (Value.int .i64)) := HX.out.2.1.upd HV6.out (by intro k hk; simp; rintro rfl; exact HX.out.2.1.neBlk HSq.out.blk (by decide) hk); have o6 := HOC.out _ hB6; have tf6 := hT6.frozen (by omega) oi; obtain ⟨old, _, tcell6⟩ := (Ints.ofOwn hT6).int hoi19; have HB6 := Lib.hid hB6; have HT6 := Lib.hid hT6; clear hs6 hv6 hc6 hB6 hT6 hv6n))
        all_goals
          have hset := HT6.out.set (k := oi) (by omega) (.int .i64 v)
          have hob := HT6.out.obl (by omega)
          have hgb := HTG.out _ hob
          have hsu : Upd [some (bl TA)] w6 (w6.setCell ⟨bl TA, ofs TA + oi, none⟩ (.int .i64 v)) := (Upd.refl _ w6).setCell (p := ⟨bl TA, ofs TA + oi, none⟩) (Or.inl (by simp)) _
          have hsu2 : Upd [ob TA] w6 (w6.setCell ⟨bl TA, ofs TA + oi, none⟩ (.int .i64 v)) := by rw [hob]; exact hsu
          have HS7 := Lib.hid (HS6.out.updI HT6.out (fun g hg hx => by have := (HTG.out g hg).2; have := HXB.out g hx; omega) hsu2)
          have HX7 : Hid (Upd [some s] w (w6.setCell ⟨bl TA, ofs TA + oi, none⟩ (.int .i64 v)) ∧ Own (w6.setCell ⟨bl TA, ofs TA + oi, none⟩ (.int .i64 v)) w.heap.size 3 1 TA 19 tc ((tz.set oi v).map (Value.int .i64)) ∧ Blk (w6.setCell ⟨bl TA, ofs TA + oi, none⟩ (.int .i64 v)) gob 3 ordA) := by
            refine ⟨(HX.out.1.trans HV6.out).then hsu (by intro b hb; simp at hb; rw [hb]; right; exact hgb.2), ?_, HB6.out.upd hsu (by simp; exact hgb.1)⟩
            rw [List.map_set]
            exact hset
          have HK7 : Hid ((err6 = 0 ∧ p3 ≤ q6 ∧ ll ≤ 286 ∧ dd ≤ 30 ∧ ∃ acc : List Int, acc.length = i + 1 ∧ tz.set oi v = thirdOf acc ∧ ∀ k, run bs most (toldPr F k) p o = run bs most (tk3 (cc - (i + 1)) acc (thdC F ll dd k)) q6 o) ∨ (err6 ≠ 0 ∧ ∀ k, run bs most (toldPr F k) p o = .err err6)) := by
            have e1 : cc - i = cc - (i + 1) + 1 := by omega
            rcases HKq.out with ⟨h1, h2, h3, h4, acc, h5, h6, h7⟩ | ⟨h1, h2⟩
            · rcases HC6.out with ⟨g1, _⟩ | ⟨_, g1, g2, g3, g4⟩ | ⟨_, g1, g2, g3, g4⟩
              · exact absurd h1 g1
              · refine Or.inl ⟨g2, by omega, h3, h4, acc ++ [v], by rw [List.length_append, h5]; rfl, ?_, fun k => ?_⟩
                · rw [h6, HOI.out, ← h5]; exact third_step acc v (by omega)
                · rw [h7, e1, tk3, run_take_ok g1, g3, ← g4]
              · exact Or.inr ⟨by omega, fun k => by rw [h7, e1, tk3, run_take_no g1, g2]⟩
            · rcases HC6.out with ⟨_, g1, _⟩ | ⟨g1, _⟩ | ⟨g1, _⟩
              · exact Or.inr ⟨by omega, fun k => by rw [h2, g1]⟩
              · exact absurd g1 h1
              · exact absurd g1 h1
          clear HS6 HC6 HB6 HT6 HV6 hset hsu hsu2 hob hgb o6 tf6 tcell6
          generalize w6.setCell ⟨bl TA, ofs TA + oi, none⟩ (.int .i64 v) = w7 at HS7 HX7 ⊢
          go_wp2
          go_roundw
          case rel => exact ⟨i + 1, q6, tz.set oi v, err6, by omega, by go_num, HS7, HX7, HK7⟩
          case measure => simp [intOf]; omega
      · obtain rfl : i = cc := by omega
        have hTI : Ints .i64 wr TA 19 tz := Ints.ofOwn HX.out.2.1
        have HTZ := hTI.len
        go_wp2_with (go_at_call 80; refine (rfull_any TA 19 tc tz _ hTI).mono ?_; rintro e w' ⟨rfl, rfl⟩)
        refine (bad_any HSq.out (!fullB tz) 3 (by decide)).mono ?_
        rintro e w8 ⟨rfl, hs8, hv8⟩
        obtain ⟨err8, h8⟩ : ∃ err8, err8 = badE err (!fullB tz) 3 := ⟨_, rfl⟩
        rw [← h8] at hs8
        have HK8 : Hid ((err8 = 0 ∧ p3 ≤ q ∧ ll ≤ 286 ∧ dd ≤ 30 ∧ fullB tz = true ∧ ∀ k, run bs most (toldPr F k) p o = run bs most (rowPr tz (ll + dd) F [] (rowC F ll k)) q o) ∨ (err8 ≠ 0 ∧ ∀ k, run bs most (toldPr F k) p o = .err err8)) := by
          rcases HKq.out with ⟨h1, h2, h3, h4, acc, h5, h6, h7⟩ | ⟨h1, h2⟩
          · rw [h1] at h8
            by_cases hf : fullB tz = true
            · rw [hf, show (!true) = false from rfl, badE_false] at h8
              refine Or.inl ⟨h8, h2, h3, h4, hf, fun k => ?_⟩
              rw [h7, Nat.sub_self, tk3, thdC, ← h6, if_neg (by rw [hf]; decide)]
            · have hf' : fullB tz = false := Bool.eq_false_iff.mpr hf
              rw [hf', show (!false) = true from rfl, badE_true] at h8
              refine Or.inr ⟨by omega, fun k => ?_⟩
              rw [h7, Nat.sub_self, tk3, thdC, ← h6, if_pos hf', run, h8]
          · rw [badE_err h1] at h8
            exact Or.inr ⟨by omega, fun k => by rw [h2, h8]⟩
        have HS8 := Lib.hid hs8
        have HU8 : Hid (Upd [some s] w w8) := HX.out.1.trans hv8
        have HT8 := Lib.hid (HX.out.2.1.upd hv8 (by intro k hk; simp; rintro rfl; exact HX.out.2.1.neBlk HSq.out.blk (by decide) hk))
        have z4 := hs8.blk.cell 4
        simp at z4
        clear hs8 hv8 h8 hTI HKq HSq HX
        by_cases he8 : err8 = 0
        · subst he8
          obtain ⟨-, hq3, hl286, hd30, hfull, hrun⟩ : _ ∧ _ ∧ _ ∧ _ ∧ _ ∧ _ := by rcases HK8.out with h | ⟨h, _⟩; exact h; exact absurd rfl h
          have HR8 := Lib.hid hrun
          have HFU := Lib.hid hfull
          clear hrun hfull HK8
          go_wp2_with fail
          refine (made_any TA 19 tc tz w8 (Ints.ofOwn HT8.out) (full_chk HFU.out) (fun hp => Own.tblk HT8.out hp)).mono ?_
          rintro e w9 ⟨C, d, rfl, hcd9, hCf, hv9⟩
          obtain ⟨g8, hg8⟩ : ∃ g8, g8 = w9.heap.size := ⟨_, rfl⟩
          obtain ⟨w10, hw10⟩ : ∃ w10 : World, w10 = w9.alloc (.cells #[.slice TA 19 tc, .slice C 19 d] 93) := ⟨_, rfl⟩
          have hb10 : Blk w10 g8 93 #[.slice TA 19 tc, .slice C 19 d] := by rw [hw10, hg8]; exact Blk.new _ _ _
          have hu10 : Upd [] w9 w10 := by rw [hw10]; exact (Upd.refl _ _).alloc _
          obtain ⟨g9, hg9⟩ : ∃ g9, g9 = w10.heap.size := ⟨_, rfl⟩
          have HSZ : Hid (g9 ≤ w10.heap.size) := by show _ ≤ _; omega
          have HG9 : Hid (w.heap.size ≤ g9) := by have h1 := HU8.out.size; have h2 := hv9.size; have h3 := hu10.size; show _ ≤ _; omega
          have hlen19 : tz.length = 19 := HTZ.out
          have HGC : Hid (bl TA < g9 ∧ bl C < g9 ∧ g8 < g9) := by
            obtain ⟨c1, k1⟩ := (hcd9.grow hu10).tl (by omega)
            obtain ⟨c2, k2⟩ := (hcd9.grow hu10).tr (by omega)
            rw [hg9]
            exact ⟨k1.lt, k2.lt, hb10.lt⟩
          have HS10 := Lib.hid ((HS8.out.grow hv9).grow hu10)
          have HU10 : Hid (Upd [some s] w w10) := HU8.out.trans ((hv9.trans hu10).mono (by simp))
          have HCd10 : Hid (Cd w10 tz TA tc C d ∧ Blk w10 g8 93 #[.slice TA 19 tc, .slice C 19 d]) := ⟨hcd9.grow hu10, hb10⟩
          clear hcd9 hCf hv9 hb10 hu10 HS8 HU8 HT8 hg9 hlen19
          obtain ⟨N, hN⟩ : ∃ N, N = ll + dd := ⟨_, rfl⟩
          have HN : Hid ((N : Int) = (ll : Int) + dd) := by show _ = _; omega
          have HNn : Hid (N = ll + dd) := hN
          have hN316 : N ≤ 316 := by omega
          rw [← hN] at HR8
          have hllN : ll ≤ N ∧ 258 ≤ N := by omega
          clear hN
          go_wp2
          rw [← hw10, ← hg8]
          clear hw10 hg8
          go_loopw [9] (fun v wr => ∃ (q : Nat) (X2 : Option Addr) (xn xc2 : Nat) (row : List Int) (err : Int), v = .slice X2 xn xc2 ∧ xn ≤ 600 ∧ Hid (g9 ≤ wr.heap.size) ∧ Hid (RSt wr B s X xc bs q OA on oc o most err) ∧ Hid (Upd [some s] w wr ∧ Own wr g9 3 1 X2 xn xc2 (row.map (Value.int .i64))) ∧ Hid (Cd wr tz TA tc C d ∧ Blk wr g8 93 #[.slice TA 19 tc, .slice C 19 d]) ∧ Hid ((err = 0 ∧ p3 ≤ q ∧ xn ≤ N ∧ (∀ z ∈ row, 0 ≤ z ∧ z ≤ 15) ∧ ∃ f, bs.length - q < f ∧ ∀ k, run bs most (toldPr F k) p o = run bs most (rowPr tz N f row (rowC F ll k)) q o) ∨ (err ≠ 0 ∧ ∀ k, run bs most (toldPr F k) p o = .err err)))
            (fun _ wr => if intOf ((wr.cell? ⟨s, 4, none⟩).getD undef) = 0 then bs.length + 1 - (intOf ((wr.cell? ⟨s, 1, none⟩).getD undef)).toNat else 0)
          case atStart => exact ⟨q, none, 0, 0, [], 0, rfl, by omega, HSZ, HS10, ⟨HU10.out, Own.nil _ _ _ _⟩, HCd10, Or.inl ⟨rfl, hq3, by omega, by simp, F, by have := HP3.out; omega, HR8.out⟩⟩
          case round =>
            clear HS10 HU10 HCd10 HR8 z4 hq3
            clear HSZ
            obtain ⟨q, X2, xn, xc2, row, err, rfl, hxn, HSr3, HSr, HX, HCd, HKr⟩ := hrel
            have hm1 := HSr.out.blk.cell 1
            have hm4 := HSr.out.blk.cell 4
            simp at hm1 hm4
            have hqN := HSr.out.pos
            have HRL : Hid (row.length = xn) := by have := HX.out.2.len; rw [List.length_map] at this; show _ = _; omega
            by_cases her : err = 0
            · subst her
              obtain ⟨-, hq3, hxN, hrb, f, hf, hrun⟩ : _ ∧ _ ∧ _ ∧ _ ∧ _ := by rcases HKr.out with h | ⟨h, _⟩; exact h; exact absurd rfl h
              by_cases hlt : xn < N
              · obtain ⟨f', rfl⟩ : ∃ f', f = f' + 1 := ⟨f - 1, by omega⟩
                have HRUN := Lib.hid hrun
                have HSZ : Hid (g9 ≤ wr.heap.size) := HSr3.out
                have b80 := HCd.out.2.cell 0
                have b81 := HCd.out.2.cell 1
                simp at b80 b81
                have dlt : decide ((xn : Int) < (ll : Int) + dd) = true := by have := HN.out; simp; omega
                have HSYM : Hid (Calls Tryz.prog 76 #[.pointer (some ⟨s, 0, none⟩), .agg #[.slice TA 19 tc, .slice C 19 d]] wr (SymPost wr B s X xc bs q OA on oc o most 0 tz)) := by
                  rw [show (19 : Nat) = tz.length from HTZ.out.symm]
                  exact symbol_any HSr.out HCd.out.1
                clear hrun HKr
                go_wp2_with fail
                refine HSYM.out.mono ?_
                clear HSYM
                rintro e w1 ⟨v, q1, err1, rfl, hs1, hv1, hq1, hc1⟩
                have HS1 := Lib.hid hs1
                have HU1 : Hid (Upd [some s] wr w1) := hv1
                have hv018 : 0 ≤ v ∧ v ≤ 18 := by
                  have h19 := HTZ.out
                  rcases hc1 with ⟨h, _⟩ | ⟨_, _, _, h1, h2, _⟩ | ⟨_, _, _, h, _⟩
                  · exact absurd rfl h
                  · omega
                  · omega
                have HNX : Hid (err1 = 0 → nextF tz (bs.drop q) = (q1 - q, v, 0)) := fun h0 => by
                  rcases hc1 with ⟨h, _⟩ | ⟨_, _, _, _, _, h⟩ | ⟨_, h, _⟩
                  · exact absurd rfl h
                  · exact h
                  · exact absurd h0 h
                have HKs : Hid ((err1 = 0 ∧ q < q1 ∧ 0 ≤ v ∧ v ≤ 18 ∧ (¬ (v = 16 ∧ xn = 0) → ∀ k, run bs most (toldPr F k) p o = run bs most (.take (stepOf v row).2.2 fun more => if (N : Int) - row.length < (stepOf v row).2.1 + more then .fail 3 else rowPr tz N f' (row ++ List.replicate ((stepOf v row).2.1 + more).toNat (stepOf v row).1) (rowC F ll k)) q1 o)) ∨ (err1 ≠ 0 ∧ ∀ k, run bs most (toldPr F k) p o = .err err1)) := by
                  rcases hc1 with ⟨h, _⟩ | ⟨_, h1, h2, h3, h4, h5⟩ | ⟨_, h1, h2, h3, kk, h5⟩
                  · exact absurd rfl h
                  · refine Or.inl ⟨h1, h2, hv018.1, hv018.2, fun hne k => ?_⟩
                    rw [HRUN.out, rowPr_go (by rw [HRL.out]; exact hlt) h5 (by rw [HRL.out]; exact hne), show q + (q1 - q) = q1 from by omega]
                  · exact Or.inr ⟨h1, fun k => by rw [HRUN.out, rowPr, if_neg (by rw [HRL.out]; omega), run_next_no h5 h1]⟩
                clear hs1 hv1 hc1 b80 b81
                go_upto_if 78 with (fail)
                go_cut [10, 11, 12] from 60 to 120 (fun a b c wc => ∃ (y : Int) (nn : Nat) (err5 : Int) (q5 : Nat), a = .int .i64 v ∧ b = .int .i64 y ∧ c = .int .i64 nn ∧ 1 ≤ nn ∧ nn ≤ 200 ∧ Hid (RSt wc B s X xc bs q5 OA on oc o most err5) ∧ Hid (Upd [some s] wr wc) ∧ Hid (((v = 16) ∧ ((err5 = 0 ∧ q < q5 ∧ 0 ≤ y ∧ y ≤ 15 ∧ ∀ k, run bs most (toldPr F k) p o = run bs most (if (N : Int) - xn < ((nn : Nat) : Int) then .fail 3 else rowPr tz N f' (row ++ List.replicate nn y) (rowC F ll k)) q5 o) ∨ (err5 ≠ 0 ∧ ∀ k, run bs most (toldPr F k) p o = .err err5))) ∨ (¬ (v = 16) ∧ v = y ∧ 1 = nn ∧ err1 = err5 ∧ q1 = q5)))
                case first =>
                  by_cases h16 : v = 16
                  · have d16 : (v == 16) = true := by simp [h16]
                    have h16' := Lib.hid h16
                    clear h16
                    by_cases hx0 : xn = 0
                    · have d0 : ((xn : Int) == 0) = true := by simp [hx0]
                      have HX0 := Lib.hid hx0
                      have d00 : decide (0 < xn) = false := by simp; omega
                      have hx0' : xn < 1 := by omega
                      clear hx0
                      go_upto_region 23 with (go_at_call 75; refine (bad_any HS1.out true 3 (by decide)).mono ?_; rintro e w2 ⟨rfl, hs2, hv2⟩; have HS2 := Lib.hid hs2; have HU2 : Hid (Upd [some s] wr w2) := HU1.out.trans hv2; clear hs2 hv2)
                      have HK2 : Hid (((badE err1 true 3) = 0 ∧ q < q1 ∧ (0 ≤ (0 : Int) ∧ (0 : Int) ≤ 15) ∧ ∀ k, run bs most (toldPr F k) p o = run bs most (.take 2 fun more => if (N : Int) - xn < 3 + more then .fail 3 else rowPr tz N f' (row ++ List.replicate (3 + more).toNat (0 : Int)) (rowC F ll k)) q1 o) ∨ ((badE err1 true 3) ≠ 0 ∧ ∀ k, run bs most (toldPr F k) p o = .err (badE err1 true 3))) := by
                        right
                        rcases HKs.out with ⟨h1, h2, h3, h4, h5⟩ | ⟨h1, h2⟩
                        · rw [h1, badE_true]
                          refine ⟨by decide, fun k => ?_⟩
                          rw [HRUN.out, rowPr, if_neg (by rw [HRL.out]; omega), run_next_ok (HNX.out h1), if_pos ⟨h16'.out, by rw [HRL.out]; exact HX0.out⟩, run]
                        · rw [badE_err h1]; exact ⟨h1, h2⟩
                      generalize badE err1 true 3 = err2 at HS2 HK2
                      go_wp2_with (go_at_call 44; refine (number_any HS2.out 2 (by omega)).mono ?_; rintro e w3 ⟨m, q3, err3, rfl, hs3, hv3, hq3, hm0, hmn, hc3⟩; have hm128 : m ≤ 127 := (by omega); obtain ⟨T, hT⟩ : ∃ T : Nat, 3 + m = (T : Int) := ⟨(3 + m).toNat, by omega⟩; have hT1 : 1 ≤ T ∧ T ≤ 200 := (by omega); clear hmn)
                      have HK5 : Hid ((err3 = 0 ∧ q < q3 ∧ 0 ≤ (0 : Int) ∧ (0 : Int) ≤ 15 ∧ ∀ k, run bs most (toldPr F k) p o = run bs most (if (N : Int) - xn < ((T : Nat) : Int) then .fail 3 else rowPr tz N f' (row ++ List.replicate T (0 : Int)) (rowC F ll k)) q3 o) ∨ (err3 ≠ 0 ∧ ∀ k, run bs most (toldPr F k) p o = .err err3)) := by
                        rcases HK2.out with ⟨h1, h2, h3, h4⟩ | ⟨h1, h2⟩
                        · rcases hc3 with ⟨g1, _⟩ | ⟨_, g1, g2, g3, g4⟩ | ⟨_, g1, g2, g3, g4⟩
                          · exact absurd h1 g1
                          · exact Or.inl ⟨g2, by omega, h3.1, h3.2, fun k => by rw [h4, run_take_ok g1, ← g4, g3, hT, Int.toNat_natCast]⟩
                          · exact Or.inr ⟨by omega, fun k => by rw [h4, run_take_no g1, g2]⟩
                        · rcases hc3 with ⟨_, g1, _⟩ | ⟨g1, _⟩ | ⟨g1, _⟩
                          · exact Or.inr ⟨by omega, fun k => by rw [h2, g1]⟩
                          · exact absurd g1 h1
                          · exact absurd g1 h1
                      go_meet
                      case rel => exact ⟨(0 : Int), T, err3, q3, rfl, rfl, rfl, hT1.1, hT1.2, hs3, HU2.out.trans hv3, Or.inl ⟨h16'.out, HK5.out⟩⟩
                    · have d0 : ((xn : Int) == 0) = false := by simp [hx0]
                      have hx1 : 0 < xn := by omega
                      have d00 : decide ((0 : Int) < xn) = true := by simp; omega
                      obtain ⟨y, HY, ycell⟩ := (Ints.ofOwn HX.out.2).int (i := xn - 1) (by omega)
                      have yix := (Ints.ofOwn HX.out.2).indexI el_int xc2 .i64 ((xn : Int) - 1) (xn - 1) (by omega) (by omega)
                      have hyb := hrb y (List.mem_of_getElem? HY.out)
                      have HNS : Hid (bl X2 ≠ s) := by obtain ⟨cs, hb⟩ := Own.tblk HX.out.2 hx1; exact hb.ne HSr.out.blk (by decide)
                      have ycell1 := HU1.out.cell ycell (by simp; exact HNS.out)
                      have HST : Hid (stepOf 16 row = (y, 3, 2)) := by
                        show _ = _
                        unfold stepOf
                        rw [if_pos rfl, List.getLastD_eq_getLast?, List.getLast?_eq_getElem?, HRL.out, HY.out]
                        rfl
                      clear ycell
                      go_upto_region 23 with (go_at_call 75; refine (bad_any HS1.out false 3 (by decide)).mono ?_; rintro e w2 ⟨rfl, hs2, hv2⟩; rw [badE_false] at hs2; have HS2 := Lib.hid hs2; have HU2 : Hid (Upd [some s] wr w2) := HU1.out.trans hv2; have ycell2 := hv2.cell ycell1 (by simp; exact HNS.out); clear hs2 hv2 ycell1)
                      have HK2 : Hid ((err1 = 0 ∧ q < q1 ∧ (0 ≤ y ∧ y ≤ 15) ∧ ∀ k, run bs most (toldPr F k) p o = run bs most (.take 2 fun more => if (N : Int) - xn < 3 + more then .fail 3 else rowPr tz N f' (row ++ List.replicate (3 + more).toNat y) (rowC F ll k)) q1 o) ∨ (err1 ≠ 0 ∧ ∀ k, run bs most (toldPr F k) p o = .err err1)) := by
                        rcases HKs.out with ⟨h1, h2, h3, h4, h5⟩ | h
                        · refine Or.inl ⟨h1, h2, hyb, fun k => ?_⟩
                          rw [h5 (by omega), h16'.out, HST.out, HRL.out]
                        · exact Or.inr h
                      go_wp2_with (go_at_call 44; refine (number_any HS2.out 2 (by omega)).mono ?_; rintro e w3 ⟨m, q3, err3, rfl, hs3, hv3, hq3, hm0, hmn, hc3⟩; have hm128 : m ≤ 127 := (by omega); obtain ⟨T, hT⟩ : ∃ T : Nat, 3 + m = (T : Int) := ⟨(3 + m).toNat, by omega⟩; have hT1 : 1 ≤ T ∧ T ≤ 200 := (by omega); clear hmn)
                      have HK5 : Hid ((err3 = 0 ∧ q < q3 ∧ 0 ≤ y ∧ y ≤ 15 ∧ ∀ k, run bs most (toldPr F k) p o = run bs most (if (N : Int) - xn < ((T : Nat) : Int) then .fail 3 else rowPr tz N f' (row ++ List.replicate T y) (rowC F ll k)) q3 o) ∨ (err3 ≠ 0 ∧ ∀ k, run bs most (toldPr F k) p o = .err err3)) := by
                        rcases HK2.out with ⟨h1, h2, h3, h4⟩ | ⟨h1, h2⟩
                        · rcases hc3 with ⟨g1, _⟩ | ⟨_, g1, g2, g3, g4⟩ | ⟨_, g1, g2, g3, g4⟩
                          · exact absurd h1 g1
                          · exact Or.inl ⟨g2, by omega, h3.1, h3.2, fun k => by rw [h4, run_take_ok g1, ← g4, g3, hT, Int.toNat_natCast]⟩
                          · exact Or.inr ⟨by omega, fun k => by rw [h4, run_take_no g1, g2]⟩
                        · rcases hc3 with ⟨_, g1, _⟩ | ⟨g1, _⟩ | ⟨g1, _⟩
                          · exact Or.inr ⟨by omega, fun k => by rw [h2, g1]⟩
                          · exact absurd g1 h1
                          · exact absurd g1 h1
                      go_meet
                      case rel => exact ⟨y, T, err3, q3, rfl, rfl, rfl, hT1.1, hT1.2, hs3, HU2.out.trans hv3, Or.inl ⟨h16'.out, HK5.out⟩⟩
                  · have d16 : (v == 16) = false := by simp [h16]
                    go_wp2
                    go_meet
                    case rel => exact ⟨v, 1, err1, q1, rfl, rfl, rfl, by omega, by omega, HS1.out, HU1.out, Or.inr ⟨h16, rfl, rfl, rfl, rfl⟩⟩
                case rest =>
                  obtain ⟨y, nn, err5, q5, rfl, rfl, rfl, hn1, hn2, HS5, HU5, HK5⟩ := hcut
                  clear HS1 HU1
                  go_upto_if 97 with (fail)
                  go_cut [10, 11, 12] from 60 to 120 (fun a b c wc => ∃ (y : Int) (nn : Nat) (err5 : Int) (q5 : Nat), a = .int .i64 v ∧ b = .int .i64 y ∧ c = .int .i64 nn ∧ 1 ≤ nn ∧ nn ≤ 200 ∧ Hid (RSt wc B s X xc bs q5 OA on oc o most err5) ∧ Hid (Upd [some s] wr wc) ∧ Hid (((v = 16 ∨ v = 17) ∧ ((err5 = 0 ∧ q < q5 ∧ 0 ≤ y ∧ y ≤ 15 ∧ ∀ k, run bs most (toldPr F k) p o = run bs most (if (N : Int) - xn < ((nn : Nat) : Int) then .fail 3 else rowPr tz N f' (row ++ List.replicate nn y) (rowC F ll k)) q5 o) ∨ (err5 ≠ 0 ∧ ∀ k, run bs most (toldPr F k) p o = .err err5))) ∨ (¬ (v = 16 ∨ v = 17) ∧ v = y ∧ 1 = nn ∧ err1 = err5 ∧ q1 = q5)))
                  case first =>
                    by_cases h17 : v = 17
                    · have d17 : (v == 17) = true := by simp [h17]
                      have h17' := Lib.hid h17
                      clear h17
                      obtain ⟨-, rfl, rfl, rfl, rfl⟩ : _ ∧ _ ∧ _ ∧ _ ∧ _ := by rcases HK5.out with ⟨h, _⟩ | h; have := h17'.out; omega; exact h
                      clear HK5
                      have HK2 : Hid ((err1 = 0 ∧ q < q1 ∧ (0 ≤ (0 : Int) ∧ (0 : Int) ≤ 15) ∧ ∀ k, run bs most (toldPr F k) p o = run bs most (.take 3 fun more => if (N : Int) - xn < 3 + more then .fail 3 else rowPr tz N f' (row ++ List.replicate (3 + more).toNat (0 : Int)) (rowC F ll k)) q1 o) ∨ (err1 ≠ 0 ∧ ∀ k, run bs most (toldPr F k) p o = .err err1)) := by
                        rcases HKs.out with ⟨h1, h2, h3, h4, h5⟩ | h
                        · refine Or.inl ⟨h1, h2, by omega, fun k => ?_⟩
                          have hst : stepOf v row = (0, 3, 3) := by rw [h17'.out]; rfl
                          rw [h5 (by have := h17'.out; omega), hst, HRL.out]
                        · exact Or.inr h
                      have HS2 := HS5
                      have HU2 := HU5
                      go_wp2_with (go_at_call 44; refine (number_any HS2.out 3 (by omega)).mono ?_; rintro e w3 ⟨m, q3, err3, rfl, hs3, hv3, hq3, hm0, hmn, hc3⟩; have hm128 : m ≤ 127 := (by omega); obtain ⟨T, hT⟩ : ∃ T : Nat, 3 + m = (T : Int) := ⟨(3 + m).toNat, by omega⟩; have hT1 : 1 ≤ T ∧ T ≤ 200 := (by omega); clear hmn)
                      have HK5 : Hid ((err3 = 0 ∧ q < q3 ∧ 0 ≤ (0 : Int) ∧ (0 : Int) ≤ 15 ∧ ∀ k, run bs most (toldPr F k) p o = run bs most (if (N : Int) - xn < ((T : Nat) : Int) then .fail 3 else rowPr tz N f' (row ++ List.replicate T (0 : Int)) (rowC F ll k)) q3 o) ∨ (err3 ≠ 0 ∧ ∀ k, run bs most (toldPr F k) p o = .err err3)) := by
                        rcases HK2.out with ⟨h1, h2, h3, h4⟩ | ⟨h1, h2⟩
                        · rcases hc3 with ⟨g1, _⟩ | ⟨_, g1, g2, g3, g4⟩ | ⟨_, g1, g2, g3, g4⟩
                          · exact absurd h1 g1
                          · exact Or.inl ⟨g2, by omega, h3.1, h3.2, fun k => by rw [h4, run_take_ok g1, ← g4, g3, hT, Int.toNat_natCast]⟩
                          · exact Or.inr ⟨by omega, fun k => by rw [h4, run_take_no g1, g2]⟩
                        · rcases hc3 with ⟨_, g1, _⟩ | ⟨g1, _⟩ | ⟨g1, _⟩
                          · exact Or.inr ⟨by omega, fun k => by rw [h2, g1]⟩
                          · exact absurd g1 h1
                          · exact absurd g1 h1
                      go_meet
                      case rel => exact ⟨(0 : Int), T, err3, q3, rfl, rfl, rfl, hT1.1, hT1.2, hs3, HU2.out.trans hv3, Or.inl ⟨Or.inr h17'.out, HK5.out⟩⟩
                    · have d17 : (v == 17) = false := by simp [h17]
                      go_wp2
                      go_meet
                      case rel => exact ⟨y, nn, err5, q5, rfl, rfl, rfl, hn1, hn2, HS5.out, HU5.out, by
                        rcases HK5.out with ⟨h1, h2⟩ | ⟨h1, h2⟩
                        · exact Or.inl ⟨Or.inl h1, h2⟩
                        · exact Or.inr ⟨by omega, h2⟩⟩
                  case rest =>
                    clear HS5 HU5 HK5 hn1 hn2
                    obtain ⟨y, nn, err5, q5, rfl, rfl, rfl, hn1, hn2, HS5, HU5, HK5⟩ := hcut
                    go_upto_if 102 with (fail)
                    go_cut [10, 11, 12] from 60 to 120 (fun a b c wc => ∃ (y : Int) (nn : Nat) (err5 : Int) (q5 : Nat), a = .int .i64 v ∧ b = .int .i64 y ∧ c = .int .i64 nn ∧ 1 ≤ nn ∧ nn ≤ 200 ∧ Hid (RSt wc B s X xc bs q5 OA on oc o most err5) ∧ Hid (Upd [some s] wr wc) ∧ Hid ((err5 = 0 ∧ q < q5 ∧ 0 ≤ y ∧ y ≤ 15 ∧ ∀ k, run bs most (toldPr F k) p o = run bs most (if (N : Int) - xn < ((nn : Nat) : Int) then .fail 3 else rowPr tz N f' (row ++ List.replicate nn y) (rowC F ll k)) q5 o) ∨ (err5 ≠ 0 ∧ ∀ k, run bs most (toldPr F k) p o = .err err5)))
                    case first =>
                      by_cases h18 : v = 18
                      · have d18 : (v == 18) = true := by simp [h18]
                        have h18' := Lib.hid h18
                        clear h18
                        obtain ⟨-, rfl, rfl, rfl, rfl⟩ : _ ∧ _ ∧ _ ∧ _ ∧ _ := by rcases HK5.out with ⟨h, _⟩ | h; have := h18'.out; omega; exact h
                        clear HK5
                        have HK2 : Hid ((err1 = 0 ∧ q < q1 ∧ (0 ≤ (0 : Int) ∧ (0 : Int) ≤ 15) ∧ ∀ k, run bs most (toldPr F k) p o = run bs most (.take 7 fun more => if (N : Int) - xn < 11 + more then .fail 3 else rowPr tz N f' (row ++ List.replicate (11 + more).toNat (0 : Int)) (rowC F ll k)) q1 o) ∨ (err1 ≠ 0 ∧ ∀ k, run bs most (toldPr F k) p o = .err err1)) := by
                          rcases HKs.out with ⟨h1, h2, h3, h4, h5⟩ | h
                          · refine Or.inl ⟨h1, h2, by omega, fun k => ?_⟩
                            have hst : stepOf v row = (0, 11, 7) := by rw [h18'.out]; rfl
                            rw [h5 (by have := h18'.out; omega), hst, HRL.out]
                          · exact Or.inr h
                        have HS2 := HS5
                        have HU2 := HU5
                        go_wp2_with (go_at_call 44; refine (number_any HS2.out 7 (by omega)).mono ?_; rintro e w3 ⟨m, q3, err3, rfl, hs3, hv3, hq3, hm0, hmn, hc3⟩; have hm128 : m ≤ 127 := (by omega); obtain ⟨T, hT⟩ : ∃ T : Nat, 11 + m = (T : Int) := ⟨(11 + m).toNat, by omega⟩; have hT1 : 1 ≤ T ∧ T ≤ 200 := (by omega); clear hmn)
                        have HK5 : Hid ((err3 = 0 ∧ q < q3 ∧ 0 ≤ (0 : Int) ∧ (0 : Int) ≤ 15 ∧ ∀ k, run bs most (toldPr F k) p o = run bs most (if (N : Int) - xn < ((T : Nat) : Int) then .fail 3 else rowPr tz N f' (row ++ List.replicate T (0 : Int)) (rowC F ll k)) q3 o) ∨ (err3 ≠ 0 ∧ ∀ k, run bs most (toldPr F k) p o = .err err3)) := by
                          rcases HK2.out with ⟨h1, h2, h3, h4⟩ | ⟨h1, h2⟩
                          · rcases hc3 with ⟨g1, _⟩ | ⟨_, g1, g2, g3, g4⟩ | ⟨_, g1, g2, g3, g4⟩
                            · exact absurd h1 g1
                            · exact Or.inl ⟨g2, by omega, h3.1, h3.2, fun k => by rw [h4, run_take_ok g1, ← g4, g3, hT, Int.toNat_natCast]⟩
                            · exact Or.inr ⟨by omega, fun k => by rw [h4, run_take_no g1, g2]⟩
                          · rcases hc3 with ⟨_, g1, _⟩ | ⟨g1, _⟩ | ⟨g1, _⟩
                            · exact Or.inr ⟨by omega, fun k => by rw [h2, g1]⟩
                            · exact absurd g1 h1
                            · exact absurd g1 h1
                        go_meet
                        case rel => exact ⟨(0 : Int), T, err3, q3, rfl, rfl, rfl, hT1.1, hT1.2, hs3, HU2.out.trans hv3, HK5.out⟩
                      · have d18 : (v == 18) = false := by simp [h18]
                        go_wp2
                        go_meet
                        case rel => exact ⟨y, nn, err5, q5, rfl, rfl, rfl, hn1, hn2, HS5.out, HU5.out, by
                          rcases HK5.out with ⟨h1, h2⟩ | ⟨h1, rfl, rfl, rfl, rfl⟩
                          · exact h2
                          · rcases HKs.out with ⟨g1, g2, g3, g4, g5⟩ | h
                            · refine Or.inl ⟨g1, g2, g3, by omega, fun k => ?_⟩
                              have hst : stepOf v row = (v, 1, 0) := by unfold stepOf; rw [if_neg (by omega), if_neg (by omega), if_neg h18]
                              rw [g5 (by omega), hst, run_take_ok (by have := HS5.out.pos; omega), HRL.out]
                              rfl
                            · exact Or.inr h⟩
                    case rest =>
                      clear HS5 HU5 HK5 hn1 hn2 HKs HNX
                      obtain ⟨y, nn, err5, q5, rfl, rfl, rfl, hn1, hn2, HS5, HU5, HK5⟩ := hcut
                      go_wp2_with fail
                      refine (bad_any HS5.out _ 3 (by decide)).mono ?_
                      rintro e wa ⟨rfl, hsa, hva⟩
                      obtain ⟨erra, b, ha, hb, hsa⟩ : ∃ erra b, erra = badE err5 b 3 ∧ (b = true ↔ (ll : Int) + dd - xn < nn) ∧ RSt wa B s X xc bs q5 OA on oc o most erra := ⟨_, _, rfl, by first | (rw [decide_eq_true_eq]; omega) | (simp; omega) | simp, hsa⟩
                      have HKa : Hid ((erra = 0 ∧ q < q5 ∧ 0 ≤ y ∧ y ≤ 15 ∧ xn + nn ≤ N ∧ ∀ k, run bs most (toldPr F k) p o = run bs most (rowPr tz N f' (row ++ List.replicate nn y) (rowC F ll k)) q5 o) ∨ (erra ≠ 0 ∧ ∀ k, run bs most (toldPr F k) p o = .err erra)) := by
                        have hNN := HN.out
                        rcases HK5.out with ⟨h1, h2, h3, h4, h5⟩ | ⟨h1, h2⟩
                        · rw [h1] at ha
                          by_cases hbg : (ll : Int) + dd - xn < nn
                          · rw [hb.2 hbg, badE_true] at ha
                            exact Or.inr ⟨by omega, fun k => by rw [h5, if_pos (by omega), run, ha]⟩
                          · rw [Bool.eq_false_iff.mpr (fun h => hbg (hb.1 h)), badE_false] at ha
                            exact Or.inl ⟨ha, h2, h3, h4, by omega, fun k => by rw [h5, if_neg (by omega)]⟩
                        · rw [badE_err h1] at ha
                          exact Or.inr ⟨by omega, fun k => by rw [h2, ha]⟩
                      have HSa := Lib.hid hsa
                      have HUa : Hid (Upd [some s] wr wa) := HU5.out.trans hva
                      clear hsa hva ha hb HK5 HS5 HU5
                      go_wp2_with fail
                      refine (times_any y nn (by omega) wa).mono ?_
                      rintro e wb ⟨YA, ycap, rfl, hY, hvb⟩
                      have HSb := Lib.hid (HSa.out.grow hvb)
                      have HUb : Hid (Upd [some s] wr wb) := HUa.out.trans (hvb.mono (by simp))
                      have HYI := Lib.hid (Ints.ofOwn hY)
                      have hXb := HX.out.2.upd HUb.out (by intro k hk; simp; rintro rfl; exact HX.out.2.neBlk HSr.out.blk (by decide) hk)
                      have hszb := HUb.out.size
                      have hszw := HX.out.1.size
                      have hG9b := HG9.out
                      have hCb := HCd.out.1.keep HSr.out (OA := OA) HUb.out.two
                      have hBb := HCd.out.2.upd HUb.out (by simp; exact HCd.out.2.ne HSr.out.blk (by decide))
                      have HCb := Lib.hid hCb
                      have HBb := Lib.hid hBb
                      clear hY hvb HSa HUa hCb hBb
                      go_wp2_with (at_builtin; refine wpList_app rfl rfl el_int rfl hXb rfl HYI.out (ints_one _ _) (by simp only [maxLen]; omega) (by omega) (by have h1 := HSZ.out; omega) ?_; intro X5 c5 w6 hown6 hu6 hfr6)
                      have HS6 := Lib.hid (HSb.out.updI hXb (fun g hg hx => by have h1 := (hXb.base hg).1; have h2 := HXB.out g hx; have h3 := HG9.out; omega) hu6)
                      have hXl : ∀ b, b < g9 → some b ∉ [ob X2] := fun b hb hm => by simp at hm; have := (hXb.base hm.symm).1; omega
                      have HX6 : Hid (Upd [some s] w w6 ∧ Own w6 g9 3 1 X5 (xn + nn) c5 ((row ++ List.replicate nn y).map (Value.int .i64))) := by
                        refine ⟨(HX.out.1.trans HUb.out).then hu6 (by intro b hb; simp at hb; right; have := (hXb.base hb.symm).1; omega), ?_⟩
                        rw [List.map_append]
                        exact hown6
                      have HC6 : Hid (Cd w6 tz TA tc C d ∧ Blk w6 g8 93 #[.slice TA 19 tc, .slice C 19 d]) := ⟨HCb.out.upd hu6 (fun _ => hXl _ HGC.out.1) (fun _ => hXl _ HGC.out.2.1), HBb.out.upd hu6 (hXl _ HGC.out.2.2)⟩
                      have HSZ6 : Hid (g9 ≤ w6.heap.size) := by have h1 := HSZ.out; have h2 := hu6.size; show _ ≤ _; omega
                      clear hown6 hu6 hfr6 hXb HSb HUb HYI hXl HCb HBb
                      have n1 := HS6.out.blk.cell 1
                      have n4 := HS6.out.blk.cell 4
                      simp at n1 n4
                      have hq5l := HS6.out.pos
                      go_wp2
                      go_roundw
                      case rel =>
                        refine ⟨q5, X5, xn + nn, c5, row ++ List.replicate nn y, erra, rfl, by omega, HSZ6, HS6, HX6, HC6, ?_⟩
                        rcases HKa.out with ⟨h1, h2, h3, h4, h5, h6⟩ | h
                        · refine Or.inl ⟨h1, by omega, h5, ?_, f', by omega, h6⟩
                          intro z hz
                          rcases List.mem_append.1 hz with h7 | h7
                          · exact hrb z h7
                          · rw [List.mem_replicate] at h7; rw [h7.2]; exact ⟨h3, h4⟩
                        · exact Or.inr h
                      case measure =>
                        rcases HKa.out with ⟨h1, h2, _⟩ | ⟨h1, _⟩
                        · simp [intOf, hm1, hm4, n1, n4, h1]; omega
                        · simp [intOf, hm1, hm4, n4, h1]; omega
              · obtain rfl : xn = N := by omega
                have HCR : Hid (∀ k, run bs most (toldPr F k) p o = run bs most (rowC F ll k row) q o) := fun k => by
                  obtain ⟨f', rfl⟩ : ∃ f', f = f' + 1 := ⟨f - 1, by omega⟩
                  rw [hrun, rowPr, if_pos (by rw [HRL.out]; exact Nat.le_refl _)]
                have dlt : decide ((xn : Int) < (ll : Int) + dd) = false := by have := HN.out; simp; omega
                have hxnd : xn = ll + dd := HNn.out
                have HND := Lib.hid hxnd
                have hdd1 : ll + dd ≤ xn ∧ xn ≤ ll + dd := by omega
                have HXI := Lib.hid (Ints.ofOwn HX.out.2)
                have hxc2 := HX.out.2.le
                have HTB : Hid (∃ cs, Blk wr (bl X2) 3 cs) := Own.tblk HX.out.2 (by omega)
                clear hrun HKr hf hxnd
                go_wp2
                go_loop [13, 14, 15] (fun u m v => ∃ j : Nat, j ≤ dd ∧ v = .int .i64 ((ll : Int) + j) ∧ ∃ U M : Int, u = .int .i64 U ∧ m = .int .i64 M ∧ Hid (U = usedN ((row.drop ll).take j) ∧ M = mostN ((row.drop ll).take j)) ∧ 0 ≤ U ∧ U ≤ j ∧ 0 ≤ M ∧ M ≤ 15) (fun _ _ v => xn - (intOf v).toNat)
                case atStart => exact ⟨0, by omega, by go_num, 0, 0, rfl, rfl, ⟨rfl, rfl⟩, by omega, by omega, by omega, by omega⟩
                case round =>
                  obtain ⟨j, hj, rfl, U, M, rfl, rfl, HUM, hU0, hU1, hM0, hM1⟩ := hrel
                  by_cases hjd : j < dd
                  · obtain ⟨x, HXX, xcell⟩ := HXI.out.int (i := ll + j) (by omega)
                    have xix := HXI.out.indexI el_int xc2 .i64 ((ll : Int) + j) (ll + j) (by omega) (by omega)
                    have hxb := hrb x (List.mem_of_getElem? HXX.out)
                    have HSN : Hid ((row.drop ll).take (j + 1) = (row.drop ll).take j ++ [x]) := drop_take_snoc HXX.out
                    have djl : decide ((ll : Int) + j < (ll : Int) + dd) = true := by simp; omega
                    by_cases hx0 : 0 < x
                    · by_cases hxm : M < x
                      · go_wp2
                        go_round
                        case rel => exact ⟨j + 1, by omega, by go_num, U + 1, x, rfl, rfl, ⟨by rw [HSN.out, usedN_snoc, if_pos hx0, ← HUM.out.1], by rw [HSN.out, mostN_snoc, ← HUM.out.2, if_pos hxm]⟩, by omega, by omega, by omega, by omega⟩
                        case measure => simp [intOf]; omega
                      · have dxm : decide (M < x) = false := by simp; omega
                        go_wp2
                        go_round
                        case rel => exact ⟨j + 1, by omega, by go_num, U + 1, M, rfl, rfl, ⟨by rw [HSN.out, usedN_snoc, if_pos hx0, ← HUM.out.1], by rw [HSN.out, mostN_snoc, ← HUM.out.2, if_neg hxm]⟩, by omega, by omega, by omega, by omega⟩
                        case measure => simp [intOf]; omega
                    · have dx0 : decide (0 < x) = false := by simp; omega
                      have dxm : decide (M < x) = false := by simp; omega
                      go_wp2
                      go_round
                      case rel => exact ⟨j + 1, by omega, by go_num, U, M, rfl, rfl, ⟨by rw [HSN.out, usedN_snoc, if_neg hx0, ← HUM.out.1, Int.add_zero], by rw [HSN.out, mostN_snoc, ← HUM.out.2, if_neg (by omega)]⟩, by omega, by omega, by omega, by omega⟩
                      case measure => simp [intOf]; omega
                  · obtain rfl : j = dd := by omega
                    have djl : decide ((ll : Int) + j < (ll : Int) + j) = false := by simp
                    obtain ⟨lz, hlz⟩ : ∃ lz, lz = row.take ll := ⟨_, rfl⟩
                    obtain ⟨dz, hdz⟩ : ∃ dz, dz = row.drop ll := ⟨_, rfl⟩
                    have HLI : Hid (Ints .i64 wr X2 ll lz) := by rw [hlz]; exact HXI.out.pre (by omega)
                    have HDI : Hid (Ints .i64 wr (cutA 1 X2 xc2 ll) j dz) := by
                      have h := HXI.out.cut (lo := ll) (hi := xn) (c := xc2) (by omega) (Nat.le_refl _) hxc2
                      rw [List.take_of_length_le (by rw [List.length_drop, HRL.out]; omega), show xn - ll = j from by omega, ← hdz] at h
                      exact h
                    have HDB : Hid (∀ z ∈ dz, 0 ≤ z ∧ z ≤ 15) := fun z hz => hrb z (by rw [hdz] at hz; exact List.mem_of_mem_drop hz)
                    have HDL : Hid (dz.length = j) := HDI.out.len
                    have HLL2 : Hid (lz.length = ll) := HLI.out.len
                    have HLO : Hid (loneB dz = true ↔ U ≤ 1 ∧ M ≤ 1) := by
                      have h := lone_um HDB.out
                      have hum := HUM.out
                      rw [List.take_of_length_le (by rw [List.length_drop, HRL.out]; omega), ← hdz] at hum
                      rw [← hum.1, ← hum.2] at h
                      exact h
                    obtain ⟨DA, hDA⟩ : ∃ DA, DA = cutA 1 X2 xc2 ll := ⟨_, rfl⟩
                    have cut1 := run_cut_h el_int X2 xn xc2 .i64 (ll : Int) ll rfl (by omega)
                    have cut2 := run_cut_l el_int X2 xn xc2 .i64 (ll : Int) ll rfl (by omega)
                    rw [← hDA, show xn - ll = j from by omega] at cut2
                    have HBD : Hid (bl DA = bl X2) := by rw [hDA]; exact bl_cut _ _ _ _
                    rw [← hDA] at HDI
                    obtain ⟨x, HXX, xcell⟩ := HXI.out.int (i := 256) (by omega)
                    have xix := HXI.out.index el_int xc2 .i64 256 (by omega)
                    have xix' : ∀ W : World, (Instr.indexAt 64 (.slice X2 xn xc2) (.int .i64 256)).run Tryz.prog W = .ok (.pointer (some ⟨bl X2, ofs X2 + 256, none⟩)) W := xix
                    have HC2 : Hid (∀ k, run bs most (toldPr F k) p o = run bs most (if x = 0 ∨ fullB lz = false then .fail 3 else if fullB dz = false ∧ loneB dz = false then .fail 3 else symPr lz dz F k) q o) := fun k => by
                      rw [HCR.out]
                      unfold rowC
                      rw [← hlz, ← hdz, show row.getD 256 0 = x from by simp [List.getD, HXX.out]]
                    clear hlz hdz hDA xix HXX HUM HCR hrb
                    go_upto_region 42 with (fail)
                    go_cut [176] from 177 (fun b wc => ∃ isb : Bool, b = .bool isb ∧ wc = wr ∧ Hid ((isb = true ∧ ∀ k, run bs most (toldPr F k) p o = .err 3) ∨ (isb = false ∧ chk lz = 0 ∧ chk dz = 0 ∧ ∀ k, run bs most (toldPr F k) p o = run bs most (symPr lz dz F k) q o)))
                    case first =>
                      by_cases hx0 : x = 0
                      · have HX0 := Lib.hid hx0
                        have dx : (x == 0) = true := by simp [hx0]
                        clear hx0
                        go_wp2
                        go_meet
                        case rel => exact ⟨true, rfl, rfl, Or.inl ⟨rfl, fun k => by rw [HC2.out, if_pos (Or.inl HX0.out), run]⟩⟩
                      · have dx : (x == 0) = false := by simp [hx0]
                        cases hfl : fullB lz with
                        | false =>
                          have HFL := Lib.hid hfl
                          clear hfl
                          go_wp2_with (go_at_call 80; refine (rfull_any X2 ll xc2 lz _ HLI.out).mono ?_; rintro e w' ⟨rfl, rfl⟩; rw [HFL.out])
                          go_meet
                          case rel => exact ⟨true, rfl, rfl, Or.inl ⟨rfl, fun k => by rw [HC2.out, if_pos (Or.inr HFL.out), run]⟩⟩
                        | true =>
                          have HFL := Lib.hid hfl
                          clear hfl
                          cases hfd : fullB dz with
                          | true =>
                            have HFD := Lib.hid hfd
                            clear hfd
                            go_wp2_with fail
                            refine (rfull_any X2 ll xc2 lz _ HLI.out).mono ?_
                            rintro e w' ⟨rfl, rfl⟩
                            rw [HFL.out]
                            go_wp2_with fail
                            refine (rfull_any DA j _ dz _ HDI.out).mono ?_
                            rintro e w' ⟨rfl, rfl⟩
                            rw [HFD.out]
                            go_wp2
                            go_meet
                            case rel => exact ⟨false, rfl, rfl, Or.inr ⟨rfl, full_chk HFL.out, full_chk HFD.out, fun k => by rw [HC2.out, if_neg (by rw [HFL.out]; simp [hx0]), if_neg (by rw [HFD.out]; simp)]⟩⟩
                          | false =>
                            have HFD := Lib.hid hfd
                            clear hfd
                            by_cases hU : 1 < U
                            · have HLO2 : Hid (loneB dz = false) := Bool.eq_false_iff.mpr (fun h => by have := HLO.out.1 h; omega)
                              go_wp2_with fail
                              refine (rfull_any X2 ll xc2 lz _ HLI.out).mono ?_
                              rintro e w' ⟨rfl, rfl⟩
                              rw [HFL.out]
                              go_wp2_with fail
                              refine (rfull_any DA j _ dz _ HDI.out).mono ?_
                              rintro e w' ⟨rfl, rfl⟩
                              rw [HFD.out]
                              go_wp2
                              go_meet
                              case rel => exact ⟨true, rfl, rfl, Or.inl ⟨rfl, fun k => by rw [HC2.out, if_neg (by rw [HFL.out]; simp [hx0]), if_pos ⟨HFD.out, HLO2.out⟩, run]⟩⟩
                            · have dU : decide (1 < U) = false := by simp; omega
                              by_cases hM : 1 < M
                              · have HLO2 : Hid (loneB dz = false) := Bool.eq_false_iff.mpr (fun h => by have := HLO.out.1 h; omega)
                                go_wp2_with fail
                                refine (rfull_any X2 ll xc2 lz _ HLI.out).mono ?_
                                rintro e w' ⟨rfl, rfl⟩
                                rw [HFL.out]
                                go_wp2_with fail
                                refine (rfull_any DA j _ dz _ HDI.out).mono ?_
                                rintro e w' ⟨rfl, rfl⟩
                                rw [HFD.out]
                                go_wp2
                                go_meet
                                case rel => exact ⟨true, rfl, rfl, Or.inl ⟨rfl, fun k => by rw [HC2.out, if_neg (by rw [HFL.out]; simp [hx0]), if_pos ⟨HFD.out, HLO2.out⟩, run]⟩⟩
                              · have dM : decide (1 < M) = false := by simp; omega
                                have HLO2 : Hid (loneB dz = true) := HLO.out.2 ⟨by omega, by omega⟩
                                go_wp2_with fail
                                refine (rfull_any X2 ll xc2 lz _ HLI.out).mono ?_
                                rintro e w' ⟨rfl, rfl⟩
                                rw [HFL.out]
                                go_wp2_with fail
                                refine (rfull_any DA j _ dz _ HDI.out).mono ?_
                                rintro e w' ⟨rfl, rfl⟩
                                rw [HFD.out]
                                go_wp2
                                go_meet
                                case rel => exact ⟨false, rfl, rfl, Or.inr ⟨rfl, full_chk HFL.out, lone_chk (by rw [HDL.out]; omega) HDB.out HLO2.out, fun k => by rw [HC2.out, if_neg (by rw [HFL.out]; simp [hx0]), if_neg (by rw [HLO2.out]; simp)]⟩⟩
                    case rest =>
                      obtain ⟨isb, rfl, rfl, HIS⟩ := hcut
                      clear HC2 HLO
                      have f4 := HSr.out.blk.frozen 4
                      cases isb with
                      | true =>
                        have HE : Hid (∀ k, run bs most (toldPr F k) p o = .err 3) := by rcases HIS.out with ⟨_, h⟩ | ⟨h, _⟩; exact h; cases h
                        go_wp2
                        go_end0
                        exact ⟨q, OA, on, oc, o, 3, rfl, HSr.out.err (by decide), (HX.out.1.trans (HSr.out.put 4 _)).two, Fresh.refl _ _, Or.inl ⟨by decide, HE.out⟩⟩
                      | false =>
                        obtain ⟨-, ckl, ckd, hrun⟩ : _ ∧ _ ∧ _ ∧ _ := by rcases HIS.out with ⟨h, _⟩ | h; cases h; exact h
                        have HCKL := Lib.hid ckl
                        have HCKD := Lib.hid ckd
                        have HE := Lib.hid hrun
                        have HF2 : Hid (bs.length - q < F) := by have := HP3.out; show _ < _; omega
                        clear ckl ckd hrun HIS xcell xix'
                        obtain ⟨dc, hdc⟩ : ∃ dc, dc = xc2 - ll := ⟨_, rfl⟩
                        rw [← hdc] at cut2
                        clear hdc
                        have HM1 : Hid (∀ W, Upd [] wc W → Calls Tryz.prog 48 #[.slice X2 ll xc2] W (MadePost W lz X2 ll xc2)) := fun W hW => made_any X2 ll xc2 lz W (HLI.out.upd hW (by simp)) HCKL.out (fun _ => by obtain ⟨cs, hb⟩ := HTB.out; exact ⟨cs, hb.upd hW (by simp)⟩)
                        have HM2 : Hid (∀ W, Upd [] wc W → Calls Tryz.prog 48 #[.slice DA j dc] W (MadePost W dz DA j dc)) := fun W hW => made_any DA j dc dz W (HDI.out.upd hW (by simp)) HCKD.out (fun _ => by obtain ⟨cs, hb⟩ := HTB.out; rw [HBD.out]; exact ⟨cs, hb.upd hW (by simp)⟩)
                        have HCO : Hid (∀ W C1 d1 C2 d2, Upd [] wc W → Cd W lz X2 xc2 C1 d1 → Cd W dz DA dc C2 d2 → Calls Tryz.prog 46 #[.pointer (some ⟨s, 0, none⟩), .agg #[.slice X2 ll xc2, .slice C1 ll d1], .agg #[.slice DA j dc, .slice C2 j d2]] W (RGoPost W B s X xc bs q OA o most (symPr lz dz F))) := fun W C1 d1 C2 d2 hW h1 h2 => by
                          rw [← HLL2.out, ← HDL.out]
                          exact coded_any (HSr.out.grow hW) h1 h2 F HF2.out
                        clear HLI HDI HTB
                        go_wp2
                        go_region_law (first
                          | (have _q := HVB.out; go_simp; go_at_call 46; go_wp2_with (go_at_call 46; refine (HCO.out _ _ _ _ _ HVB.out HKA2.out HKB.out).mono ?_; rintro e wz hres; obtain ⟨p9, OA9, on9, oc9, o9, err9, rfl, hs9, hv9, hf9, hr9⟩ := hres))
                          | (have _q := HVA.out; go_simp; go_at_call 48; go_wp2_with (go_at_call 48; refine (HM2.out _ HVA.out).mono ?_; rintro e wy ⟨C2, d2, rfl, hk2, hf2, hv2⟩; have HKB := Lib.hid hk2; have HKA2 := Lib.hid (HKA.out.grow hv2); have HVB : Hid (Upd [] wc wy) := HVA.out.trans hv2; clear hk2 hf2 hv2))
                          | (go_simp; go_at_call 48; go_wp2_with (go_at_call 48; refine (HM1.out _ ((Upd.refl [] wc).drew)).mono ?_; rintro e wx ⟨C1, d1, rfl, hk1, hf1, hv1⟩; have HKA := Lib.hid hk1; have HVA : Hid (Upd [] wc wx) := ((Upd.refl _ wc).drew).trans hv1; clear hk1 hf1 hv1)))
                        go_wp2
                        go_end0
                        refine ⟨p9, OA9, on9, oc9, o9, err9, rfl, hs9, (HX.out.1.two.trans HVB.out.nil2).trans hv9, fun g hg => ?_, ?_⟩
                        · rcases hf9 g hg with h | h
                          · exact Or.inl h
                          · right; have h1 := HX.out.1.size; have h2 := HVB.out.size; omega
                        · rcases hr9 with ⟨h1, h2⟩ | ⟨h1, h2, h3⟩
                          · exact Or.inl ⟨h1, fun k => by rw [HE.out, h2]⟩
                          · exact Or.inr ⟨h1, by have := HP3.out; omega, fun k => by rw [HE.out, h3]⟩
            · have HE : Hid (∀ k, run bs most (toldPr F k) p o = .err err) := by rcases HKr.out with ⟨h, _⟩ | ⟨_, h⟩; exact absurd h her; exact h
              by_cases hlt : xn < N
              · have dlt : decide ((xn : Int) < (ll : Int) + dd) = true := by have := HN.out; simp; omega
                have de : (err == 0) = false := by simp [her]
                have dn : (err != 0) = true := by simp [her]
                go_wp2
                go_end0
                exact ⟨q, OA, on, oc, o, err, rfl, HSr.out, HX.out.1.two, Fresh.refl _ _, Or.inl ⟨her, HE.out⟩⟩
              · have dlt : decide ((xn : Int) < (ll : Int) + dd) = false := by have := HN.out; simp; omega
                have dn : (err != 0) = true := by simp [her]
                go_wp2
                go_end0
                exact ⟨q, OA, on, oc, o, err, rfl, HSr.out, HX.out.1.two, Fresh.refl _ _, Or.inl ⟨her, HE.out⟩⟩
        · have d8 : (err8 != 0) = true := by simp [he8]
          go_wp2
          go_end0
          exact ⟨q, OA, on, oc, o, err8, rfl, HS8.out, HU8.out.two, Fresh.refl _ _, Or.inl ⟨he8, by rcases HK8.out with ⟨h, _⟩ | ⟨_, h⟩; exact absurd h he8; exact h⟩⟩

end Go.Proofs.YtolcdlopgbgilaaGreatDoor