/- Merged by wip/tools/merge.py: InfE InfF InfG. -/
import Derived.Lib.AppendZerosOnto
import Derived.Lib.Hide
import Derived.StillTailTactics
import Derived.Laws.CopyRow
import Derived.Test.YtolcdlopgbgilaaGreatDoorMz01
import Derived.Test.YtolcdlopgbgilaaGreatDoorMz06

/-! Text InfE. -/

namespace Go.Dray
open Go.RowKit
/-- Indexing an array of one-cell elements behind a pointer to its first cell. -/
theorem run_arr {P : Program} {t e : TypeId} {n : Nat} (h : P.underlying t = some (.array n e)) (hs : (P.info? e).map (·.size) = some 1) (b k : Nat) (hk : k < n) (kd : IntKind) :
    ∀ W : World, (Instr.indexAt t (.pointer (some ⟨b, 0, none⟩)) (.int kd k)).run P W = .ok (.pointer (some ⟨b, k, none⟩)) W := by
  intro W
  have he : P.elem t = e := by simp [Program.elem, h]
  have hl : P.arrayLen t = n := by simp [Program.arrayLen, h]
  cases hq : P.info? e with
  | none => simp [hq] at hs
  | some i =>
    have hi : i.size = 1 := by simpa [hq] using hs
    rw [run_indexAt_array (h := by rw [he, hl]; exact h)]
    simp [hl, hk, he, sizeOf, typeInfo, hq, hi, Addr.add_lit]
end Go.Dray
namespace Go.Proofs.YtolcdlopgbgilaaGreatDoor
open Go.RowKit Go.Dray

/-- The order in which the third code's lengths are told lies where the program has laid it; what an unpacker writes lies elsewhere. -/
structure OSt (w : World) (B u g : Nat) : Prop where
  ord : ∀ i, i < 19 → w.cell? ⟨2, i, none⟩ = some (.int .i64 (orderL.getD i 0 : Nat))
  low : 2 < B
  ub : B ≤ u
  gb : B ≤ g
theorem OSt.upd {w w' : World} {B u g : Nat} (h : OSt w B u g) {L : List (Option Nat)} (hu : Upd L w w') (hL : ∀ b, some b ∈ L → B ≤ b) : OSt w' B u g :=
  ⟨fun i hi => hu.cell (h.ord i hi) (fun hm => absurd (hL _ hm) (Nat.not_le.2 h.low)), h.low, h.ub, h.gb⟩

theorem ord_lt : ∀ i, i < 19 → orderL.getD i 0 < 19 := by decide
theorem ord_idx : ∀ i, i < 19 → orderL.idxOf (orderL.getD i 0) = i := by decide
theorem idx_ord : ∀ j, j < 19 → orderL.getD (orderL.idxOf j) 0 = j := by decide
theorem third_nil : thirdOf [] = List.replicate 19 0 := by decide
theorem third_step (acc : List Int) (v : Int) (h : acc.length < 19) : (thirdOf acc).set (orderL.getD acc.length 0) v = thirdOf (acc ++ [v]) := by
  unfold thirdOf
  rw [tab_set]
  apply tab_congr
  intro j hj
  by_cases e : j = orderL.getD acc.length 0
  · rw [if_pos e, e, ord_idx _ h, if_pos (by simp)]
    simp [List.getD]
  · have hne : orderL.idxOf j ≠ acc.length := fun e' => e (by rw [← e', idx_ord j hj])
    rw [if_neg e]
    by_cases h1 : orderL.idxOf j < acc.length
    · rw [if_pos h1, if_pos (by rw [List.length_append]; omega), List.getD, List.getD, List.getElem?_append_left h1]
    · rw [if_neg h1, if_neg (by rw [List.length_append, List.length_singleton]; omega)]
theorem third_len (acc : List Int) : (thirdOf acc).length = 19 := tab_len _ _
theorem full_chk {zs : List Int} (h : fullB zs = true) : chk zs = 0 := by
  unfold fullB at h
  simp at h
  exact h.1
/-- Lengths of which at most one is 1 and the others nought. -/
theorem lone_chk {zs : List Int} (hl : zs.length ≤ 320) (hb : ∀ z ∈ zs, 0 ≤ z ∧ z ≤ 15) (h : loneB zs = true) : chk zs = 0 := by
  refine chk_ok hl hb ?_
  have hs : zs.sum ≤ 1 := by simpa [loneB] using h
  clear h hl
  have key : ∀ l : List Int, (∀ z ∈ l, 0 ≤ z ∧ z ≤ 15) → wsum l ≤ 32768 * l.sum := by
    intro l
    induction l with
    | nil => intro _; simp [wsum]
    | cons z l ih =>
      intro hb
      have h1 := hb z (by simp)
      have h2 := ih fun y hy => hb y (by simp [hy])
      have h3 := wt_bd z h1.1
      have h4 : wt z ≤ 32768 * z := by
        rcases Int.lt_or_le 0 z with h5 | h5
        · omega
        · rw [wt_no z h5]; omega
      simp only [wsum, List.map_cons, List.sum_cons] at h2 ⊢
      omega
  have := key zs hb
  omega

/-- What lengths leaves. -/
def LnPost (w : World) (B u g : Nat) (RA : Option Addr) (rn rc : Nat) (ys : List Int) (most p : Nat) (OA : Option Addr) (on oc : Nat) (o : List Int) (F : Nat) (e : Ending) (w' : World) : Prop :=
  ∃ err p' LA ln lc DA dn dc, e = .returned (.tuple #[.slice LA ln lc, .slice DA dn dc, .int .i64 err]) ∧ USt w' B u g RA rn rc ys most p' OA on oc o ∧ Upd [some g] w w' ∧
    ((err ≠ 0 ∧ ∀ k, run (bitsOf ys) most (lensPr F k) p o = .err err) ∨ (err = 0 ∧ p ≤ p' ∧ ∃ lz dz, Ints .i64 w' LA ln lz ∧ Ints .i64 w' DA dn dz ∧ chk lz = 0 ∧ chk dz = 0 ∧ ∀ k, run (bitsOf ys) most (lensPr F k) p o = run (bitsOf ys) most (k lz dz) p' o))

/-- What lengths asks, behind its three numbers. -/
def lensC (F : Nat) (l d c : Int) (k : List Int → List Int → Pr) : Pr :=
  if 286 < l + 257 ∨ 30 < d + 1 then .fail 3 else tk3 (c + 4).toNat [] fun acc =>
    if fullB (thirdOf acc) = false then .fail 3 else rowPr (thirdOf acc) (l + 257 + (d + 1)).toNat F [] fun row =>
      if row.getD 256 0 = 0 ∨ fullB (row.take (l + 257).toNat) = false then .fail 3 else
      if fullB (row.drop (l + 257).toNat) = false ∧ loneB (row.drop (l + 257).toNat) = false then .fail 3 else k (row.take (l + 257).toNat) (row.drop (l + 257).toNat)
theorem lensPr_eq (F : Nat) (k : List Int → List Int → Pr) : lensPr F k = .take 5 fun l => .take 5 fun d => .take 4 fun c => lensC F l d c k := rfl

set_option maxRecDepth 100000 in
set_option maxHeartbeats 30000000 in
theorem lengths4_any {w : World} {B u g : Nat} {RA : Option Addr} {rn rc : Nat} {ys : List Int} {most p : Nat} {OA : Option Addr} {on oc : Nat} {o : List Int} (h : USt w B u g RA rn rc ys most p OA on oc o) (ho : OSt w B u g) (F : Nat) (hF : 8 * rn - p < F) :
    Calls Tryz.prog 73 #[.pointer (some ⟨u, 0, none⟩)] w (LnPost w B u g RA rn rc ys most p OA on oc o F) := by
  have HU := Lib.hid h
  have HO := Lib.hid ho
  have hc0 := h.blk.cell 0
  simp at hc0
  clear h ho
  go_enter Tryz.func73, Tryz.ntmps73
  go_wp2_with fail
  refine (take_any HU.out 5 (by omega)).mono ?_
  rintro e w1 h1
  have hx1 : ∃ v1 ok1 p1, e = .returned (.tuple #[.int .i64 v1, .bool ok1]) ∧ Hid (USt w1 B u g RA rn rc ys most p1 OA on oc o) ∧ Hid (Upd [some g] w w1) ∧ 0 ≤ v1 ∧ v1 ≤ 31 ∧ p ≤ p1 ∧ Hid ((ok1 = true ∧ ∀ k, run (bitsOf ys) most (.take 5 k) p o = run (bitsOf ys) most (k v1) p1 o) ∨ (ok1 = false ∧ ∀ k, run (bitsOf ys) most (.take 5 k) p o = .err 2)) := by
    rcases h1 with ⟨hl, rfl, hr, hv⟩ | ⟨hl, rfl, hr, hv⟩
    · have := num_bd ((bitsOf ys).drop p) 5 5 (Nat.le_refl _)
      exact ⟨_, true, p + 5, rfl, HU.out.read hr hv hl, hv, by omega, by omega, by omega, Or.inl ⟨rfl, fun k => run_take_ok (by rw [HU.out.bits]; exact hl)⟩⟩
    · exact ⟨0, false, p, rfl, HU.out.read hr hv HU.out.pos, hv, by omega, by omega, by omega, Or.inr ⟨rfl, fun k => run_take_no (by rw [HU.out.bits]; exact hl)⟩⟩
  obtain ⟨v1, ok1, p1, rfl, HU1, HV1, hv10, hv11, hp1, HK1⟩ := hx1
  clear h1 hc0
  have hc0 := HU1.out.blk.cell 0
  simp at hc0
  go_wp2_with fail
  refine (take_any HU1.out 5 (by omega)).mono ?_
  rintro e w2 h1
  have hx1 : ∃ v2 ok2 p2, e = .returned (.tuple #[.int .i64 v2, .bool ok2]) ∧ Hid (USt w2 B u g RA rn rc ys most p2 OA on oc o) ∧ Hid (Upd [some g] w w2) ∧ 0 ≤ v2 ∧ v2 ≤ 31 ∧ p1 ≤ p2 ∧ Hid ((ok2 = true ∧ ∀ k, run (bitsOf ys) most (.take 5 k) p1 o = run (bitsOf ys) most (k v2) p2 o) ∨ (ok2 = false ∧ ∀ k, run (bitsOf ys) most (.take 5 k) p1 o = .err 2)) := by
    rcases h1 with ⟨hl, rfl, hr, hv⟩ | ⟨hl, rfl, hr, hv⟩
    · have := num_bd ((bitsOf ys).drop p1) 5 5 (Nat.le_refl _)
      exact ⟨_, true, p1 + 5, rfl, HU1.out.read hr hv hl, HV1.out.trans hv, by omega, by omega, by omega, Or.inl ⟨rfl, fun k => run_take_ok (by rw [HU1.out.bits]; exact hl)⟩⟩
    · exact ⟨0, false, p1, rfl, HU1.out.read hr hv HU1.out.pos, HV1.out.trans hv, by omega, by omega, by omega, Or.inr ⟨rfl, fun k => run_take_no (by rw [HU1.out.bits]; exact hl)⟩⟩
  obtain ⟨v2, ok2, p2, rfl, HU2, HV2, hv20, hv21, hp2, HK2⟩ := hx1
  clear h1 hc0
  have hc0 := HU2.out.blk.cell 0
  simp at hc0
  go_wp2_with fail
  refine (take_any HU2.out 4 (by omega)).mono ?_
  rintro e w3 h1
  have hx1 : ∃ v3 ok3 p3, e = .returned (.tuple #[.int .i64 v3, .bool ok3]) ∧ Hid (USt w3 B u g RA rn rc ys most p3 OA on oc o) ∧ Hid (Upd [some g] w w3) ∧ 0 ≤ v3 ∧ v3 ≤ 15 ∧ p2 ≤ p3 ∧ Hid ((ok3 = true ∧ ∀ k, run (bitsOf ys) most (.take 4 k) p2 o = run (bitsOf ys) most (k v3) p3 o) ∨ (ok3 = false ∧ ∀ k, run (bitsOf ys) most (.take 4 k) p2 o = .err 2)) := by
    rcases h1 with ⟨hl, rfl, hr, hv⟩ | ⟨hl, rfl, hr, hv⟩
    · have := num_bd ((bitsOf ys).drop p2) 4 4 (Nat.le_refl _)
      exact ⟨_, true, p2 + 4, rfl, HU2.out.read hr hv hl, HV2.out.trans hv, by omega, by omega, by omega, Or.inl ⟨rfl, fun k => run_take_ok (by rw [HU2.out.bits]; exact hl)⟩⟩
    · exact ⟨0, false, p2, rfl, HU2.out.read hr hv HU2.out.pos, HV2.out.trans hv, by omega, by omega, by omega, Or.inr ⟨rfl, fun k => run_take_no (by rw [HU2.out.bits]; exact hl)⟩⟩
  obtain ⟨v3, ok3, p3, rfl, HU3, HV3, hv30, hv31, hp3, HK3⟩ := hx1
  clear h1 hc0
  have HFAIL : Hid ((ok1 = false ∨ ok2 = false ∨ ok3 = false) → ∀ k, run (bitsOf ys) most (lensPr F k) p o = .err 2) := fun hf k => by
    rw [lensPr_eq]
    rcases HK1.out with ⟨e1, r1⟩ | ⟨e1, r1⟩
    · rw [r1]
      rcases HK2.out with ⟨e2, r2⟩ | ⟨e2, r2⟩
      · rw [r2]
        rcases HK3.out with ⟨e3, r3⟩ | ⟨e3, r3⟩
        · rw [e1, e2, e3] at hf; simp at hf
        · rw [r3]
      · rw [r2]
    · rw [r1]
  by_cases hall : (ok1 && ok2 && ok3) = true
  · have hk1 : ok1 = true := by cases ok1 <;> simp_all
    have hk2 : ok2 = true := by cases ok2 <;> simp_all
    have hk3 : ok3 = true := by cases ok3 <;> simp_all
    subst hk1 hk2 hk3
    have HC : Hid (∀ k, run (bitsOf ys) most (lensPr F k) p o = run (bitsOf ys) most (lensC F v1 v2 v3 k) p3 o) := fun k => by
      rw [lensPr_eq]
      rcases HK1.out with ⟨_, r1⟩ | ⟨e1, _⟩
      · rw [r1]
        rcases HK2.out with ⟨_, r2⟩ | ⟨e2, _⟩
        · rw [r2]
          rcases HK3.out with ⟨_, r3⟩ | ⟨e3, _⟩
          · rw [r3]
          · cases e3
        · cases e2
      · cases e1
    clear HFAIL HK1 HK2 HK3 hall HU1 HV1 HU2 HV2
    by_cases hbig : 286 < v1 + 257
    · go_wp2
      go_ret3
      exact ⟨3, p3, none, 0, 0, none, 0, 0, rfl, HU3.out, HV3.out, Or.inl ⟨by decide, fun k => by rw [HC.out, lensC, if_pos (Or.inl hbig), run]⟩⟩
    · have db1 : decide (286 < v1 + 257) = false := by simp; omega
      by_cases hbig2 : 30 < v2 + 1
      · go_wp2
        go_ret3
        exact ⟨3, p3, none, 0, 0, none, 0, 0, rfl, HU3.out, HV3.out, Or.inl ⟨by decide, fun k => by rw [HC.out, lensC, if_pos (Or.inr hbig2), run]⟩⟩
      · have db2 : decide (30 < v2 + 1) = false := by simp; omega
        obtain ⟨ll, hll⟩ : ∃ ll : Nat, (ll : Int) = v1 + 257 := ⟨(v1 + 257).toNat, by omega⟩
        obtain ⟨dd, hdd⟩ : ∃ dd : Nat, (dd : Int) = v2 + 1 := ⟨(v2 + 1).toNat, by omega⟩
        obtain ⟨cc, hcc⟩ : ∃ cc : Nat, (cc : Int) = v3 + 4 := ⟨(v3 + 4).toNat, by omega⟩
        have HLL : Hid (v1 + 257 = (ll : Int)) := hll.symm
        have HDD : Hid (v2 + 1 = (dd : Int)) := hdd.symm
        have HCC : Hid (v3 + 4 = (cc : Int)) := hcc.symm
        have hl1 : 257 ≤ ll := by omega
        have hl2 : ll ≤ 286 := by omega
        have hd1 : 1 ≤ dd := by omega
        have hd2 : dd ≤ 30 := by omega
        have hc1 : 4 ≤ cc := by omega
        have hc2 : cc ≤ 19 := by omega
        have HC2 : Hid (∀ k, run (bitsOf ys) most (lensPr F k) p o = run (bitsOf ys) most (tk3 cc [] fun acc =>
            if fullB (thirdOf acc) = false then .fail 3 else rowPr (thirdOf acc) (ll + dd) F [] fun row =>
              if row.getD 256 0 = 0 ∨ fullB (row.take ll) = false then .fail 3 else
              if fullB (row.drop ll) = false ∧ loneB (row.drop ll) = false then .fail 3 else k (row.take ll) (row.drop ll)) p3 o) := fun k => by
          rw [HC.out, lensC, if_neg (by omega), HLL.out, HDD.out, HCC.out]
          rw [Int.toNat_natCast, Int.toNat_natCast, show ((ll : Int) + (dd : Int)).toNat = ll + dd from by omega]
        clear hll hdd hcc HC
        have hsz3 := HU3.out.bw
        go_wp2_with (at_make; refine wpList_mk rfl rfl B el_int 19 rfl rfl rfl rfl rfl (by omega) (by simp only [maxLen]; omega) hsz3 ?_; intro TA w4 hth hv4 hobT)
        rw [HLL.out, HDD.out, HCC.out]
        have HU4 := Lib.hid (HU3.out.grow hv4)
        have HV4 : Hid (Upd [some g] w w4) := HV3.out.trans (hv4.mono (by simp))
        have HW4 : Hid (∀ x, ob TA = some x → w.heap.size ≤ x) := fun x hx => by rw [hobT] at hx; injection hx with hx; have := HV3.out.size; omega
        have HT4 : Hid (Own w4 B 3 1 TA 19 19 ((thirdOf []).map (Value.int .i64))) := by rw [third_nil, List.map_replicate]; exact hth
        have HO4 : Hid (OSt w4 B u g) := HO.out.upd HV4.out (by intro b hb; simp at hb; rw [hb]; exact HO.out.gb)
        clear hth hv4 hobT HU3 HV3
        go_loopw [64] (fun i wr => ∃ (i' q : Nat) (acc : List Int), i' ≤ cc ∧ i = .int .i64 i' ∧ q ≤ 8 * rn ∧ p3 ≤ q ∧ Hid (acc.length = i') ∧ Hid (USt wr B u g RA rn rc ys most q OA on oc o) ∧ Hid (Upd [some g] w wr ∧ Own wr B 3 1 TA 19 19 ((thirdOf acc).map (Value.int .i64)) ∧ OSt wr B u g) ∧ Hid (∀ K, run (bitsOf ys) most (tk3 cc [] K) p3 o = run (bitsOf ys) most (tk3 (cc - i') acc K) q o)) (fun i _ => cc - (intOf i).toNat)
        case atStart => exact ⟨0, p3, [], by omega, rfl, HU4.out.pos, Nat.le_refl _, rfl, HU4, ⟨HV4.out, HT4.out, HO4.out⟩, fun K => rfl⟩
        case round =>
          clear HU4 HV4 HT4 HO4
          obtain ⟨i, q, acc, hi, rfl, hq8, hpq, HAL, HUq, HX, HRQ⟩ := hrel
          by_cases hic : i < cc
          · have hc0 := HUq.out.blk.cell 0
            simp at hc0
            go_wp2_with fail
            refine (take_any HUq.out 3 (by omega)).mono ?_
            rintro e w5 (⟨hl5, rfl, hr5, hv5⟩ | ⟨hl5, rfl, hr5, hv5⟩)
            · obtain ⟨v, hv⟩ : ∃ v, v = num (((bitsOf ys).drop q).take 3) := ⟨_, rfl⟩
              rw [← hv]
              have HV := Lib.hid hv
              clear hv
              have HU5 := Lib.hid (HUq.out.read hr5 hv5 hl5)
              have hT5 := HX.out.2.1.upd hv5 (by intro k hk; simp; rintro rfl; exact HX.out.2.1.neBlk HUq.out.rd.1 (by decide) hk)
              have hO5 := HX.out.2.2.upd hv5 (by intro b hb; simp at hb; rw [hb]; exact HO.out.gb)
              have HV5 := Lib.hid (HX.out.1.trans hv5)
              have oix := run_arr (P := Tryz.prog) (t := 116) (n := 19) (e := 3) (by kernel_rfl) (by kernel_rfl) 2 i (by omega) .i64
              have ocell := hO5.ord i (by omega)
              obtain ⟨oi, hoi⟩ : ∃ oi, oi = orderL.getD i 0 := ⟨_, rfl⟩
              have hoi19 : oi < 19 := by rw [hoi]; exact ord_lt i (by omega)
              rw [← hoi] at ocell
              have tix := (Ints.ofOwn hT5).index el_int 19 .i64 oi hoi19
              obtain ⟨old, _, tcell⟩ := (Ints.ofOwn hT5).int hoi19
              have tfz := hT5.frozen (by omega) oi
              have hset := hT5.set (k := oi) (by omega) (.int .i64 v)
              have hobT := hT5.obl (by omega)
              have hTB := (hT5.base hobT).1
              have hsu : Upd [some (bl TA)] w5 (w5.setCell ⟨bl TA, ofs TA + oi, none⟩ (.int .i64 v)) := (Upd.refl _ w5).setCell (p := ⟨bl TA, ofs TA + oi, none⟩) (Or.inl (by simp)) _
              have hsu2 : Upd [ob TA] w5 (w5.setCell ⟨bl TA, ofs TA + oi, none⟩ (.int .i64 v)) := by rw [hobT]; exact hsu
              have HU6 := Lib.hid (HU5.out.updI hT5 hsu2)
              have HX6 : Hid (Upd [some g] w (w5.setCell ⟨bl TA, ofs TA + oi, none⟩ (.int .i64 v)) ∧ Own (w5.setCell ⟨bl TA, ofs TA + oi, none⟩ (.int .i64 v)) B 3 1 TA 19 19 ((thirdOf (acc ++ [v])).map (Value.int .i64)) ∧ OSt (w5.setCell ⟨bl TA, ofs TA + oi, none⟩ (.int .i64 v)) B u g) := by
                refine ⟨HV5.out.then hsu (by intro b hb; simp at hb; rw [hb]; right; exact HW4.out _ hobT), ?_, hO5.upd hsu (by intro b hb; simp at hb; rw [hb]; exact hTB)⟩
                have e3 := third_step acc v (by rw [HAL.out]; omega)
                rw [HAL.out, ← hoi] at e3
                rw [← List.map_set, e3] at hset
                exact hset
              have HR6 : Hid (∀ K, run (bitsOf ys) most (tk3 cc [] K) p3 o = run (bitsOf ys) most (tk3 (cc - (i + 1)) (acc ++ [v]) K) (q + 3) o) := fun K => by
                rw [HRQ.out, show cc - i = cc - (i + 1) + 1 from by omega, tk3, run_take_ok (by rw [HUq.out.bits]; exact hl5), ← HV.out]
              clear hr5 hv5 hT5 hO5 hset hsu hsu2 hoi HU5 HV5 HX HRQ HUq
              go_wp2
              go_roundw
              case rel => exact ⟨i + 1, q + 3, acc ++ [v], by omega, by go_num, hl5, by omega, by show _ = _; rw [List.length_append, HAL.out]; rfl, HU6, HX6, HR6⟩
              case measure => simp [intOf]; omega
            · go_wp2
              go_ret3
              exact ⟨2, q, none, 0, 0, none, 0, 0, rfl, HUq.out.read hr5 hv5 hq8, HX.out.1.trans hv5, Or.inl ⟨by decide, fun k => by rw [HC2.out, HRQ.out, show cc - i = cc - (i + 1) + 1 from by omega, tk3, run_take_no (by rw [HUq.out.bits]; exact hl5)]⟩⟩
          · obtain rfl : i = cc := by omega
            have HRA : Hid (∀ K, run (bitsOf ys) most (tk3 i [] K) p3 o = run (bitsOf ys) most (K acc) q o) := fun K => by rw [HRQ.out, Nat.sub_self, tk3]
            obtain ⟨tz, htz⟩ : ∃ tz, tz = thirdOf acc := ⟨_, rfl⟩
            have HTZ := Lib.hid htz
            rw [← htz] at HX
            clear htz HRQ
            have hTI : Ints .i64 wr TA 19 tz := Ints.ofOwn HX.out.2.1
            by_cases hfu : fullB tz = true
            · have HFU := Lib.hid hfu
              clear hfu
              go_wp2_with (go_at_call 100; refine (full_any TA 19 19 tz _ hTI).mono ?_; rintro e w' ⟨rfl, rfl⟩; rw [HFU.out])
              rw [show ((ll : Int) + dd) = ((ll + dd : Nat) : Int) from by omega]
              refine (row_any HUq.out TA 19 tz hTI (full_chk HFU.out) (ll + dd) F (by omega) (by omega)).mono ?_
              rintro e w6 ⟨err, p6, X, xn, xc, row, rfl, hu6, hv6, ⟨he, hrun⟩ | ⟨rfl, hp6, rfl, hown6, hrb6, hrun⟩⟩
              · have hde : (err != 0) = true := by simp [he]
                go_wp2
                go_ret3
                exact ⟨err, p6, none, 0, 0, none, 0, 0, rfl, hu6, HX.out.1.trans hv6, Or.inl ⟨he, fun k => by rw [HC2.out, HRA.out, ← HTZ.out, if_neg (by rw [HFU.out]; decide), hrun]⟩⟩
              · have HU6 := Lib.hid hu6
                have HV6 := Lib.hid (HX.out.1.trans hv6)
                have HB6 := Lib.hid hrb6
                have HC6 : Hid (∀ k, run (bitsOf ys) most (lensPr F k) p o = run (bitsOf ys) most (if row.getD 256 0 = 0 ∨ fullB (row.take ll) = false then .fail 3 else
                    if fullB (row.drop ll) = false ∧ loneB (row.drop ll) = false then .fail 3 else k (row.take ll) (row.drop ll)) p6 o) := fun k => by
                  rw [HC2.out, HRA.out, ← HTZ.out, if_neg (by rw [HFU.out]; decide), hrun]
                have HI6 : Hid (Ints .i64 w6 X (ll + dd) row) := Ints.ofOwn hown6
                have HRL : Hid (row.length = ll + dd) := HI6.out.len.out
                have hxc := hown6.le
                have cut1 := run_cut_h el_int X (ll + dd) xc .i64 (ll : Int) ll rfl (by omega)
                have cut2 := run_cut_l el_int X (ll + dd) xc .i64 (ll : Int) ll rfl (by omega)
                rw [Nat.add_sub_cancel_left] at cut2
                clear hu6 hv6 hown6 hrb6 hrun HX HUq hTI HC2 HRA
                go_wp2
                go_quiet (fail)
                have HU7 := Lib.hid (HU6.out.drewN nq)
                have HV7 := Lib.hid (HV6.out.drewN nq)
                have HI7 : Hid (Ints .i64 (w6.drewN nq) X (ll + dd) row) := HI6.out.drewN nq
                generalize w6.drewN nq = w7 at HU7 HV7 HI7 ⊢
                clear cut1 cut2 HU6 HV6 HI6
                have hl7 : Ints .i64 w7 X ll (row.take ll) := HI7.out.pre (by omega)
                have hd7 : Ints .i64 w7 (cutA 1 X xc ll) dd (row.drop ll) := by
                  have := HI7.out.cut (lo := ll) (hi := ll + dd) (c := xc) (by omega) (by omega) hxc
                  rw [Nat.add_sub_cancel_left, List.take_of_length_le (by rw [List.length_drop, HRL.out]; omega)] at this
                  exact this
                obtain ⟨DA, hDA⟩ : ∃ DA, DA = cutA 1 X xc ll := ⟨_, rfl⟩
                rw [← hDA] at hd7 ⊢
                clear hDA
                obtain ⟨lz, hlz⟩ : ∃ lz, lz = row.take ll := ⟨_, rfl⟩
                obtain ⟨dz, hdz⟩ : ∃ dz, dz = row.drop ll := ⟨_, rfl⟩
                obtain ⟨x, HXX, xcell⟩ := HI7.out.int (i := 256) (by omega)
                have xix := hl7.index el_int xc .i64 256 (by omega)
                have xix' : ∀ W : World, (Instr.indexAt 64 (.slice X ll xc) (.int .i64 256)).run Tryz.prog W = .ok (.pointer (some ⟨bl X, ofs X + 256, none⟩)) W := xix
                have HXG : Hid (row.getD 256 0 = x) := by show _ = _; simp [List.getD, HXX.out]
                rw [← hlz] at hl7
                rw [← hdz] at hd7
                have HDB : Hid (∀ z ∈ dz, 0 ≤ z ∧ z ≤ 15) := fun z hz => HB6.out z (by rw [hdz] at hz; exact List.mem_of_mem_drop hz)
                have HC7 : Hid (∀ k, run (bitsOf ys) most (lensPr F k) p o = run (bitsOf ys) most (if x = 0 ∨ fullB lz = false then .fail 3 else if fullB dz = false ∧ loneB dz = false then .fail 3 else k lz dz) p6 o) := fun k => by
                  rw [HC6.out, HXG.out, ← hlz, ← hdz]
                have HDL : Hid (dz.length ≤ 320) := by show _ ≤ _; rw [hdz, List.length_drop, HRL.out]; omega
                clear hlz hdz HC6 HXX xix
                by_cases hx0 : x = 0
                · subst hx0
                  go_wp2
                  go_ret3
                  exact ⟨3, p6, none, 0, 0, none, 0, 0, rfl, HU7.out, HV7.out, Or.inl ⟨by decide, fun k => by rw [HC7.out, if_pos (Or.inl trivial), run]⟩⟩
                · have dx0 : (x == 0) = false := by simp [hx0]
                  by_cases hfl : fullB lz = true
                  · have HFL := Lib.hid hfl
                    clear hfl
                    by_cases hfd : fullB dz = true
                    · have HFD := Lib.hid hfd
                      clear hfd
                      go_wp2_with fail
                      refine (full_any X ll xc lz _ hl7).mono ?_
                      rintro e w' ⟨rfl, rfl⟩
                      rw [HFL.out]
                      go_wp2_with fail
                      refine (full_any DA dd _ dz _ hd7).mono ?_
                      rintro e w' ⟨rfl, rfl⟩
                      rw [HFD.out]
                      go_wp2
                      go_ret3
                      exact ⟨0, p6, X, ll, xc, DA, dd, _, rfl, HU7.out, HV7.out, Or.inr ⟨rfl, by omega, lz, dz, hl7, hd7, full_chk HFL.out, full_chk HFD.out, fun k => by rw [HC7.out, if_neg (by rw [HFL.out]; simp [hx0]), if_neg (by rw [HFD.out]; simp)]⟩⟩
                    · have HFD : Hid (fullB dz = false) := (by first | exact hfd | exact Bool.eq_false_iff.mpr hfd)
                      clear hfd
                      by_cases hlo : loneB dz = true
                      · have HLO := Lib.hid hlo
                        clear hlo
                        go_wp2_with fail
                        refine (full_any X ll xc lz _ hl7).mono ?_
                        rintro e w' ⟨rfl, rfl⟩
                        rw [HFL.out]
                        go_wp2_with fail
                        refine (full_any DA dd _ dz _ hd7).mono ?_
                        rintro e w' ⟨rfl, rfl⟩
                        rw [HFD.out]
                        go_wp2_with fail
                        refine (lone_any DA dd _ dz _ hd7 HDB.out (by omega)).mono ?_
                        rintro e w' ⟨rfl, rfl⟩
                        rw [HLO.out]
                        go_wp2
                        go_ret3
                        exact ⟨0, p6, X, ll, xc, DA, dd, _, rfl, HU7.out, HV7.out, Or.inr ⟨rfl, by omega, lz, dz, hl7, hd7, full_chk HFL.out, lone_chk HDL.out HDB.out HLO.out, fun k => by rw [HC7.out, if_neg (by rw [HFL.out]; simp [hx0]), if_neg (by rw [HLO.out]; simp)]⟩⟩
                      · have HLO : Hid (loneB dz = false) := (by first | exact hlo | exact Bool.eq_false_iff.mpr hlo)
                        clear hlo
                        go_wp2_with fail
                        refine (full_any X ll xc lz _ hl7).mono ?_
                        rintro e w' ⟨rfl, rfl⟩
                        rw [HFL.out]
                        go_wp2_with fail
                        refine (full_any DA dd _ dz _ hd7).mono ?_
                        rintro e w' ⟨rfl, rfl⟩
                        rw [HFD.out]
                        go_wp2_with fail
                        refine (lone_any DA dd _ dz _ hd7 HDB.out (by omega)).mono ?_
                        rintro e w' ⟨rfl, rfl⟩
                        rw [HLO.out]
                        go_wp2
                        go_ret3
                        exact ⟨3, p6, none, 0, 0, none, 0, 0, rfl, HU7.out, HV7.out, Or.inl ⟨by decide, fun k => by rw [HC7.out, if_neg (by rw [HFL.out]; simp [hx0]), if_pos ⟨HFD.out, HLO.out⟩, run]⟩⟩
                  · have HFL : Hid (fullB lz = false) := (by first | exact hfl | exact Bool.eq_false_iff.mpr hfl)
                    clear hfl
                    go_wp2_with fail
                    refine (full_any X ll xc lz _ hl7).mono ?_
                    rintro e w' ⟨rfl, rfl⟩
                    rw [HFL.out]
                    go_wp2
                    go_ret3
                    exact ⟨3, p6, none, 0, 0, none, 0, 0, rfl, HU7.out, HV7.out, Or.inl ⟨by decide, fun k => by rw [HC7.out, if_pos (Or.inr HFL.out), run]⟩⟩
            · have HFU : Hid (fullB tz = false) := (by first | exact hfu | exact Bool.eq_false_iff.mpr hfu)
              clear hfu
              go_wp2_with (go_at_call 100; refine (full_any TA 19 19 tz _ hTI).mono ?_; rintro e w' ⟨rfl, rfl⟩; rw [HFU.out])
              go_ret3
              exact ⟨3, q, none, 0, 0, none, 0, 0, rfl, HUq.out, HX.out.1, Or.inl ⟨by decide, fun k => by rw [HC2.out, HRA.out, ← HTZ.out, if_pos HFU.out, run]⟩⟩
  · have HFL : Hid (∀ k, run (bitsOf ys) most (lensPr F k) p o = .err 2) := HFAIL.out (by cases ok1 <;> cases ok2 <;> cases ok3 <;> simp_all)
    clear HFAIL HK1 HK2 HK3
    cases ok1 <;> cases ok2 <;> cases ok3
    all_goals first
      | (exact absurd rfl hall)
      | (clear hall
         go_wp2
         go_ret3
         exact ⟨2, p3, none, 0, 0, none, 0, 0, rfl, HU3.out, HV3.out, Or.inl ⟨by decide, HFL.out⟩⟩)

end Go.Proofs.YtolcdlopgbgilaaGreatDoor

/-! Text InfF. -/
namespace Go.Proofs.YtolcdlopgbgilaaGreatDoor
open Go.RowKit Go.Dray

theorem run_align {bs : List Bool} {most p : Nat} {k : Pr} {o : List Int} : run bs most (.align k) p o = run bs most k (alignUp p) o := by rw [run]
/-- A byte is the number of its bits. -/
theorem num_byte (zs : List Int) (i : Nat) (hi : i < zs.length) (hb : ∀ z ∈ zs, 0 ≤ z ∧ z ≤ 255) : num (((bitsOf zs).drop (8 * i)).take 8) = zs.getD i 0 := by
  have hz : zs[i]? = some zs[i] := List.getElem?_eq_getElem hi
  have hzb := hb zs[i] (List.getElem_mem hi)
  have hg : zs.getD i 0 = zs[i] := by simp [List.getD, hi]
  have hlen := bitsOf_len zs
  have hbit : ∀ j (hj : j < 8), (bitsOf zs)[8 * i + j]'(by rw [hlen]; omega) = low (zs[i] / 2 ^ j) := fun j hj => by
    rw [bitsOf_get, show (8 * i + j) / 8 = i from by omega, show (8 * i + j) % 8 = j from by omega, hg]
  have step : ∀ k, k ≤ 8 → num (((bitsOf zs).drop (8 * i)).take k) = zs[i] % 2 ^ k := by
    intro k
    induction k with
    | zero => intro _; simp [num]
    | succ k ih =>
      intro hk
      rw [num_take_succ _ _ _ (by rw [hlen]; omega), ih (by omega), hbit k (by omega), b2i_low]
      have hp : (0 : Int) < 2 ^ k := Int.pow_pos (by decide)
      rw [Int.pow_succ]
      have h1 := Int.emod_add_mul_ediv zs[i] (2 ^ k)
      have h2 := Int.emod_add_mul_ediv (zs[i] / 2 ^ k) 2
      have h3 := Int.emod_add_mul_ediv zs[i] (2 ^ k * 2)
      have h4 : zs[i] / (2 ^ k * 2) = zs[i] / 2 ^ k / 2 := (Int.ediv_ediv_of_nonneg (Int.le_of_lt hp)).symm
      rw [h4] at h3
      generalize zs[i] / 2 ^ k / 2 = c at h2 h3
      generalize zs[i] / 2 ^ k = d at h1 h2 ⊢
      generalize (2 : Int) ^ k = P at h1 h3 ⊢
      subst_vars
      have e : P * 2 * c = P * (2 * c) := Int.mul_assoc _ _ _
      rw [e] at h3
      have e2 : d % 2 * P = P * (d % 2) := Int.mul_comm _ _
      rw [e2]
      have e3 : P * d = P * (d % 2) + P * (2 * c) := by rw [← Int.mul_add]; congr 1; omega
      omega
  rw [step 8 (Nat.le_refl _), hg]
  omega
theorem bytesAt_eq (zs : List Int) (f m : Nat) (h : f + m ≤ zs.length) (hb : ∀ z ∈ zs, 0 ≤ z ∧ z ≤ 255) : bytesAt (bitsOf zs) (8 * f) m = (zs.drop f).take m := by
  unfold bytesAt
  apply List.ext_getElem?
  intro i
  by_cases hi : i < m
  · rw [tab_get _ hi, show 8 * f + 8 * i = 8 * (f + i) from by omega, num_byte zs (f + i) (by omega) hb, List.getElem?_take_of_lt hi, List.getElem?_drop, List.getElem?_eq_getElem (by omega)]
    simp [List.getD, show f + i < zs.length from by omega]
  · rw [List.getElem?_eq_none (by rw [tab_len]; omega), List.getElem?_eq_none (by rw [List.length_take]; omega)]

set_option maxRecDepth 100000 in
set_option maxHeartbeats 4000000 in
theorem stored_any {w : World} {B u g : Nat} {RA : Option Addr} {rn rc : Nat} {ys : List Int} {most p : Nat} {OA : Option Addr} {on oc : Nat} {o : List Int} (h : USt w B u g RA rn rc ys most p OA on oc o) :
    Calls Tryz.prog 70 #[.pointer (some ⟨u, 0, none⟩)] w (GoPost w B u g RA rn rc ys most p OA o storedPr) := by
  have HU := Lib.hid h
  have hc0 := h.blk.cell 0
  simp at hc0
  have hp8 := h.pos
  have hrb := h.rb
  clear h
  go_enter Tryz.func70, Tryz.ntmps70
  go_wp2_with fail
  refine (align_any HU.out.rd (by omega)).mono ?_
  rintro e w1 ⟨rfl, hr1, hv1⟩
  obtain ⟨f, hf⟩ : ∃ f, alignUp p = 8 * f := ⟨(p + 7) / 8, by unfold alignUp; omega⟩
  have hf8 : f ≤ rn := by unfold alignUp at hf; omega
  have hpf : p ≤ 8 * f := by have := alignUp_ge p; omega
  have HF := Lib.hid hf
  rw [hf] at hr1
  have HU1 := Lib.hid (HU.out.read hr1 hv1 (by omega))
  have HV1 := Lib.hid hv1
  have HR1 : Hid (∀ k, run (bitsOf ys) most (storedPr k) p o = run (bitsOf ys) most (.take 16 fun n => .take 16 fun m => if m ≠ 65535 - n then .fail 3 else .bytes n.toNat fun b => .emit b k) (8 * f) o) := fun k => by unfold storedPr; rw [run_align, HF.out]
  clear hr1 hv1 hc0 hf
  have hc0 := HU1.out.blk.cell 0
  simp at hc0
  go_wp2_with fail
  refine (take_any HU1.out 16 (by omega)).mono ?_
  rintro e w2 (⟨hl2, rfl, hr2, hv2⟩ | ⟨hl2, rfl, hr2, hv2⟩)
  · have hnb := num_bd ((bitsOf ys).drop (8 * f)) 16 16 (Nat.le_refl _)
    obtain ⟨v, hv⟩ : ∃ v, v = num (((bitsOf ys).drop (8 * f)).take 16) := ⟨_, rfl⟩
    rw [← hv] at hnb ⊢
    have hv0 := hnb.1
    have hv1' : v ≤ 65535 := by have := hnb.2; omega
    have HR2 : Hid (∀ k, run (bitsOf ys) most (storedPr k) p o = run (bitsOf ys) most (.take 16 fun m => if m ≠ 65535 - v then .fail 3 else .bytes v.toNat fun b => .emit b k) (8 * f + 16) o) := fun k => by rw [HR1.out, run_take_ok (by rw [HU1.out.bits]; exact hl2), ← hv]
    have HU2 := Lib.hid (HU1.out.read hr2 hv2 hl2)
    have HV2 := Lib.hid (HV1.out.trans hv2)
    clear hv hnb hr2 hv2 hc0 HR1
    have hc0 := HU2.out.blk.cell 0
    simp at hc0
    go_wp2_with fail
    refine (take_any HU2.out 16 (by omega)).mono ?_
    rintro e w3 (⟨hl3, rfl, hr3, hv3⟩ | ⟨hl3, rfl, hr3, hv3⟩)
    · have hmb := num_bd ((bitsOf ys).drop (8 * f + 16)) 16 16 (Nat.le_refl _)
      obtain ⟨m, hm⟩ : ∃ m, m = num (((bitsOf ys).drop (8 * f + 16)).take 16) := ⟨_, rfl⟩
      rw [← hm] at hmb ⊢
      have HR3 : Hid (∀ k, run (bitsOf ys) most (storedPr k) p o = run (bitsOf ys) most (if m ≠ 65535 - v then .fail 3 else .bytes v.toNat fun b => .emit b k) (8 * f + 16 + 16) o) := fun k => by rw [HR2.out, run_take_ok (by rw [HU2.out.bits]; exact hl3), ← hm]
      have HU3 := Lib.hid (HU2.out.read hr3 hv3 hl3)
      have HV3 := Lib.hid (HV2.out.trans hv3)
      clear hm hmb hr3 hv3 hc0 HR2
      have hc0 := HU3.out.blk.cell 0
      simp at hc0
      by_cases hmn : m = 65535 - v
      · have hd1 : (m != 65535 - v) = false := by simp [hmn]
        obtain ⟨n, hn⟩ := Int.eq_ofNat_of_zero_le hv0
        have HR4 : Hid (∀ k, run (bitsOf ys) most (storedPr k) p o = run (bitsOf ys) most (.bytes n fun b => .emit b k) (8 * (f + 4)) o) := fun k => by rw [HR3.out, if_neg (by simp [hmn]), hn, Int.toNat_natCast, show 8 * f + 16 + 16 = 8 * (f + 4) from by omega]
        subst hn
        have hal : alignUp (8 * f + 16 + 16) = 8 * (f + 4) := by unfold alignUp; omega
        clear hmn HR3
        by_cases hfit : f + 4 + n ≤ rn
        · go_wp2_with fail
          refine (rbytes_ok n HU3.out.rd HU3.out.pos (by omega) (f + 4) hal hfit).mono ?_
          rintro e w4 ⟨D, dc, rfl, hD, hr4, hv4⟩
          have HU4 := Lib.hid (HU3.out.read hr4 hv4 (by omega))
          have HV4 := Lib.hid (HV3.out.trans hv4)
          have hyl : ys.length = rn := by have := HU3.out.rd.2.len; rw [List.length_map] at this; omega
          obtain ⟨bs, hbs⟩ : ∃ bs, bs = (ys.drop (f + 4)).take n := ⟨_, rfl⟩
          rw [← hbs] at hD
          have hbl : bs.length = n := by rw [hbs, List.length_take, List.length_drop]; omega
          have HBB : Hid (∀ z ∈ bs, 0 ≤ z ∧ z ≤ 255) := fun z hz => HU.out.yb z (by rw [hbs] at hz; exact List.mem_of_mem_drop (List.mem_of_mem_take hz))
          have HR5 : Hid (∀ k, run (bitsOf ys) most (storedPr k) p o = run (bitsOf ys) most (.emit bs k) (8 * (f + 4 + n)) o) := fun k => by
            rw [HR4.out, run, show alignUp (8 * (f + 4)) = 8 * (f + 4) from by unfold alignUp; omega, if_pos (by rw [HU3.out.bits]; omega), bytesAt_eq ys (f + 4) n (by omega) HU.out.yb, ← hbs, show 8 * (f + 4) + 8 * n = 8 * (f + 4 + n) from by omega]
          have HBL := Lib.hid hbl
          have HD := Lib.hid hD
          clear hbs hbl hD hr4 hv4 hc0 hal HR4 hyl
          have hc1 := HU4.out.blk.cell 1
          have hc2 := HU4.out.blk.cell 2
          simp at hc1 hc2
          have hroom := HU4.out.room
          have hmb := HU4.out.mb
          by_cases hlg : (most : Int) - on < n
          · have hd2 : decide ((most : Int) - on < n) = true := by simp; omega
            go_wp2
            go_quiet (fail)
            go_wp2
            go_ret
            exact ⟨4, 8 * (f + 4 + n), OA, on, oc, o, rfl, HU4.out.drewN _, (HV4.out.drewN _).one, fun x hx => Or.inl hx, Or.inl ⟨by decide, fun k => by rw [HR5.out, run, HBL.out, HU4.out.olen, if_neg (by omega)]⟩⟩
          · have hd2 : decide ((most : Int) - on < n) = false := by simp; omega
            go_wp2
            go_quiet (fail)
            have HU5 := Lib.hid (HU4.out.drewN nq)
            have HV5 := Lib.hid (HV4.out.drewN nq)
            have HD5 := Lib.hid (HD.out.drewN nq)
            generalize w4.drewN nq = w5 at HU5 HV5 HD5 ⊢
            clear hc1 hc2 HU4 HV4 HD
            have hc1 := HU5.out.blk.cell 1
            simp at hc1
            have hbw := HU5.out.bw
            have hO := HU5.out.own
            go_wp2_with (at_builtin; refine wpList_app rfl rfl el_byte rfl hO rfl (HD5.out.seg) (ints_one _ _) (by simp only [maxLen]; omega) (by omega) hbw ?_; intro X6 c6 w6 hown6 hu6 hfr6; have HB6 := Lib.hid (HU5.out.blk.upd hu6 (by have := HU5.out.own.neBlk HU5.out.blk (by decide); simp; exact fun e => this e.symm)); have k1 : w6.cell? ⟨u, 1, none⟩ = some (.slice OA on oc) := (by rw [HB6.out.cell]; rfl); have kf := HB6.out.frozen 1)
            go_ret
            have hpu := HU5.out.push (l := bs) (m := n) hown6 hu6 hfr6 (by omega) HBB.out
            refine ⟨0, 8 * (f + 4 + n), X6, on + n, c6, o ++ bs, rfl, hpu.1, HV5.out.one.trans hpu.2, fun x hx => ?_, Or.inr ⟨rfl, by omega, fun k => by rw [HR5.out, run, HBL.out, HU5.out.olen, if_pos (by omega)]⟩⟩
            rcases hfr6 x hx with h1 | h1
            · exact Or.inl h1
            · right; have := HV5.out.size; omega
        · go_wp2_with fail
          refine (rbytes_no (n : Int) HU3.out.rd HU3.out.pos (by omega) (Or.inr (by rw [hal]; omega))).mono ?_
          rintro e w4 ⟨rfl, hr4, hv4⟩
          go_wp2
          go_ret
          exact ⟨2, _, OA, on, oc, o, rfl, HU3.out.read hr4 hv4 (by rw [hal]; omega), (HV3.out.trans hv4).one, fun x hx => Or.inl hx, Or.inl ⟨by decide, fun k => by rw [HR4.out, run, show alignUp (8 * (f + 4)) = 8 * (f + 4) from by unfold alignUp; omega, if_neg (by rw [HU3.out.bits]; omega)]⟩⟩
      · have hd1 : (m != 65535 - v) = true := by simp [hmn]
        go_wp2
        go_ret
        exact ⟨3, 8 * f + 16 + 16, OA, on, oc, o, rfl, HU3.out, HV3.out.one, fun x hx => Or.inl hx, Or.inl ⟨by decide, fun k => by rw [HR3.out, if_pos hmn, run]⟩⟩
    · go_wp2
      go_ret
      exact ⟨2, 8 * f + 16, OA, on, oc, o, rfl, HU2.out.read hr3 hv3 hl2, (HV2.out.trans hv3).one, fun x hx => Or.inl hx, Or.inl ⟨by decide, fun k => by rw [HR2.out, run_take_no (by rw [HU2.out.bits]; exact hl3)]⟩⟩
  · go_wp2
    go_ret
    exact ⟨2, 8 * f, OA, on, oc, o, rfl, HU1.out.read hr2 hv2 (by omega), (HV1.out.trans hv2).one, fun x hx => Or.inl hx, Or.inl ⟨by decide, fun k => by rw [HR1.out, run_take_no (by rw [HU1.out.bits]; exact hl2)]⟩⟩

end Go.Proofs.YtolcdlopgbgilaaGreatDoor

/-! Text InfG. -/
namespace Go.Proofs.YtolcdlopgbgilaaGreatDoor
open Go.RowKit Go.Dray

def GrowPost (e0 : TypeId) (n : Nat) (w : World) (e : Ending) (w' : World) : Prop := ∃ A G, e = .returned (.slice A 0 G) ∧ n ≤ G ∧ Own w' w.heap.size e0 1 A 0 G [] ∧ Upd [] w w'

set_option maxHeartbeats 1000000 in
theorem growI_nil (n : Nat) (w : World) (hn : n ≤ 100000000) :
    Calls Tryz.prog 85 #[.slice none 0 0, .int .i64 n] w (GrowPost 3 n w) := by
  rcases Nat.eq_zero_or_pos n with h0 | h0
  · subst h0
    go_enter Tryz.func85, Tryz.ntmps85
    go_wp2
    go_ret
    exact ⟨none, 0, rfl, Nat.le_refl _, Own.nil _ _ _ _, Upd.refl _ _⟩
  · obtain ⟨i, hi, hz, hs, hb⟩ := info_get el_int
    have hcap := grownCap_ge w n 0 3
    have hmax := grownCap_le_maxLen w n 0 3 (by simp only [maxLen]; omega)
    have hr : ∀ ty, (Builtin.append_ #[64, 3] ty #[.slice none 0 0, .int .i64 n]).run Tryz.prog w = .ok (.slice (some ⟨w.heap.size, 0, none⟩) n (grownCap w n 0 3)) (w.drew.alloc (.cells (Builtin.zeroCells #[Value.int .i64 0] n ++ Builtin.zeroCells #[Value.int .i64 0] (grownCap w n 0 3 - n)) 3)) := fun ty => by
      have h := Lib.run_append_grow_zeros (P := Tryz.prog) w 64 3 ty 3 i (.int .i64 0) .i64 .i64 el_int.under Tryz.underlying3 hi hz none 0 0 [] (run_firstCells_none w.drew i.size 0 0 0) n h0 (by rw [hs]; omega) (by omega) (by omega) (by rw [hb]; omega) (by
        rw [hb]
        exact growslice_fits (by omega) (by omega))
      simpa [Value.cells] using h
    obtain ⟨G, hG⟩ : ∃ G, G = grownCap w n 0 3 := ⟨_, rfl⟩
    rw [← hG] at hcap hmax hr
    have hsz : (Builtin.zeroCells #[Value.int .i64 0] n ++ Builtin.zeroCells #[Value.int .i64 0] (G - n)).size = G := by
      simp [Builtin.zeroCells]
      omega
    obtain ⟨cs, hcs⟩ : ∃ cs, cs = Builtin.zeroCells #[Value.int .i64 0] n ++ Builtin.zeroCells #[Value.int .i64 0] (G - n) := ⟨_, rfl⟩
    rw [← hcs] at hr hsz
    have HR := Lib.hid hr
    have HCS := Lib.hid hsz
    clear hi hz hs hb hG hcs hr hsz
    have hw0 : (0 : Int) < n := by omega
    go_enter Tryz.func85, Tryz.ntmps85
    go_wp2_with (at_builtin; refine Lib.wpList_append_run _ rfl _ _ _ _ rfl _ _ rfl rfl _ _ (HR.out _) ?_)
    go_ret
    refine ⟨some ⟨w.heap.size, 0, none⟩, G, rfl, hcap, ?_, ((Upd.refl [] w).drew.alloc _)⟩
    exact Own.mk rfl (Nat.zero_le _) hmax rfl (Nat.le_refl _) (Blk.new w.drew 3 cs) (by rw [HCS.out]; omega) (by simp)

/-- Slices of ints, as Concat takes them. -/
structure Pt where
  A : Option Addr
  n : Nat
  c : Nat
  zs : List Int
def ptV (x : Pt) : Value := .slice x.A x.n x.c
theorem el_rowsI : El Tryz.prog 129 64 (.slice none 0 0) 1 24 := ⟨Tryz.underlying129, by kernel_rfl, rfl, by omega⟩
def sizes (l : List Pt) : Nat := (l.map (·.n)).sum
def allZ (l : List Pt) : List Int := l.flatMap (·.zs)
theorem sizes_snoc {l : List Pt} {i : Nat} {x : Pt} (h : l[i]? = some x) : sizes (l.take (i + 1)) = sizes (l.take i) + x.n := by
  have hk : i < l.length := (List.getElem?_eq_some_iff.1 h).1
  have hx : l[i] = x := (List.getElem?_eq_some_iff.1 h).2
  unfold sizes
  rw [List.take_succ_eq_append_getElem hk, hx, List.map_append, List.sum_append]
  simp
theorem allZ_snoc {l : List Pt} {i : Nat} {x : Pt} (h : l[i]? = some x) : allZ (l.take (i + 1)) = allZ (l.take i) ++ x.zs := by
  have hk : i < l.length := (List.getElem?_eq_some_iff.1 h).1
  have hx : l[i] = x := (List.getElem?_eq_some_iff.1 h).2
  unfold allZ
  rw [List.take_succ_eq_append_getElem hk, hx, List.flatMap_append]
  simp
theorem sizes_le (l : List Pt) (i : Nat) : sizes (l.take i) ≤ sizes l := by
  have e : sizes l = sizes (l.take i) + sizes (l.drop i) := by
    unfold sizes
    rw [← List.sum_append, ← List.map_append, List.take_append_drop]
  omega

def ConcPost (l : List Pt) (w : World) (e : Ending) (w' : World) : Prop := ∃ A c, e = .returned (.slice A (sizes l) c) ∧ Own w' w.heap.size 3 1 A (sizes l) c ((allZ l).map (Value.int .i64)) ∧ Upd [] w w'

set_option maxRecDepth 100000 in
set_option maxHeartbeats 2000000 in
theorem concatI_any (PA : Option Addr) (k pc : Nat) (l : List Pt) (w : World) (hp : Seg w 1 PA k (l.map ptV)) (hz : ∀ x ∈ l, Ints .i64 w x.A x.n x.zs) (hs : sizes l ≤ 10000000) (hk : k ≤ 1000) :
    Calls Tryz.prog 56 #[.slice PA k pc] w (ConcPost l w) := by
  have HP := Lib.hid hp
  have HZ := Lib.hid hz
  have HL : Hid (l.length = k) := by have := hp.len; rw [List.length_map] at this; show _ = _; omega
  clear hp hz
  go_enter Tryz.func56, Tryz.ntmps56
  go_wp2
  go_loop [3, 11] (fun s i => ∃ j : Nat, j ≤ k ∧ i = .int .i64 j ∧ s = .int .i64 (sizes (l.take j) : Nat)) (fun _ i => k - (intOf i).toNat)
  case atStart => exact ⟨0, by omega, rfl, rfl⟩
  case round =>
    obtain ⟨j, hj, rfl, rfl⟩ := hrel
    have hsl := sizes_le l j
    obtain ⟨S, hS⟩ : ∃ S, S = sizes (l.take j) := ⟨_, rfl⟩
    rw [← hS] at hsl ⊢
    have HS := Lib.hid hS
    clear hS
    by_cases hlt : j < k
    · obtain ⟨x, hx⟩ : ∃ x, l[j]? = some x := ⟨_, List.getElem?_eq_getElem (by rw [HL.out]; exact hlt)⟩
      have HX := Lib.hid hx
      have hc := HP.out.cell j (ptV x) (by rw [List.getElem?_map, hx]; rfl)
      unfold ptV at hc
      have hix := run_index el_rowsI HP.out.at_ pc .i64 j hlt
      rw [Nat.mul_one] at hix
      have hs1 := sizes_le l (j + 1)
      rw [sizes_snoc hx, ← HS.out] at hs1
      clear hx
      go_wp2
      go_round
      case rel => exact ⟨j + 1, by omega, by go_num, by rw [sizes_snoc HX.out, ← HS.out]; go_num⟩
      case measure => simp [intOf]; omega
    · obtain rfl : j = k := by omega
      have HSE : Hid (S = sizes l) := by show _ = _; rw [HS.out, List.take_of_length_le (by rw [HL.out]; omega)]
      go_wp2_with fail
      refine (growI_nil S w (by omega)).mono ?_
      rintro e w1 ⟨G0, gc, rfl, hgc, hown1, hv1⟩
      have HO1 := Lib.hid hown1
      have HV1 := Lib.hid hv1
      clear hown1 hv1
      go_wp2
      go_loopw [6, 27] (fun v i wr => ∃ (t xn : Nat) (X : Option Addr) (xc : Nat), t ≤ j ∧ i = .int .i64 t ∧ v = .slice X xn xc ∧ Hid (xn = sizes (l.take t)) ∧ Hid (Own wr w.heap.size 3 1 X xn xc ((allZ (l.take t)).map (Value.int .i64)) ∧ Upd [] w wr)) (fun _ i _ => j - (intOf i).toNat)
      case atStart => exact ⟨0, 0, G0, gc, by omega, rfl, rfl, rfl, ⟨HO1.out, HV1.out⟩⟩
      case round =>
        clear HO1 HV1
        obtain ⟨t, xn, X, xc, ht, rfl, rfl, HXN, HO⟩ := hrel
        by_cases htk : t < j
        · obtain ⟨x, hx⟩ : ∃ x, l[t]? = some x := ⟨_, List.getElem?_eq_getElem (by rw [HL.out]; exact htk)⟩
          have HX := Lib.hid hx
          have hpr := HP.out.upd HO.out.2 (by omega) (by simp)
          have hc := hpr.cell t (ptV x) (by rw [List.getElem?_map, hx]; rfl)
          unfold ptV at hc
          have hix := run_index el_rowsI HP.out.at_ pc .i64 t htk
          rw [Nat.mul_one] at hix
          have hxi := (HZ.out x (List.mem_of_getElem? hx)).upd HO.out.2 (by simp)
          have hs1 := sizes_le l (t + 1)
          rw [sizes_snoc hx, ← HXN.out] at hs1
          have hO := HO.out.1
          have hsz := HO.out.2.size
          obtain ⟨xA, xnn, xcc, xzs⟩ := x
          simp only at hc hxi hs1
          clear hx hpr
          go_wp2_with (at_builtin; refine wpList_app rfl rfl el_int rfl hO rfl hxi (ints_one _ _) (by simp only [maxLen]; omega) (by omega) hsz ?_; intro X3 c3 w3 hown3 hu3 hfr3)
          go_roundw
          case rel =>
            refine ⟨t + 1, xn + xnn, X3, c3, by omega, by go_num, rfl, ?_, ?_, ?_⟩
            · show _ = _; rw [sizes_snoc HX.out, ← HXN.out]
            · rw [allZ_snoc HX.out, List.map_append]; exact hown3
            · exact HO.out.2.then hu3 (fun b hb => by simp at hb; have := (hO.base hb.symm).1; right; omega)
          case measure => simp [intOf]; omega
        · obtain rfl : t = j := by omega
          have e1 : l.take t = l := List.take_of_length_le (by rw [HL.out]; omega)
          rw [e1] at HXN HO
          go_wp2
          go_ret
          refine ⟨X, xc, ?_, ?_, HO.out.2⟩
          · rw [← HXN.out]; rfl
          · rw [← HXN.out]; exact HO.out.1

end Go.Proofs.YtolcdlopgbgilaaGreatDoor
