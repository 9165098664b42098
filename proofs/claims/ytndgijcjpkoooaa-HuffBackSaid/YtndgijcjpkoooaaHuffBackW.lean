/- The walk of drayagelaw03.HuffBack. -/
import Derived.Test.YtndgijcjpkoooaaHuffNextW
import Derived.Test.YtndgijcjpkoooaaBitsB
namespace Go.Proofs.Ytndgijcjpkoooaa
open Go.RowKit Go.Dray

/-- The bits of symbols' rows. -/
def rowsOf (zs : List Int) (ts : List Nat) : List Bool := ts.flatMap (rowOf zs)
theorem rowsOf_snoc (zs : List Int) (ts : List Nat) (t : Nat) : rowsOf zs (ts ++ [t]) = rowsOf zs ts ++ rowOf zs t := by simp [rowsOf]

/-- Symbols as numbers. -/
def tsI (ts : List Nat) : List Int := ts.map fun t : Nat => (t : Int)

/-- Symbols that have rows. -/
def Good (zs : List Int) (ts : List Nat) : Prop := ∀ t ∈ ts, t < zs.length ∧ 0 < zs.getD t 0

theorem rowsOf_len {zs : List Int} (hb : ∀ z ∈ zs, 0 ≤ z ∧ z ≤ 15) (ts : List Nat) (hg : Good zs ts) : (rowsOf zs ts).length ≤ 15 * ts.length := by
  induction ts with
  | nil => simp [rowsOf]
  | cons t ts ih =>
    have h1 := ih fun u hu => hg u (by simp [hu])
    have h2 := hb _ (List.mem_of_getElem? (getD_mem (hg t (by simp)).1))
    have h3 := rowOf_len zs t
    simp only [rowsOf, List.flatMap_cons, List.length_append, List.length_cons] at *
    omega

/-- A row at the beginning is read as its symbol. -/
theorem next_row {zs : List Int} (h : chk zs = 0) {t : Nat} (ht : t < zs.length) (hp : 0 < zs.getD t 0) (rest : List Bool) : NextIs zs (rowOf zs t ++ rest) (rowOf zs t).length t 0 := by
  have hl := rowOf_len zs t
  refine ⟨by rw [List.length_append]; omega, fun j h1 h2 => ?_, Or.inr (Or.inr ⟨rfl, by omega, t, rfl, ?_⟩)⟩
  · rw [goesOn, List.take_append_of_le_length (by omega)]
    refine ⟨Or.inr ⟨t, ht, hp, List.take_prefix _ _⟩, leafF_none.2 fun u hu hup he => ?_⟩
    have e := rowOf_apart h ht hu hp hup (by rw [he]; exact List.take_prefix _ _)
    subst e
    have := congrArg List.length he
    rw [List.length_take] at this
    omega
  · rw [List.take_left']
    · exact leafF_row h ht hp
    · rfl

theorem rowsOf_take {zs : List Int} {ts : List Nat} {k t : Nat} (hk : ts[k]? = some t) (rest : List Bool) :
    (rowsOf zs ts ++ rest).drop (rowsOf zs (ts.take k)).length = rowOf zs t ++ (rowsOf zs (ts.drop (k + 1)) ++ rest) ∧ (rowsOf zs (ts.take (k + 1))).length = (rowsOf zs (ts.take k)).length + (rowOf zs t).length := by
  have hl : k < ts.length := (List.getElem?_eq_some_iff.1 hk).1
  have he : ts[k] = t := (List.getElem?_eq_some_iff.1 hk).2
  have e : rowsOf zs ts = rowsOf zs (ts.take k) ++ (rowOf zs t ++ rowsOf zs (ts.drop (k + 1))) := by
    have h1 : ts = ts.take k ++ (t :: ts.drop (k + 1)) := by
      rw [← he, ← List.drop_eq_getElem_cons hl, List.take_append_drop]
    conv => lhs; rw [h1]
    simp [rowsOf]
  refine ⟨?_, ?_⟩
  · rw [e, List.append_assoc, List.drop_left', List.append_assoc]
    rfl
  · rw [List.take_succ_eq_append_getElem hl, he, rowsOf_snoc, List.length_append]

set_option maxRecDepth 100000 in
set_option maxHeartbeats 1000000 in
theorem huffBack_walk (A : Option Addr) (n c : Nat) (zs : List Int) (D : Option Addr) (m d : Nat) (ys : List Int) (w : World) (hin : InInts .i64 w A n c zs) (hin2 : InInts .i64 w D m d ys) :
    Calls Try.prog 6 #[.slice A n c, .slice D m d] w fun e w' => e = .returned (.bool true) ∧ Below w.heap.size w w' := by
  obtain ⟨hs, -, -, -⟩ := hin
  obtain ⟨hd, -, -, hwf⟩ := hin2
  have HY : Hid (∀ z ∈ ys, -9223372036854775808 ≤ z ∧ z ≤ 9223372036854775807) := fun z hz => bounds_i64 (hwf z hz)
  have HL := hs.len
  clear hwf
  by_cases hbig : 100 < n
  · have d1 : decide ((100 : Int) < n) = true := by simp; omega
    go_enter Try.func6, Try.ntmps6
    go_wp2_with (go_at_call 8; refine (awake_any _).mono ?_; rintro e w1 ⟨rfl, hu1⟩)
    go_ret
    exact ⟨rfl, hu1.below (Nat.le_refl _) (by simp)⟩
  · have d1 : decide ((100 : Int) < n) = false := by simp; omega
    have hn : n ≤ 100 := by omega
    by_cases hbig2 : 200 < m
    · have d2 : decide ((200 : Int) < m) = true := by simp; omega
      go_enter Try.func6, Try.ntmps6
      go_wp2_with (go_at_call 8; refine (awake_any _).mono ?_; rintro e w1 ⟨rfl, hu1⟩)
      go_ret
      exact ⟨rfl, hu1.below (Nat.le_refl _) (by simp)⟩
    · have d2 : decide ((200 : Int) < m) = false := by simp; omega
      have hm : m ≤ 200 := by omega
      clear hbig hbig2
      by_cases hk : chk zs = 0
      · have HK := Lib.hid hk
        have HB := Lib.hid (chk_zero hk).2.1
        clear hk
        go_enter Try.func6, Try.ntmps6
        go_wp2_with (go_at_call 8; refine (awake_any _).mono ?_; rintro e w1 ⟨rfl, hu1⟩)
        have hs1 : Ints .i64 w1 A n zs := hs.upd hu1 (by simp)
        refine (codes_ok A n c zs w1 hs1 HK.out).mono ?_
        rintro e w2 ⟨C, cc, rfl, hc2, hv⟩
        have hu2 := hu1.then hv (by simp)
        have hs2 : Ints .i64 w2 A n zs := hs1.upd hv (by simp)
        have hc2' := hc2.monoB hu1.size
        clear hv hu1 hs1 hc2
        go_wp2_with fail
        refine (newTree_ok A n c zs w2 hs2 HK.out).mono ?_
        rintro e w3 ⟨g, TA, tn, tc, P, rfl, hg, ht3, hv⟩
        have hu3 := hu2.then hv (by simp)
        have hc3 := hc2'.upd hv (by simp)
        have hgw : w.heap.size ≤ g := by have := hu2.size; omega
        have hB2 : w.heap.size ≤ w2.heap.size := hu2.size
        clear hv hu2 hs2 hc2' hg
        go_wp2_with fail
        refine (newWriter_any w3).mono ?_
        rintro e w4 ⟨rfl, hw4⟩
        have hv : Upd [] w3 w4 := by rw [hw4]; exact (Upd.refl _ _).alloc _
        have hwr4 : Wr w4 w3.heap.size w3.heap.size none [] := by rw [hw4]; exact Wr.new _ _
        obtain ⟨gw, hgw'⟩ : ∃ gw, gw = w3.heap.size := ⟨_, rfl⟩
        rw [← hgw'] at hwr4 ⊢
        have hgww : w.heap.size ≤ gw := by have := hu3.size; omega
        have hu4 := hu3.then hv (by simp)
        have hc4 := hc3.upd hv (by simp)
        have ht4 := ht3.upd hv (by simp) (by simp)
        have HGW := Lib.hid hgw'
        clear hv hw4 hu3 hc3 ht3 hgw'
        have hwr4' := hwr4.monoB (B' := w.heap.size) hgww
        clear hwr4
        go_wp2_with fail
        go_loopw [10, 11] (fun x i wr => ∃ k : Nat, k ≤ m ∧ i = .int .i64 k ∧ ∃ (ts : List Nat) (X : Option Addr) (xc : Nat) (WA : Option Addr), x = .slice X ts.length xc ∧ Hid (Good zs ts) ∧ ts.length ≤ k ∧ Own wr w.heap.size 3 1 X ts.length xc ((tsI ts).map (Value.int .i64)) ∧ Wr wr w.heap.size gw WA (rowsOf zs ts) ∧ Own wr w.heap.size 3 1 C n cc (codesV zs) ∧ Tree wr w2.heap.size g TA tn tc zs P ∧ Upd [] w wr ∧ Hid (∀ b, ob X = some b → ob C ≠ some b)) (fun _ i _ => m - (intOf i).toNat)
        case atStart => exact ⟨0, by omega, rfl, [], none, 0, none, rfl, fun t h => by simp at h, by simp, Own.nil _ _ _ _, hwr4', hc4, ht4, hu4, fun b h => by cases h⟩
        case round =>
          obtain ⟨k, hk, rfl, ts, X, xc, WA, rfl, HG, htl, hx, hwr, hc, ht, hu, HAP⟩ := hrel
          clear hwr4' hc4 ht4 hu4
          by_cases hlt : k < m
          · have hdr : Ints .i64 wr D m ys := hd.upd hu (by simp)
            obtain ⟨y, HYY, ycell⟩ := hdr.int hlt
            have yix := hdr.index el_int d .i64 k hlt
            have hyb := HY.out y (List.mem_of_getElem? HYY.out)
            have hsr : Ints .i64 wr A n zs := hs.upd hu (by simp)
            clear hdr
            by_cases y0 : y < 0
            · have g0 : decide (0 ≤ y) = false := by simp; omega
              go_wp2
              go_roundw
              case rel => exact ⟨k + 1, by omega, by go_num, ts, X, xc, WA, rfl, HG, by omega, hx, hwr, hc, ht, hu, HAP⟩
              case measure => simp [intOf]; omega
            · have g0 : decide (0 ≤ y) = true := by simp; omega
              obtain ⟨t, rfl⟩ := Int.eq_ofNat_of_zero_le (show 0 ≤ y by omega)
              by_cases y1 : t < n
              · have g1 : decide (t < n) = true := by simp; omega
                obtain ⟨z, HX, zcell⟩ := hsr.int y1
                have zix := hsr.index el_int c .i64 t y1
                obtain ⟨hz0, hz15⟩ := HB.out z (List.mem_of_getElem? HX.out)
                obtain ⟨ln, rfl⟩ := Int.eq_ofNat_of_zero_le hz0
                have HZ : Hid (zs.getD t 0 = ln) := getD_of HX.out
                by_cases hl0 : ln = 0
                · have g2 : decide (0 < ln) = false := by simp; omega
                  have HL0 := Lib.hid hl0
                  clear hl0
                  go_wp2
                  go_roundw
                  case rel => exact ⟨k + 1, by omega, by go_num, ts, X, xc, WA, rfl, HG, by omega, hx, hwr, hc, ht, hu, HAP⟩
                  case measure => simp [intOf]; omega
                · have g2 : decide (0 < ln) = true := by simp; omega
                  have hlp : 0 < ln := by omega
                  clear hl0
                  obtain ⟨cv, HCV, ccell⟩ := (Ints.ofOwn hc).int y1
                  have cix := (Ints.ofOwn hc).index el_int cc .i64 t y1
                  have HCE : Hid (cv = codeOf zs t) := by
                    have := HCV.out
                    rw [tab_get _ (by rw [HL.out]; exact y1)] at this
                    injection this with this
                    exact this.symm
                  have HRW : Hid (rowBits cv ln = rowOf zs t) := by show _ = _; rw [HCE.out]; unfold rowOf; rw [HZ.out]; rfl
                  have hrl := rowsOf_len HB.out ts HG.out
                  go_wp2
                  go_still_tail 9, (by kernel_rfl)
                  change wpList _ _ _ _ _ wr.drew
                  obtain ⟨w5, hw5⟩ : ∃ w5 : World, w5 = wr.drew := ⟨_, rfl⟩
                  rw [← hw5]
                  have hx5 : Own w5 w.heap.size 3 1 X ts.length xc ((tsI ts).map (Value.int .i64)) := by rw [hw5]; exact hx
                  have hwr5 : Wr w5 w.heap.size gw WA (rowsOf zs ts) := by rw [hw5]; exact hwr.drewN 1
                  have hc5 : Own w5 w.heap.size 3 1 C n cc (codesV zs) := by rw [hw5]; exact hc
                  have ht5 : Tree w5 w2.heap.size g TA tn tc zs P := by rw [hw5]; exact ht
                  have hu5 : Upd [] w w5 := by rw [hw5]; exact hu.drew
                  have zc5 : w5.cell? ⟨bl A, ofs A + t, none⟩ = some (.int .i64 ln) := by rw [hw5]; exact zcell
                  have cc5 : w5.cell? ⟨bl C, ofs C + t, none⟩ = some (.int .i64 cv) := by rw [hw5]; exact ccell
                  clear hw5 hx hwr hc ht hu zcell ccell hsr ycell yix
                  go_wp2_with fail
                  refine (code_any w5 w.heap.size gw WA (rowsOf zs ts) cv ln (by omega) (by omega) (by omega) hu5.size hwr5).mono ?_
                  rintro e w6 ⟨rfl, WB, hwr6, hv, hfr⟩
                  rw [Int.toNat_natCast, HRW.out, ← rowsOf_snoc] at hwr6
                  have hx6 := Own.updWr hx5 hwr5 hv (by decide) (by decide)
                  have hc6 := Own.updWr hc5 hwr5 hv (by decide) (by decide)
                  have ht6 : Tree w6 w2.heap.size g TA tn tc zs P := ⟨Blk.updWr ht5.1 hwr5 hv (by decide) (by decide), Own.updWr ht5.2.1 hwr5 hv (by decide) (by decide), ht5.2.2.1, ht5.2.2.2⟩
                  have hu6 := hwr5.thenUpd hu5 hv (Nat.le_refl _) hgww
                  have hB6 : w.heap.size ≤ w6.heap.size := hu6.size
                  clear hx5 hwr5 hc5 ht5 hu5 zc5 cc5 hv hfr
                  go_wp2_with (at_builtin; refine wpList_app rfl rfl el_int rfl (hx6.alloc _) rfl (Seg.one _ _ _) (by simp [Value.oneCell']) (by simp only [maxLen]; omega) (by omega) (by simp; omega) ?_; intro X7 c7 w7 hx7 hv7 hfr7)
                  go_roundw
                  case rel =>
                    have hl7 : (ts ++ [t]).length = ts.length + 1 := by simp
                    have hne : ∀ b, ob C = some b → b ∉ (ob X).toList := fun b hb hm => by
                      cases hX : ob X with
                      | none => rw [hX] at hm; simp at hm
                      | some b' => rw [hX] at hm; simp at hm; subst hm; exact HAP.out _ hX hb
                    have hv8 : Upd [ob X] w6 w7 := ((Upd.refl _ _).alloc _).trans hv7
                    refine ⟨k + 1, by omega, by go_num, ts ++ [t], X7, c7, WB, by rw [hl7], ?_, by rw [hl7]; omega, ?_, ?_, ?_, ?_, ?_, ?_⟩
                    · intro u hu
                      rcases List.mem_append.1 hu with h | h
                      · exact HG.out u h
                      · simp at h; subst h; exact ⟨by rw [HL.out]; exact y1, by rw [HZ.out]; omega⟩
                    · rw [hl7]
                      have e : (tsI (ts ++ [t])).map (Value.int .i64) = (tsI ts).map (Value.int .i64) ++ [.int .i64 t] := by simp [tsI]
                      rw [e]
                      exact hx7
                    · refine hwr6.upd hv8 ?_ ?_
                      · simp
                        obtain ⟨_, _, hb, _⟩ := hwr6
                        exact fun h => hx6.neBlk hb (by decide) h.symm
                      · intro b hb
                        simp
                        obtain ⟨_, _, _, ho⟩ := hwr6
                        exact fun h => ho.neOwn hx6 (by decide) hb h.symm
                    · exact hc6.upd hv8 fun b hb => by
                        simp
                        intro h
                        exact HAP.out b h.symm hb
                    · refine ⟨ht6.1.upd hv8 ?_, ht6.2.1.upd hv8 ?_, ht6.2.2.1, ht6.2.2.2⟩
                      · simp
                        exact fun h => hx6.neBlk ht6.1 (by decide) h.symm
                      · intro b hb
                        simp
                        exact fun h => ht6.2.1.neOwn hx6 (by decide) hb h.symm
                    · exact hu6.then hv8 fun b hb => by
                        simp at hb
                        have := (hx6.base hb.symm).1
                        right; omega
                    · intro b hb hcb
                      rcases hfr7 b hb with h | h
                      · exact HAP.out b h hcb
                      · have := (hc6.base hcb).2
                        simp at h
                        omega
                  case measure => simp [intOf]; omega
              · have g1 : decide (t < n) = false := by simp; omega
                go_wp2
                go_roundw
                case rel => exact ⟨k + 1, by omega, by go_num, ts, X, xc, WA, rfl, HG, by omega, hx, hwr, hc, ht, hu, HAP⟩
                case measure => simp [intOf]; omega
          · obtain rfl : k = m := by omega
            have hrl := rowsOf_len HB.out ts HG.out
            obtain ⟨bs, hbs⟩ : ∃ bs, bs = rowsOf zs ts := ⟨_, rfl⟩
            obtain ⟨nb, hnb⟩ : ∃ nb, nb = (bs.length + 7) / 8 := ⟨_, rfl⟩
            rw [← hbs] at hwr hrl
            have hbl : bs.length ≤ 3000 := by omega
            have hnb2 : nb ≤ 400 := by omega
            have HBS := Lib.hid hbs
            have HNB := Lib.hid hnb
            clear hbs hnb hrl
            go_wp2_with fail
            refine (wbytes_any wr w.heap.size gw WA bs (by omega) hwr nb HNB.out.symm (pack bs) rfl).mono ?_
            rintro e w5 ⟨Y, yc, rfl, hy5, hv⟩
            have hx5 := hx.upd hv (by simp)
            have hwr5 := hwr.upd hv (by simp) (by simp)
            have ht5 := ht.upd hv (by simp) (by simp)
            have hu5 := hu.then hv (by simp)
            clear hx hwr ht hu hv hc
            go_wp2_with fail
            refine (newReader_any Y nb yc (pack bs) w5 (Ints.ofOwn hy5) (by omega)).mono ?_
            rintro e w6 ⟨gr, RA, rc, rfl, hgr, hr6, hv⟩
            have hx6 := hx5.upd hv (by simp)
            have hwr6 := hwr5.upd hv (by simp) (by simp)
            have ht6 := ht5.upd hv (by simp) (by simp)
            have hu6 := hu5.then hv (by simp)
            have hgrw : w.heap.size ≤ gr := by have := hu5.size; omega
            clear hx5 hwr5 ht5 hu5 hv hy5 hgr
            obtain ⟨N, hN⟩ : ∃ N, N = ts.length := ⟨_, rfl⟩
            rw [← hN] at hx6 htl ⊢
            have HN := Lib.hid hN
            clear hN
            go_wp2_with fail
            go_loopw [14] (fun i wr => ∃ j : Nat, j ≤ N ∧ i = .int .i64 j ∧ Own wr w.heap.size 3 1 X N xc ((tsI ts).map (Value.int .i64)) ∧ Wr wr w.heap.size gw WA bs ∧ Tree wr w2.heap.size g TA tn tc zs P ∧ Rd wr w5.heap.size gr RA nb rc (pack bs) (rowsOf zs (ts.take j)).length ∧ Upd [] w wr) (fun i _ => N - (intOf i).toNat)
            case atStart => exact ⟨0, by omega, rfl, hx6, hwr6, ht6, hr6, hu6⟩
            case round =>
              clear hx6 hwr6 ht6 hr6 hu6
              obtain ⟨j, hj, rfl, hx, hwr, ht, hr, hu⟩ := hrel
              obtain ⟨p, hp⟩ : ∃ p, p = (rowsOf zs (ts.take j)).length := ⟨_, rfl⟩
              rw [← hp] at hr
              have hpb : p ≤ bs.length := by
                rw [hp, HBS.out]
                have e : rowsOf zs ts = rowsOf zs (ts.take j) ++ rowsOf zs (ts.drop j) := by
                  unfold rowsOf
                  rw [← List.flatMap_append, List.take_append_drop]
                rw [e, List.length_append]
                omega
              have HP := Lib.hid hp
              clear hp
              by_cases hlt2 : j < N
              · obtain ⟨v, HV, vcell⟩ := (Ints.ofOwn hx).int hlt2
                have htj : ∃ t, ts[j]? = some t ∧ v = (t : Int) := by
                  have h1 := HV.out
                  unfold tsI at h1
                  rw [List.getElem?_map] at h1
                  cases h2 : ts[j]? with
                  | none => rw [h2] at h1; simp at h1
                  | some t => rw [h2] at h1; simp at h1; exact ⟨t, rfl, h1.symm⟩
                obtain ⟨t, htj, hvt⟩ := htj
                have hgt := HG.out t (List.mem_of_getElem? htj)
                have hbits : ((bitsOf (pack bs)).drop p) = rowOf zs t ++ (rowsOf zs (ts.drop (j + 1)) ++ List.replicate (8 * ((bs.length + 7) / 8) - bs.length) false) := by
                  rw [bitsOf_pack, HP.out, HBS.out]
                  exact (rowsOf_take htj _).1
                have hplen : (rowsOf zs (ts.take (j + 1))).length = p + (rowOf zs t).length := by rw [HP.out]; exact (rowsOf_take (zs := zs) htj []).2
                have hng : g ≠ gr := ht.1.ne hr.1 (by decide)
                go_wp2_with fail
                refine (next_any ht hr (by have := HNB.out; omega) (by omega) (pack_bd bs)).mono ?_
                rintro e w7 ⟨kk, sym, err, rfl, hnx, hr7, hv⟩
                rw [hbits] at hnx
                obtain ⟨rfl, rfl, rfl⟩ := hnx.unique (next_row HK.out hgt.1 hgt.2 _)
                have hx7 := hx.upd hv (fun b hb => by simp; intro h; subst h; exact hx.neBlk hr.1 (by decide) hb)
                have hwr7 := hwr.upd hv (by obtain ⟨_, _, hb, _⟩ := hwr; simp; exact hb.ne hr.1 (by decide)) (fun b hb => by obtain ⟨_, _, _, ho⟩ := hwr; simp; intro h; subst h; exact ho.neBlk hr.1 (by decide) hb)
                have ht7 := ht.upd hv (by simp; exact hng) (fun b hb => by simp; intro h; subst h; exact ht.2.1.neBlk hr.1 (by decide) hb)
                have hu7 := hu.then hv (fun b hb => by simp at hb; right; omega)
                rw [← hplen] at hr7
                have vc7 := (Ints.ofOwn hx7).cell HV.out
                have vix := (Ints.ofOwn hx7).index el_int xc .i64 j hlt2
                rw [hvt] at vc7
                clear hx hwr ht hr hu hv hnx hbits hplen vcell hvt
                go_wp2
                go_roundw
                case rel => exact ⟨j + 1, by omega, by go_num, hx7, hwr7, ht7, hr7, hu7⟩
                case measure => simp [intOf]; omega
              · obtain rfl : j = N := by omega
                have hpe : p = bs.length := by
                  rw [HP.out, HBS.out, List.take_of_length_le (by rw [HN.out]; exact Nat.le_refl _)]
                rw [hpe] at hr
                clear hpe
                go_wp2_with fail
                refine (at_any hr).mono ?_
                rintro e w8 ⟨rfl, rfl⟩
                go_wp2_with fail
                refine (wlen_any wr w.heap.size gw WA bs hwr).mono ?_
                rintro e w8 ⟨rfl, rfl⟩
                go_wp2
                go_ret
                exact ⟨rfl, hu.below (Nat.le_refl _) (by simp)⟩
      · have HK := Lib.hid hk
        have hkb : (chk zs != 0) = true := by simp [hk]
        clear hk
        go_enter Try.func6, Try.ntmps6
        go_wp2_with (go_at_call 8; refine (awake_any _).mono ?_; rintro e w1 ⟨rfl, hu1⟩)
        have hs1 : Ints .i64 w1 A n zs := hs.upd hu1 (by simp)
        refine (codes_err A n c zs w1 hs1 HK.out).mono ?_
        rintro e w2 ⟨rfl, rfl⟩
        go_wp2_with fail
        refine (newTree_err A n c zs w1 hs1 HK.out).mono ?_
        rintro e w2 ⟨rfl, rfl⟩
        go_wp2_with fail
        go_ret
        exact ⟨rfl, hu1.below (Nat.le_refl _) (by simp)⟩

end Go.Proofs.Ytndgijcjpkoooaa
