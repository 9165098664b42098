/- Merged by wip/tools/merge.py: DefI StepP DefJ. -/
import Derived.Deep.CutRange
import Derived.RegionTactic
import Derived.Deep.CutBlock
import Derived.Test.YtolcdlopgbgilaaGreatDoorMz12
import Derived.Test.YtolcdlopgbgilaaGreatDoorMz18
import Derived.Test.YtolcdlopgbgilaaGreatDoorMz20

/-! Text DefI. -/
namespace Go.Proofs.YtolcdlopgbgilaaGreatDoor
open Go.RowKit Go.Dray

/-- The counts behind the first k pieces. -/
def litK (ps : List Piece) (k : Nat) : List Int := tab 286 fun s => litC (ps.take k) s + (if s = 256 then 1 else 0) + if s = 0 ∧ ps.length = 0 then 1 else 0
def distK (ps : List Piece) (k : Nat) : List Int := tab 30 fun t => distC (ps.take k) t
theorem litK_all (ps : List Piece) : litK ps ps.length = litZ ps := by unfold litK litZ; rw [List.take_length]
theorem distK_all (ps : List Piece) : distK ps ps.length = distZ ps := by unfold distK distZ; rw [List.take_length]
theorem litC_le (ps : List Piece) (s : Nat) : litC ps s ≤ ps.length := by unfold litC; have := List.countP_le_length (l := ps) (p := fun x => decide (psym x = s)); omega
theorem distC_le (ps : List Piece) (s : Nat) : distC ps s ≤ ps.length := by unfold distC; have := List.countP_le_length (l := ps) (p := fun x => decide (x.2 ≠ 0 ∧ (dsym x.2).1.toNat = s)); omega
theorem distC_nonneg (ps : List Piece) (s : Nat) : 0 ≤ distC ps s := by unfold distC; omega
theorem litK_len (ps : List Piece) (k : Nat) : (litK ps k).length = 286 := tab_len _ _
theorem distK_len (ps : List Piece) (k : Nat) : (distK ps k).length = 30 := tab_len _ _
theorem litK_bd (ps : List Piece) (k : Nat) : ∀ z ∈ litK ps k, 0 ≤ z ∧ z ≤ ps.length + 2 := by
  intro z hz
  obtain ⟨s, hs, rfl⟩ := getD_ex hz
  rw [litK_len] at hs
  have e : (litK ps k).getD s 0 = litC (ps.take k) s + (if s = 256 then 1 else 0) + if s = 0 ∧ ps.length = 0 then 1 else 0 := getD_tab _ hs
  have a := litC_nonneg (ps.take k) s
  have b := litC_le (ps.take k) s
  rw [List.length_take] at b
  rw [e]
  split <;> split <;> omega
theorem distK_bd (ps : List Piece) (k : Nat) : ∀ z ∈ distK ps k, 0 ≤ z ∧ z ≤ ps.length + 2 := by
  intro z hz
  obtain ⟨s, hs, rfl⟩ := getD_ex hz
  rw [distK_len] at hs
  have e : (distK ps k).getD s 0 = distC (ps.take k) s := getD_tab _ hs
  have a := distC_nonneg (ps.take k) s
  have b := distC_le (ps.take k) s
  rw [List.length_take] at b
  rw [e]
  omega
theorem takeP_snoc {ps : List Piece} {k : Nat} {x : Piece} (h : ps[k]? = some x) : ps.take (k + 1) = ps.take k ++ [x] := by
  obtain ⟨h1, h2⟩ := List.getElem?_eq_some_iff.1 h
  rw [List.take_succ_eq_append_getElem h1, h2]
theorem litK_step {ps : List Piece} {k : Nat} {x : Piece} (h : ps[k]? = some x) {v : Int} {s : Nat} (hs : psym x = s) (hv : (litK ps k)[s]? = some v) : (litK ps k).set s (v + 1) = litK ps (k + 1) := by
  have hl : s < 286 := by have := (List.getElem?_eq_some_iff.1 hv).1; rw [litK_len] at this; exact this
  have e : v = litC (ps.take k) s + (if s = 256 then 1 else 0) + if s = 0 ∧ ps.length = 0 then 1 else 0 := by
    unfold litK at hv
    rw [tab_get _ hl] at hv
    injection hv with hv
    exact hv.symm
  unfold litK
  rw [tab_set]
  refine tab_congr fun j hj => ?_
  rw [takeP_snoc h, litC_snoc, hs]
  by_cases hjs : j = s
  · subst hjs
    rw [if_pos rfl, e]
    have : (if j = j then (1 : Int) else 0) = 1 := if_pos rfl
    omega
  · have : (if s = j then (1 : Int) else 0) = 0 := if_neg (fun e => hjs e.symm)
    rw [if_neg hjs]
    omega
theorem distK_step {ps : List Piece} {k : Nat} {x : Piece} (h : ps[k]? = some x) (h0 : x.2 ≠ 0) {v : Int} {s : Nat} (hs : (dsym x.2).1.toNat = s) (hv : (distK ps k)[s]? = some v) : (distK ps k).set s (v + 1) = distK ps (k + 1) := by
  have hl : s < 30 := by have := (List.getElem?_eq_some_iff.1 hv).1; rw [distK_len] at this; exact this
  have e : v = distC (ps.take k) s := by
    unfold distK at hv
    rw [tab_get _ hl] at hv
    injection hv with hv
    exact hv.symm
  unfold distK
  rw [tab_set]
  refine tab_congr fun j hj => ?_
  rw [takeP_snoc h, distC_snoc, hs]
  by_cases hjs : j = s
  · subst hjs
    rw [if_pos rfl, if_pos ⟨h0, rfl⟩, e]
  · rw [if_neg hjs, if_neg (fun e => hjs e.2.symm)]
    omega
theorem distK_skip {ps : List Piece} {k : Nat} {x : Piece} (h : ps[k]? = some x) (h0 : x.2 = 0) : distK ps k = distK ps (k + 1) := by
  unfold distK
  refine tab_congr fun j hj => ?_
  rw [takeP_snoc h, distC_snoc, if_neg (fun e => e.1 h0)]
  omega
theorem badL_fits {zs : List Int} (hl : zs.length ≤ 320) (hb : ∀ z ∈ zs, 0 ≤ z ∧ z ≤ 4294967296) {most : Int} (h1 : 5 ≤ most) (h2 : most ≤ 15) (hm : (zs.length : Int) ≤ 2 ^ most.toNat) : badL zs most = 0 := by
  refine badL_ok ⟨by omega, h2⟩ hl hb ?_
  have h3 : (usedI zs zs.length).length ≤ zs.length := by
    unfold usedI
    rw [List.length_map]
    have := List.length_filter_le (fun i => decide (0 < zs.getD i 0)) (List.range zs.length)
    rw [List.length_range] at this
    exact this
  have e : ((2 ^ most.toNat : Nat) : Int) = (2 : Int) ^ most.toNat := by simp
  omega

/-- The counts in memory behind the first k pieces. -/
def LensAt (w wr : World) (b1 b2 : Nat) (ps : List Piece) (k : Nat) : Prop :=
  Blk wr b1 3 ((litK ps k).map (Value.int .i64)).toArray ∧ Blk wr b2 3 ((distK ps k).map (Value.int .i64)).toArray ∧ Upd [] w wr
theorem LensAt.upd {w wr wr' : World} {b1 b2 : Nat} {ps : List Piece} {k : Nat} (h : LensAt w wr b1 b2 ps k) (hu : Upd [] wr wr') : LensAt w wr' b1 b2 ps k := ⟨h.1.upd hu (by simp), h.2.1.upd hu (by simp), h.2.2.trans hu⟩
theorem LensAt.drewN {w wr : World} {b1 b2 : Nat} {ps : List Piece} {k : Nat} (h : LensAt w wr b1 b2 ps k) (q : Nat) : LensAt w (wr.drewN q) b1 b2 ps k := ⟨h.1, h.2.1, h.2.2.drewN q⟩
theorem blk_index (b n : Nat) (kd : IntKind) (i : Int) (k : Nat) (hi : i = k) (hk : k < n) : ∀ W : World, (Instr.indexAt 64 (.slice (some ⟨b, 0, none⟩) n n) (.int kd i)).run Tryz.prog W = .ok (.pointer (some ⟨b, k, none⟩)) W := by
  intro W
  subst hi
  have h := run_index el_int (A := some ⟨b, 0, none⟩) (n := n) (fun _ => rfl) n kd k hk W
  rw [Nat.mul_one] at h
  simpa [bl, ofs] using h
theorem blk_cellI {w : World} {b : Nat} {zs : List Int} {t : TypeId} (h : Blk w b t (zs.map (Value.int .i64)).toArray) {k : Nat} {v : Int} (hv : zs[k]? = some v) : w.cell? ⟨b, k, none⟩ = some (.int .i64 v) := by
  rw [h.cell]
  simp [hv]
theorem blk_setI {w : World} {b : Nat} {zs : List Int} {t : TypeId} (h : Blk w b t (zs.map (Value.int .i64)).toArray) (k : Nat) (v : Int) : Blk (w.setCell ⟨b, k, none⟩ (.int .i64 v)) b t ((zs.set k v).map (Value.int .i64)).toArray := by
  have := h.set k (.int .i64 v)
  rw [List.setIfInBounds_toArray, ← List.map_set] at this
  exact this
/-- Noughts, as cells. -/
def zeroA (n : Nat) : Array Value := ((List.replicate n (0 : Int)).map (Value.int .i64)).toArray
theorem make_zero (n : Nat) (W : World) (hn : n ≤ 1000) : (Instr.makeSlice 64 (.int .i64 n) (.int .i64 n)).run Tryz.prog W = .ok (.slice (some ⟨W.heap.size, 0, none⟩) n n) (W.alloc (.cells (zeroA n) 3)) := by
  obtain ⟨i, hi, hz, hs, hb⟩ := info_get el_int
  have h := run_make (P := Tryz.prog) W 64 3 i (.int .i64 0) Tryz.underlying64 hi hz .i64 .i64 n n (by omega) (by omega) (by rw [hb]; omega) (by omega)
  rw [Int.toNat_natCast, hs, Nat.mul_one] at h
  have e : madeCells (Value.int .i64 0).cells n = zeroA n := by
    apply Array.toList_inj.1
    have := toList_madeCells_one (Value.int .i64 0) n
    unfold zeroA
    rw [List.map_replicate]
    exact this
  rw [e] at h
  exact h
theorem litK_zero (ps : List Piece) : litK ps 0 = if ps.length = 0 then ((List.replicate 286 (0 : Int)).set 256 1).set 0 1 else (List.replicate 286 (0 : Int)).set 256 1 := by
  unfold litK
  rw [tab_rep, tab_set]
  by_cases h : ps.length = 0
  · rw [if_pos h, tab_set]
    refine tab_congr fun j hj => ?_
    simp only [List.take_zero, litC, List.countP_nil]
    by_cases h0 : j = 0
    · subst h0; simp [h]
    · have e1 : (if j = 0 ∧ ps.length = 0 then (1 : Int) else 0) = 0 := if_neg (fun e => h0 e.1)
      rw [e1, if_neg h0]
      by_cases h2 : j = 256 <;> simp [h2]
  · rw [if_neg h]
    refine tab_congr fun j hj => ?_
    simp only [List.take_zero, litC, List.countP_nil]
    have e1 : (if j = 0 ∧ ps.length = 0 then (1 : Int) else 0) = 0 := if_neg (fun e => h e.2)
    rw [e1]
    by_cases h2 : j = 256 <;> simp [h2]
theorem distK_zero (ps : List Piece) : distK ps 0 = List.replicate 30 (0 : Int) := by
  unfold distK
  rw [tab_rep]
  exact tab_congr fun j hj => by simp [distC]

def LensPost (w : World) (ps : List Piece) (e : Ending) (w' : World) : Prop :=
  ∃ LA n lc DA m dc L M, e = .returned (.tuple #[.slice LA n lc, .slice DA m dc]) ∧ Ints .i64 w' LA n (L.take n) ∧ Ints .i64 w' DA m (M.take m) ∧ LensOk (litZ ps) 15 L ∧ LensOk (distZ ps) 15 M ∧ (ToldIs L 257 n ∧ n = toldN L 257) ∧ (ToldIs M 1 m ∧ m = toldN M 1) ∧ n ≤ lc ∧ m ≤ dc ∧ w.heap.size ≤ bl LA ∧ w.heap.size ≤ bl DA ∧ Upd [] w w'

set_option maxRecDepth 100000 in
set_option maxHeartbeats 4000000 in
theorem dlengths_any (PA : Option Addr) (pc : Nat) (ps : List Piece) (w : World) (hs : Seg w 2 PA ps.length (pcells ps)) (hok : PiecesOk ps []) (hl : ps.length ≤ 3000) :
    Calls Tryz.prog 30 #[.slice PA ps.length pc] w (LensPost w ps) := by
  have HS := Lib.hid hs
  have HOK := Lib.hid hok
  obtain ⟨N, hN⟩ : ∃ N, N = ps.length := ⟨_, rfl⟩
  have HN := Lib.hid hN
  rw [← hN] at hl ⊢
  clear hs hok hN
  have m286 : ∀ W : World, (Instr.makeSlice 64 (.int .i64 286) (.int .i64 286)).run Tryz.prog W = .ok (.slice (some ⟨W.heap.size, 0, none⟩) 286 286) (W.alloc (.cells (zeroA 286) 3)) := fun W => make_zero 286 W (by omega)
  have m30 : ∀ W : World, (Instr.makeSlice 64 (.int .i64 30) (.int .i64 30)).run Tryz.prog W = .ok (.slice (some ⟨W.heap.size, 0, none⟩) 30 30) (W.alloc (.cells (zeroA 30) 3)) := fun W => make_zero 30 W (by omega)
  go_enter Tryz.func30, Tryz.ntmps30
  go_upto_region 1 with (fail)
  go_cut [4, 5] from 14 (fun a b wc => ∃ b1 b2, a = .slice (some ⟨b1, 0, none⟩) 286 286 ∧ b = .slice (some ⟨b2, 0, none⟩) 30 30 ∧ Hid (b1 ≠ b2 ∧ w.heap.size ≤ b1 ∧ w.heap.size ≤ b2 ∧ Blk wc b1 3 (zeroA 286) ∧ Blk wc b2 3 (zeroA 30) ∧ Upd [] w wc))
  case first =>
    go_region
    all_goals
      go_wp2
      go_meet
    case rel =>
      refine ⟨w.heap.size, w.heap.size + 1, rfl, rfl, by omega, Nat.le_refl _, by omega, ((Blk.new w _ _).alloc _).drew, ?_, (((Upd.refl [] w).alloc _).alloc _).drew⟩
      have := Blk.new (w.alloc (.cells (zeroA 286) 3)) 3 (zeroA 30)
      rw [World.size_alloc] at this
      exact this.drew
    case rel =>
      refine ⟨w.heap.size + 1, w.heap.size, rfl, rfl, by omega, by omega, Nat.le_refl _, ?_, ((Blk.new w _ _).alloc _).drew, (((Upd.refl [] w).alloc _).alloc _).drew⟩
      have := Blk.new (w.alloc (.cells (zeroA 30) 3)) 3 (zeroA 286)
      rw [World.size_alloc] at this
      exact this.drew
  case rest =>
    clear m286 m30
    obtain ⟨b1, b2, rfl, rfl, HC⟩ := hcut
    have HB12 : Hid (b1 ≠ b2 ∧ w.heap.size ≤ b1 ∧ w.heap.size ≤ b2) := ⟨HC.out.1, HC.out.2.1, HC.out.2.2.1⟩
    have z256 : wc.cell? ⟨b1, 256, none⟩ = some (.int .i64 0) := by rw [HC.out.2.2.2.1.cell]; simp [zeroA]
    have zf := HC.out.2.2.2.1.frozen 256
    go_upto_if 20 with (fail)
    have HC2 : Hid (Blk (wc.setCell ⟨b1, 256, none⟩ (.int .i64 1)) b1 3 (((List.replicate 286 (0 : Int)).set 256 1).map (Value.int .i64)).toArray ∧ Blk (wc.setCell ⟨b1, 256, none⟩ (.int .i64 1)) b2 3 (zeroA 30) ∧ Upd [] w (wc.setCell ⟨b1, 256, none⟩ (.int .i64 1))) := by
      refine ⟨?_, HC.out.2.2.2.2.1.far (p := ⟨b1, 256, none⟩) (fun e => HB12.out.1 e.symm) _, HC.out.2.2.2.2.2.put HB12.out.2.1 _⟩
      have := HC.out.2.2.2.1.set 256 (.int .i64 1)
      unfold zeroA at this
      rw [List.setIfInBounds_toArray, ← List.map_set] at this
      exact this
    generalize wc.setCell ⟨b1, 256, none⟩ (.int .i64 1) = wd at HC2 ⊢
    clear HC z256 zf
    go_cut [] from 21 to 22 (fun we => Hid (LensAt w we b1 b2 ps 0))
    case first =>
      have z0 : wd.cell? ⟨b1, 0, none⟩ = some (.int .i64 0) := by rw [HC2.out.1.cell]; simp
      have zf := HC2.out.1.frozen 0
      by_cases hN0 : N = 0
      · have d0 : ((N : Int) == 0) = true := by simp; omega
        have HN0 : Hid (ps.length = 0) := by show _ = _; rw [← HN.out]; exact hN0
        clear hN0
        go_wp2
        go_meet
        case rel =>
          refine ⟨?_, ?_, HC2.out.2.2.put HB12.out.2.1 _⟩
          · have := HC2.out.1.set 0 (.int .i64 1)
            rw [List.setIfInBounds_toArray, ← List.map_set] at this
            rw [litK_zero, if_pos HN0.out]
            exact this
          · rw [distK_zero]
            exact HC2.out.2.1.far (p := ⟨b1, 0, none⟩) (fun e => HB12.out.1 e.symm) _
      · have d0 : ((N : Int) == 0) = false := by simp; omega
        have HN0 : Hid (¬ ps.length = 0) := by show ¬ _; rw [← HN.out]; exact hN0
        clear hN0
        go_wp2
        go_meet
        case rel => exact ⟨by rw [litK_zero, if_neg HN0.out]; exact HC2.out.1, by rw [distK_zero]; exact HC2.out.2.1, HC2.out.2.2⟩
    case rest =>
      clear HC2
      have HA0 := hcut
      clear hcut
      go_wp2
      go_loopw [25] (fun v wr => ∃ k : Nat, k ≤ N ∧ v = .int .i64 k ∧ Hid (LensAt w wr b1 b2 ps k)) (fun v _ => N - (intOf v).toNat)
      case atStart => exact ⟨0, by omega, rfl, HA0⟩
      case round =>
        clear HA0
        obtain ⟨k, hk, rfl, HA⟩ := hrel
        by_cases hlt : k < N
        · have hkp : k < ps.length := by rw [← HN.out]; exact hlt
          obtain ⟨x, hx⟩ : ∃ x, ps[k]? = some x := ⟨_, List.getElem?_eq_getElem hkp⟩
          obtain ⟨hc1, hc2⟩ := pcells_get hx
          have hsw := HS.out.upd HA.out.2.2 (by omega) (by simp)
          have p0 := hsw.cell _ _ hc1
          have p1 := hsw.cell _ _ hc2
          rw [← Nat.add_assoc] at p1
          have ix := hsw.index el_piece pc .i64 k hkp
          rw [← HN.out] at ix
          have hmem := PiecesOk.mem HOK.out x (List.mem_of_getElem? hx)
          have HX := Lib.hid hx
          obtain ⟨x1, x2⟩ := x
          simp only at p0 p1 hmem
          clear hsw hc1 hc2 hkp hx
          go_upto_region 8 with (fail)
          obtain ⟨w1, hw1⟩ : ∃ w1 : World, w1 = wr.alloc (.cells #[.int .i32 x1, .int .i32 x2] 106) := ⟨_, rfl⟩
          obtain ⟨g7, hg7⟩ : ∃ g7, g7 = wr.heap.size := ⟨_, rfl⟩
          rw [← hw1, ← hg7]
          have hu1 : Upd [] wr w1 := by rw [hw1]; exact (Upd.refl _ _).alloc _
          have HK1 : Hid (Blk w1 g7 106 #[.int .i32 x1, .int .i32 x2]) := by rw [hw1, hg7]; exact Blk.new _ _ _
          have HA1 : Hid (LensAt w w1 b1 b2 ps k) := HA.out.upd hu1
          clear hu1 hw1 hg7 p0 p1 ix HA
          have e0 := HK1.out.cell 0
          have e1 := HK1.out.cell 1
          simp at e0 e1
          have hll := litK_len ps k
          have hdl := distK_len ps k
          rcases hmem with ⟨rfl, h1, h2⟩ | ⟨h1, h2, h3, h4⟩
          · obtain ⟨s, rfl⟩ := Int.eq_ofNat_of_zero_le h1
            have hs : s < 286 := by omega
            obtain ⟨v, hv⟩ : ∃ v, (litK ps k)[s]? = some v := ⟨_, List.getElem?_eq_getElem (by omega)⟩
            have hvb := litK_bd ps k v (List.mem_of_getElem? hv)
            rw [← HN.out] at hvb
            have cv := blk_cellI HA1.out.1 hv
            have fv := HA1.out.1.frozen s
            have iv := blk_index b1 286 .i32 (s : Int) s rfl hs
            have HSTEP : Hid (LensAt w (w1.setCell ⟨b1, s, none⟩ (.int .i64 (v + 1))) b1 b2 ps (k + 1)) := by
              refine ⟨?_, ?_, HA1.out.2.2.put HB12.out.2.1 _⟩
              · have := blk_setI HA1.out.1 s (v + 1)
                rw [litK_step HX.out (by simp [psym]) hv] at this
                exact this
              · rw [← distK_skip HX.out rfl]
                exact HA1.out.2.1.far (p := ⟨b1, s, none⟩) (fun e => HB12.out.1 e.symm) _
            clear hv hll hdl h1 h2
            go_wp2
            go_roundw
            case rel => exact ⟨k + 1, by omega, by go_num, HSTEP⟩
            case measure => simp [intOf]; omega
          · obtain ⟨size, rfl⟩ := Int.eq_ofNat_of_zero_le (show 0 ≤ x1 by omega)
            obtain ⟨back, rfl⟩ := Int.eq_ofNat_of_zero_le (show 0 ≤ x2 by omega)
            have d0 : ((back : Int) == 0) = false := by simp; omega
            have hsz : 3 ≤ size ∧ size ≤ 258 := by omega
            have hbk : 1 ≤ back ∧ back ≤ 32768 := by omega
            have hlb := lsym_bd (size := (size : Int)) h1 h2
            have hdb := dsym_ok (back := (back : Int)) h3 h4
            obtain ⟨s, hs⟩ : ∃ s : Nat, (s : Int) = (lsym size).1 := ⟨(lsym size).1.toNat, by omega⟩
            obtain ⟨t, ht⟩ : ∃ t : Nat, (t : Int) = (dsym back).1 := ⟨(dsym back).1.toNat, by have := hdb.lo; omega⟩
            have hs2 : s < 286 := by omega
            have ht2 : t < 30 := by have := hdb.hi; omega
            obtain ⟨v, hv⟩ : ∃ v, (litK ps k)[s]? = some v := ⟨_, List.getElem?_eq_getElem (by omega)⟩
            obtain ⟨u, hu⟩ : ∃ u, (distK ps k)[t]? = some u := ⟨_, List.getElem?_eq_getElem (by omega)⟩
            have hvb := litK_bd ps k v (List.mem_of_getElem? hv)
            have hub := distK_bd ps k u (List.mem_of_getElem? hu)
            rw [← HN.out] at hvb hub
            have HV : Hid ((litK ps k)[s]? = some v ∧ (litK ps k).set s (v + 1) = litK ps (k + 1)) := ⟨hv, litK_step HX.out (by simp only [psym]; rw [if_neg (by omega)]; omega) hv⟩
            have HU : Hid ((distK ps k)[t]? = some u ∧ (distK ps k).set t (u + 1) = distK ps (k + 1)) := ⟨hu, distK_step HX.out (by simp only; omega) (by simp only; omega) hu⟩
            have HLS : Hid (∀ W : World, Calls Tryz.prog 60 #[.int .i64 size] W (fun e w' => e = .returned (.tuple #[.int .i64 s, .int .i64 (lsym size).2.1, .int .i64 ((lsym size).2.2 : Nat)]) ∧ ∃ m, w' = W.drewN m)) := fun W => by
              rw [hs]
              exact lengthSymbol_any size hsz.1 hsz.2 W
            have HDS : Hid (∀ W : World, Calls Tryz.prog 61 #[.int .i64 back] W (fun e w' => e = .returned (.tuple #[.int .i64 t, .int .i64 (dsym back).2.1, .int .i64 ((dsym back).2.2 : Nat)]) ∧ ∃ m, w' = W.drewN m)) := fun W => by
              rw [ht]
              exact distanceSymbol_any back hbk.1 hbk.2 W
            generalize (lsym size).2.1 = lm at HLS
            generalize (lsym size).2.2 = ln at HLS
            generalize (dsym back).2.1 = dm at HDS
            generalize (dsym back).2.2 = dn at HDS
            have hsz2 : size ≤ 258 := hsz.2
            have hbk2 : back ≤ 32768 := hbk.2
            clear hv hu hll hdl h1 h2 h3 h4 hlb hdb hs ht hsz hbk
            go_wp2_with fail
            refine (HLS.out _).mono ?_
            rintro e w2 ⟨rfl, m2, rfl⟩
            have HK2 : Hid (Blk (w1.drewN m2) g7 106 #[.int .i32 size, .int .i32 back]) := HK1.out
            have HA2 : Hid (LensAt w (w1.drewN m2) b1 b2 ps k) := HA1.out.drewN m2
            generalize w1.drewN m2 = w2 at HK2 HA2 ⊢
            clear HK1 HA1 e0 e1 HLS
            have e1 := HK2.out.cell 1
            simp at e1
            have cv := blk_cellI HA2.out.1 HV.out.1
            have fv := HA2.out.1.frozen s
            have iv := blk_index b1 286 .i64 (s : Int) s rfl hs2
            go_upto_region 12 with (fail)
            have HK3 : Hid (Blk (w2.setCell ⟨b1, s, none⟩ (.int .i64 (v + 1))) g7 106 #[.int .i32 size, .int .i32 back]) := HK2.out.far (p := ⟨b1, s, none⟩) (HK2.out.ne HA2.out.1 (by decide)) _
            have HA3 : Hid (Blk (w2.setCell ⟨b1, s, none⟩ (.int .i64 (v + 1))) b1 3 ((litK ps (k + 1)).map (Value.int .i64)).toArray ∧ Blk (w2.setCell ⟨b1, s, none⟩ (.int .i64 (v + 1))) b2 3 ((distK ps k).map (Value.int .i64)).toArray ∧ Upd [] w (w2.setCell ⟨b1, s, none⟩ (.int .i64 (v + 1)))) := by
              refine ⟨?_, HA2.out.2.1.far (p := ⟨b1, s, none⟩) (fun e => HB12.out.1 e.symm) _, HA2.out.2.2.put HB12.out.2.1 _⟩
              have := blk_setI HA2.out.1 s (v + 1)
              rw [HV.out.2] at this
              exact this
            generalize w2.setCell ⟨b1, s, none⟩ (.int .i64 (v + 1)) = w3 at HK3 HA3 ⊢
            clear HK2 HA2 e1 cv fv iv
            have e1 := HK3.out.cell 1
            simp at e1
            go_wp2_with fail
            refine (HDS.out _).mono ?_
            rintro e w4 ⟨rfl, m4, rfl⟩
            have HA4 : Hid (Blk (w3.drewN m4) b1 3 ((litK ps (k + 1)).map (Value.int .i64)).toArray ∧ Blk (w3.drewN m4) b2 3 ((distK ps k).map (Value.int .i64)).toArray ∧ Upd [] w (w3.drewN m4)) := ⟨HA3.out.1, HA3.out.2.1, HA3.out.2.2.drewN m4⟩
            generalize w3.drewN m4 = w4 at HA4 ⊢
            clear HK3 HA3 e1 HDS
            have cu := blk_cellI HA4.out.2.1 HU.out.1
            have fu := HA4.out.2.1.frozen t
            have iu := blk_index b2 30 .i64 (t : Int) t rfl ht2
            have HSTEP : Hid (LensAt w (w4.setCell ⟨b2, t, none⟩ (.int .i64 (u + 1))) b1 b2 ps (k + 1)) := by
              refine ⟨HA4.out.1.far (p := ⟨b2, t, none⟩) HB12.out.1 _, ?_, HA4.out.2.2.put HB12.out.2.2 _⟩
              have := blk_setI HA4.out.2.1 t (u + 1)
              rw [HU.out.2] at this
              exact this
            go_wp2
            go_roundw
            case rel => exact ⟨k + 1, by omega, by go_num, HSTEP⟩
            case measure => simp [intOf]; omega
        · obtain rfl : k = N := by omega
          have HZ : Hid (Ints .i64 wr (some ⟨b1, 0, none⟩) 286 (litZ ps) ∧ Ints .i64 wr (some ⟨b2, 0, none⟩) 30 (distZ ps) ∧ Upd [] w wr) := by
            have hA := HA.out
            rw [HN.out] at hA
            refine ⟨?_, ?_, hA.2.2⟩
            · rw [← litK_all]; have := hA.1.seg; simp only [List.size_toArray, List.length_map, litK_len] at this; exact this
            · rw [← distK_all]; have := hA.2.1.seg; simp only [List.size_toArray, List.length_map, distK_len] at this; exact this
          clear HA
          have HBL : Hid (badL (litZ ps) 15 = 0 ∧ badL (distZ ps) 15 = 0) := by
            have hN3 : ps.length ≤ 3000 := by rw [← HN.out]; exact hl
            refine ⟨badL_fits (by rw [litZ_len]; omega) (fun z hz => ?_) (by omega) (by omega) (by rw [litZ_len]; decide), badL_fits (by rw [distZ_len]; omega) (fun z hz => ?_) (by omega) (by omega) (by rw [distZ_len]; decide)⟩
            · rw [← litK_all] at hz; have := litK_bd ps _ z hz; omega
            · rw [← distK_all] at hz; have := distK_bd ps _ z hz; omega
          go_wp2_with fail
          refine (lengths_any (some ⟨b1, 0, none⟩) 286 286 (litZ ps) 15 wr HZ.out.1).mono ?_
          rintro e w5 (⟨hb, _⟩ | ⟨_, LA, lc, L, rfl, hoL, hL, hu5⟩)
          · exact absurd HBL.out.1 hb
          have HLL := Lib.hid hoL
          have HLK := Lib.hid hL
          have HD5 := Lib.hid (HZ.out.2.1.upd hu5 (by simp))
          have HU5 : Hid (Upd [] w w5) := HZ.out.2.2.trans hu5
          have HUR : Hid (w.heap.size ≤ wr.heap.size) := HZ.out.2.2.size
          have HUR5 : Hid (w.heap.size ≤ w5.heap.size) := HU5.out.size
          clear hoL hL hu5 HZ
          go_wp2_with fail
          refine (lengths_any (some ⟨b2, 0, none⟩) 30 30 (distZ ps) 15 w5 HD5.out).mono ?_
          rintro e w6 (⟨hb, _⟩ | ⟨_, DA, dc, M, rfl, hoM, hM, hu6⟩)
          · exact absurd HBL.out.2 hb
          have HMM := Lib.hid hoM
          have HMK := Lib.hid hM
          have HL6 := Lib.hid (HLL.out.upd hu6 (by simp))
          have HU6 : Hid (Upd [] w w6) := HU5.out.trans hu6
          clear hoM hM hu6 HLL HU5 HD5
          obtain ⟨n, hn⟩ : ∃ n, n = toldN L 257 := ⟨_, rfl⟩
          obtain ⟨m, hm⟩ : ∃ m, m = toldN M 1 := ⟨_, rfl⟩
          have htL := toldN_is L 257
          have htM := toldN_is M 1
          rw [← hn] at htL
          rw [← hm] at htM
          have HLlen : Hid (L.length = 286) := by show _ = _; rw [HLK.out.len, litZ_len]
          have HMlen : Hid (M.length = 30) := by show _ = _; rw [HMK.out.len, distZ_len]
          have HT : Hid ((ToldIs L 257 n ∧ n = toldN L 257) ∧ ToldIs M 1 m ∧ m = toldN M 1) := ⟨⟨htL, hn⟩, htM, hm⟩
          have hn286 : n ≤ 286 := by have := htL.1; rw [HLlen.out] at this; exact this
          have hm30 : m ≤ 30 := by have := htM.1; rw [HMlen.out] at this; exact this
          have hlc : 286 ≤ lc := HL6.out.le
          have hdc : 30 ≤ dc := HMM.out.le
          have HCL : Hid (∀ q, Calls Tryz.prog 65 #[.slice LA 286 lc, .int .i64 257] (w6.drewN q) fun e w' => e = .returned (.int .i64 (n : Nat)) ∧ w6.drewN q = w') := fun q => by
            rw [hn]
            exact told_any LA 286 lc L 257 _ ((Ints.ofOwn HL6.out).drewN q) (by omega) (by omega) (by omega)
          have HCM : Hid (∀ q, Calls Tryz.prog 65 #[.slice DA 30 dc, .int .i64 1] (w6.drewN q) fun e w' => e = .returned (.int .i64 (m : Nat)) ∧ w6.drewN q = w') := fun q => by
            rw [hm]
            exact told_any DA 30 dc M 1 _ ((Ints.ofOwn HMM.out).drewN q) (by omega) (by omega) (by omega)
          clear hn hm htL htM
          have cutL := run_cut_h el_int LA 286 lc .i64 (n : Int) n rfl (by omega)
          have cutM := run_cut_h el_int DA 30 dc .i64 (m : Int) m rfl (by omega)
          go_wp2
          go_quiet (first | (go_at_call 65; with_reducible exact quietL (HCL.out _)) | (go_at_call 65; with_reducible exact quietL (HCM.out _)))
          go_wp2
          go_ret2
          refine ⟨LA, n, lc, DA, m, dc, L, M, rfl, ((Ints.ofOwn HL6.out).drewN _).pre hn286, ((Ints.ofOwn HMM.out).drewN _).pre hm30, HLK.out, HMK.out, HT.out.1, HT.out.2, by omega, by omega, ?_, ?_, HU6.out.drewN _⟩
          · have h1 := (HL6.out.base (HL6.out.obl (by omega))).1; have h2 := HUR.out; omega
          · have h1 := (HMM.out.base (HMM.out.obl (by omega))).1; have h2 := HUR5.out; omega

end Go.Proofs.YtolcdlopgbgilaaGreatDoor

/-! Text StepP. -/
namespace Go.Proofs.YtolcdlopgbgilaaGreatDoor
open Go.RowKit Go.Dray

/-- How long the same length goes on from i. -/
def RunIs (zs : List Int) (i k : Nat) : Prop := 1 ≤ k ∧ i + k ≤ zs.length ∧ (∀ j, j < k → zs.getD (i + j) 0 = zs.getD i 0) ∧ (i + k < zs.length → zs.getD (i + k) 0 ≠ zs.getD i 0)
theorem RunIs.uniq {zs : List Int} {i k k' : Nat} (h : RunIs zs i k) (h' : RunIs zs i k') : k = k' := by
  obtain ⟨a1, a2, a3, a4⟩ := h
  obtain ⟨b1, b2, b3, b4⟩ := h'
  rcases Nat.lt_trichotomy k k' with hlt | heq | hgt
  · exact absurd (b3 k hlt) (a4 (by omega))
  · exact heq
  · exact absurd (a3 k' hgt) (b4 (by omega))
/-- The step for n of the same length that are left, and how many it tells. -/
def em (v : Int) (n : Nat) : Step × Nat :=
  if v ≠ 0 then (if 3 ≤ n then (if n ≤ 6 then ((16, (n : Int) - 3, 2), n) else ((16, 3, 2), 6)) else ((v, 0, 0), 1))
  else if 11 ≤ n then (if n ≤ 138 then ((18, (n : Int) - 11, 7), n) else ((18, 127, 7), 138)) else if 3 ≤ n then ((17, (n : Int) - 3, 3), n) else ((0, 0, 0), 1)
theorem em18a {n : Nat} (h : 11 ≤ n) (h' : n ≤ 138) : em 0 n = ((18, (n : Int) - 11, 7), n) := by unfold em; rw [if_neg (by simp), if_pos h, if_pos h']
theorem em18b {n : Nat} (h : ¬ n ≤ 138) : em 0 n = ((18, 127, 7), 138) := by unfold em; rw [if_neg (by simp), if_pos (by omega), if_neg h]
theorem em17 {n : Nat} (h : ¬ 11 ≤ n) (h' : 3 ≤ n) : em 0 n = ((17, (n : Int) - 3, 3), n) := by unfold em; rw [if_neg (by simp), if_neg h, if_pos h']
theorem emL0 {n : Nat} (h : ¬ 3 ≤ n) : em 0 n = ((0, 0, 0), 1) := by unfold em; rw [if_neg (by simp), if_neg (by omega), if_neg h]
theorem em16a {v : Int} {n : Nat} (hv : v ≠ 0) (h : 3 ≤ n) (h' : n ≤ 6) : em v n = ((16, (n : Int) - 3, 2), n) := by unfold em; rw [if_pos hv, if_pos h, if_pos h']
theorem em16b {v : Int} {n : Nat} (hv : v ≠ 0) (h' : ¬ n ≤ 6) : em v n = ((16, 3, 2), 6) := by unfold em; rw [if_pos hv, if_pos (by omega), if_neg h']
theorem emL {v : Int} {n : Nat} (hv : v ≠ 0) (h : ¬ 3 ≤ n) : em v n = ((v, 0, 0), 1) := by unfold em; rw [if_pos hv, if_neg h]

/-- The steps from a state on: n of length v are left, the row is told up to i. -/
def StIs (zs : List Int) : Int → Nat → Nat → List Step → Prop
  | _, n, i, [] => n = 0 ∧ i = zs.length
  | v, n, i, x :: qs =>
    if n = 0 then i < zs.length ∧ ∃ k, RunIs zs i k ∧ (if zs.getD i 0 ≠ 0 then x = (zs.getD i 0, 0, 0) ∧ StIs zs (zs.getD i 0) (k - 1) (i + k) qs else x = (em 0 k).1 ∧ StIs zs 0 (k - (em 0 k).2) (i + k) qs)
    else x = (em v n).1 ∧ StIs zs v (n - (em v n).2) i qs
theorem StIs.uniq {zs : List Int} : ∀ (ps qs : List Step) (v : Int) (n i : Nat), StIs zs v n i ps → StIs zs v n i qs → ps = qs
  | [], [], _, _, _, _, _ => rfl
  | [], _ :: _, v, n, i, h, h' => by
    unfold StIs at h h'
    rw [if_pos h.1] at h'
    omega
  | _ :: _, [], v, n, i, h, h' => by
    unfold StIs at h h'
    rw [if_pos h'.1] at h
    omega
  | x :: ps, y :: qs, v, n, i, h, h' => by
    unfold StIs at h h'
    by_cases hn : n = 0
    · rw [if_pos hn] at h h'
      obtain ⟨_, k, hk, h⟩ := h
      obtain ⟨_, k', hk', h'⟩ := h'
      obtain rfl := hk.uniq hk'
      by_cases hv : zs.getD i 0 ≠ 0
      · rw [if_pos hv] at h h'
        rw [h.1, h'.1, StIs.uniq ps qs _ _ _ h.2 h'.2]
      · rw [if_neg hv] at h h'
        rw [h.1, h'.1, StIs.uniq ps qs _ _ _ h.2 h'.2]
    · rw [if_neg hn] at h h'
      rw [h.1, h'.1, StIs.uniq ps qs _ _ _ h.2 h'.2]
theorem StIs.any {zs : List Int} {v v' : Int} {i : Nat} {qs : List Step} (h : StIs zs v 0 i qs) : StIs zs v' 0 i qs := by
  cases qs with
  | nil => exact h
  | cons x qs =>
    unfold StIs at h ⊢
    rw [if_pos rfl] at h ⊢
    exact h

/-- These steps lead to a state. -/
def StTo (zs : List Int) (v : Int) (n i : Nat) (ss : List Step) : Prop := ∀ qs, StIs zs v n i qs → StIs zs 0 0 0 (ss ++ qs)
theorem StTo.start (zs : List Int) : StTo zs 0 0 0 [] := fun _ h => h
theorem StTo.any {zs : List Int} {v v' : Int} {i : Nat} {ss : List Step} (h : StTo zs v 0 i ss) : StTo zs v' 0 i ss := fun qs hq => h qs hq.any
theorem StTo.lit {zs : List Int} {v v0 : Int} {i k : Nat} {ss : List Step} (h : StTo zs v0 0 i ss) (hi : i < zs.length) (hr : RunIs zs i k) (hv : zs.getD i 0 = v) (h0 : v ≠ 0) : StTo zs v (k - 1) (i + k) (ss ++ [(v, 0, 0)]) := fun qs hq => by
  rw [List.append_assoc]
  refine h _ ?_
  rw [List.singleton_append]
  unfold StIs
  rw [if_pos rfl]
  refine ⟨hi, k, hr, ?_⟩
  rw [hv, if_pos h0]
  exact ⟨rfl, hq⟩
theorem StTo.zero {zs : List Int} {v0 : Int} {i k : Nat} {ss : List Step} (h : StTo zs v0 0 i ss) (hi : i < zs.length) (hr : RunIs zs i k) (hv : zs.getD i 0 = 0) : StTo zs 0 k (i + k) ss := fun qs hq => by
  have hk := hr.1
  refine h _ ?_
  cases qs with
  | nil =>
    unfold StIs at hq
    omega
  | cons x qs =>
    unfold StIs at hq ⊢
    rw [if_neg (by omega)] at hq
    rw [if_pos rfl]
    refine ⟨hi, k, hr, ?_⟩
    rw [hv, if_neg (by simp)]
    exact hq
theorem StTo.emit {zs : List Int} {v : Int} {n i : Nat} {ss : List Step} (h : StTo zs v n i ss) (hn : 0 < n) {x : Step} {z : Nat} (he : em v n = (x, z)) : StTo zs v (n - z) i (ss ++ [x]) := fun qs hq => by
  rw [List.append_assoc]
  refine h _ ?_
  rw [List.singleton_append]
  unfold StIs
  rw [if_neg (by omega), he]
  exact ⟨rfl, hq⟩
theorem StTo.done {zs : List Int} {v : Int} {ss : List Step} (h : StTo zs v 0 zs.length ss) : StIs zs 0 0 0 ss := by
  have := h [] ⟨rfl, rfl⟩
  rwa [List.append_nil] at this

end Go.Proofs.YtolcdlopgbgilaaGreatDoor

/-! Text DefJ. -/
namespace Go.Proofs.YtolcdlopgbgilaaGreatDoor
open Go.RowKit Go.Dray

theorem el_step : El Tryz.prog 112 115 (.agg #[.int .i64 0, .int .i64 0, .int .i64 0]) 3 24 := ⟨Tryz.underlying112, by kernel_rfl, rfl, by omega⟩

/-- A step's cells. -/
def scell (x : Step) : List Value := [.int .i64 x.1, .int .i64 x.2.1, .int .i64 x.2.2]
def scells (ss : List Step) : List Value := ss.flatMap scell
theorem scells_snoc (ss : List Step) (x : Step) : scells (ss ++ [x]) = scells ss ++ [.int .i64 x.1, .int .i64 x.2.1, .int .i64 x.2.2] := by simp [scells, scell]
theorem scells_get {ss : List Step} {k : Nat} {x : Step} (h : ss[k]? = some x) : (scells ss)[k * 3]? = some (.int .i64 x.1) ∧ (scells ss)[k * 3 + 1]? = some (.int .i64 x.2.1) ∧ (scells ss)[k * 3 + 2]? = some (.int .i64 x.2.2) := by
  induction ss generalizing k with
  | nil => simp at h
  | cons y ss ih =>
    have e : scells (y :: ss) = .int .i64 y.1 :: .int .i64 y.2.1 :: .int .i64 y.2.2 :: scells ss := by simp [scells, scell]
    rw [e]
    match k, h with
    | 0, h => simp at h; subst h; exact ⟨rfl, rfl, rfl⟩
    | k + 1, h =>
      have := ih (k := k) (by simpa using h)
      rw [show (k + 1) * 3 = k * 3 + 1 + 1 + 1 from by omega]
      exact ⟨by simpa using this.1, by simpa using this.2.1, by simpa using this.2.2⟩

theorem Seg.tri (w : World) (x y z : Value) (t : TypeId) : Seg (w.alloc (.cells #[x, y, z] t)) 3 (some ⟨w.heap.size, 0, none⟩) 1 [x, y, z] :=
  ⟨rfl, fun _ => rfl, fun k u hu => by
    match k, hu with
    | 0, hu => simp at hu; subst hu; simp [bl, ofs]
    | 1, hu => simp at hu; subst hu; simp [bl, ofs]
    | 2, hu => simp at hu; subst hu; simp [bl, ofs]⟩

/-- A row of one length that is not nought. -/
def Cst (zs : List Int) : Prop := ∃ a, a ≠ 0 ∧ ∀ z ∈ zs, z = a
def H16 (ss : List Step) : Prop := ∃ x ∈ ss, x.1 = 16
theorem H16.snoc {ss : List Step} (h : H16 ss) (x : Step) : H16 (ss ++ [x]) := by
  obtain ⟨y, hy, h16⟩ := h
  exact ⟨y, by simp [hy], h16⟩

theorem step_lit {r : List Int} {v : Int} (h0 : 0 ≤ v) (h1 : v ≤ 15) : StepOk r (v, 0, 0) ∧ growS r (v, 0, 0) = r ++ List.replicate 1 v := by
  have e : stepOf v r = (v, 1, 0) := by unfold stepOf; rw [if_neg (by omega), if_neg (by omega), if_neg (by omega)]
  refine ⟨⟨h0, by simp only; omega, by simp only [e]; rfl, by simp, by simp, fun h => by simp only at h; omega⟩, ?_⟩
  unfold growS
  simp only [e]
  rfl
theorem step_16 {r : List Int} {v : Int} (hr : r.getLastD 0 = v) (hn : r ≠ []) {k : Nat} (h1 : 3 ≤ k) (h2 : k ≤ 6) {m : Int} (hm : m = (k : Int) - 3) : StepOk r (16, m, 2) ∧ growS r (16, m, 2) = r ++ List.replicate k v := by
  subst hm
  have e : stepOf 16 r = (r.getLastD 0, 3, 2) := rfl
  refine ⟨⟨by simp, by simp, by simp only [e]; rfl, by simp only; omega, by simp only; show (k : Int) - 3 < 4; omega, fun _ => hn⟩, ?_⟩
  unfold growS
  simp only [e]
  rw [hr, show (3 + ((k : Int) - 3)).toNat = k from by omega]
theorem step_17 {r : List Int} {k : Nat} (h1 : 3 ≤ k) (h2 : k ≤ 10) {m : Int} (hm : m = (k : Int) - 3) : StepOk r (17, m, 3) ∧ growS r (17, m, 3) = r ++ List.replicate k 0 := by
  subst hm
  have e : stepOf 17 r = (0, 3, 3) := rfl
  refine ⟨⟨by simp, by simp, by simp only [e]; rfl, by simp only; omega, by simp only; show (k : Int) - 3 < 8; omega, fun h => by simp at h⟩, ?_⟩
  unfold growS
  simp only [e]
  rw [show (3 + ((k : Int) - 3)).toNat = k from by omega]
theorem step_18 {r : List Int} {k : Nat} (h1 : 11 ≤ k) (h2 : k ≤ 138) {m : Int} (hm : m = (k : Int) - 11) : StepOk r (18, m, 7) ∧ growS r (18, m, 7) = r ++ List.replicate k 0 := by
  subst hm
  have e : stepOf 18 r = (0, 11, 7) := rfl
  refine ⟨⟨by simp, by simp, by simp only [e]; rfl, by simp only; omega, by simp only; show (k : Int) - 11 < 128; omega, fun h => by simp at h⟩, ?_⟩
  unfold growS
  simp only [e]
  rw [show (11 + ((k : Int) - 11)).toNat = k from by omega]
theorem take_rep {zs : List Int} {a k : Nat} {v : Int} (h : ∀ j, j < k → zs.getD (a + j) 0 = v) (hl : a + k ≤ zs.length) : zs.take a ++ List.replicate k v = zs.take (a + k) := by
  induction k with
  | zero => simp
  | succ k ih =>
    rw [List.replicate_succ', ← List.append_assoc, ih (fun j hj => h j (by omega)) (by omega), show a + (k + 1) = a + k + 1 from rfl, List.take_succ_eq_append_getElem (by omega)]
    have := h k (by omega)
    rw [List.getD, List.getElem?_eq_getElem (by omega)] at this
    simp only [Option.getD_some] at this
    rw [this]
theorem take_last {zs : List Int} {a : Nat} (h1 : 1 ≤ a) (h2 : a ≤ zs.length) : (zs.take a).getLastD 0 = zs.getD (a - 1) 0 ∧ zs.take a ≠ [] := by
  refine ⟨?_, fun h => ?_⟩
  · obtain ⟨b, rfl⟩ : ∃ b, a = b + 1 := ⟨a - 1, by omega⟩
    rw [List.take_succ_eq_append_getElem (by omega), Nat.add_sub_cancel, List.getD, List.getElem?_eq_getElem (by omega), List.getLastD_eq_getLast?, List.getLast?_append]
    simp
  · have := congrArg List.length h
    rw [List.length_take, Nat.min_eq_left h2] at this
    simp at this
    omega
theorem one_eq {zs : List Int} {i : Nat} {v : Int} (h : zs.getD i 0 = v) : ∀ j, j < 1 → zs.getD (i + j) 0 = v := fun j hj => by
  obtain rfl : j = 0 := by omega
  exact h
/-- The steps in memory; they tell the first a lengths. -/
structure StAt (w wr : World) (SA : Option Addr) (sc : Nat) (ss : List Step) (zs : List Int) (a : Nat) : Prop where
  own : Own wr w.heap.size 115 3 SA ss.length sc (scells ss)
  ok : StepsOk ss []
  ex : expandS ss [] = zs.take a
  upd : Upd [] w wr
theorem StAt.drewN {w wr : World} {SA : Option Addr} {sc : Nat} {ss : List Step} {zs : List Int} {a : Nat} (h : StAt w wr SA sc ss zs a) (q : Nat) : StAt w (wr.drewN q) SA sc ss zs a := ⟨h.own, h.ok, h.ex, h.upd.drewN q⟩
theorem StAt.len {w wr : World} {SA : Option Addr} {sc : Nat} {ss : List Step} {zs : List Int} {a : Nat} (h : StAt w wr SA sc ss zs a) : ss.length ≤ a := by
  have := expandS_ge ss [] h.ok
  rw [h.ex, List.length_take] at this
  simp at this
  omega
/-- A step is appended. -/
theorem StAt.push {w wr w' : World} {SA SA' : Option Addr} {sc sc' : Nat} {ss : List Step} {zs : List Int} {a : Nat} (h : StAt w wr SA sc ss zs a) {x : Step} {k : Nat} {v : Int} (hx : StepOk (zs.take a) x ∧ growS (zs.take a) x = zs.take a ++ List.replicate k v) (hz : ∀ j, j < k → zs.getD (a + j) 0 = v) (hl : a + k ≤ zs.length)
    {o : Obj} (hown : Own w' w.heap.size 115 3 SA' (ss.length + 1) sc' (scells ss ++ [.int .i64 x.1, .int .i64 x.2.1, .int .i64 x.2.2])) (hu : Upd [ob SA] (wr.alloc o) w') : StAt w w' SA' sc' (ss ++ [x]) zs (a + k) := by
  refine ⟨?_, h.ok.snoc (by rw [h.ex]; exact hx.1), ?_, (h.upd.alloc o).then hu fun b hb => ?_⟩
  · rw [List.length_append, scells_snoc]; exact hown
  · rw [expandS_snoc, h.ex, hx.2, take_rep hz hl]
  · simp at hb
    exact Or.inr (h.own.base hb.symm).1

def StepsPost (w : World) (zs : List Int) (e : Ending) (w' : World) : Prop :=
  ∃ SA sc ss, e = .returned (.slice SA (List.length ss) sc) ∧ StAt w w' SA sc ss zs zs.length ∧ StIs zs 0 0 0 ss ∧ (Cst zs → H16 ss)

set_option maxRecDepth 100000 in
set_option maxHeartbeats 8000000 in
theorem steps_any (A : Option Addr) (n c : Nat) (zs : List Int) (w : World) (hs : Ints .i64 w A n zs) (hz : ∀ z ∈ zs, 0 ≤ z ∧ z ≤ 15) (hn5 : 5 ≤ n) (hn : n ≤ 400) :
    Calls Tryz.prog 66 #[.slice A n c] w (StepsPost w zs) := by
  have HS := Lib.hid hs
  have HZ := Lib.hid hz
  have HL := hs.len
  clear hs hz
  go_enter Tryz.func66, Tryz.ntmps66
  go_wp2
  go_loopw [3, 4] (fun vo vi wr => ∃ (i : Nat) (SA : Option Addr) (sc : Nat) (ss : List Step), i ≤ n ∧ vi = .int .i64 i ∧ vo = .slice SA ss.length sc ∧ Hid (StAt w wr SA sc ss zs i) ∧ Hid (StTo zs 0 0 i ss) ∧ Hid (Cst zs → i = 0 ∨ H16 ss)) (fun _ vi _ => n - (intOf vi).toNat)
  case atStart => exact ⟨0, none, 0, [], by omega, rfl, rfl, ⟨Own.nil _ _ _ _, trivial, rfl, Upd.refl _ _⟩, StTo.start zs, fun _ => Or.inl rfl⟩
  case round =>
    obtain ⟨i, SA, sc, ss, hi, rfl, rfl, HT, HTO, HC⟩ := hrel
    by_cases hlt : i < n
    · obtain ⟨v, HV, cv0⟩ := HS.out.int hlt
      have hvb := HZ.out v (List.mem_of_getElem? HV.out)
      have HVD : Hid (zs.getD i 0 = v) := by show _ = _; rw [List.getD, HV.out]; rfl
      have hupd := HT.out.upd
      have cv := ((HS.out.upd hupd (by simp)).cell HV.out)
      have HSR := Lib.hid (HS.out.upd hupd (by simp))
      have iv := HS.out.index el_int c .i64 i hlt
      have HSZ : Hid (w.heap.size ≤ wr.heap.size) := hupd.size
      clear cv0 hupd HV
      go_upto_block 2 with (fail)
      go_cut [5] from 12 to 32 (fun v5 wx => ∃ k m : Nat, 1 ≤ k ∧ i + k ≤ n ∧ v5 = .int .i64 k ∧ wx = wr.drewN m ∧ Hid (∀ j, j < k → zs.getD (i + j) 0 = v) ∧ Hid (RunIs zs i k) ∧ Hid (Cst zs → (i = 0 ∧ i + k = n) ∨ H16 ss))
      case first =>
        go_wp2_with fail
        go_loopw [5] (fun v5 wx => ∃ k m : Nat, 1 ≤ k ∧ i + k ≤ n ∧ v5 = .int .i64 k ∧ wx = wr.drewN m ∧ Hid (∀ j, j < k → zs.getD (i + j) 0 = v)) (fun v5 _ => n - (intOf v5).toNat)
        case atStart => exact ⟨1, 0, by omega, by omega, rfl, rfl, one_eq HVD.out⟩
        case round =>
          obtain ⟨k, m, hk1, hk2, rfl, rfl, HE⟩ := hrel
          have wik : IntKind.i64.wrap ((i : Int) + k) = (i : Int) + k := by rw [IntKind.wrap_i64]; omega
          by_cases hik : i + k < n
          · have d1 : decide ((i : Int) + k < n) = true := by simp; omega
            obtain ⟨u, HU, cu⟩ := HSR.out.int (i := i + k) hik
            have iu := HS.out.indexI el_int c .i64 ((i : Int) + k) (i + k) (by omega) hik
            have HUD : Hid (zs.getD (i + k) 0 = u) := by show _ = _; rw [List.getD, HU.out]; rfl
            by_cases huv : u = v
            · subst huv
              go_wp2
              go_quiet (fail)
              clear wik
              go_wp2
              go_roundw
              case rel =>
                refine ⟨k + 1, m + nq, by omega, by omega, by go_num, by first | rfl | rw [World.drewN_drewN], fun j hj => ?_⟩
                by_cases hjk : j < k
                · exact HE.out j hjk
                · obtain rfl : j = k := by omega
                  exact HUD.out
              case measure => simp [intOf]; omega
            · have d2 : (u == v) = false := by simpa using huv
              have HCI : Hid (Cst zs → (i = 0 ∧ i + k = n) ∨ H16 ss) := fun ⟨a, _, ha⟩ => by
                have h1 := ha u (List.mem_of_getElem? HU.out)
                have h2 : v = a := by
                  obtain ⟨x, hx, _⟩ := HS.out.int hlt
                  have := HVD.out
                  rw [List.getD, hx.out] at this
                  exact this.symm.trans (ha x (List.mem_of_getElem? hx.out))
                exact absurd (h1.trans h2.symm) huv
              have HRN : Hid (RunIs zs i k) := ⟨hk1, by rw [HL.out]; exact hk2, fun j hj => by rw [HE.out j hj, HVD.out], fun _ => by rw [HUD.out, HVD.out]; exact huv⟩
              clear huv
              go_wp2
              go_quiet (fail)
              clear wik
              go_wp2
              go_meet
              case rel => exact ⟨k, m + nq, hk1, hk2, rfl, by first | rfl | rw [World.drewN_drewN], HE.out, HRN.out, HCI.out⟩
          · have hik2 : i + k = n := by omega
            have HIK := Lib.hid hik2
            have HRN : Hid (RunIs zs i k) := ⟨hk1, by rw [HL.out]; exact hk2, fun j hj => by rw [HE.out j hj, HVD.out], fun h => by rw [HL.out] at h; omega⟩
            have d1 : decide ((i : Int) + k < n) = false := by simp; omega
            clear hik2
            go_wp2
            go_quiet (fail)
            clear wik
            go_wp2
            go_meet
            case rel =>
              refine ⟨k, m + nq, hk1, hk2, rfl, by first | rfl | rw [World.drewN_drewN], HE.out, HRN.out, fun h => ?_⟩
              rcases HC.out h with h1 | h1
              · exact Or.inl ⟨h1, HIK.out⟩
              · exact Or.inr h1
      case rest =>
        obtain ⟨k, m, hk1, hk2, rfl, rfl, HE, HRN, HCI⟩ := hcut
        have hiz : i < zs.length := by rw [HL.out]; exact hlt
        have HTQ : Hid (StAt w (wr.drewN m) SA sc ss zs i) := HT.out.drewN m
        have HSZQ : Hid (w.heap.size ≤ (wr.drewN m).heap.size) := HSZ.out
        have cl : (wr.drewN m).cell? ⟨bl A, ofs A + (i + k - 1), none⟩ = some (.int .i64 v) := by
          obtain ⟨y, hy, hc⟩ := (HSR.out.drewN m).int (i := i + k - 1) (by omega)
          have h1 := HE.out (k - 1) (by omega)
          rw [show i + (k - 1) = i + k - 1 from by omega, List.getD, hy.out] at h1
          rw [hc, show y = v from h1]
        have il := HS.out.indexI el_int c .i64 ((i : Int) + k - 1) (i + k - 1) (by omega) (by omega)
        have HEND : Hid (i + k ≤ zs.length) := by show _ ≤ _; rw [HL.out]; exact hk2
        clear HT HC cv HSR HSZ iv
        generalize wr.drewN m = wq at HTQ HSZQ cl ⊢
        by_cases hv0 : v = 0
        · subst hv0
          have HNC : Hid (Cst zs → False) := fun ⟨a, ha0, ha⟩ => by
            obtain ⟨x, hx, _⟩ := HS.out.int hlt
            have := HVD.out
            rw [List.getD, hx.out] at this
            exact ha0 ((ha x (List.mem_of_getElem? hx.out)).symm.trans this)
          have HTZ : Hid (StTo zs 0 k (i + k) ss) := HTO.out.zero hiz HRN.out HVD.out
          clear HCI HVD HTO HRN hiz
          go_wp2
          go_loopw [3, 5] (fun vo vq wy => ∃ (q : Nat) (SB : Option Addr) (sb : Nat) (tt : List Step), q ≤ k ∧ vq = .int .i64 q ∧ vo = .slice SB tt.length sb ∧ Hid (StAt w wy SB sb tt zs (i + k - q)) ∧ Hid (StTo zs 0 q (i + k) tt)) (fun _ vq _ => (intOf vq).toNat)
          case atStart => exact ⟨k, SA, sc, ss, Nat.le_refl _, rfl, rfl, by rw [Nat.add_sub_cancel]; exact HTQ, HTZ⟩
          case round =>
            clear HTQ HTZ HSZQ cl il
            obtain ⟨q, SB, sb, tt, hqk, rfl, rfl, HX, HXT⟩ := hrel
            have hsl : tt.length ≤ 400 := by have := HX.out.len; omega
            have HBZ : Hid (w.heap.size ≤ wr.heap.size) := HX.out.upd.size
            by_cases hq0 : 0 < q
            · by_cases h11 : 11 ≤ q
              · by_cases h138 : q ≤ 138
                · have e0 : decide ((0 : Int) < q) = true := by simp; omega
                  have e11 : decide ((11 : Int) ≤ q) = true := by simp; omega
                  have m1 : (q : Int) ≤ 138 := by omega
                  go_wp2_with (at_builtin; refine wpList_app rfl rfl el_step rfl (HX.out.own.alloc _) rfl (Seg.tri wr _ _ _ _) (by simp [Value.oneCell']) (by simp only [maxLen]; omega) (by omega) (by have := HBZ.out; simp; omega) ?_; intro SC sc2 w2 hown hu hfr; have HY := Lib.hid (HX.out.push (x := (18, (q : Int) - 11, 7)) (step_18 (k := q) (by omega) (by omega) rfl) (fun j hj => by rw [show i + k - q + j = i + (k - q + j) from by omega]; exact HE.out _ (by omega)) (by have := HEND.out; omega) hown hu); clear hown hu hfr)
                  go_roundw
                  case rel => exact ⟨q - q, SC, sc2, tt ++ [(18, (q : Int) - 11, 7)], by omega, by simp, by rw [List.length_append]; rfl, by rw [show i + k - (q - q) = i + k - q + q from by omega]; exact HY, HXT.out.emit hq0 (em18a h11 h138)⟩
                  case measure => simp [intOf]; omega
                · have e0 : decide ((0 : Int) < q) = true := by simp; omega
                  have e11 : decide ((11 : Int) ≤ q) = true := by simp; omega
                  have m1 : (138 : Int) < q := by omega
                  go_wp2_with (at_builtin; refine wpList_app rfl rfl el_step rfl (HX.out.own.alloc _) rfl (Seg.tri wr _ _ _ _) (by simp [Value.oneCell']) (by simp only [maxLen]; omega) (by omega) (by have := HBZ.out; simp; omega) ?_; intro SC sc2 w2 hown hu hfr; have HY := Lib.hid (HX.out.push (x := (18, 127, 7)) (step_18 (k := 138) (by omega) (by omega) (by decide)) (fun j hj => by rw [show i + k - q + j = i + (k - q + j) from by omega]; exact HE.out _ (by omega)) (by have := HEND.out; omega) hown hu); clear hown hu hfr)
                  go_roundw
                  case rel => exact ⟨q - 138, SC, sc2, tt ++ [(18, 127, 7)], by omega, by rw [show ((q - 138 : Nat) : Int) = (q : Int) - 138 from by omega], by rw [List.length_append]; rfl, by rw [show i + k - (q - 138) = i + k - q + 138 from by omega]; exact HY, HXT.out.emit hq0 (em18b h138)⟩
                  case measure => simp [intOf]; omega
              · by_cases h3 : 3 ≤ q
                · have e0 : decide ((0 : Int) < q) = true := by simp; omega
                  have e11 : decide ((11 : Int) ≤ q) = false := by simp; omega
                  have e3 : decide ((3 : Int) ≤ q) = true := by simp; omega
                  go_wp2_with (at_builtin; refine wpList_app rfl rfl el_step rfl (HX.out.own.alloc _) rfl (Seg.tri wr _ _ _ _) (by simp [Value.oneCell']) (by simp only [maxLen]; omega) (by omega) (by have := HBZ.out; simp; omega) ?_; intro SC sc2 w2 hown hu hfr; have HY := Lib.hid (HX.out.push (x := (17, (q : Int) - 3, 3)) (step_17 (k := q) (by omega) (by omega) rfl) (fun j hj => by rw [show i + k - q + j = i + (k - q + j) from by omega]; exact HE.out _ (by omega)) (by have := HEND.out; omega) hown hu); clear hown hu hfr)
                  go_roundw
                  case rel => exact ⟨q - q, SC, sc2, tt ++ [(17, (q : Int) - 3, 3)], by omega, by simp, by rw [List.length_append]; rfl, by rw [show i + k - (q - q) = i + k - q + q from by omega]; exact HY, HXT.out.emit hq0 (em17 h11 h3)⟩
                  case measure => simp [intOf]; omega
                · have e0 : decide ((0 : Int) < q) = true := by simp; omega
                  have e11 : decide ((11 : Int) ≤ q) = false := by simp; omega
                  have e3 : decide ((3 : Int) ≤ q) = false := by simp; omega
                  go_wp2_with (at_builtin; refine wpList_app rfl rfl el_step rfl (HX.out.own.alloc _) rfl (Seg.tri wr _ _ _ _) (by simp [Value.oneCell']) (by simp only [maxLen]; omega) (by omega) (by have := HBZ.out; simp; omega) ?_; intro SC sc2 w2 hown hu hfr; have HY := Lib.hid (HX.out.push (x := (0, 0, 0)) (step_lit (v := 0) (by omega) (by omega)) (fun j hj => by rw [show i + k - q + j = i + (k - q + j) from by omega]; exact HE.out _ (by omega)) (by have := HEND.out; omega) hown hu); clear hown hu hfr)
                  go_roundw
                  case rel => exact ⟨q - 1, SC, sc2, tt ++ [(0, 0, 0)], by omega, by rw [show ((q - 1 : Nat) : Int) = (q : Int) - 1 from by omega], by rw [List.length_append]; rfl, by rw [show i + k - (q - 1) = i + k - q + 1 from by omega]; exact HY, HXT.out.emit hq0 (emL0 h3)⟩
                  case measure => simp [intOf]; omega
            · obtain rfl : q = 0 := by omega
              go_wp2
              go_roundw
              case rel => exact ⟨i + k, SB, sb, tt, hk2, by go_num, rfl, HX, HXT, fun h => (HNC.out h).elim⟩
              case measure => simp [intOf]; omega
        · have d0 : (v != 0) = true := by simp [hv0]
          have d0' : (v == 0) = false := by simp [hv0]
          have hv15 := hvb.2
          have hv00 := hvb.1
          have hsl0 : ss.length ≤ 400 := by have := HTQ.out.len; omega
          have HV0 := Lib.hid hv0
          have HTZ : Hid (StTo zs v (k - 1) (i + k) (ss ++ [(v, 0, 0)])) := HTO.out.lit hiz HRN.out HVD.out hv0
          clear hv0 HTO HRN hiz
          go_wp2_with (at_builtin; refine wpList_app rfl rfl el_step rfl (HTQ.out.own.alloc _) rfl (Seg.tri wq _ _ _ _) (by simp [Value.oneCell']) (by simp only [maxLen]; omega) (by omega) (by have := HSZQ.out; simp; omega) ?_; intro SA1 sc1 w1 hown hu hfr; have HT1 := Lib.hid (HTQ.out.push (x := (v, 0, 0)) (step_lit hv00 hv15) (one_eq HVD.out) (by have := HEND.out; omega) hown hu); clear hown hu hfr)
          go_loopw [3, 5] (fun vo vq wy => ∃ (q : Nat) (SB : Option Addr) (sb : Nat) (tt : List Step), q + 1 ≤ k ∧ vq = .int .i64 q ∧ vo = .slice SB tt.length sb ∧ Hid (StAt w wy SB sb tt zs (i + k - q)) ∧ Hid (StTo zs v q (i + k) tt) ∧ Hid (Cst zs → (i = 0 ∧ i + k = n ∧ q + 1 = k) ∨ H16 tt)) (fun _ vq _ => (intOf vq).toNat)
          case atStart =>
            refine ⟨k - 1, SA1, sc1, ss ++ [(v, 0, 0)], by omega, by rw [show ((k - 1 : Nat) : Int) = (k : Int) - 1 from by omega], by rw [List.length_append]; rfl, by rw [show i + k - (k - 1) = i + 1 from by omega]; exact HT1, HTZ, fun h => ?_⟩
            rcases HCI.out h with h1 | h1
            · exact Or.inl ⟨h1.1, h1.2, by omega⟩
            · exact Or.inr (h1.snoc _)
          case round =>
            clear HTQ HTZ HSZQ HT1 cl il HCI
            obtain ⟨q, SB, sb, tt, hqk, rfl, rfl, HX, HXT, HCX⟩ := hrel
            have hsl : tt.length ≤ 400 := by have := HX.out.len; omega
            have HBZ : Hid (w.heap.size ≤ wr.heap.size) := HX.out.upd.size
            have HLAST : Hid ((zs.take (i + k - q)).getLastD 0 = v ∧ zs.take (i + k - q) ≠ []) := by
              have h1 := take_last (zs := zs) (a := i + k - q) (by omega) (by have := HEND.out; omega)
              refine ⟨?_, h1.2⟩
              rw [h1.1, show i + k - q - 1 = i + (k - q - 1) from by omega]
              exact HE.out _ (by omega)
            by_cases hq0 : 0 < q
            · by_cases h3 : 3 ≤ q
              · by_cases h6 : q ≤ 6
                · have e0 : decide ((0 : Int) < q) = true := by simp; omega
                  have e3 : decide ((3 : Int) ≤ q) = true := by simp; omega
                  have m1 : (q : Int) ≤ 6 := by omega
                  go_wp2_with (at_builtin; refine wpList_app rfl rfl el_step rfl (HX.out.own.alloc _) rfl (Seg.tri wr _ _ _ _) (by simp [Value.oneCell']) (by simp only [maxLen]; omega) (by omega) (by have := HBZ.out; simp; omega) ?_; intro SC sc2 w2 hown hu hfr; have HY := Lib.hid (HX.out.push (x := (16, (q : Int) - 3, 2)) (step_16 HLAST.out.1 HLAST.out.2 (k := q) (by omega) (by omega) rfl) (fun j hj => by rw [show i + k - q + j = i + (k - q + j) from by omega]; exact HE.out _ (by omega)) (by have := HEND.out; omega) hown hu); clear hown hu hfr)
                  go_roundw
                  case rel => exact ⟨q - q, SC, sc2, tt ++ [(16, (q : Int) - 3, 2)], by omega, by simp, by rw [List.length_append]; rfl, by rw [show i + k - (q - q) = i + k - q + q from by omega]; exact HY, HXT.out.emit hq0 (em16a HV0.out h3 h6), fun _ => Or.inr ⟨(16, (q : Int) - 3, 2), by simp, rfl⟩⟩
                  case measure => simp [intOf]; omega
                · have e0 : decide ((0 : Int) < q) = true := by simp; omega
                  have e3 : decide ((3 : Int) ≤ q) = true := by simp; omega
                  have m1 : (6 : Int) < q := by omega
                  go_wp2_with (at_builtin; refine wpList_app rfl rfl el_step rfl (HX.out.own.alloc _) rfl (Seg.tri wr _ _ _ _) (by simp [Value.oneCell']) (by simp only [maxLen]; omega) (by omega) (by have := HBZ.out; simp; omega) ?_; intro SC sc2 w2 hown hu hfr; have HY := Lib.hid (HX.out.push (x := (16, 3, 2)) (step_16 HLAST.out.1 HLAST.out.2 (k := 6) (by omega) (by omega) (by decide)) (fun j hj => by rw [show i + k - q + j = i + (k - q + j) from by omega]; exact HE.out _ (by omega)) (by have := HEND.out; omega) hown hu); clear hown hu hfr)
                  go_roundw
                  case rel => exact ⟨q - 6, SC, sc2, tt ++ [(16, 3, 2)], by omega, by rw [show ((q - 6 : Nat) : Int) = (q : Int) - 6 from by omega], by rw [List.length_append]; rfl, by rw [show i + k - (q - 6) = i + k - q + 6 from by omega]; exact HY, HXT.out.emit hq0 (em16b HV0.out h6), fun _ => Or.inr ⟨(16, 3, 2), by simp, rfl⟩⟩
                  case measure => simp [intOf]; omega
              · have e0 : decide ((0 : Int) < q) = true := by simp; omega
                have e3 : decide ((3 : Int) ≤ q) = false := by simp; omega
                go_wp2_with (at_builtin; refine wpList_app rfl rfl el_step rfl (HX.out.own.alloc _) rfl (Seg.tri wr _ _ _ _) (by simp [Value.oneCell']) (by simp only [maxLen]; omega) (by omega) (by have := HBZ.out; simp; omega) ?_; intro SC sc2 w2 hown hu hfr; have HY := Lib.hid (HX.out.push (x := (v, 0, 0)) (step_lit hv00 hv15) (fun j hj => by rw [show i + k - q + j = i + (k - q + j) from by omega]; exact HE.out _ (by omega)) (by have := HEND.out; omega) hown hu); clear hown hu hfr)
                go_roundw
                case rel => exact ⟨q - 1, SC, sc2, tt ++ [(v, 0, 0)], by omega, by rw [show ((q - 1 : Nat) : Int) = (q : Int) - 1 from by omega], by rw [List.length_append]; rfl, by rw [show i + k - (q - 1) = i + k - q + 1 from by omega]; exact HY, HXT.out.emit hq0 (emL HV0.out h3), fun h => (by rcases HCX.out h with h1 | h1; omega; exact Or.inr (h1.snoc _))⟩
                case measure => simp [intOf]; omega
            · obtain rfl : q = 0 := by omega
              go_wp2
              go_roundw
              case rel =>
                refine ⟨i + k, SB, sb, tt, hk2, by go_num, rfl, HX, HXT.out.any, fun h => ?_⟩
                rcases HCX.out h with h1 | h1
                · omega
                · exact Or.inr h1
              case measure => simp [intOf]; omega
    · obtain rfl : i = n := by omega
      go_wp2
      go_ret
      refine ⟨SA, sc, ss, rfl, by rw [HL.out]; exact HT.out, (show StTo zs 0 0 zs.length ss by rw [HL.out]; exact HTO.out).done, fun h => ?_⟩
      rcases HC.out h with h1 | h1
      · omega
      · exact h1

end Go.Proofs.YtolcdlopgbgilaaGreatDoor
