/- The walk of drayagelaw03.HuffNext. -/
import Derived.Test.YtndgijcjpkoooaaHuffAwake
import Derived.Test.YtndgijcjpkoooaaHuffM
import Derived.Test.YtndgijcjpkoooaaLawKit
namespace Go.Proofs.Ytndgijcjpkoooaa
open Go.RowKit Go.Dray

theorem Tree.upd {w w' : World} {B g : Nat} {A : Option Addr} {n c : Nat} {zs : List Int} {P : List (List Bool)} {L : List (Option Nat)} (h : Tree w B g A n c zs P) (hu : Upd L w w') (hg : some g ∉ L) (hA : ∀ k, ob A = some k → some k ∉ L) : Tree w' B g A n c zs P :=
  ⟨h.1.upd hu hg, h.2.1.upd hu hA, h.2.2.1, h.2.2.2⟩

set_option maxRecDepth 100000 in
set_option maxHeartbeats 1000000 in
theorem huffNext_walk (A : Option Addr) (n c : Nat) (zs : List Int) (D : Option Addr) (m d : Nat) (ys : List Int) (w : World) (hin : InInts .i64 w A n c zs) (hin2 : InInts .u8 w D m d ys) :
    Calls Try.prog 5 #[.slice A n c, .slice D m d] w fun e w' => e = .returned (.bool true) ∧ Below w.heap.size w w' := by
  obtain ⟨hs, -, -, -⟩ := hin
  obtain ⟨hd, -, -, hwf⟩ := hin2
  have HY : Hid (∀ z ∈ ys, 0 ≤ z ∧ z ≤ 255) := fun z hz => bounds_u8 (hwf z hz)
  have HL := hs.len
  have HLY := hd.len
  clear hwf
  by_cases hbig : 60 < n
  · have d1 : decide ((60 : Int) < n) = true := by simp; omega
    go_enter Try.func5, Try.ntmps5
    go_wp2_with (go_at_call 8; refine (awake_any _).mono ?_; rintro e w1 ⟨rfl, hu1⟩)
    go_ret
    exact ⟨rfl, hu1.below (Nat.le_refl _) (by simp)⟩
  · have d1 : decide ((60 : Int) < n) = false := by simp; omega
    have hn : n ≤ 60 := by omega
    by_cases hbig2 : 60 < m
    · have d2 : decide ((60 : Int) < m) = true := by simp; omega
      go_enter Try.func5, Try.ntmps5
      go_wp2_with (go_at_call 8; refine (awake_any _).mono ?_; rintro e w1 ⟨rfl, hu1⟩)
      go_ret
      exact ⟨rfl, hu1.below (Nat.le_refl _) (by simp)⟩
    · have d2 : decide ((60 : Int) < m) = false := by simp; omega
      have hm : m ≤ 60 := by omega
      clear hbig hbig2
      by_cases hk : chk zs = 0
      · have HK := Lib.hid hk
        clear hk
        go_enter Try.func5, Try.ntmps5
        go_wp2_with (go_at_call 8; refine (awake_any _).mono ?_; rintro e w1 ⟨rfl, hu1⟩)
        have hs1 : Ints .i64 w1 A n zs := hs.upd hu1 (by simp)
        refine (newTree_ok A n c zs w1 hs1 HK.out).mono ?_
        rintro e w2 ⟨g, TA, tn, tc, P, rfl, hg, ht2, hv⟩
        have hu2 := hu1.then hv (by simp)
        have hs2 : Ints .i64 w2 A n zs := hs1.upd hv (by simp)
        have hgw : w.heap.size ≤ g := by have := hu1.size; omega
        have hB1 : w.heap.size ≤ w1.heap.size := hu1.size
        clear hv hu1 hs1 hg
        go_wp2_with fail
        refine (rcodes_ok A n c zs w2 hs2 HK.out).mono ?_
        rintro e w3 ⟨C, cc, rfl, hc3, hv⟩
        have hu3 := hu2.then hv (by simp)
        have ht3 := ht2.upd hv (by simp) (by simp)
        have hB2 : w.heap.size ≤ w2.heap.size := hu2.size
        clear hv hu2 hs2 ht2
        go_wp2_with fail
        have hd3 : Ints .u8 w3 D m ys := hd.upd hu3 (by simp)
        refine (newReader_any D m d ys w3 hd3 (by omega)).mono ?_
        rintro e w4 ⟨gr, RA, rc, rfl, hgr, hr4, hv⟩
        have hu4 := hu3.then hv (by simp)
        have ht4 := ht3.upd hv (by simp) (by simp)
        have hc4 := hc3.upd hv (by simp)
        have hgrw : w.heap.size ≤ gr := by have := hu3.size; omega
        have hB3 : w.heap.size ≤ w3.heap.size := hu3.size
        clear hv hu3 ht3 hc3 hd3 hgr
        go_wp2_with fail
        have hd4 : Ints .u8 w4 D m ys := hd.upd hu4 (by simp)
        refine (rbits_any D m d ys w4 hd4 HY.out (by omega)).mono ?_
        rintro e w5 ⟨X, xc, rfl, hx5, hv⟩
        have hu5 := hu4.then hv (by simp)
        have ht5 := ht4.upd hv (by simp) (by simp)
        have hc5 := hc4.upd hv (by simp)
        have hr5 := hr4.upd hv (by simp) (by simp)
        clear hv hu4 ht4 hc4 hr4 hd4
        go_wp2_with fail
        go_loopw [10, 11] (fun x i wr => ∃ k : Nat, k ≤ 500 ∧ i = .int .i64 k ∧ ∃ (p L : Nat) (R : Option Addr) (rcap : Nat), x = .slice R L rcap ∧ p + L = 8 * m ∧ L ≤ rcap ∧ Hid (0 < L → bl R = bl X) ∧ Ints .i64 wr R L (((bitsOf ys).drop p).map b2i) ∧ Tree wr w1.heap.size g TA tn tc zs P ∧ Own wr w2.heap.size 3 1 C n cc (codesV zs) ∧ Rd wr w3.heap.size gr RA m rc ys p ∧ Own wr w4.heap.size 3 1 X (8 * m) xc (((bitsOf ys).map b2i).map (Value.int .i64)) ∧ Upd [] w wr) (fun _ i _ => 500 - (intOf i).toNat)
        case atStart => exact ⟨0, by omega, rfl, 0, 8 * m, X, xc, rfl, by omega, hx5.le, fun _ => rfl, Ints.ofOwn hx5, ht5, hc5, hr5, hx5, hu5⟩
        case round =>
          obtain ⟨k, hk, rfl, p, L, R, rcap, rfl, hpL, hLc, HBR, hR, ht, hc, hr, hx, hu⟩ := hrel
          clear ht5 hc5 hr5 hx5 hu5
          have hpm : p ≤ 8 * m := by omega
          have hPL : L = 8 * m - p := by omega
          have hng : g ≠ gr := ht.1.ne hr.1 (by decide)
          by_cases hlt : k < 500
          · have HPL := Lib.hid hPL
            have HPM := Lib.hid hpL
            clear hPL hpL
            go_wp2_with fail
            refine (next_any ht hr hpm (by omega) HY.out).mono ?_
            rintro e w6 ⟨kk, sym, err, rfl, hnx, hr6, hv⟩
            have hne1 : ∀ b, ob X = some b → b ≠ gr := fun b hb h => by rw [h] at hb; exact hx.neBlk hr.1 (by decide) hb
            have hne2 : ∀ b, ob C = some b → b ≠ gr := fun b hb h => by rw [h] at hb; exact hc.neBlk hr.1 (by decide) hb
            have hne3 : ∀ b, ob TA = some b → b ≠ gr := fun b hb h => by rw [h] at hb; exact ht.2.1.neBlk hr.1 (by decide) hb
            have hneR : 0 < L → bl R ≠ gr := fun h => by
              rw [HBR.out h]
              exact hne1 _ (hx.obl (by have := HPM.out; omega))
            have hu6 : Upd [] w w6 := hu.then hv (fun b hb => by simp at hb; right; omega)
            have ht6 := ht.upd hv (by simp; exact hng) (fun b hb => by simp; exact hne3 b hb)
            have hc6 := hc.upd hv (fun b hb => by simp; exact hne2 b hb)
            have hx6 := hx.upd hv (fun b hb => by simp; exact hne1 b hb)
            have hR6 := hR.upd hv (fun h => by simp; exact hneR h)
            have hs6 : Ints .i64 w6 A n zs := hs.upd hu6 (by simp)
            clear hu ht hc hx hR hr hv hneR hne1 hne2 hne3
            have hc6i : Ints .i64 w6 C n (tab n (codeOf zs)) := by have := Ints.ofOwn hc6; rw [HL.out] at this; exact this
            go_wp2_with fail
            refine (rnext_any A C R n L c cc rcap zs ((bitsOf ys).drop p) w6 hs6 hc6i hR6 hLc (by have := HPM.out; omega) HK.out).mono ?_
            rintro e w7 ⟨kk', sym', err', R', rc', rfl, hnx', hR7, hLc', hbl', hv⟩
            obtain ⟨rfl, rfl, rfl⟩ := hnx.unique hnx'
            have hu7 := hu6.then hv (by simp)
            have ht7 := ht6.upd hv (by simp) (by simp)
            have hc7 := hc6.upd hv (by simp)
            have hx7 := hx6.upd hv (by simp)
            have hr7 := hr6.upd hv (by simp) (by simp)
            have hbsl : ((bitsOf ys).drop p).length = L := by rw [List.length_drop, bitsOf_len, HLY.out]; have := HPM.out; omega
            rw [hbsl] at hR7 hLc' hbl' ⊢
            have hkL : kk ≤ L := by rw [← hbsl]; exact hnx.1
            obtain ⟨L', hL'⟩ : ∃ L', L' = L - kk := ⟨_, rfl⟩
            rw [← hL'] at hR7 hLc' hbl' ⊢
            rw [List.drop_drop] at hR7
            have hsum : p + kk + L' = 8 * m := by have := HPM.out; omega
            have HBR' : Hid (0 < L' → bl R' = bl X) := fun h => (hbl' h).trans (HBR.out (by omega))
            clear hv hu6 ht6 hc6 hx6 hr6 hs6 hR6 hc6i hnx hnx' hL' hbsl hbl' HBR
            have HSUM := Lib.hid hsum
            go_wp2
            obtain ⟨w8, hw8⟩ : ∃ w8 : World, w8 = w7.alloc (.cells #[.int .i64 sym, .slice R' L' rc', .int .i64 err] 49) := ⟨_, rfl⟩
            obtain ⟨gx, hgx⟩ : ∃ gx, gx = w7.heap.size := ⟨_, rfl⟩
            rw [← hw8, ← hgx]
            have hv8 : Upd [] w7 w8 := by rw [hw8]; exact (Upd.refl _ _).alloc _
            have hb8 : Blk w8 gx 49 #[.int .i64 sym, .slice R' L' rc', .int .i64 err] := by rw [hw8, hgx]; exact Blk.new _ _ _
            have hu8 := hu7.then hv8 (by simp)
            have ht8 := ht7.upd hv8 (by simp) (by simp)
            have hc8 := hc7.upd hv8 (by simp)
            have hx8 := hx7.upd hv8 (by simp)
            have hr8 := hr7.upd hv8 (by simp) (by simp)
            have hR8 : Ints .i64 w8 R' L' (((bitsOf ys).drop (p + kk)).map b2i) := hR7.upd hv8 (by simp)
            clear hv8 hw8 hu7 ht7 hc7 hx7 hr7 hR7 hgx
            have b0 := hb8.cell 0
            have b1 := hb8.cell 1
            have b2 := hb8.cell 2
            simp at b0 b1 b2
            have x1 : IntKind.i64.wrap (8 * (m : Int)) = 8 * (m : Int) := IntWalk.i64_in _ (by omega)
            have x2 : IntKind.i64.wrap (8 * (m : Int) - L') = 8 * (m : Int) - L' := IntWalk.i64_in _ (by omega)
            have x3 : (((p + kk : Nat) : Int) != 8 * (m : Int) - L') = false := by simp; omega
            have x4 : ((p : Int) + kk != 8 * (m : Int) - L') = false := by simp; omega
            clear hsum
            go_quiet ((go_at_call 20; exact quietL (at_any (hr8.drewN _))))
            clear x1 x2 x3 x4
            obtain ⟨w9, hw9⟩ : ∃ w9 : World, w9 = w8.drewN nq := ⟨_, rfl⟩
            rw [← hw9]
            have hb9 : Blk w9 gx 49 #[.int .i64 sym, .slice R' L' rc', .int .i64 err] := by rw [hw9]; exact hb8
            have hu9 : Upd [] w w9 := by rw [hw9]; exact hu8.drewN _
            have ht9 : Tree w9 w1.heap.size g TA tn tc zs P := by rw [hw9]; exact ht8
            have hc9 : Own w9 w2.heap.size 3 1 C n cc (codesV zs) := by rw [hw9]; exact hc8
            have hx9 : Own w9 w4.heap.size 3 1 X (8 * m) xc (((bitsOf ys).map b2i).map (Value.int .i64)) := by rw [hw9]; exact hx8
            have hr9 : Rd w9 w3.heap.size gr RA m rc ys (p + kk) := by rw [hw9]; exact hr8
            have hR9 : Ints .i64 w9 R' L' (((bitsOf ys).drop (p + kk)).map b2i) := by rw [hw9]; exact hR8.drewN _
            clear hw9 hb8 hu8 ht8 hc8 hx8 hr8 hR8 b0 b1 b2
            have b1 := hb9.cell 1
            simp at b1
            by_cases he : err = 0
            · have hed : (err != 0) = false := by simp [he]
              clear he
              go_wp2
              go_roundw
              case rel => exact ⟨k + 1, by omega, by go_num, p + kk, L', R', rc', rfl, HSUM.out, hLc', HBR', hR9, ht9, hc9, hr9, hx9, hu9⟩
              case measure => simp [intOf]; omega
            · have hed : (err != 0) = true := by simp [he]
              clear he
              go_wp2
              go_ret
              exact ⟨rfl, hu9.below (Nat.le_refl _) (by simp)⟩
          · obtain rfl : k = 500 := by omega
            go_wp2
            go_ret
            exact ⟨rfl, hu.below (Nat.le_refl _) (by simp)⟩
      · have HK := Lib.hid hk
        have hkb : (chk zs != 0) = true := by simp [hk]
        clear hk
        go_enter Try.func5, Try.ntmps5
        go_wp2_with (go_at_call 8; refine (awake_any _).mono ?_; rintro e w1 ⟨rfl, hu1⟩)
        have hs1 : Ints .i64 w1 A n zs := hs.upd hu1 (by simp)
        refine (newTree_err A n c zs w1 hs1 HK.out).mono ?_
        rintro e w2 ⟨rfl, rfl⟩
        go_wp2_with fail
        refine (rcodes_err A n c zs w1 hs1 HK.out).mono ?_
        rintro e w2 ⟨rfl, rfl⟩
        go_wp2_with fail
        go_ret
        exact ⟨rfl, hu1.below (Nat.le_refl _) (by simp)⟩

end Go.Proofs.Ytndgijcjpkoooaa
