/- The walk of Hash.sha256. -/
import Derived.Test.YthojhmkahjpflaaDoorDigSha1
namespace Go.Proofs.YthojhmkahjpflaaDoor
open Go.RowKit Go.Dray

def sig0 (x : Int) : Int := bits .xor .u32 (bits .xor .u32 (rotl x 25) (rotl x 14)) (x / 8)
def sig1 (y : Int) : Int := bits .xor .u32 (bits .xor .u32 (rotl y 15) (rotl y 13)) (y / 1024)
/-- The words of SHA-256, n more than the block's sixteen. -/
def ext2 (ws : List Int) : Nat → List Int
  | 0 => ws
  | n + 1 => ext2 ws n ++ [add32 (add32 (add32 (at0 (ext2 ws n) n) (sig0 (at0 (ext2 ws n) (1 + n)))) (at0 (ext2 ws n) (9 + n))) (sig1 (at0 (ext2 ws n) (14 + n)))]
theorem ext2_len (ws : List Int) (h : ws.length = 16) (n : Nat) : (ext2 ws n).length = 16 + n := by
  induction n with
  | zero => exact h
  | succ n ih => rw [ext2, List.length_append, ih]; rfl
/-- Eight numbers. -/
structure Q8 where
  (a b c d e f g h : Int)
def shaT1 (xs : List Int) (i : Nat) (q : Q8) : Int :=
  add32 (add32 (add32 (add32 q.h (bits .xor .u32 (bits .xor .u32 (rotl q.e 26) (rotl q.e 21)) (rotl q.e 7))) (bits .xor .u32 (bits .and .u32 q.e q.f) (bits .and .u32 (not32 q.e) q.g))) (shaT i)) (at0 xs i)
def shaT2 (q : Q8) : Int := add32 (bits .xor .u32 (bits .xor .u32 (rotl q.a 30) (rotl q.a 19)) (rotl q.a 10)) (bits .xor .u32 (bits .xor .u32 (bits .and .u32 q.a q.b) (bits .and .u32 q.a q.c)) (bits .and .u32 q.b q.c))
def shaStep (xs : List Int) (i : Nat) (q : Q8) : Q8 := ⟨add32 (shaT1 xs i q) (shaT2 q), q.a, q.b, q.c, add32 q.d (shaT1 xs i q), q.e, q.f, q.g⟩
def shaRun (xs : List Int) : Nat → Q8 → Q8
  | 0, q => q
  | n + 1, q => shaStep xs n (shaRun xs n q)
def Q8.list (q : Q8) : List Int := [q.a, q.b, q.c, q.d, q.e, q.f, q.g, q.h]

/-- Eight cells anew. -/
theorem blk_set8 {w : World} {g : Nat} {t : TypeId} {x0 x1 x2 x3 x4 x5 x6 x7 y0 y1 y2 y3 y4 y5 y6 y7 : Value} (h : Blk w g t #[x0, x1, x2, x3, x4, x5, x6, x7]) : Blk ((((((((w.setCell ⟨g, 0, none⟩ y0).setCell ⟨g, 1, none⟩ y1).setCell ⟨g, 2, none⟩ y2).setCell ⟨g, 3, none⟩ y3).setCell ⟨g, 4, none⟩ y4).setCell ⟨g, 5, none⟩ y5).setCell ⟨g, 6, none⟩ y6).setCell ⟨g, 7, none⟩ y7) g t #[y0, y1, y2, y3, y4, y5, y6, y7] := by
  have := (((((((h.set 0 y0).set 1 y1).set 2 y2).set 3 y3).set 4 y4).set 5 y5).set 6 y6).set 7 y7
  simpa using this
theorem hash_set8 {w : World} {g : Nat} {kind : Int} {x0 x1 x2 x3 x4 x5 x6 x7 y0 y1 y2 y3 y4 y5 y6 y7 : Int} {tl : List Int} {size : Int} (h : HashAt w g kind [x0, x1, x2, x3, x4, x5, x6, x7] tl size) : HashAt ((((((((w.setCell ⟨g, 1, none⟩ (.int .u32 y0)).setCell ⟨g, 2, none⟩ (.int .u32 y1)).setCell ⟨g, 3, none⟩ (.int .u32 y2)).setCell ⟨g, 4, none⟩ (.int .u32 y3)).setCell ⟨g, 5, none⟩ (.int .u32 y4)).setCell ⟨g, 6, none⟩ (.int .u32 y5)).setCell ⟨g, 7, none⟩ (.int .u32 y6)).setCell ⟨g, 8, none⟩ (.int .u32 y7)) g kind [y0, y1, y2, y3, y4, y5, y6, y7] tl size :=
  (((((((h.setState (i := 0) (by omega) y0).setState (i := 1) (by omega) y1).setState (i := 2) (by omega) y2).setState (i := 3) (by omega) y3).setState (i := 4) (by omega) y4).setState (i := 5) (by omega) y5).setState (i := 6) (by omega) y6).setState (i := 7) (by omega) y7
theorem upd_set8 {L : List (Option Nat)} {w0 w : World} {g o0 o1 o2 o3 o4 o5 o6 o7 : Nat} {y0 y1 y2 y3 y4 y5 y6 y7 : Value} (h : Upd L w0 w) (hg : some g ∈ L) : Upd L w0 ((((((((w.setCell ⟨g, o0, none⟩ y0).setCell ⟨g, o1, none⟩ y1).setCell ⟨g, o2, none⟩ y2).setCell ⟨g, o3, none⟩ y3).setCell ⟨g, o4, none⟩ y4).setCell ⟨g, o5, none⟩ y5).setCell ⟨g, o6, none⟩ y6).setCell ⟨g, o7, none⟩ y7) :=
  (((((((h.putIn hg _).putIn hg _).putIn hg _).putIn hg _).putIn hg _).putIn hg _).putIn hg _).putIn hg _

set_option maxRecDepth 100000 in
set_option maxHeartbeats 1000000 in
theorem sha256_any (w : World) (g : Nat) (kind s0 s1 s2 s3 s4 s5 s6 s7 : Int) (tl : List Int) (size : Int) (ws : List Int) (h : HashAt w g kind [s0, s1, s2, s3, s4, s5, s6, s7] tl size) (hT : Tabs w) (hg : 3 ≤ g) (hw : ws.length = 16) :
    Calls Tryd.prog 35 #[.pointer (some ⟨g, 0, none⟩), .agg (ws.map (Value.int .u32)).toArray] w
      (HashPost w g kind (shaRun (ext2 ws 48) 64 ⟨s0, s1, s2, s3, s4, s5, s6, s7⟩).list tl size) := by
  have HT := Lib.hid hT
  clear hT
  have HH := Lib.hid h
  have HW := Lib.hid hw
  have hnot := run_not32
  have hadd := add32_wrap
  have hadd' := add32_mod
  have hz := (zero_of_info (P := Tryd.prog) (t := 54) (v := .agg (arrC [] 64)) (n := 64) (by kernel_rfl)).1
  clear h hw
  go_enter Tryd.func35, Tryd.ntmps35
  go_wp2
  obtain ⟨B, HB⟩ : ∃ B, Hid (B = w.heap.size) := ⟨_, rfl⟩
  have HN : Hid (Blk ((w.alloc (.cells (ws.map (Value.int .u32)).toArray 56)).alloc (.cells (arrC [] 64) 54)) w.heap.size 56 (ws.map (Value.int .u32)).toArray) := (Blk.new _ _ _).alloc _
  have HC : Hid (Blk ((w.alloc (.cells (ws.map (Value.int .u32)).toArray 56)).alloc (.cells (arrC [] 64) 54)) (w.heap.size + 1) 54 (arrC [] 64)) := by
    have := Blk.new (w.alloc (.cells (ws.map (Value.int .u32)).toArray 56)) 54 (arrC [] 64)
    simp at this
    exact this
  have HH1 : Hid (HashAt ((w.alloc (.cells (ws.map (Value.int .u32)).toArray 56)).alloc (.cells (arrC [] 64) 54)) g kind [s0, s1, s2, s3, s4, s5, s6, s7] tl size) := HH.out.upd (((Upd.refl [] w).alloc _).alloc _) (by simp)
  have HU1 : Hid (Upd [some g] w ((w.alloc (.cells (ws.map (Value.int .u32)).toArray 56)).alloc (.cells (arrC [] 64) 54))) := ((Upd.refl _ w).alloc _).alloc _
  have HGB : Hid (g < B) := by rw [HB.out]; exact HH.out.blk.lt
  rw [← HB.out] at HN HC ⊢
  generalize hw1 : World.alloc (w.alloc _) _ = w1 at *
  obtain ⟨w3, hr3, hb3, hu3⟩ := arr_copy (w := w1.drew) HW.out HN.out.drew HC.out.drew (by omega)
  have HC3 := Lib.hid hb3
  have HH3 := Lib.hid ((HH1.out.drewN 1).upd hu3 (by have := HGB.out; simp; omega))
  have HU3 := Lib.hid (HU1.out.drew.then hu3 (by have := HB.out; intro b hb; right; simp at hb; omega))
  clear hw1 hb3 hu3 HN HC HH1 HU1 hz
  go_region
  clear hr3
  go_wp2
  go_loopw [5] (fun i wr => ∃ n : Nat, n ≤ 48 ∧ i = .int .i64 (16 + n : Nat) ∧ Blk wr (B + 1) 54 (arrC (ext2 ws n) 64) ∧ HashAt wr g kind [s0, s1, s2, s3, s4, s5, s6, s7] tl size ∧ Upd [some g] w wr) (fun i _ => 64 - (intOf i).toNat)
  case atStart => exact ⟨0, by omega, rfl, HC3.out, HH3.out, HU3.out⟩
  case round =>
    obtain ⟨n, hn, rfl, hbr, hhr, hur⟩ := hrel
    have HCr := Lib.hid hbr
    have HHr := Lib.hid hhr
    have HUr := Lib.hid hur
    clear hbr hhr hur HC3 HH3 HU3
    by_cases hlt : n < 48
    · have hl := ext2_len ws HW.out n
      have c1 : wr.cell? ⟨B + 1, 1 + n, none⟩ = some (.int .u32 (at0 (ext2 ws n) (1 + n))) := by rw [HCr.out.cell]; exact arrC_at (by omega)
      have c14 : wr.cell? ⟨B + 1, 14 + n, none⟩ = some (.int .u32 (at0 (ext2 ws n) (14 + n))) := by rw [HCr.out.cell]; exact arrC_at (by omega)
      have i1 := words_index (t := 54) (n := 64) (by kernel_rfl) (B + 1) (1 + n) (16 + (n : Int) - 15) (by omega) (by omega)
      have i14 := words_index (t := 54) (n := 64) (by kernel_rfl) (B + 1) (14 + n) (16 + (n : Int) - 2) (by omega) (by omega)
      have i9 := words_index (t := 54) (n := 64) (by kernel_rfl) (B + 1) (9 + n) (16 + (n : Int) - 7) (by omega) (by omega)
      have i0 := words_index (t := 54) (n := 64) (by kernel_rfl) (B + 1) n (16 + (n : Int) - 16) (by omega) (by omega)
      have i16 := words_index (t := 54) (n := 64) (by kernel_rfl) (B + 1) (16 + n) (16 + (n : Int)) (by omega) (by omega)
      have x1 := i64_in (16 + (n : Int) - 15) (by omega) (by omega)
      have x14 := i64_in (16 + (n : Int) - 2) (by omega) (by omega)
      have x9 := i64_in (16 + (n : Int) - 7) (by omega) (by omega)
      have x0 := i64_in (16 + (n : Int) - 16) (by omega) (by omega)
      go_wp2
      go_quiet (fail)
      generalize hw5 : wr.drewN _ = w5
      have HC5 : Hid (Blk w5 (B + 1) 54 (arrC (ext2 ws n) 64)) := by rw [← hw5]; exact HCr.out.drewN _
      have HH5 : Hid (HashAt w5 g kind [s0, s1, s2, s3, s4, s5, s6, s7] tl size) := by rw [← hw5]; exact HHr.out.drewN _
      have HU5 : Hid (Upd [some g] w w5) := by rw [← hw5]; exact HUr.out.drewN _
      clear hw5 HCr HHr HUr c1 c14
      go_wp2_with fail
      refine (right_any _ _ _ (by omega) (by omega)).mono ?_
      rintro e w' ⟨rfl, rfl⟩
      go_wp2_with fail
      refine (right_any _ _ _ (by omega) (by omega)).mono ?_
      rintro e w' ⟨rfl, rfl⟩
      go_wp2_with fail
      refine (right_any _ _ _ (by omega) (by omega)).mono ?_
      rintro e w' ⟨rfl, rfl⟩
      go_wp2_with fail
      refine (right_any _ _ _ (by omega) (by omega)).mono ?_
      rintro e w' ⟨rfl, rfl⟩
      go_wp2
      have c9 : w5.cell? ⟨B + 1, 9 + n, none⟩ = some (.int .u32 (at0 (ext2 ws n) (9 + n))) := by rw [HC5.out.cell]; exact arrC_at (by omega)
      have c0 : w5.cell? ⟨B + 1, n, none⟩ = some (.int .u32 (at0 (ext2 ws n) n)) := by rw [HC5.out.cell]; exact arrC_at (by omega)
      go_still_tail 15, (by kernel_rfl)
      change wpList _ _ _ _ _ w5.drew
      obtain ⟨w4, hw4⟩ : ∃ w4 : World, w4 = w5.drew := ⟨_, rfl⟩
      rw [← hw4]
      have HC4 : Hid (Blk w4 (B + 1) 54 (arrC (ext2 ws n) 64)) := by rw [hw4]; exact HC5.out.drew
      have HH4 : Hid (HashAt w4 g kind [s0, s1, s2, s3, s4, s5, s6, s7] tl size) := by rw [hw4]; exact HH5.out.drewN 1
      have HU4 : Hid (Upd [some g] w w4) := by rw [hw4]; exact HU5.out.drew
      clear hw4 HC5 HH5 HU5 c9 c0
      obtain ⟨x, hx⟩ : ∃ x, (arrC (ext2 ws n) 64)[16 + n]? = some x := ⟨_, Array.getElem?_eq_getElem (by rw [arrC_size (by omega)]; omega)⟩
      have c16 : w4.cell? ⟨B + 1, 16 + n, none⟩ = some x := by rw [HC4.out.cell]; exact hx
      have f16 := HC4.out.frozen (16 + n)
      have HS := Lib.hid (arrC_set (xs := ext2 ws n) (n := 64) (by omega) (add32 (add32 (add32 (at0 (ext2 ws n) n) (sig0 (at0 (ext2 ws n) (1 + n)))) (at0 (ext2 ws n) (9 + n))) (sig1 (at0 (ext2 ws n) (14 + n)))))
      rw [hl] at HS
      clear hl hx i1 i14 i9 i0 i16 x1 x14 x9 x0
      go_wp2
      go_roundw
      case rel =>
        refine ⟨n + 1, by omega, by go_num, ?_, ?_, ?_⟩
        · rw [ext2, ← HS.out]
          exact HC4.out.set _ _
        · exact HH4.out.upd ((Upd.refl [some (B + 1)] w4).putIn (by simp) _) (by have := HGB.out; simp; omega)
        · exact HU4.out.put (by have := HB.out; omega) _
      case measure => simp [intOf]; omega
    · obtain rfl : n = 48 := by omega
      rw [show ((16 + 48 : Nat) : Int) = 64 from rfl]
      have c0 : wr.cell? ⟨g, 1, none⟩ = some (.int .u32 s0) := HHr.out.state (i := 0) rfl
      have c1 : wr.cell? ⟨g, 2, none⟩ = some (.int .u32 s1) := HHr.out.state (i := 1) rfl
      have c2 : wr.cell? ⟨g, 3, none⟩ = some (.int .u32 s2) := HHr.out.state (i := 2) rfl
      have c3 : wr.cell? ⟨g, 4, none⟩ = some (.int .u32 s3) := HHr.out.state (i := 3) rfl
      have c4 : wr.cell? ⟨g, 5, none⟩ = some (.int .u32 s4) := HHr.out.state (i := 4) rfl
      have c5 : wr.cell? ⟨g, 6, none⟩ = some (.int .u32 s5) := HHr.out.state (i := 5) rfl
      have c6 : wr.cell? ⟨g, 7, none⟩ = some (.int .u32 s6) := HHr.out.state (i := 6) rfl
      have c7 : wr.cell? ⟨g, 8, none⟩ = some (.int .u32 s7) := HHr.out.state (i := 7) rfl
      obtain ⟨xs, HX⟩ : ∃ xs, Hid (xs = ext2 ws 48) := ⟨_, rfl⟩
      have HL : Hid (xs.length = 64) := by rw [HX.out]; exact ext2_len ws HW.out 48
      rw [← HX.out] at HCr
      go_wp2
      obtain ⟨C, HCn⟩ : ∃ C, Hid (C = wr.heap.size) := ⟨_, rfl⟩
      have HN : Hid (Blk (wr.alloc (.cells #[.int .u32 s0, .int .u32 s1, .int .u32 s2, .int .u32 s3, .int .u32 s4, .int .u32 s5, .int .u32 s6, .int .u32 s7] 47)) wr.heap.size 47 #[.int .u32 s0, .int .u32 s1, .int .u32 s2, .int .u32 s3, .int .u32 s4, .int .u32 s5, .int .u32 s6, .int .u32 s7]) := Blk.new _ _ _
      have HC1 : Hid (Blk (wr.alloc (.cells #[.int .u32 s0, .int .u32 s1, .int .u32 s2, .int .u32 s3, .int .u32 s4, .int .u32 s5, .int .u32 s6, .int .u32 s7] 47)) (B + 1) 54 (arrC xs 64)) := HCr.out.alloc _
      have HH1 : Hid (HashAt (wr.alloc (.cells #[.int .u32 s0, .int .u32 s1, .int .u32 s2, .int .u32 s3, .int .u32 s4, .int .u32 s5, .int .u32 s6, .int .u32 s7] 47)) g kind [s0, s1, s2, s3, s4, s5, s6, s7] tl size) := HHr.out.upd ((Upd.refl [] wr).alloc _) (by simp)
      have HU1 : Hid (Upd [some g] w (wr.alloc (.cells #[.int .u32 s0, .int .u32 s1, .int .u32 s2, .int .u32 s3, .int .u32 s4, .int .u32 s5, .int .u32 s6, .int .u32 s7] 47))) := HUr.out.alloc _
      have HBC : Hid (B + 1 < C) := by rw [HCn.out]; exact HCr.out.lt
      rw [← HCn.out] at HN ⊢
      generalize hw2 : wr.alloc _ = w2 at *
      have HT2 : Hid (Tabs w2) := HT.out.upd HU1.out (by intro b hb; simp at hb; omega)
      clear hw2 c0 c1 c2 c3 c4 c5 c6 c7 HCr HHr HUr
      go_loopw [70] (fun i wr => ∃ k : Nat, k ≤ 64 ∧ i = .int .i64 k ∧ Blk wr C 47 ((shaRun xs k ⟨s0, s1, s2, s3, s4, s5, s6, s7⟩).list.map (Value.int .u32)).toArray ∧ Upd [some C] w2 wr) (fun i _ => 64 - (intOf i).toNat)
      case atStart => exact ⟨0, by omega, rfl, HN.out, Upd.refl _ _⟩
      case round =>
        obtain ⟨k, hk, rfl, hbr, hur⟩ := hrel
        obtain ⟨⟨xa, xb, xc, xd, xe, xf, xg, xh⟩, HQ⟩ : ∃ q : Q8, Hid (q = shaRun xs k ⟨s0, s1, s2, s3, s4, s5, s6, s7⟩) := ⟨_, rfl⟩
        rw [← HQ.out] at hbr
        have HB2 := Lib.hid hbr
        have HU2 := Lib.hid hur
        clear hbr hur HN
        by_cases hlt : k < 64
        · have e0 : wr.cell? ⟨C, 0, none⟩ = some (.int .u32 xa) := by rw [HB2.out.cell]; rfl
          have e1 : wr.cell? ⟨C, 1, none⟩ = some (.int .u32 xb) := by rw [HB2.out.cell]; rfl
          have e2 : wr.cell? ⟨C, 2, none⟩ = some (.int .u32 xc) := by rw [HB2.out.cell]; rfl
          have e4 : wr.cell? ⟨C, 4, none⟩ = some (.int .u32 xe) := by rw [HB2.out.cell]; rfl
          have e5 : wr.cell? ⟨C, 5, none⟩ = some (.int .u32 xf) := by rw [HB2.out.cell]; rfl
          have e6 : wr.cell? ⟨C, 6, none⟩ = some (.int .u32 xg) := by rw [HB2.out.cell]; rfl
          go_wp2
          go_quiet (fail)
          generalize hw5 : wr.drewN _ = w5
          have HB5 : Hid (Blk w5 C 47 (Q8.list ⟨xa, xb, xc, xd, xe, xf, xg, xh⟩ |>.map (Value.int .u32)).toArray) := by rw [← hw5]; exact HB2.out.drewN _
          have HU5 : Hid (Upd [some C] w2 w5) := by rw [← hw5]; exact HU2.out.drewN _
          clear hw5 HB2 HU2 e0 e1 e2 e4 e5 e6
          have e7 : w5.cell? ⟨C, 7, none⟩ = some (.int .u32 xh) := by rw [HB5.out.cell]; rfl
          have ct : w5.cell? ⟨1, k, none⟩ = some (.int .u32 (shaT k)) := HU5.out.cell (HT2.out.sha k hlt) (by have := HBC.out; have := HGB.out; simp; omega)
          have cw : w5.cell? ⟨B + 1, k, none⟩ = some (.int .u32 (at0 xs k)) := HU5.out.cell (by rw [HC1.out.cell]; exact arrC_at (by rw [HL.out]; omega)) (by have := HBC.out; simp; omega)
          have ik := words_index (t := 54) (n := 64) (by kernel_rfl) (B + 1) k (k : Int) rfl (by omega)
          have it := words_index (t := 54) (n := 64) (by kernel_rfl) 1 k (k : Int) rfl (by omega)
          go_wp2
          go_quiet ((go_at_call 37; exact quietL (right_any _ _ _ (by omega) (by omega))))
          generalize hw6 : w5.drewN _ = w6
          have HB6 : Hid (Blk w6 C 47 (Q8.list ⟨xa, xb, xc, xd, xe, xf, xg, xh⟩ |>.map (Value.int .u32)).toArray) := by rw [← hw6]; exact HB5.out.drewN _
          have HU6 : Hid (Upd [some C] w2 w6) := by rw [← hw6]; exact HU5.out.drewN _
          clear hw6 HB5 HU5 e7 ct cw ik it
          go_wp2_with fail
          refine (right_any _ _ _ (by omega) (by omega)).mono ?_
          rintro e w' ⟨rfl, rfl⟩
          go_wp2_with fail
          refine (right_any _ _ _ (by omega) (by omega)).mono ?_
          rintro e w' ⟨rfl, rfl⟩
          go_wp2_with fail
          refine (right_any _ _ _ (by omega) (by omega)).mono ?_
          rintro e w' ⟨rfl, rfl⟩
          have e0 : w6.cell? ⟨C, 0, none⟩ = some (.int .u32 xa) := by rw [HB6.out.cell]; rfl
          have e1 : w6.cell? ⟨C, 1, none⟩ = some (.int .u32 xb) := by rw [HB6.out.cell]; rfl
          have e2 : w6.cell? ⟨C, 2, none⟩ = some (.int .u32 xc) := by rw [HB6.out.cell]; rfl
          have e3 : w6.cell? ⟨C, 3, none⟩ = some (.int .u32 xd) := by rw [HB6.out.cell]; rfl
          have e4 : w6.cell? ⟨C, 4, none⟩ = some (.int .u32 xe) := by rw [HB6.out.cell]; rfl
          have e5 : w6.cell? ⟨C, 5, none⟩ = some (.int .u32 xf) := by rw [HB6.out.cell]; rfl
          have e6 : w6.cell? ⟨C, 6, none⟩ = some (.int .u32 xg) := by rw [HB6.out.cell]; rfl
          have e7 : w6.cell? ⟨C, 7, none⟩ = some (.int .u32 xh) := by rw [HB6.out.cell]; rfl
          have fz := HB6.out.frozen
          go_wp2
          go_roundw
          case rel =>
            refine ⟨k + 1, by omega, by go_num, ?_, ?_⟩
            · rw [shaRun, ← HQ.out]
              exact blk_set8 HB6.out
            · exact upd_set8 HU6.out (by simp)
          case measure => simp [intOf]; omega
        · obtain rfl : k = 64 := by omega
          have HH3 : Hid (HashAt wr g kind [s0, s1, s2, s3, s4, s5, s6, s7] tl size) := HH1.out.upd HU2.out (by have := HBC.out; have := HGB.out; simp; omega)
          have HU3 : Hid (Upd [some g] w wr) := HU1.out.then HU2.out (by have := HBC.out; have := HB.out; intro b hb; right; simp at hb; omega)
          have e0 : wr.cell? ⟨C, 0, none⟩ = some (.int .u32 xa) := by rw [HB2.out.cell]; rfl
          have e1 : wr.cell? ⟨C, 1, none⟩ = some (.int .u32 xb) := by rw [HB2.out.cell]; rfl
          have e2 : wr.cell? ⟨C, 2, none⟩ = some (.int .u32 xc) := by rw [HB2.out.cell]; rfl
          have e3 : wr.cell? ⟨C, 3, none⟩ = some (.int .u32 xd) := by rw [HB2.out.cell]; rfl
          have e4 : wr.cell? ⟨C, 4, none⟩ = some (.int .u32 xe) := by rw [HB2.out.cell]; rfl
          have e5 : wr.cell? ⟨C, 5, none⟩ = some (.int .u32 xf) := by rw [HB2.out.cell]; rfl
          have e6 : wr.cell? ⟨C, 6, none⟩ = some (.int .u32 xg) := by rw [HB2.out.cell]; rfl
          have e7 : wr.cell? ⟨C, 7, none⟩ = some (.int .u32 xh) := by rw [HB2.out.cell]; rfl
          have c0 : wr.cell? ⟨g, 1, none⟩ = some (.int .u32 s0) := HH3.out.state (i := 0) rfl
          have c1 : wr.cell? ⟨g, 2, none⟩ = some (.int .u32 s1) := HH3.out.state (i := 1) rfl
          have c2 : wr.cell? ⟨g, 3, none⟩ = some (.int .u32 s2) := HH3.out.state (i := 2) rfl
          have c3 : wr.cell? ⟨g, 4, none⟩ = some (.int .u32 s3) := HH3.out.state (i := 3) rfl
          have c4 : wr.cell? ⟨g, 5, none⟩ = some (.int .u32 s4) := HH3.out.state (i := 4) rfl
          have c5 : wr.cell? ⟨g, 6, none⟩ = some (.int .u32 s5) := HH3.out.state (i := 5) rfl
          have c6 : wr.cell? ⟨g, 7, none⟩ = some (.int .u32 s6) := HH3.out.state (i := 6) rfl
          have c7 : wr.cell? ⟨g, 8, none⟩ = some (.int .u32 s7) := HH3.out.state (i := 7) rfl
          have fz := HH3.out.blk.frozen
          go_wp2
          go_end0
          rw [← HX.out, ← HQ.out]
          refine ⟨rfl, ?_, ?_⟩
          · exact hash_set8 HH3.out
          · exact upd_set8 HU3.out (by simp)

end Go.Proofs.YthojhmkahjpflaaDoor
