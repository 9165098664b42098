/- The walk of Hash.sha1. -/
import Derived.Test.YthojhmkahjpflaaDoorDigMd5
import Derived.Deep.WholeRow
import Derived.StillTailTactics
namespace Go.Proofs.YthojhmkahjpflaaDoor
open Go.RowKit Go.Dray

/-- The words of SHA-1, n more than the block's sixteen. -/
def ext1 (ws : List Int) : Nat → List Int
  | 0 => ws
  | n + 1 => ext1 ws n ++ [rotl (bits .xor .u32 (bits .xor .u32 (bits .xor .u32 (at0 (ext1 ws n) (13 + n)) (at0 (ext1 ws n) (8 + n))) (at0 (ext1 ws n) (2 + n))) (at0 (ext1 ws n) n)) 1]
theorem ext1_len (ws : List Int) (h : ws.length = 16) (n : Nat) : (ext1 ws n).length = 16 + n := by
  induction n with
  | zero => exact h
  | succ n ih => rw [ext1, List.length_append, ih]; rfl

def sha1F (i : Nat) (b c d : Int) : Int :=
  if i < 20 then bits .or .u32 (bits .and .u32 b c) (bits .and .u32 (not32 b) d)
  else if i < 40 then bits .xor .u32 (bits .xor .u32 b c) d
  else if i < 60 then bits .or .u32 (bits .or .u32 (bits .and .u32 b c) (bits .and .u32 b d)) (bits .and .u32 c d)
  else bits .xor .u32 (bits .xor .u32 b c) d
def sha1K (i : Nat) : Int := if i < 20 then 1518500249 else if i < 40 then 1859775393 else if i < 60 then 2400959708 else 3395469782
/-- Five numbers. -/
structure Q5 where
  (a b c d e : Int)
def sha1Step (xs : List Int) (i : Nat) (q : Q5) : Q5 :=
  ⟨add32 (add32 (add32 (add32 (rotl q.a 5) (sha1F i q.b q.c q.d)) q.e) (sha1K i)) (at0 xs i), q.a, rotl q.b 30, q.c, q.d⟩
def sha1Run (xs : List Int) : Nat → Q5 → Q5
  | 0, q => q
  | n + 1, q => sha1Step xs n (sha1Run xs n q)

/-- The cells of an array of n words, of which xs are laid. -/
def arrC (xs : List Int) (n : Nat) : Array Value := ((xs ++ List.replicate (n - xs.length) 0).map (Value.int .u32)).toArray
theorem arrC_at {xs : List Int} {n i : Nat} (h : i < xs.length) : (arrC xs n)[i]? = some (.int .u32 (at0 xs i)) := by
  unfold arrC
  rw [List.getElem?_toArray, List.getElem?_map, List.getElem?_append_left h, at0_get h]
  rfl
theorem arrC_size {xs : List Int} {n : Nat} (h : xs.length ≤ n) : (arrC xs n).size = n := by
  unfold arrC
  simp
  omega
theorem arrC_set {xs : List Int} {n : Nat} (h : xs.length < n) (v : Int) : (arrC xs n).setIfInBounds xs.length (.int .u32 v) = arrC (xs ++ [v]) n := by
  unfold arrC
  rw [List.setIfInBounds_toArray, ← List.map_set, List.set_append_right _ _ (Nat.le_refl _), Nat.sub_self, List.length_append]
  congr 2
  rw [show n - xs.length = (n - (xs.length + [v].length)) + 1 from by simp; omega, List.replicate_succ]
  simp

/-- The block's words into the array. -/
theorem arr_copy {w : World} {B C N : Nat} {t t' : TypeId} {ws : List Int} (hw : ws.length = 16) (hB : Blk w B t (ws.map (Value.int .u32)).toArray) (hC : Blk w C t' (arrC [] N)) (hN : 16 ≤ N) :
    ∃ w', (∀ ty, (Builtin.copy_ #[40, 40] ty #[.slice (some ⟨C, 0, none⟩) N N, .slice (some ⟨B, 0, none⟩) 16 16]).run Tryd.prog w = .ok (goInt 16) w') ∧ Blk w' C t' (arrC ws N) ∧ Upd [some C] w w' := by
  have hr := fun ty => run_copy_row (P := Tryd.prog) w 40 40 ty 24 C 0 N N ⟨B, 0, none⟩ 16 16 (arrC [] N) _ (ws.map (Value.int .u32)) el_u32.under (by kernel_rfl) hC (by rw [List.length_map, hw]; exact (Nat.min_eq_left hN).symm)
    (fun j v hv => by
      rw [Addr.add_lit, Nat.zero_add, hB.cell]
      simpa using hv) (by rw [List.length_map, hw, arrC_size (by simp)]; omega) (ints_one _ _)
  simp only [List.length_map, hw] at hr
  refine ⟨_, hr, ?_, (Upd.refl _ _).setRow (Or.inl (by simp)) _⟩
  refine (setRow_heap w C _ _ _ _ hC).trans ?_
  congr 2
  unfold arrC
  simp [hw]

theorem stillL {P : Program} {f : FuncId} {args : Array Value} {w : World} {v : Value} (h : Calls P f args w fun e w' => e = .returned v ∧ w = w') : Calls P f args w fun e w' => e = .returned v ∧ w' = w := h.mono fun _ _ ⟨a, b⟩ => ⟨a, b.symm⟩
theorem u32_size : (Tryd.prog.info? 24).map (·.size) = some 1 := by kernel_rfl
theorem i64_in (x : Int) (h0 : 0 ≤ x) (h1 : x ≤ 1000000) : IntKind.i64.wrap x = x := by rw [IntKind.wrap_i64]; omega
/-- Indexing an array of words at an integer. -/
theorem words_index {t : TypeId} {n : Nat} (h : Tryd.prog.underlying t = some (.array n 24)) (b k : Nat) (i : Int) (hi : i = k) (hk : k < n) :
    ∀ W : World, (Instr.indexAt t (.pointer (some ⟨b, 0, none⟩)) (.int .i64 i)).run Tryd.prog W = .ok (.pointer (some ⟨b, k, none⟩)) W := by
  subst hi
  have := arr_index h u32_size b 0 k hk .i64
  rw [Nat.zero_add] at this
  exact this

set_option maxRecDepth 100000 in
set_option maxHeartbeats 1000000 in
theorem sha1_any (w : World) (g : Nat) (kind s0 s1 s2 s3 s4 s5 s6 s7 : Int) (tl : List Int) (size : Int) (ws : List Int) (h : HashAt w g kind [s0, s1, s2, s3, s4, s5, s6, s7] tl size) (hw : ws.length = 16) :
    Calls Tryd.prog 34 #[.pointer (some ⟨g, 0, none⟩), .agg (ws.map (Value.int .u32)).toArray] w
      (HashPost w g kind [(sha1Run (ext1 ws 64) 80 ⟨s0, s1, s2, s3, s4⟩).a, (sha1Run (ext1 ws 64) 80 ⟨s0, s1, s2, s3, s4⟩).b, (sha1Run (ext1 ws 64) 80 ⟨s0, s1, s2, s3, s4⟩).c, (sha1Run (ext1 ws 64) 80 ⟨s0, s1, s2, s3, s4⟩).d, (sha1Run (ext1 ws 64) 80 ⟨s0, s1, s2, s3, s4⟩).e, s5, s6, s7] tl size) := by
  have HH := Lib.hid h
  have HW := Lib.hid hw
  have hnot := run_not32
  have hadd := add32_wrap
  have hadd' := add32_mod
  have hz := (zero_of_info (P := Tryd.prog) (t := 61) (v := .agg (arrC [] 80)) (n := 80) (by kernel_rfl)).1
  clear h hw
  go_enter Tryd.func34, Tryd.ntmps34
  go_wp2
  obtain ⟨B, HB⟩ : ∃ B, Hid (B = w.heap.size) := ⟨_, rfl⟩
  have HN : Hid (Blk ((w.alloc (.cells (ws.map (Value.int .u32)).toArray 56)).alloc (.cells (arrC [] 80) 61)) w.heap.size 56 (ws.map (Value.int .u32)).toArray) := (Blk.new _ _ _).alloc _
  have HC : Hid (Blk ((w.alloc (.cells (ws.map (Value.int .u32)).toArray 56)).alloc (.cells (arrC [] 80) 61)) (w.heap.size + 1) 61 (arrC [] 80)) := by
    have := Blk.new (w.alloc (.cells (ws.map (Value.int .u32)).toArray 56)) 61 (arrC [] 80)
    simp at this
    exact this
  have HH1 : Hid (HashAt ((w.alloc (.cells (ws.map (Value.int .u32)).toArray 56)).alloc (.cells (arrC [] 80) 61)) g kind [s0, s1, s2, s3, s4, s5, s6, s7] tl size) := HH.out.upd (((Upd.refl [] w).alloc _).alloc _) (by simp)
  have HU1 : Hid (Upd [some g] w ((w.alloc (.cells (ws.map (Value.int .u32)).toArray 56)).alloc (.cells (arrC [] 80) 61))) := ((Upd.refl _ w).alloc _).alloc _
  have HGB : Hid (g < B) := by rw [HB.out]; exact HH.out.blk.lt
  rw [← HB.out] at HN HC ⊢
  generalize hw1 : World.alloc (w.alloc _) _ = w1 at *
  obtain ⟨w3, hr3, hb3, hu3⟩ := arr_copy (w := w1.drew) HW.out HN.out.drew HC.out.drew (by omega)
  have HC3 := Lib.hid hb3
  have HH3 := Lib.hid ((HH1.out.drewN 1).upd hu3 (by have := HGB.out; simp; omega))
  have HU3 := Lib.hid (HU1.out.drew.then hu3 (by have := HB.out; intro b hb; right; simp at hb; omega))
  clear hw1 hb3 hu3 HN HC HH1 HU1 hz
  go_region
  clear hr3
  go_wp2
  go_loopw [5] (fun i wr => ∃ n : Nat, n ≤ 64 ∧ i = .int .i64 (16 + n : Nat) ∧ Blk wr (B + 1) 61 (arrC (ext1 ws n) 80) ∧ HashAt wr g kind [s0, s1, s2, s3, s4, s5, s6, s7] tl size ∧ Upd [some g] w wr) (fun i _ => 80 - (intOf i).toNat)
  case atStart => exact ⟨0, by omega, rfl, HC3.out, HH3.out, HU3.out⟩
  case round =>
    obtain ⟨n, hn, rfl, hbr, hhr, hur⟩ := hrel
    have HCr := Lib.hid hbr
    have HHr := Lib.hid hhr
    have HUr := Lib.hid hur
    clear hbr hhr hur HC3 HH3 HU3
    by_cases hlt : n < 64
    · have hl := ext1_len ws HW.out n
      have c13 : wr.cell? ⟨B + 1, 13 + n, none⟩ = some (.int .u32 (at0 (ext1 ws n) (13 + n))) := by rw [HCr.out.cell]; exact arrC_at (by omega)
      have c8 : wr.cell? ⟨B + 1, 8 + n, none⟩ = some (.int .u32 (at0 (ext1 ws n) (8 + n))) := by rw [HCr.out.cell]; exact arrC_at (by omega)
      have c2 : wr.cell? ⟨B + 1, 2 + n, none⟩ = some (.int .u32 (at0 (ext1 ws n) (2 + n))) := by rw [HCr.out.cell]; exact arrC_at (by omega)
      have c0 : wr.cell? ⟨B + 1, n, none⟩ = some (.int .u32 (at0 (ext1 ws n) n)) := by rw [HCr.out.cell]; exact arrC_at (by omega)
      have i13 := words_index (t := 61) (n := 80) (by kernel_rfl) (B + 1) (13 + n) (16 + (n : Int) - 3) (by omega) (by omega)
      have i8 := words_index (t := 61) (n := 80) (by kernel_rfl) (B + 1) (8 + n) (16 + (n : Int) - 8) (by omega) (by omega)
      have i2 := words_index (t := 61) (n := 80) (by kernel_rfl) (B + 1) (2 + n) (16 + (n : Int) - 14) (by omega) (by omega)
      have i0 := words_index (t := 61) (n := 80) (by kernel_rfl) (B + 1) n (16 + (n : Int) - 16) (by omega) (by omega)
      have i16 := words_index (t := 61) (n := 80) (by kernel_rfl) (B + 1) (16 + n) (16 + (n : Int)) (by omega) (by omega)
      have x13 := i64_in (16 + (n : Int) - 3) (by omega) (by omega)
      have x8 := i64_in (16 + (n : Int) - 8) (by omega) (by omega)
      have x2 := i64_in (16 + (n : Int) - 14) (by omega) (by omega)
      have x0 := i64_in (16 + (n : Int) - 16) (by omega) (by omega)
      go_wp2
      go_still_tail 22, (by kernel_rfl)
      still_call (stillL (rot_any _ _ _ (by omega) (by omega)))
      repeat still_step
      refine wpStill_nil ?_
      change wpList _ _ _ _ _ wr.drew
      obtain ⟨w4, hw4⟩ : ∃ w4 : World, w4 = wr.drew := ⟨_, rfl⟩
      rw [← hw4]
      have HC4 : Hid (Blk w4 (B + 1) 61 (arrC (ext1 ws n) 80)) := by rw [hw4]; exact HCr.out.drew
      have HH4 : Hid (HashAt w4 g kind [s0, s1, s2, s3, s4, s5, s6, s7] tl size) := by rw [hw4]; exact HHr.out.drewN 1
      have HU4 : Hid (Upd [some g] w w4) := by rw [hw4]; exact HUr.out.drew
      clear hw4 HCr HHr HUr c13 c8 c2 c0
      obtain ⟨x, hx⟩ : ∃ x, (arrC (ext1 ws n) 80)[16 + n]? = some x := ⟨_, Array.getElem?_eq_getElem (by rw [arrC_size (by omega)]; omega)⟩
      have c16 : w4.cell? ⟨B + 1, 16 + n, none⟩ = some x := by rw [HC4.out.cell]; exact hx
      have f16 := HC4.out.frozen (16 + n)
      have HS := Lib.hid (arrC_set (xs := ext1 ws n) (n := 80) (by omega) (rotl (bits .xor .u32 (bits .xor .u32 (bits .xor .u32 (at0 (ext1 ws n) (13 + n)) (at0 (ext1 ws n) (8 + n))) (at0 (ext1 ws n) (2 + n))) (at0 (ext1 ws n) n)) 1))
      rw [hl] at HS
      clear hl hx i13 i8 i2 i0 i16 x13 x8 x2 x0
      go_wp2
      go_roundw
      case rel =>
        refine ⟨n + 1, by omega, by go_num, ?_, ?_, ?_⟩
        · rw [ext1, ← HS.out]
          exact HC4.out.set _ _
        · exact HH4.out.upd ((Upd.refl [some (B + 1)] w4).putIn (by simp) _) (by have := HGB.out; simp; omega)
        · exact HU4.out.put (by have := HB.out; omega) _
      case measure => simp [intOf]; omega
    · obtain rfl : n = 64 := by omega
      rw [show ((16 + 64 : Nat) : Int) = 80 from rfl]
      have c0 : wr.cell? ⟨g, 1, none⟩ = some (.int .u32 s0) := HHr.out.state (i := 0) rfl
      have c1 : wr.cell? ⟨g, 2, none⟩ = some (.int .u32 s1) := HHr.out.state (i := 1) rfl
      have c2 : wr.cell? ⟨g, 3, none⟩ = some (.int .u32 s2) := HHr.out.state (i := 2) rfl
      have c3 : wr.cell? ⟨g, 4, none⟩ = some (.int .u32 s3) := HHr.out.state (i := 3) rfl
      have c4 : wr.cell? ⟨g, 5, none⟩ = some (.int .u32 s4) := HHr.out.state (i := 4) rfl
      obtain ⟨xs, HX⟩ : ∃ xs, Hid (xs = ext1 ws 64) := ⟨_, rfl⟩
      have HL : Hid (xs.length = 80) := by rw [HX.out]; exact ext1_len ws HW.out 64
      rw [← HX.out] at HCr
      go_wp2
      go_quiet (fail)
      go_wp2
      generalize hw2 : wr.drewN _ = w2
      have HC2 : Hid (Blk w2 (B + 1) 61 (arrC xs 80)) := by rw [← hw2]; exact HCr.out.drewN _
      have HH2 : Hid (HashAt w2 g kind [s0, s1, s2, s3, s4, s5, s6, s7] tl size) := by rw [← hw2]; exact HHr.out.drewN _
      have HU2 : Hid (Upd [some g] w w2) := by rw [← hw2]; exact HUr.out.drewN _
      clear hw2 c0 c1 c2 c3 c4 HCr HHr HUr
      go_loopw [6, 7, 8, 9, 10, 69] (fun a b c d e i wr => ∃ k : Nat, k ≤ 80 ∧ i = .int .i64 k ∧ a = .int .u32 (sha1Run xs k ⟨s0, s1, s2, s3, s4⟩).a ∧ b = .int .u32 (sha1Run xs k ⟨s0, s1, s2, s3, s4⟩).b ∧ c = .int .u32 (sha1Run xs k ⟨s0, s1, s2, s3, s4⟩).c ∧ d = .int .u32 (sha1Run xs k ⟨s0, s1, s2, s3, s4⟩).d ∧ e = .int .u32 (sha1Run xs k ⟨s0, s1, s2, s3, s4⟩).e ∧ ∃ q, wr = w2.drewN q) (fun _ _ _ _ _ i _ => 80 - (intOf i).toNat)
      case atStart => exact ⟨0, by omega, rfl, rfl, rfl, rfl, rfl, rfl, 0, rfl⟩
      case round =>
        obtain ⟨k, hk, rfl, rfl, rfl, rfl, rfl, rfl, q, rfl⟩ := hrel
        obtain ⟨⟨xa, xb, xc, xd, xe⟩, HQ⟩ : ∃ q : Q5, Hid (q = sha1Run xs k ⟨s0, s1, s2, s3, s4⟩) := ⟨_, rfl⟩
        rw [← HQ.out]
        by_cases hlt : k < 80
        · generalize hw3 : w2.drewN q = w3
          have HD : Hid (∀ n, w3.drewN n = w2.drewN (q + n)) := fun n => by rw [← hw3, World.drewN_drewN]
          have cw : w3.cell? ⟨B + 1, k, none⟩ = some (.int .u32 (at0 xs k)) := by rw [← hw3, (HC2.out.drewN q).cell]; exact arrC_at (by rw [HL.out]; omega)
          have ik := words_index (t := 61) (n := 80) (by kernel_rfl) (B + 1) k (k : Int) rfl (by omega)
          clear hw3
          obtain ⟨p, HP⟩ : ∃ p : Nat, Hid (p = k / 20) := ⟨_, rfl⟩
          have hw20 : (k : Int) / 20 = (p : Int) := by have := HP.out; omega
          have HR := Lib.hid (show sha1Run xs (k + 1) ⟨s0, s1, s2, s3, s4⟩ = sha1Step xs k ⟨xa, xb, xc, xd, xe⟩ by rw [HQ.out]; rfl)
          by_cases h20 : k < 20
          · have HF : Hid (sha1Step xs k ⟨xa, xb, xc, xd, xe⟩ = ⟨add32 (add32 (add32 (add32 (rotl xa 5) (bits .or .u32 (bits .and .u32 xb xc) (bits .and .u32 (not32 xb) xd))) xe) 1518500249) (at0 xs k), xa, rotl xb 30, xc, xd⟩) := by show _ = _; simp [sha1Step, sha1F, sha1K, h20]
            have hd0 : ((p : Int) == 0) = true := by have := HP.out; simp; omega
            clear hk
            go_wp2
            clear hd0
            go_quiet ((go_at_call 36; exact quietL (rot_any _ _ _ (by omega) (by omega))))
            generalize hw5 : w3.drewN _ = w5
            have HD5 : Hid (∃ q, w5 = w2.drewN q) := ⟨_, by rw [← hw5]; exact HD.out _⟩
            clear hw5 cw
            go_wp2_with fail
            refine (rot_any _ _ _ (by omega) (by omega)).mono ?_
            rintro e w' ⟨rfl, rfl⟩
            go_wp2
            go_roundw
            case rel => exact ⟨k + 1, by omega, by go_num, by rw [HR.out, HF.out], by rw [HR.out, HF.out], by rw [HR.out, HF.out], by rw [HR.out, HF.out], by rw [HR.out, HF.out], HD5.out⟩
            case measure => simp [intOf]; omega
          · by_cases h40 : k < 40
            · have HF : Hid (sha1Step xs k ⟨xa, xb, xc, xd, xe⟩ = ⟨add32 (add32 (add32 (add32 (rotl xa 5) (bits .xor .u32 (bits .xor .u32 xb xc) xd)) xe) 1859775393) (at0 xs k), xa, rotl xb 30, xc, xd⟩) := by show _ = _; simp [sha1Step, sha1F, sha1K, h20, h40]
              have hd0 : ((p : Int) == 0) = false := by have := HP.out; simp; omega
              have hd1 : ((p : Int) == 1) = true := by have := HP.out; simp; omega
              clear hk
              go_wp2
              clear hd0 hd1
              go_quiet ((go_at_call 36; exact quietL (rot_any _ _ _ (by omega) (by omega))))
              generalize hw5 : w3.drewN _ = w5
              have HD5 : Hid (∃ q, w5 = w2.drewN q) := ⟨_, by rw [← hw5]; exact HD.out _⟩
              clear hw5 cw
              go_wp2_with fail
              refine (rot_any _ _ _ (by omega) (by omega)).mono ?_
              rintro e w' ⟨rfl, rfl⟩
              go_wp2
              go_roundw
              case rel => exact ⟨k + 1, by omega, by go_num, by rw [HR.out, HF.out], by rw [HR.out, HF.out], by rw [HR.out, HF.out], by rw [HR.out, HF.out], by rw [HR.out, HF.out], HD5.out⟩
              case measure => simp [intOf]; omega
            · by_cases h60 : k < 60
              · have HF : Hid (sha1Step xs k ⟨xa, xb, xc, xd, xe⟩ = ⟨add32 (add32 (add32 (add32 (rotl xa 5) (bits .or .u32 (bits .or .u32 (bits .and .u32 xb xc) (bits .and .u32 xb xd)) (bits .and .u32 xc xd))) xe) 2400959708) (at0 xs k), xa, rotl xb 30, xc, xd⟩) := by show _ = _; simp [sha1Step, sha1F, sha1K, h20, h40, h60]
                have hd0 : ((p : Int) == 0) = false := by have := HP.out; simp; omega
                have hd1 : ((p : Int) == 1) = false := by have := HP.out; simp; omega
                have hd2 : ((p : Int) == 2) = true := by have := HP.out; simp; omega
                clear hk
                go_wp2
                clear hd0 hd1 hd2
                go_quiet ((go_at_call 36; exact quietL (rot_any _ _ _ (by omega) (by omega))))
                generalize hw5 : w3.drewN _ = w5
                have HD5 : Hid (∃ q, w5 = w2.drewN q) := ⟨_, by rw [← hw5]; exact HD.out _⟩
                clear hw5 cw
                go_wp2_with fail
                refine (rot_any _ _ _ (by omega) (by omega)).mono ?_
                rintro e w' ⟨rfl, rfl⟩
                go_wp2
                go_roundw
                case rel => exact ⟨k + 1, by omega, by go_num, by rw [HR.out, HF.out], by rw [HR.out, HF.out], by rw [HR.out, HF.out], by rw [HR.out, HF.out], by rw [HR.out, HF.out], HD5.out⟩
                case measure => simp [intOf]; omega
              · have HF : Hid (sha1Step xs k ⟨xa, xb, xc, xd, xe⟩ = ⟨add32 (add32 (add32 (add32 (rotl xa 5) (bits .xor .u32 (bits .xor .u32 xb xc) xd)) xe) 3395469782) (at0 xs k), xa, rotl xb 30, xc, xd⟩) := by show _ = _; simp [sha1Step, sha1F, sha1K, h20, h40, h60]
                have hd0 : ((p : Int) == 0) = false := by have := HP.out; simp; omega
                have hd1 : ((p : Int) == 1) = false := by have := HP.out; simp; omega
                have hd2 : ((p : Int) == 2) = false := by have := HP.out; simp; omega
                clear hk
                go_wp2
                clear hd0 hd1 hd2
                go_quiet ((go_at_call 36; exact quietL (rot_any _ _ _ (by omega) (by omega))))
                generalize hw5 : w3.drewN _ = w5
                have HD5 : Hid (∃ q, w5 = w2.drewN q) := ⟨_, by rw [← hw5]; exact HD.out _⟩
                clear hw5 cw
                go_wp2_with fail
                refine (rot_any _ _ _ (by omega) (by omega)).mono ?_
                rintro e w' ⟨rfl, rfl⟩
                go_wp2
                go_roundw
                case rel => exact ⟨k + 1, by omega, by go_num, by rw [HR.out, HF.out], by rw [HR.out, HF.out], by rw [HR.out, HF.out], by rw [HR.out, HF.out], by rw [HR.out, HF.out], HD5.out⟩
                case measure => simp [intOf]; omega
        · obtain rfl : k = 80 := by omega
          generalize hw3 : w2.drewN q = w3
          have HH3 : Hid (HashAt w3 g kind [s0, s1, s2, s3, s4, s5, s6, s7] tl size) := by rw [← hw3]; exact HH2.out.drewN _
          have HU3 : Hid (Upd [some g] w w3) := by rw [← hw3]; exact HU2.out.drewN _
          clear hw3
          obtain ⟨w5, HR5, HH5, HU5⟩ := hash_copyS (w := w3.alloc (.cells #[.int .u32 xa, .int .u32 xb, .int .u32 xc, .int .u32 xd, .int .u32 xe] 24)) (HH3.out.upd ((Upd.refl [] w3).alloc _) (by simp)) (c := 5) (Ints.lit w3 .u32 24 [xa, xb, xc, xd, xe]) (by simp) (by simp)
          have HH6 := Lib.hid HH5
          have HU6 := Lib.hid (HU5 [some g] w (HU3.out.alloc _) (Or.inl (by simp)))
          have hr6 : ∀ ty, (Builtin.copy_ #[40, 40] ty #[.slice (some ⟨g, 1, none⟩) 8 8, .slice (some ⟨w3.heap.size, 0, none⟩) 5 5]).run Tryd.prog (w3.alloc (.cells #[.int .u32 xa, .int .u32 xb, .int .u32 xc, .int .u32 xd, .int .u32 xe] 24)) = .ok (goInt 5) w5 := HR5
          clear HH5 HU5 HR5
          go_wp2
          go_end0
          rw [← HX.out, ← HQ.out]
          exact ⟨rfl, HH6.out, HU6.out⟩

end Go.Proofs.YthojhmkahjpflaaDoor
