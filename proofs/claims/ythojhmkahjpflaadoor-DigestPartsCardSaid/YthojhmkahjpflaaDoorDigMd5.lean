/- The walks of Hash.md5 and of the reference's md5. -/
import Derived.Test.YthojhmkahjpflaaDoorDigC
namespace Go.Proofs.YthojhmkahjpflaaDoor
open Go.RowKit Go.Dray

def md5F (i : Nat) (b c d : Int) : Int :=
  if i < 16 then bits .or .u32 (bits .and .u32 b c) (bits .and .u32 (not32 b) d)
  else if i < 32 then bits .or .u32 (bits .and .u32 d b) (bits .and .u32 (not32 d) c)
  else if i < 48 then bits .xor .u32 (bits .xor .u32 b c) d
  else bits .xor .u32 c (bits .or .u32 b (not32 d))
def md5G (i : Nat) : Nat := if i < 16 then i else if i < 32 then (5 * i + 1) % 16 else if i < 48 then (3 * i + 5) % 16 else 7 * i % 16
theorem md5G_lt (i : Nat) : md5G i < 16 := by unfold md5G; split <;> (try split) <;> (try split) <;> omega
/-- Four numbers. -/
structure Q4 where
  (a b c d : Int)
def md5Step (ws : List Int) (i : Nat) (q : Q4) : Q4 :=
  ⟨q.d, add32 q.b (rotl (add32 (add32 (add32 q.a (md5F i q.b q.c q.d)) (md5T i)) (at0 ws (md5G i))) (turnT i).toNat), q.b, q.c⟩
def md5Run (ws : List Int) : Nat → Q4 → Q4
  | 0, q => q
  | n + 1, q => md5Step ws n (md5Run ws n q)

theorem md5F0 {k : Nat} (h : k < 16) (b c d : Int) : md5F k b c d = bits .or .u32 (bits .and .u32 b c) (bits .and .u32 (not32 b) d) := by simp [md5F, h]
theorem md5F1 {k : Nat} (h0 : ¬ k < 16) (h : k < 32) (b c d : Int) : md5F k b c d = bits .or .u32 (bits .and .u32 d b) (bits .and .u32 (not32 d) c) := by simp [md5F, h, h0]
theorem md5F2 {k : Nat} (h0 : ¬ k < 16) (h1 : ¬ k < 32) (h : k < 48) (b c d : Int) : md5F k b c d = bits .xor .u32 (bits .xor .u32 b c) d := by simp [md5F, h, h0, h1]
theorem md5F3 {k : Nat} (h0 : ¬ k < 16) (h1 : ¬ k < 32) (h : ¬ k < 48) (b c d : Int) : md5F k b c d = bits .xor .u32 c (bits .or .u32 b (not32 d)) := by simp [md5F, h, h0, h1]

/-- A hash goes on; nothing comes back. -/
def HashPost (w : World) (g : Nat) (kind : Int) (st tl : List Int) (size : Int) (e : Ending) (w' : World) : Prop := e = .returned (.tuple #[]) ∧ HashAt w' g kind st tl size ∧ Upd [some g] w w'

set_option maxRecDepth 100000 in
set_option maxHeartbeats 1000000 in
theorem md5_any (w : World) (g : Nat) (kind s0 s1 s2 s3 s4 s5 s6 s7 : Int) (tl : List Int) (size : Int) (ws : List Int) (h : HashAt w g kind [s0, s1, s2, s3, s4, s5, s6, s7] tl size) (hT : Tabs w) (hw : ws.length = 16) :
    Calls Tryd.prog 33 #[.pointer (some ⟨g, 0, none⟩), .agg (ws.map (Value.int .u32)).toArray] w
      (HashPost w g kind [(md5Run ws 64 ⟨s0, s1, s2, s3⟩).a, (md5Run ws 64 ⟨s0, s1, s2, s3⟩).b, (md5Run ws 64 ⟨s0, s1, s2, s3⟩).c, (md5Run ws 64 ⟨s0, s1, s2, s3⟩).d, s4, s5, s6, s7] tl size) := by
  have HT := Lib.hid hT
  have HH := Lib.hid h
  have HW := Lib.hid hw
  have hnot := run_not32
  have hadd := add32_wrap
  have hadd' := add32_mod
  clear h hT hw
  go_enter Tryd.func33, Tryd.ntmps33
  go_wp2
  obtain ⟨B, HB⟩ : ∃ B, Hid (B = w.heap.size) := ⟨_, rfl⟩
  have HN : Hid (Blk (w.alloc (.cells (ws.map (Value.int .u32)).toArray 56)) w.heap.size 56 (ws.map (Value.int .u32)).toArray) := Blk.new _ _ _
  have HH1 : Hid (HashAt (w.alloc (.cells (ws.map (Value.int .u32)).toArray 56)) g kind [s0, s1, s2, s3, s4, s5, s6, s7] tl size) := HH.out.upd ((Upd.refl [] w).alloc _) (by simp)
  have HT1 : Hid (Tabs (w.alloc (.cells (ws.map (Value.int .u32)).toArray 56))) := HT.out.upd ((Upd.refl [] w).alloc _) (by simp)
  have HU1 : Hid (Upd [some g] w (w.alloc (.cells (ws.map (Value.int .u32)).toArray 56))) := (Upd.refl _ w).alloc _
  rw [← HB.out] at HN ⊢
  generalize hw1 : w.alloc _ = w1 at *
  have c0 : w1.cell? ⟨g, 1, none⟩ = some (.int .u32 s0) := HH1.out.state (i := 0) rfl
  have c1 : w1.cell? ⟨g, 2, none⟩ = some (.int .u32 s1) := HH1.out.state (i := 1) rfl
  have c2 : w1.cell? ⟨g, 3, none⟩ = some (.int .u32 s2) := HH1.out.state (i := 2) rfl
  have c3 : w1.cell? ⟨g, 4, none⟩ = some (.int .u32 s3) := HH1.out.state (i := 3) rfl
  clear hw1
  go_quiet (fail)
  go_wp2
  generalize hw2 : w1.drewN _ = w2
  have HN2 : Hid (Blk w2 B 56 (ws.map (Value.int .u32)).toArray) := by rw [← hw2]; exact HN.out.drewN _
  have HH2 : Hid (HashAt w2 g kind [s0, s1, s2, s3, s4, s5, s6, s7] tl size) := by rw [← hw2]; exact HH1.out.drewN _
  have HT2 : Hid (Tabs w2) := by rw [← hw2]; exact HT1.out.drewN _
  have HU2 : Hid (Upd [some g] w w2) := by rw [← hw2]; exact HU1.out.drewN _
  clear hw2 c0 c1 c2 c3 HN HH1 HT1 HU1 HH HT
  go_loopw [4, 5, 6, 7, 32] (fun a b c d i wr => ∃ k : Nat, k ≤ 64 ∧ i = .int .i64 k ∧ a = .int .u32 (md5Run ws k ⟨s0, s1, s2, s3⟩).a ∧ b = .int .u32 (md5Run ws k ⟨s0, s1, s2, s3⟩).b ∧ c = .int .u32 (md5Run ws k ⟨s0, s1, s2, s3⟩).c ∧ d = .int .u32 (md5Run ws k ⟨s0, s1, s2, s3⟩).d ∧ ∃ q, wr = w2.drewN q) (fun _ _ _ _ i _ => 64 - (intOf i).toNat)
  case atStart => exact ⟨0, by omega, rfl, rfl, rfl, rfl, rfl, 0, rfl⟩
  case round =>
    obtain ⟨k, hk, rfl, rfl, rfl, rfl, rfl, q, rfl⟩ := hrel
    obtain ⟨⟨xa, xb, xc, xd⟩, HQ⟩ : ∃ q : Q4, Hid (q = md5Run ws k ⟨s0, s1, s2, s3⟩) := ⟨_, rfl⟩
    rw [← HQ.out]
    by_cases hlt : k < 64
    · generalize hw3 : w2.drewN q = w3
      have HX : Hid (∀ n, w3.drewN n = w2.drewN (q + n)) := fun n => by rw [← hw3, World.drewN_drewN]
      have ct : w3.cell? ⟨0, k, none⟩ = some (.int .u32 (md5T k)) := by rw [← hw3]; exact HT2.out.md5 k hlt
      have cn : w3.cell? ⟨2, 4 * (k / 16) + k % 4, none⟩ = some (.int .i64 (turnT k)) := by rw [← hw3]; exact HT2.out.turn k hlt
      have cw : w3.cell? ⟨B, md5G k, none⟩ = some (.int .u32 (at0 ws (md5G k))) := by
        have h16 := HW.out
        have hG := md5G_lt k
        rw [← hw3, (HN2.out.drewN q).cell, List.getElem?_toArray, List.getElem?_map, at0_get (by omega)]
        rfl
      obtain ⟨p, HP⟩ : ∃ p : Nat, Hid (p = k / 16) := ⟨_, rfl⟩
      obtain ⟨r, HR⟩ : ∃ r : Nat, Hid (r = k % 4) := ⟨_, rfl⟩
      have hi60 := arr_indexS (t := 60) (P := Tryd.prog) (n := 4) (e := 59) (sz := 4) (by kernel_rfl) (by kernel_rfl) 2 0 p (by have := HP.out; omega) .i64
      have hi59 := arr_index (t := 59) (P := Tryd.prog) (n := 4) (e := 3) (by kernel_rfl) (by kernel_rfl) 2 (4 * p) r (by have := HR.out; omega) .i64
      rw [Nat.zero_add, Nat.mul_comm] at hi60
      have hw16 : IntKind.i64.wrap ((k : Int) / 16) = (p : Int) := by have := HP.out; rw [IntKind.wrap_i64]; omega
      have ht4 : (k : Int).tmod 4 = (r : Int) := by have := HR.out; rw [Int.tmod_eq_emod_of_nonneg (by omega)]; omega
      rw [← HP.out, ← HR.out] at cn
      clear hw3
      by_cases h16 : k < 16
      · have HF := Lib.hid (md5F0 h16)
        have hix := arr_index (t := 56) (P := Tryd.prog) (n := 16) (e := 24) (by kernel_rfl) (by kernel_rfl) B 0 (md5G k) (md5G_lt k) .i64
        rw [Nat.zero_add] at hix
        have hGe : (k : Int) = ((md5G k : Nat) : Int) := by simp [md5G, h16]
        have hd0 : ((p : Int) == 0) = true := by have := HP.out; simp; omega
        rw [← hGe] at hix
        clear h16 hGe
        go_wp2
        clear hd0
        have htb := turnT_bd k hlt
        go_quiet ((go_at_call 36; exact quietL (rot_any _ _ _ (by omega) (by omega))))
        go_wp2
        go_roundw
        case rel => exact ⟨k + 1, by omega, by go_num, by rw [md5Run, ← HQ.out]; rfl, by rw [md5Run, ← HQ.out, md5Step, HF.out], by rw [md5Run, ← HQ.out]; rfl, by rw [md5Run, ← HQ.out]; rfl, _, HX.out _⟩
        case measure => simp [intOf]; omega
      · by_cases h32 : k < 32
        · have HF := Lib.hid (md5F1 h16 h32)
          have hix := arr_index (t := 56) (P := Tryd.prog) (n := 16) (e := 24) (by kernel_rfl) (by kernel_rfl) B 0 (md5G k) (md5G_lt k) .i64
          rw [Nat.zero_add] at hix
          have hGe : (5 * (k : Int) + 1) % 16 = ((md5G k : Nat) : Int) := by simp [md5G, h16, h32]; try omega
          have hd0 : ((p : Int) == 0) = false := by have := HP.out; simp; omega
          have hd1 : ((p : Int) == 1) = true := by have := HP.out; simp; omega
          clear h16
          go_wp2
          clear hd0 hd1
          have htb := turnT_bd k hlt
          go_quiet ((go_at_call 36; exact quietL (rot_any _ _ _ (by omega) (by omega))))
          go_wp2
          go_roundw
          case rel => exact ⟨k + 1, by omega, by go_num, by rw [md5Run, ← HQ.out]; rfl, by rw [md5Run, ← HQ.out, md5Step, HF.out], by rw [md5Run, ← HQ.out]; rfl, by rw [md5Run, ← HQ.out]; rfl, _, HX.out _⟩
          case measure => simp [intOf]; omega
        · by_cases h48 : k < 48
          · have HF := Lib.hid (md5F2 h16 h32 h48)
            have hix := arr_index (t := 56) (P := Tryd.prog) (n := 16) (e := 24) (by kernel_rfl) (by kernel_rfl) B 0 (md5G k) (md5G_lt k) .i64
            rw [Nat.zero_add] at hix
            have hGe : (3 * (k : Int) + 5) % 16 = ((md5G k : Nat) : Int) := by simp [md5G, h16, h32, h48]; try omega
            have hd0 : ((p : Int) == 0) = false := by have := HP.out; simp; omega
            have hd1 : ((p : Int) == 1) = false := by have := HP.out; simp; omega
            have hd2 : ((p : Int) == 2) = true := by have := HP.out; simp; omega
            clear h16
            go_wp2
            clear hd0 hd1 hd2
            have htb := turnT_bd k hlt
            go_quiet ((go_at_call 36; exact quietL (rot_any _ _ _ (by omega) (by omega))))
            go_wp2
            go_roundw
            case rel => exact ⟨k + 1, by omega, by go_num, by rw [md5Run, ← HQ.out]; rfl, by rw [md5Run, ← HQ.out, md5Step, HF.out], by rw [md5Run, ← HQ.out]; rfl, by rw [md5Run, ← HQ.out]; rfl, _, HX.out _⟩
            case measure => simp [intOf]; omega
          · have HF := Lib.hid (md5F3 h16 h32 h48)
            have hix := arr_index (t := 56) (P := Tryd.prog) (n := 16) (e := 24) (by kernel_rfl) (by kernel_rfl) B 0 (md5G k) (md5G_lt k) .i64
            rw [Nat.zero_add] at hix
            have hGe : 7 * (k : Int) % 16 = ((md5G k : Nat) : Int) := by simp [md5G, h16, h32, h48]; try omega
            have hd0 : ((p : Int) == 0) = false := by have := HP.out; simp; omega
            have hd1 : ((p : Int) == 1) = false := by have := HP.out; simp; omega
            have hd2 : ((p : Int) == 2) = false := by have := HP.out; simp; omega
            clear h16
            go_wp2
            clear hd0 hd1 hd2
            have htb := turnT_bd k hlt
            go_quiet ((go_at_call 36; exact quietL (rot_any _ _ _ (by omega) (by omega))))
            go_wp2
            go_roundw
            case rel => exact ⟨k + 1, by omega, by go_num, by rw [md5Run, ← HQ.out]; rfl, by rw [md5Run, ← HQ.out, md5Step, HF.out], by rw [md5Run, ← HQ.out]; rfl, by rw [md5Run, ← HQ.out]; rfl, _, HX.out _⟩
            case measure => simp [intOf]; omega
    · obtain rfl : k = 64 := by omega
      generalize hw3 : w2.drewN q = w3
      have HH3 : Hid (HashAt w3 g kind [s0, s1, s2, s3, s4, s5, s6, s7] tl size) := by rw [← hw3]; exact HH2.out.drewN _
      have HU3 : Hid (Upd [some g] w w3) := by rw [← hw3]; exact HU2.out.drewN _
      clear hw3
      obtain ⟨w5, HR5, HH5, HU5⟩ := hash_copyS (w := w3.alloc (.cells #[.int .u32 xa, .int .u32 xb, .int .u32 xc, .int .u32 xd] 24)) (HH3.out.upd ((Upd.refl [] w3).alloc _) (by simp)) (c := 4) (Ints.lit w3 .u32 24 [xa, xb, xc, xd]) (by simp) (by simp)
      have HH6 := Lib.hid HH5
      have HU6 := Lib.hid (HU5 [some g] w (HU3.out.alloc _) (Or.inl (by simp)))
      have hr6 : ∀ ty, (Builtin.copy_ #[40, 40] ty #[.slice (some ⟨g, 1, none⟩) 8 8, .slice (some ⟨w3.heap.size, 0, none⟩) 4 4]).run Tryd.prog (w3.alloc (.cells #[.int .u32 xa, .int .u32 xb, .int .u32 xc, .int .u32 xd] 24)) = .ok (goInt 4) w5 := HR5
      clear HH5 HU5 HR5
      go_wp2
      go_end0
      rw [← HQ.out]
      exact ⟨rfl, HH6.out, HU6.out⟩

/-- A new slice of numbers of 32 bits. -/
def NewWords (n : Nat) (ys : List Int) (w : World) (e : Ending) (w' : World) : Prop :=
  ∃ A c, e = .returned (.slice A n c) ∧ Own w' w.heap.size 24 1 A n c (ys.map (Value.int .u32)) ∧ Upd [] w w'

theorem md5Run_step (ws : List Int) (k : Nat) (q : Q4) : md5Run ws (k + 1) q = md5Step ws k (md5Run ws k q) := rfl

end Go.Proofs.YthojhmkahjpflaaDoor
