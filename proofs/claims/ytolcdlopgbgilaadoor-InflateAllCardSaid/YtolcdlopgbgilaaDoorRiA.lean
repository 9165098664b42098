/- The reference's Inflate: its state; number, bad, times, power, length, distance. -/
import Derived.Test.YtolcdlopgbgilaaDoorInfA
import Derived.Test.YtolcdlopgbgilaaDoorHuffM
import Derived.Test.YtolcdlopgbgilaaDoorLag
namespace Go.Proofs.YtolcdlopgbgilaaDoor
open Go.RowKit Go.Dray

/-- The reference's state at block s: p bits are gone of bs; what came: o; the error e. -/
structure RSt (w : World) (B s : Nat) (X : Option Addr) (xc : Nat) (bs : List Bool) (p : Nat) (OA : Option Addr) (on oc : Nat) (o : List Int) (most : Nat) (e : Int) : Prop where
  blk : Blk w s 64 #[.slice X bs.length xc, .int .i64 p, .slice OA on oc, .int .i64 most, .int .i64 e]
  bits : Own w B 3 1 X bs.length xc ((bs.map b2i).map (Value.int .i64))
  own : Own w B 5 1 OA on oc (o.map (Value.int .u8))
  sb : B ≤ s
  pos : p ≤ bs.length
  room : on ≤ most + 1
  room0 : e = 0 → on ≤ most
  blen : bs.length ≤ 8000000000000
  mb : most ≤ 16777216
  obd : ∀ z ∈ o, 0 ≤ z ∧ z ≤ 255
  bw : B ≤ w.heap.size

section
variable {w w' : World} {B s : Nat} {X : Option Addr} {xc : Nat} {bs : List Bool} {p : Nat} {OA : Option Addr} {on oc : Nat} {o : List Int} {most : Nat} {e : Int}
theorem RSt.olen (h : RSt w B s X xc bs p OA on oc o most e) : o.length = on := by have := h.own.len; rw [List.length_map] at this; omega
theorem RSt.grow (h : RSt w B s X xc bs p OA on oc o most e) (hu : Upd [] w w') : RSt w' B s X xc bs p OA on oc o most e :=
  ⟨h.blk.upd hu (by simp), h.bits.upd hu (by simp), h.own.upd hu (by simp), h.sb, h.pos, h.room, h.room0, h.blen, h.mb, h.obd, Nat.le_trans h.bw hu.size⟩
theorem RSt.drewN (h : RSt w B s X xc bs p OA on oc o most e) (q : Nat) : RSt (w.drewN q) B s X xc bs p OA on oc o most e := ⟨h.blk, h.bits, h.own, h.sb, h.pos, h.room, h.room0, h.blen, h.mb, h.obd, h.bw⟩
/-- A place is told. -/
theorem RSt.move (h : RSt w B s X xc bs p OA on oc o most e) {q : Nat} (hq : q ≤ bs.length) : RSt (w.setCell ⟨s, 1, none⟩ (.int .i64 q)) B s X xc bs q OA on oc o most e :=
  ⟨h.blk.set 1 _, h.bits.far (p := ⟨s, 1, none⟩) (h.bits.neBlk h.blk (by decide)) _, h.own.far (p := ⟨s, 1, none⟩) (h.own.neBlk h.blk (by decide)) _, h.sb, hq, h.room, h.room0, h.blen, h.mb, h.obd, by have := h.bw; simp; omega⟩
/-- An error is kept. -/
theorem RSt.err (h : RSt w B s X xc bs p OA on oc o most e) {e' : Int} (he : e' ≠ 0) : RSt (w.setCell ⟨s, 4, none⟩ (.int .i64 e')) B s X xc bs p OA on oc o most e' :=
  ⟨h.blk.set 4 _, h.bits.far (p := ⟨s, 4, none⟩) (h.bits.neBlk h.blk (by decide)) _, h.own.far (p := ⟨s, 4, none⟩) (h.own.neBlk h.blk (by decide)) _, h.sb, h.pos, h.room, fun h => absurd h he, h.blen, h.mb, h.obd, by have := h.bw; simp; omega⟩
theorem RSt.put (_ : RSt w B s X xc bs p OA on oc o most e) (k : Nat) (u : Value) : Upd [some s] w (w.setCell ⟨s, k, none⟩ u) := (Upd.refl _ w).setCell (p := ⟨s, k, none⟩) (Or.inl (by simp)) _
end

/-- What reading a number leaves. -/
def NumPost (w : World) (B s : Nat) (X : Option Addr) (xc : Nat) (bs : List Bool) (p : Nat) (OA : Option Addr) (on oc : Nat) (o : List Int) (most : Nat) (err : Int) (n : Nat) (e : Ending) (w' : World) : Prop :=
  ∃ v p' err', e = .returned (.int .i64 v) ∧ RSt w' B s X xc bs p' OA on oc o most err' ∧ Upd [some s] w w' ∧ p ≤ p' ∧ 0 ≤ v ∧ v < 2 ^ n ∧
    ((err ≠ 0 ∧ err' = err ∧ p' = p ∧ v = 0) ∨ (err = 0 ∧ p + n ≤ bs.length ∧ err' = 0 ∧ p' = p + n ∧ v = num ((bs.drop p).take n)) ∨ (err = 0 ∧ bs.length < p + n ∧ err' = 2 ∧ p' = p ∧ v = 0))

set_option maxRecDepth 100000 in
set_option maxHeartbeats 1000000 in
theorem number_any {w : World} {B s : Nat} {X : Option Addr} {xc : Nat} {bs : List Bool} {p : Nat} {OA : Option Addr} {on oc : Nat} {o : List Int} {most : Nat} {err : Int} (h : RSt w B s X xc bs p OA on oc o most err) (n : Nat) (hn : n ≤ 24) :
    Calls Tryd.prog 28 #[.pointer (some ⟨s, 0, none⟩), .int .i64 n] w (NumPost w B s X xc bs p OA on oc o most err n) := by
  have HS := Lib.hid h
  have c0 := h.blk.cell 0
  have c1 := h.blk.cell 1
  have c4 := h.blk.cell 4
  have f1 := h.blk.frozen 1
  have f4 := h.blk.frozen 4
  simp at c0 c1 c4
  have hp := h.pos
  have hb := h.blen
  have HPW : Hid ((0 : Int) < 2 ^ n) := Int.pow_pos (by decide)
  obtain ⟨N, hN⟩ : ∃ N, N = bs.length := ⟨_, rfl⟩
  have HN := Lib.hid hN
  rw [← hN] at c0 hp hb
  clear h hN
  by_cases he : err = 0
  · subst he
    by_cases hl : p + n ≤ N
    · have d1 : decide ((N : Int) - p < n) = false := by simp; omega
      have HBI : Hid (Ints .i64 w X N (bs.map b2i)) := by rw [HN.out]; exact Ints.ofOwn HS.out.bits
      have hxc : N ≤ xc := by rw [HN.out]; exact HS.out.bits.le
      go_enter Tryd.func28, Tryd.ntmps28
      go_wp2
      go_quiet (fail)
      have HS1 := Lib.hid (HS.out.drewN nq)
      have c0' : (w.drewN nq).cell? ⟨s, 0, none⟩ = some (.slice X N xc) := c0
      have c1' : (w.drewN nq).cell? ⟨s, 1, none⟩ = some (.int .i64 p) := c1
      have f1' : (w.drewN nq).frozen? ⟨s, 1, none⟩ = false := f1
      have HB1 := Lib.hid (HBI.out.drewN nq)
      have HU1 : Hid (Upd [some s] w (w.drewN nq)) := (Upd.refl _ w).drewN nq
      generalize w.drewN nq = w1 at HS1 c0' c1' f1' HB1 HU1 ⊢
      clear c0 c1 c4 f1 f4 HS HBI
      go_wp2
      have HS2 : Hid (RSt (w1.setCell ⟨s, 1, none⟩ (.int .i64 ((p : Int) + n))) B s X xc bs (p + n) OA on oc o most 0) := HS1.out.move (q := p + n) (by rw [← HN.out]; exact hl)
      have HU2 : Hid (Upd [some s] w (w1.setCell ⟨s, 1, none⟩ (.int .i64 ((p : Int) + n)))) := HU1.out.trans (HS1.out.put 1 _)
      have HB2 : Hid (Ints .i64 (w1.setCell ⟨s, 1, none⟩ (.int .i64 ((p : Int) + n))) X N (bs.map b2i)) := by rw [HN.out]; exact Ints.ofOwn HS2.out.bits
      have k0 := HS2.out.blk.cell 0
      have k1 := HS2.out.blk.cell 1
      simp at k0 k1
      rw [← HN.out] at k0
      generalize w1.setCell ⟨s, 1, none⟩ (.int .i64 ((p : Int) + n)) = w2 at HS2 HU2 HB2 k0 k1 ⊢
      clear HS1 HB1 HU1 c0' c1' f1'
      have cut := run_cut_lh el_int X N xc .i64 .i64 (p : Int) ((p : Int) + n) p (p + n) (by omega) (by omega) (by omega) (by omega)
      rw [Nat.add_sub_cancel_left] at cut
      have HC : Hid (Ints .i64 w2 (cutA 1 X xc p) n (((bs.drop p).take n).map b2i)) := by
        have h := HB2.out.cut (lo := p) (hi := p + n) (c := xc) (by omega) hl hxc
        rw [← List.map_drop, ← List.map_take, Nat.add_sub_cancel_left] at h
        exact h
      have hwp : IntKind.i64.wrap (p : Int) = p := by rw [IntKind.wrap_i64]; omega
      go_quiet ((go_at_call 59; exact quietL (rnumber_any _ _ _ _ _ (HC.out.drewN _) (by omega))))
      go_wp2
      go_ret
      have hnb := num_bd (bs.drop p) n n (Nat.le_refl _)
      exact ⟨_, p + n, 0, rfl, HS2.out.drewN _, HU2.out.drewN _, by omega, hnb.1, hnb.2, Or.inr (Or.inl ⟨rfl, by rw [← HN.out]; exact hl, rfl, rfl, rfl⟩)⟩
    · have d1 : decide ((N : Int) - p < n) = true := by simp; omega
      go_enter Tryd.func28, Tryd.ntmps28
      go_wp2
      go_quiet (fail)
      have HS1 := Lib.hid (HS.out.drewN nq)
      have c4' : (w.drewN nq).cell? ⟨s, 4, none⟩ = some (.int .i64 0) := c4
      have f4' : (w.drewN nq).frozen? ⟨s, 4, none⟩ = false := f4
      have HU1 : Hid (Upd [some s] w (w.drewN nq)) := (Upd.refl _ w).drewN nq
      generalize w.drewN nq = w1 at HS1 c4' f4' HU1 ⊢
      clear c0 c1 c4 f1 f4 HS
      go_wp2
      go_ret
      exact ⟨0, p, 2, rfl, HS1.out.err (by decide), HU1.out.trans (HS1.out.put 4 _), by omega, by omega, HPW.out, Or.inr (Or.inr ⟨rfl, by rw [← HN.out]; omega, rfl, rfl, rfl⟩)⟩
  · have d0 : (err != 0) = true := by simp [he]
    go_enter Tryd.func28, Tryd.ntmps28
    go_wp2
    go_ret
    exact ⟨0, p, err, rfl, HS.out, Upd.refl _ _, Nat.le_refl _, by omega, HPW.out, Or.inl ⟨he, rfl, rfl, rfl⟩⟩

def badE (e : Int) (is : Bool) (x : Int) : Int := if is = true ∧ e = 0 then x else e
def BadPost (w : World) (B s : Nat) (X : Option Addr) (xc : Nat) (bs : List Bool) (p : Nat) (OA : Option Addr) (on oc : Nat) (o : List Int) (most : Nat) (err : Int) (e : Ending) (w' : World) : Prop :=
  e = .returned (.tuple #[]) ∧ RSt w' B s X xc bs p OA on oc o most err ∧ Upd [some s] w w'
set_option maxRecDepth 100000 in
set_option maxHeartbeats 1000000 in
theorem bad_any {w : World} {B s : Nat} {X : Option Addr} {xc : Nat} {bs : List Bool} {p : Nat} {OA : Option Addr} {on oc : Nat} {o : List Int} {most : Nat} {err : Int} (h : RSt w B s X xc bs p OA on oc o most err) (is : Bool) (x : Int) (hx : x ≠ 0) :
    Calls Tryd.prog 60 #[.pointer (some ⟨s, 0, none⟩), .bool is, .int .i64 x] w (BadPost w B s X xc bs p OA on oc o most (badE err is x)) := by
  have HS := Lib.hid h
  have c4 := h.blk.cell 4
  have f4 := h.blk.frozen 4
  simp at c4
  clear h
  by_cases hi : is = true
  · subst hi
    by_cases he : err = 0
    · subst he
      have HE : Hid (badE 0 true x = x) := by show _ = _; unfold badE; rw [if_pos ⟨rfl, rfl⟩]
      go_enter Tryd.func60, Tryd.ntmps60
      go_wp2
      go_end0
      exact ⟨rfl, by rw [HE.out]; exact HS.out.err hx, HS.out.put 4 _⟩
    · have HE : Hid (badE err true x = err) := by show _ = _; unfold badE; rw [if_neg (fun h => he h.2)]
      have d0 : (err == 0) = false := by simp [he]
      go_enter Tryd.func60, Tryd.ntmps60
      go_wp2
      go_end0
      exact ⟨rfl, by rw [HE.out]; exact HS.out, Upd.refl _ _⟩
  · obtain rfl : is = false := Bool.eq_false_iff.mpr hi
    have HE : Hid (badE err false x = err) := by show _ = _; unfold badE; rw [if_neg (fun h => absurd h.1 (by decide))]
    go_enter Tryd.func60, Tryd.ntmps60
    go_wp2
    go_end0
    exact ⟨rfl, by rw [HE.out]; exact HS.out, Upd.refl _ _⟩

set_option maxRecDepth 100000 in
set_option maxHeartbeats 1000000 in
theorem times_any (x : Int) (n : Nat) (hn : n ≤ 1000000) (w : World) : Calls Tryd.prog 33 #[.int .i64 x, .int .i64 n] w (NewInts n (List.replicate n x) w) := by
  go_enter Tryd.func33, Tryd.ntmps33
  go_wp2
  go_loopw [5, 6] (fun v i wr => ∃ k : Nat, k ≤ n ∧ i = .int .i64 k ∧ ∃ A c, v = .slice A k c ∧ Hid (Own wr w.heap.size 3 1 A k c ((List.replicate k x).map (Value.int .i64))) ∧ Hid (Upd [] w wr)) (fun _ i _ => n - (intOf i).toNat)
  case atStart => exact ⟨0, by omega, rfl, none, 0, rfl, Own.nil _ _ _ _, Upd.refl _ _⟩
  case round =>
    obtain ⟨k, hk, rfl, A, c, rfl, HO, HU⟩ := hrel
    by_cases hlt : k < n
    · have hsz := HU.out.size
      go_wp2_with (at_builtin; refine wpList_app rfl rfl el_int rfl (HO.out.alloc _) rfl (Seg.one wr _ _) (by simp [Value.oneCell']) (by simp only [maxLen]; omega) (by omega) (by simp; omega) ?_; intro A' c' w' hown hu hfr; have HO' : Hid (Own w' w.heap.size 3 1 A' (k + 1) c' ((List.replicate (k + 1) x).map (Value.int .i64))) := (by rw [List.replicate_succ', List.map_append]; exact hown); have HU' : Hid (Upd [] w w') := (HU.out.alloc _).then hu (by intro b hb; simp at hb; right; exact (HO.out.base hb.symm).1); clear hown hu hfr)
      go_roundw
      case rel => exact ⟨k + 1, by omega, by go_num, A', c', rfl, HO', HU'⟩
      case measure => simp [intOf]; omega
    · obtain rfl : k = n := by omega
      go_wp2
      go_ret
      exact ⟨A, c, rfl, HO.out, HU.out⟩

theorem pow2_14 (k : Nat) (h : k ≤ 14) : (1 : Int) ≤ 2 ^ k ∧ (2 : Int) ^ k ≤ 16384 := by
  have h1 : ∀ k, k ≤ 14 → (1 : Int) ≤ 2 ^ k ∧ (2 : Int) ^ k ≤ 16384 := by decide
  exact h1 k h
set_option maxRecDepth 100000 in
set_option maxHeartbeats 1000000 in
theorem power_any (n : Nat) (hn : n ≤ 13) (w : World) : Calls Tryd.prog 93 #[.int .i64 n] w fun e w' => e = .returned (.int .i64 (2 ^ n)) ∧ w = w' := by
  go_enter Tryd.func93, Tryd.ntmps93
  go_wp2
  go_loop [3, 4] (fun v i => ∃ k : Nat, k ≤ n ∧ i = .int .i64 k ∧ ∃ P : Int, v = .int .i64 P ∧ Hid (P = 2 ^ k)) (fun _ i => n - (intOf i).toNat)
  case atStart => exact ⟨0, by omega, rfl, 1, rfl, rfl⟩
  case round =>
    obtain ⟨k, hk, rfl, P, rfl, HP⟩ := hrel
    have hb := pow2_14 k (by omega)
    rw [← HP.out] at hb
    by_cases hlt : k < n
    · go_wp2
      go_round
      case rel => exact ⟨k + 1, by omega, by go_num, 2 * P, by go_num, by show _ = _; rw [HP.out, Int.pow_succ, Int.mul_comm]⟩
      case measure => simp [intOf]; omega
    · obtain rfl : k = n := by omega
      go_wp2
      go_ret
      exact ⟨by rw [HP.out]; rfl, rfl⟩

end Go.Proofs.YtolcdlopgbgilaaDoor
