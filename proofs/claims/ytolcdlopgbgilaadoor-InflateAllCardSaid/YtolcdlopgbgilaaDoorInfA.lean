/- The walks of inflate's unpacker: length, distance, lone. -/
import Derived.Test.YtolcdlopgbgilaaDoorInfP
namespace Go.Proofs.YtolcdlopgbgilaaDoor
open Go.RowKit Go.Dray

/-- An unpacker at block u: its reader at block g behind p bits of the bytes ys; what came: o. -/
structure USt (w : World) (B u g : Nat) (RA : Option Addr) (rn rc : Nat) (ys : List Int) (most : Nat) (p : Nat) (OA : Option Addr) (on oc : Nat) (o : List Int) : Prop where
  blk : Blk w u 55 #[.pointer (some ⟨g, 0, none⟩), .slice OA on oc, .int .i64 most]
  rd : Rd w B g RA rn rc ys p
  own : Own w B 5 1 OA on oc (o.map (Value.int .u8))
  sep : ∀ x, ob OA = some x → ob RA ≠ some x
  pos : p ≤ 8 * rn
  room : on ≤ most
  yb : ∀ z ∈ ys, 0 ≤ z ∧ z ≤ 255
  rb : rn ≤ 1000000000000
  mb : most ≤ 16777216
  obd : ∀ z ∈ o, 0 ≤ z ∧ z ≤ 255
  bw : B ≤ w.heap.size

section
variable {w w' : World} {B u g : Nat} {RA : Option Addr} {rn rc : Nat} {ys : List Int} {most p : Nat} {OA : Option Addr} {on oc : Nat} {o : List Int}
theorem USt.olen (h : USt w B u g RA rn rc ys most p OA on oc o) : o.length = on := by have := h.own.len; rw [List.length_map] at this; omega
theorem USt.bits (h : USt w B u g RA rn rc ys most p OA on oc o) : (bitsOf ys).length = 8 * rn := by
  have := h.rd.2.len
  rw [List.length_map] at this
  rw [bitsOf_len]
  omega
theorem USt.ug (h : USt w B u g RA rn rc ys most p OA on oc o) : u ≠ g := h.blk.ne h.rd.1 (by decide)
/-- The reader has gone on. -/
theorem USt.read (h : USt w B u g RA rn rc ys most p OA on oc o) {p' : Nat} (hr : Rd w' B g RA rn rc ys p') (hu : Upd [some g] w w') (hp : p' ≤ 8 * rn) : USt w' B u g RA rn rc ys most p' OA on oc o :=
  ⟨h.blk.upd hu (by simp; exact h.ug), hr, h.own.upd hu (by intro x hx; simp; rintro rfl; exact h.own.neBlk h.rd.1 (by decide) hx), h.sep, hp, h.room, h.yb, h.rb, h.mb, h.obd, Nat.le_trans h.bw hu.size⟩
theorem USt.drewN (h : USt w B u g RA rn rc ys most p OA on oc o) (q : Nat) : USt (w.drewN q) B u g RA rn rc ys most p OA on oc o := ⟨h.blk, h.rd.drewN q, h.own.drewN q, h.sep, h.pos, h.room, h.yb, h.rb, h.mb, h.obd, h.bw⟩
theorem USt.grow (h : USt w B u g RA rn rc ys most p OA on oc o) (hu : Upd [] w w') : USt w' B u g RA rn rc ys most p OA on oc o :=
  ⟨h.blk.upd hu (by simp), h.rd.upd hu (by simp) (by simp), h.own.upd hu (by simp), h.sep, h.pos, h.room, h.yb, h.rb, h.mb, h.obd, Nat.le_trans h.bw hu.size⟩
end

/-- Take, whatever is left. -/
def TkPost (w : World) (B g : Nat) (RA : Option Addr) (rn rc : Nat) (ys : List Int) (p m : Nat) (e : Ending) (w' : World) : Prop :=
  (p + m ≤ 8 * rn ∧ RdPost w B g RA rn rc ys (p + m) (.tuple #[.int .i64 (num (((bitsOf ys).drop p).take m)), .bool true]) e w') ∨ (8 * rn < p + m ∧ RdPost w B g RA rn rc ys p (.tuple #[.int .i64 0, .bool false]) e w')
theorem take_any {w : World} {B u g : Nat} {RA : Option Addr} {rn rc : Nat} {ys : List Int} {most p : Nat} {OA : Option Addr} {on oc : Nat} {o : List Int} (h : USt w B u g RA rn rc ys most p OA on oc o) (m : Nat) (hm : m ≤ 24) :
    Calls Tryd.prog 24 #[.pointer (some ⟨g, 0, none⟩), .int .i64 m] w (TkPost w B g RA rn rc ys p m) := by
  have hb := h.rb
  by_cases hl : p + m ≤ 8 * rn
  · exact (take_ok m h.rd (by omega) hm hl h.yb).mono fun e w' he => Or.inl ⟨hl, he⟩
  · exact (take_no m h.rd h.pos (by omega) (by omega)).mono fun e w' he => Or.inr ⟨by omega, he⟩

theorem run_take_ok {bs : List Bool} {most n p : Nat} {k : Int → Pr} {o : List Int} (h : p + n ≤ bs.length) : run bs most (.take n k) p o = run bs most (k (num ((bs.drop p).take n))) (p + n) o := by rw [run, if_pos h]
theorem run_take_no {bs : List Bool} {most n p : Nat} {k : Int → Pr} {o : List Int} (h : bs.length < p + n) : run bs most (.take n k) p o = .err 2 := by rw [run, if_neg (by omega)]
theorem num_bd (l : List Bool) (n m : Nat) (h : n ≤ m) : 0 ≤ num (l.take n) ∧ num (l.take n) < 2 ^ m := by
  refine ⟨num_nonneg _, ?_⟩
  have h1 := num_lt (l.take n)
  have h2 : (l.take n).length ≤ m := by rw [List.length_take]; omega
  have h3 := Nat.pow_le_pow_right (n := 2) (by omega) h2
  have e1 : ((2 ^ (l.take n).length : Nat) : Int) = (2 : Int) ^ (l.take n).length := by simp
  have e2 : ((2 ^ m : Nat) : Int) = (2 : Int) ^ m := by simp
  rw [← e1] at h1
  rw [← e2]
  omega

/-- What a number read tells, or an error. -/
def ValPost (w : World) (B u g : Nat) (RA : Option Addr) (rn rc : Nat) (ys : List Int) (most p : Nat) (OA : Option Addr) (on oc : Nat) (o : List Int) (X : (Int → Pr) → Pr) (lo hi : Int) (e : Ending) (w' : World) : Prop :=
  ∃ v err p', e = .returned (.tuple #[.int .i64 v, .int .i64 err]) ∧ USt w' B u g RA rn rc ys most p' OA on oc o ∧ Upd [some g] w w' ∧ p ≤ p' ∧
    ((err ≠ 0 ∧ ∀ k, run (bitsOf ys) most (X k) p o = .err err) ∨ (err = 0 ∧ lo ≤ v ∧ v ≤ hi ∧ ∀ k, run (bitsOf ys) most (X k) p o = run (bitsOf ys) most (k v) p' o))

set_option maxHeartbeats 1000000 in
theorem length_any {w : World} {B u g : Nat} {RA : Option Addr} {rn rc : Nat} {ys : List Int} {most p : Nat} {OA : Option Addr} {on oc : Nat} {o : List Int} (h : USt w B u g RA rn rc ys most p OA on oc o) (i : Int) (h0 : 0 ≤ i) (h1 : i ≤ 28) :
    Calls Tryd.prog 110 #[.pointer (some ⟨u, 0, none⟩), .int .i64 i] w (ValPost w B u g RA rn rc ys most p OA on oc o (lenPr i) 3 258) := by
  have HU := Lib.hid h
  have hc0 := h.blk.cell 0
  simp at hc0
  clear h
  by_cases h8 : i < 8
  · go_enter Tryd.func110, Tryd.ntmps110
    go_wp2
    go_ret2
    exact ⟨3 + i, 0, p, rfl, HU.out, Upd.refl _ _, Nat.le_refl _, Or.inr ⟨rfl, by omega, by omega, fun k => by unfold lenPr; rw [if_pos h8]⟩⟩
  · by_cases h28 : i = 28
    · subst h28
      go_enter Tryd.func110, Tryd.ntmps110
      go_wp2
      go_ret2
      exact ⟨258, 0, p, rfl, HU.out, Upd.refl _ _, Nat.le_refl _, Or.inr ⟨rfl, by omega, by omega, fun k => rfl⟩⟩
    · have hd : (i == 28) = false := by simp [h28]
      obtain ⟨n, hn⟩ : ∃ n : Nat, (n : Int) = i / 4 - 1 := ⟨(i / 4 - 1).toNat, by omega⟩
      have hn5 : 1 ≤ n ∧ n ≤ 5 := by omega
      have HN : Hid (i / 4 - 1 = (n : Int)) := hn.symm
      have HX : Hid (∀ k, lenPr i k = .take n fun v => k (3 + (4 + i % 4) * 2 ^ n + v)) := fun k => by
        unfold lenPr
        rw [if_neg h8, if_neg h28, ← hn]
        rfl
      have h8' : 8 ≤ i := by omega
      clear hn h8
      go_enter Tryd.func110, Tryd.ntmps110
      go_wp2_with fail
      rw [HN.out]
      refine (take_any HU.out n (by omega)).mono ?_
      rintro e w1 (⟨hl, rfl, hr, hu⟩ | ⟨hl, rfl, hr, hu⟩)
      · have hnb := num_bd ((bitsOf ys).drop p) n n (Nat.le_refl _)
        obtain ⟨v, hv⟩ : ∃ v, v = num (((bitsOf ys).drop p).take n) := ⟨_, rfl⟩
        rw [← hv] at hnb ⊢
        have HV := Lib.hid hv
        have hmul : 0 ≤ (4 + i % 4) * (2 : Int) ^ n ∧ (4 + i % 4) * (2 : Int) ^ n + v ≤ 255 := by
          obtain ⟨a, b⟩ := hn5
          match n, a, b with
          | 1, _, _ | 2, _, _ | 3, _, _ | 4, _, _ | 5, _, _ => first | omega | (simp at hnb; omega)
        have hnb0 := hnb.1
        clear hv hnb
        go_wp2
        go_ret2
        exact ⟨3 + (4 + i % 4) * 2 ^ n + v, 0, p + n, rfl, HU.out.read hr hu hl, hu, by omega, Or.inr ⟨rfl, by omega, by omega, fun k => by rw [HX.out, run_take_ok (by rw [HU.out.bits]; exact hl), ← HV.out]⟩⟩
      · go_wp2
        go_ret2
        exact ⟨0, 2, p, rfl, HU.out.read hr hu HU.out.pos, hu, Nat.le_refl _, Or.inl ⟨by decide, fun k => by rw [HX.out, run_take_no (by rw [HU.out.bits]; omega)]⟩⟩

set_option maxHeartbeats 1000000 in
theorem distance_any {w : World} {B u g : Nat} {RA : Option Addr} {rn rc : Nat} {ys : List Int} {most p : Nat} {OA : Option Addr} {on oc : Nat} {o : List Int} (h : USt w B u g RA rn rc ys most p OA on oc o) (i : Int) (h0 : 0 ≤ i) (h1 : i ≤ 29) :
    Calls Tryd.prog 111 #[.pointer (some ⟨u, 0, none⟩), .int .i64 i] w (ValPost w B u g RA rn rc ys most p OA on oc o (distPr i) 1 32768) := by
  have HU := Lib.hid h
  have hc0 := h.blk.cell 0
  simp at hc0
  clear h
  by_cases h8 : i < 4
  · go_enter Tryd.func111, Tryd.ntmps111
    go_wp2
    go_ret2
    exact ⟨1 + i, 0, p, rfl, HU.out, Upd.refl _ _, Nat.le_refl _, Or.inr ⟨rfl, by omega, by omega, fun k => by unfold distPr; rw [if_pos h8]⟩⟩
  · obtain ⟨n, hn⟩ : ∃ n : Nat, (n : Int) = i / 2 - 1 := ⟨(i / 2 - 1).toNat, by omega⟩
    have hn5 : 1 ≤ n ∧ n ≤ 13 := by omega
    have HN : Hid (i / 2 - 1 = (n : Int)) := hn.symm
    have HX : Hid (∀ k, distPr i k = .take n fun v => k (1 + (2 + i % 2) * 2 ^ n + v)) := fun k => by
      unfold distPr
      rw [if_neg h8, ← hn]
      rfl
    have h8' : 4 ≤ i := by omega
    clear hn h8
    go_enter Tryd.func111, Tryd.ntmps111
    go_wp2_with fail
    rw [HN.out]
    refine (take_any HU.out n (by omega)).mono ?_
    rintro e w1 (⟨hl, rfl, hr, hu⟩ | ⟨hl, rfl, hr, hu⟩)
    · have hnb := num_bd ((bitsOf ys).drop p) n n (Nat.le_refl _)
      obtain ⟨v, hv⟩ : ∃ v, v = num (((bitsOf ys).drop p).take n) := ⟨_, rfl⟩
      rw [← hv] at hnb ⊢
      have HV := Lib.hid hv
      have hmul : 0 ≤ (2 + i % 2) * (2 : Int) ^ n ∧ (2 + i % 2) * (2 : Int) ^ n + v ≤ 32767 := by
        obtain ⟨a, b⟩ := hn5
        match n, a, b with
        | 1, _, _ | 2, _, _ | 3, _, _ | 4, _, _ | 5, _, _ | 6, _, _ | 7, _, _ | 8, _, _ | 9, _, _ | 10, _, _ | 11, _, _ | 12, _, _ | 13, _, _ => first | omega | (simp at hnb; omega)
      have hnb0 := hnb.1
      clear hv hnb
      go_wp2
      go_ret2
      exact ⟨1 + (2 + i % 2) * 2 ^ n + v, 0, p + n, rfl, HU.out.read hr hu hl, hu, by omega, Or.inr ⟨rfl, by omega, by omega, fun k => by rw [HX.out, run_take_ok (by rw [HU.out.bits]; exact hl), ← HV.out]⟩⟩
    · go_wp2
      go_ret2
      exact ⟨0, 2, p, rfl, HU.out.read hr hu HU.out.pos, hu, Nat.le_refl _, Or.inl ⟨by decide, fun k => by rw [HX.out, run_take_no (by rw [HU.out.bits]; omega)]⟩⟩

theorem sum_snoc (zs : List Int) (k : Nat) (x : Int) (h : zs[k]? = some x) : (zs.take (k + 1)).sum = (zs.take k).sum + x := by
  have hk : k < zs.length := (List.getElem?_eq_some_iff.1 h).1
  have hx : zs[k] = x := (List.getElem?_eq_some_iff.1 h).2
  rw [List.take_succ_eq_append_getElem hk, hx, List.sum_append]
  simp
theorem sum_bd (zs : List Int) (h : ∀ z ∈ zs, 0 ≤ z ∧ z ≤ 15) : 0 ≤ zs.sum ∧ zs.sum ≤ 15 * zs.length := by
  induction zs with
  | nil => simp
  | cons z zs ih =>
    have h1 := h z (by simp)
    have h2 := ih fun y hy => h y (by simp [hy])
    rw [List.sum_cons, List.length_cons]
    omega

set_option maxHeartbeats 400000 in
theorem lone_any (A : Option Addr) (n c : Nat) (zs : List Int) (w : World) (hs : Ints .i64 w A n zs) (hb : ∀ z ∈ zs, 0 ≤ z ∧ z ≤ 15) (hn : n ≤ 1000) :
    Calls Tryd.prog 91 #[.slice A n c] w fun e w' => e = .returned (.bool (loneB zs)) ∧ w = w' := by
  have HB := Lib.hid hb
  clear hb
  have HL := hs.len
  go_enter Tryd.func91, Tryd.ntmps91
  go_wp2
  go_loop [3, 8] (fun t i => ∃ k : Nat, k ≤ n ∧ i = .int .i64 k ∧ t = .int .i64 ((zs.take k).sum)) (fun _ i => n - (intOf i).toNat)
  case atStart => exact ⟨0, Nat.zero_le _, rfl, rfl⟩
  case round =>
    obtain ⟨k, hk, rfl, rfl⟩ := hrel
    have hbd := sum_bd (zs.take k) fun z hz => HB.out z (List.mem_of_mem_take hz)
    have hlt : (zs.take k).length ≤ k := List.length_take_le _ _
    obtain ⟨s, hs0⟩ : ∃ s, s = (zs.take k).sum := ⟨_, rfl⟩
    have HS := Lib.hid hs0
    rw [← hs0] at hbd ⊢
    clear hs0
    by_cases h : k < n
    · obtain ⟨x, HX, hcell⟩ := hs.int h
      have hix := hs.index el_int c .i64 k h
      obtain ⟨hx0, hx1⟩ := HB.out x (List.mem_of_getElem? HX.out)
      clear hs
      go_wp2
      go_round
      case rel => exact ⟨k + 1, by omega, by go_num, by rw [sum_snoc zs k x HX.out, ← HS.out]⟩
      case measure => simp [intOf]; omega
    · obtain rfl : k = n := by omega
      have HE : Hid (loneB zs = decide (s ≤ 1)) := by show _ = _; unfold loneB; rw [HS.out, List.take_of_length_le (by rw [HL.out]; omega)]
      go_wp2
      go_ret
      exact ⟨by rw [HE.out]; rfl, rfl⟩

end Go.Proofs.YtolcdlopgbgilaaDoor
