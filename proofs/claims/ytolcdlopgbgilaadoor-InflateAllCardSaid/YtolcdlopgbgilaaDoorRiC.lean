/- The reference's Inflate: made, length, distance. -/
import Derived.Test.YtolcdlopgbgilaaDoorRiB
namespace Go.Proofs.YtolcdlopgbgilaaDoor
open Go.RowKit Go.Dray

theorem Own.tblk {w : World} {B : Nat} {e : TypeId} {sz : Nat} {A : Option Addr} {n c : Nat} {xs : List Value} (h : Own w B e sz A n c xs) (hp : 0 < n) : ∃ cs, Blk w (bl A) e cs := by
  rcases h.cases.2.2.2 with ⟨_, h0, _⟩ | ⟨g, cur, rfl, _, hb, _⟩
  · omega
  · exact ⟨cur, hb⟩

def MadePost (w : World) (zs : List Int) (A : Option Addr) (n c : Nat) (e : Ending) (w' : World) : Prop :=
  ∃ C d, e = .returned (.agg #[.slice A n c, .slice C n d]) ∧ Cd w' zs A c C d ∧ (∀ k, ob C = some k → w.heap.size ≤ k) ∧ Upd [] w w'

set_option maxRecDepth 100000 in
set_option maxHeartbeats 1000000 in
theorem made_any (A : Option Addr) (n c : Nat) (zs : List Int) (w : World) (hs : Ints .i64 w A n zs) (hk : chk zs = 0) (ht : 0 < n → ∃ cs, Blk w (bl A) 3 cs) :
    Calls Tryd.prog 32 #[.slice A n c] w (MadePost w zs A n c) := by
  have HS := Lib.hid hs
  have HT := Lib.hid ht
  have HL := hs.len
  clear hs ht
  obtain ⟨w0, hw0⟩ : ∃ w0 : World, w0 = w.alloc (.cells #[.slice none 0 0, .slice none 0 0] 68) := ⟨_, rfl⟩
  obtain ⟨g, hg⟩ : ∃ g, g = w.heap.size := ⟨_, rfl⟩
  have hb0 : Blk w0 g 68 #[.slice none 0 0, .slice none 0 0] := by rw [hw0, hg]; exact Blk.new _ _ _
  have hu0 : Upd [] w w0 := by rw [hw0]; exact (Upd.refl _ _).alloc _
  have hgw : w.heap.size ≤ g := by omega
  go_enter Tryd.func32, Tryd.ntmps32
  go_wp2_with fail
  rw [← hw0]
  refine (rcodes_ok A n c zs w0 (HS.out.upd hu0 (by simp)) hk).mono ?_
  rintro e w1 ⟨C, d, rfl, hown, hu1⟩
  have hb1 := hb0.upd hu1 (by simp)
  have HU1 : Hid (Upd [] w w1) := hu0.trans hu1
  have HC1 : Hid (Ints .i64 w1 C n (tab zs.length (codeOf zs))) := Ints.ofOwn hown
  have HR : Hid (∀ k, ob C = some k → w.heap.size ≤ k) := fun k hk => by have := (hown.base hk).1; have := hu0.size; omega
  have HTC : Hid (0 < n → ∃ cs, Blk w1 (bl C) 3 cs) := fun hp => Own.tblk hown hp
  rw [← hg]
  have HG := Lib.hid hg
  clear hown hu1 hb0 hu0 hw0 hg
  have hf0 := hb1.frozen 0
  have hf1 := hb1.frozen 1
  have hc0 := hb1.cell 0
  have hc1 := hb1.cell 1
  simp at hc0 hc1
  go_wp2
  obtain ⟨w9, hw9⟩ : ∃ w9 : World, w9 = (w1.setCell ⟨g, 0, none⟩ (.slice A n c)).setCell ⟨g, 1, none⟩ (.slice C n d) := ⟨_, rfl⟩
  rw [← hw9]
  have hb9 : Blk w9 g 68 #[.slice A n c, .slice C n d] := by rw [hw9]; exact (hb1.set 0 _).set 1 _
  have hu9 : Upd [] w w9 := by rw [hw9]; exact (HU1.out.put hgw _).put hgw _
  have q0 := hb9.cell 0
  have q1 := hb9.cell 1
  simp at q0 q1
  refine bodyPost_ret (v := .agg #[.slice A n c, .slice C n d]) (by simp [results, Tryd.results32, go_sem, q0, q1]) rfl ?_
  have hne : 0 < n → bl C ≠ g := fun hp => by obtain ⟨cs, hb⟩ := HTC.out hp; exact hb.ne hb1 (by decide)
  have hC9 : Ints .i64 w9 C n (tab zs.length (codeOf zs)) := by
    refine HC1.out.upd (L := [some g]) ?_ (fun hp => by simp; exact hne hp)
    rw [hw9]
    exact ((Upd.refl _ w1).putIn (by simp) _).putIn (by simp) _
  have hT9 : 0 < n → ∃ cs, Blk w9 (bl C) 3 cs := fun hp => by
    obtain ⟨cs, hb⟩ := HTC.out hp
    refine ⟨cs, hb.upd (L := [some g]) ?_ (by simp; exact hne hp)⟩
    rw [hw9]
    exact ((Upd.refl _ w1).putIn (by simp) _).putIn (by simp) _
  have hl := HL.out
  subst hl
  exact ⟨C, d, rfl, ⟨HS.out.upd hu9 (by simp), hC9, hk, fun hp => by obtain ⟨cs, hb⟩ := HT.out hp; exact ⟨cs, hb.upd hu9 (by simp)⟩, hT9⟩, HR.out, hu9⟩

/-- What a number with bits behind it tells, or an error. -/
def VPost (w : World) (B s : Nat) (X : Option Addr) (xc : Nat) (bs : List Bool) (p : Nat) (OA : Option Addr) (on oc : Nat) (o : List Int) (most : Nat) (Xp : (Int → Pr) → Pr) (lo hi : Int) (e : Ending) (w' : World) : Prop :=
  ∃ v p' err', e = .returned (.int .i64 v) ∧ RSt w' B s X xc bs p' OA on oc o most err' ∧ Upd [some s] w w' ∧ p ≤ p' ∧ 0 ≤ v ∧ v ≤ 100000 ∧
    ((err' ≠ 0 ∧ ∀ k, run bs most (Xp k) p o = .err err') ∨ (err' = 0 ∧ lo ≤ v ∧ v ≤ hi ∧ ∀ k, run bs most (Xp k) p o = run bs most (k v) p' o))

set_option maxRecDepth 100000 in
set_option maxHeartbeats 2000000 in
theorem rlength_any {w : World} {B s : Nat} {X : Option Addr} {xc : Nat} {bs : List Bool} {p : Nat} {OA : Option Addr} {on oc : Nat} {o : List Int} {most : Nat} (h : RSt w B s X xc bs p OA on oc o most 0) (x : Int) (h0 : 257 ≤ x) (h1 : x ≤ 285) :
    Calls Tryd.prog 62 #[.pointer (some ⟨s, 0, none⟩), .int .i64 x] w (VPost w B s X xc bs p OA on oc o most (lenPr (x - 257)) 3 258) := by
  have HS := Lib.hid h
  clear h
  obtain ⟨i, rfl⟩ : ∃ i, x = i + 257 := ⟨x - 257, by omega⟩
  have hi0 : 0 ≤ i := by omega
  have hi28 : i ≤ 28 := by omega
  have exi : i + 257 - 257 = i := by omega
  rw [exi]
  clear h0 h1
  by_cases h8 : i < 8
  · go_enter Tryd.func62, Tryd.ntmps62
    go_wp2
    go_ret
    exact ⟨3 + i, p, 0, rfl, HS.out, Upd.refl _ _, Nat.le_refl _, by omega, by omega, Or.inr ⟨rfl, by omega, by omega, fun k => by unfold lenPr; rw [if_pos h8]⟩⟩
  · by_cases h28 : i = 28
    · subst h28
      go_enter Tryd.func62, Tryd.ntmps62
      go_wp2
      go_ret
      exact ⟨258, p, 0, rfl, HS.out, Upd.refl _ _, Nat.le_refl _, by omega, by omega, Or.inr ⟨rfl, by omega, by omega, fun k => rfl⟩⟩
    · have hd : (i == 28) = false := by simp [h28]
      obtain ⟨n, hn⟩ : ∃ n : Nat, (n : Int) = i / 4 - 1 := ⟨(i / 4 - 1).toNat, by omega⟩
      have hn5 : 1 ≤ n ∧ n ≤ 5 := by omega
      have HN : Hid (i / 4 - 1 = (n : Int)) := hn.symm
      have HX : Hid (∀ k, lenPr i k = .take n fun v => k (3 + (4 + i % 4) * 2 ^ n + v)) := fun k => by
        unfold lenPr
        rw [if_neg h8, if_neg h28, ← hn]
        rfl
      have h8' : 8 ≤ i := by omega
      have HM : Hid ((4 + i % 4) * (2 : Int) ^ n + 2 ^ n ≤ 256 ∧ 0 ≤ (4 + i % 4) * (2 : Int) ^ n ∧ (0 : Int) < 2 ^ n) := by
        obtain ⟨a, b⟩ := hn5
        match n, a, b with
        | 1, _, _ | 2, _, _ | 3, _, _ | 4, _, _ | 5, _, _ => show _ ∧ _; omega
      clear hn h8
      go_enter Tryd.func62, Tryd.ntmps62
      go_wp2_with fail
      rw [HN.out]
      refine (power_any n (by omega) w).mono ?_
      rintro e w1 ⟨rfl, rfl⟩
      obtain ⟨P, hP⟩ : ∃ P, P = (2 : Int) ^ n := ⟨_, rfl⟩
      have HP := Lib.hid hP
      have hm := HM.out
      rw [← hP] at hm ⊢
      clear hP
      obtain ⟨Q, hQ⟩ : ∃ Q, Q = (4 + i % 4) * P := ⟨_, rfl⟩
      have HQ := Lib.hid hQ
      rw [← hQ] at hm
      have hmul : (4 + i.tmod 4) * P = Q := by rw [hQ, Int.tmod_eq_emod_of_nonneg hi0]
      have hmul2 : IntKind.i64.wrap ((4 + i % 4) * P) = Q := by rw [← hQ, IntKind.wrap_i64]; omega
      clear hQ
      go_wp2_with fail
      refine (number_any HS.out n (by omega)).mono ?_
      rintro e w2 ⟨v, p', err', rfl, hs2, hu2, hpp, hv0, hvn, hcase⟩
      have hvP : v < P := by rw [HP.out]; exact hvn
      go_wp2
      go_ret
      refine ⟨3 + Q + v, p', err', rfl, hs2, hu2, hpp, by omega, by omega, ?_⟩
      rcases hcase with ⟨h, _⟩ | ⟨_, h1, rfl, rfl, h2⟩ | ⟨_, h1, rfl, rfl, h2⟩
      · exact absurd rfl h
      · refine Or.inr ⟨rfl, by omega, by omega, fun k => ?_⟩
        rw [HX.out, run_take_ok h1, ← h2, ← HP.out, ← HQ.out]
      · exact Or.inl ⟨by decide, fun k => by rw [HX.out, run_take_no h1]⟩

set_option maxRecDepth 100000 in
set_option maxHeartbeats 2000000 in
theorem rdistance_any {w : World} {B s : Nat} {X : Option Addr} {xc : Nat} {bs : List Bool} {p : Nat} {OA : Option Addr} {on oc : Nat} {o : List Int} {most : Nat} (h : RSt w B s X xc bs p OA on oc o most 0) (i : Int) (h0 : 0 ≤ i) (h1 : i ≤ 29) :
    Calls Tryd.prog 63 #[.pointer (some ⟨s, 0, none⟩), .int .i64 i] w (VPost w B s X xc bs p OA on oc o most (distPr i) 1 32768) := by
  have HS := Lib.hid h
  clear h
  by_cases h8 : i < 4
  · go_enter Tryd.func63, Tryd.ntmps63
    go_wp2
    go_ret
    exact ⟨1 + i, p, 0, rfl, HS.out, Upd.refl _ _, Nat.le_refl _, by omega, by omega, Or.inr ⟨rfl, by omega, by omega, fun k => by unfold distPr; rw [if_pos h8]⟩⟩
  · obtain ⟨n, hn⟩ : ∃ n : Nat, (n : Int) = i / 2 - 1 := ⟨(i / 2 - 1).toNat, by omega⟩
    have hn5 : 1 ≤ n ∧ n ≤ 13 := by omega
    have HN : Hid (i / 2 - 1 = (n : Int)) := hn.symm
    have HX : Hid (∀ k, distPr i k = .take n fun v => k (1 + (2 + i % 2) * 2 ^ n + v)) := fun k => by
      unfold distPr
      rw [if_neg h8, ← hn]
      rfl
    have h8' : 4 ≤ i := by omega
    have HM : Hid ((2 + i % 2) * (2 : Int) ^ n + 2 ^ n ≤ 32768 ∧ 0 ≤ (2 + i % 2) * (2 : Int) ^ n ∧ (0 : Int) < 2 ^ n) := by
      obtain ⟨a, b⟩ := hn5
      match n, a, b with
      | 1, _, _ | 2, _, _ | 3, _, _ | 4, _, _ | 5, _, _ | 6, _, _ | 7, _, _ | 8, _, _ | 9, _, _ | 10, _, _ | 11, _, _ | 12, _, _ | 13, _, _ => show _ ∧ _; omega
    clear hn h8
    go_enter Tryd.func63, Tryd.ntmps63
    go_wp2_with fail
    rw [HN.out]
    refine (power_any n (by omega) w).mono ?_
    rintro e w1 ⟨rfl, rfl⟩
    obtain ⟨P, hP⟩ : ∃ P, P = (2 : Int) ^ n := ⟨_, rfl⟩
    have HP := Lib.hid hP
    have hm := HM.out
    rw [← hP] at hm ⊢
    clear hP
    obtain ⟨Q, hQ⟩ : ∃ Q, Q = (2 + i % 2) * P := ⟨_, rfl⟩
    have HQ := Lib.hid hQ
    rw [← hQ] at hm
    have hmul : (2 + i.tmod 2) * P = Q := by rw [hQ, Int.tmod_eq_emod_of_nonneg h0]
    have hmul2 : IntKind.i64.wrap ((2 + i % 2) * P) = Q := by rw [← hQ, IntKind.wrap_i64]; omega
    clear hQ
    go_wp2_with fail
    refine (number_any HS.out n (by omega)).mono ?_
    rintro e w2 ⟨v, p', err', rfl, hs2, hu2, hpp, hv0, hvn, hcase⟩
    have hvP : v < P := by rw [HP.out]; exact hvn
    go_wp2
    go_ret
    refine ⟨1 + Q + v, p', err', rfl, hs2, hu2, hpp, by omega, by omega, ?_⟩
    rcases hcase with ⟨h, _⟩ | ⟨_, h1, rfl, rfl, h2⟩ | ⟨_, h1, rfl, rfl, h2⟩
    · exact absurd rfl h
    · refine Or.inr ⟨rfl, by omega, by omega, fun k => ?_⟩
      rw [HX.out, run_take_ok h1, ← h2, ← HP.out, ← HQ.out]
    · exact Or.inl ⟨by decide, fun k => by rw [HX.out, run_take_no h1]⟩

end Go.Proofs.YtolcdlopgbgilaaDoor
