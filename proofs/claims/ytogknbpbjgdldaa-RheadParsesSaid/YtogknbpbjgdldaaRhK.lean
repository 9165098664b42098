/- The walk of rhead.Parse. -/
import Derived.Test.YtogknbpbjgdldaaRhJ
import Derived.Test.YtogknbpbjgdldaaPre
namespace Go.Proofs.Ytogknbpbjgdldaa
open Go.RowKit Go.Dray

theorem blk_set3 {w : World} {g : Nat} {t : TypeId} {x0 x1 x2 y0 y1 y2 : Value} (h : Blk w g t #[x0, x1, x2]) : Blk (((w.setCell ⟨g, 0, none⟩ y0).setCell ⟨g, 1, none⟩ y1).setCell ⟨g, 2, none⟩ y2) g t #[y0, y1, y2] := ((h.set 0 y0).set 1 y1).set 2 y2
theorem upd_set3 {L : List (Option Nat)} {w0 w : World} {g : Nat} {y0 y1 y2 : Value} (h : Upd L w0 w) (hg : w0.heap.size ≤ g) : Upd L w0 (((w.setCell ⟨g, 0, none⟩ y0).setCell ⟨g, 1, none⟩ y1).setCell ⟨g, 2, none⟩ y2) := ((h.put hg _).put hg _).put hg _
theorem upd3 {w : World} {g : Nat} {y0 y1 y2 : Value} : Upd [some g] w (((w.setCell ⟨g, 0, none⟩ y0).setCell ⟨g, 1, none⟩ y1).setCell ⟨g, 2, none⟩ y2) := (((Upd.refl [some g] w).putIn (by simp) _).putIn (by simp) _).putIn (by simp) _

theorem be4s_bd (zs : List Int) : ∀ z ∈ be4s zs, 0 ≤ z ∧ z ≤ 255 := fun z hz => by
  unfold be4s at hz
  obtain ⟨x, _, hx⟩ := List.mem_flatMap.1 hz
  exact beB_bd _ _ z hx

/-- Tags of the call's own. -/
structure TagsO (w : World) (B : Nat) (L : Option Addr) (lc : Nat) (xs : List (TagP × TagV)) : Prop where
  own : Own w B 40 5 L xs.length lc (xs.flatMap fun x => tagC x.1 x.2)
  tags : ∀ x ∈ xs, TagO w B x.1 x.2
theorem ints_some {w : World} {A : Option Addr} {n : Nat} {zs : List Int} (h : Ints .u8 w A n zs) (hn : 0 < n) : ∃ a, A = some a := ⟨_, h.at_ hn⟩
theorem TagsO.nil (w : World) (B : Nat) : TagsO w B none 0 [] := ⟨Own.nil _ _ _ _, fun _ h => by cases h⟩
theorem TagsO.fault {w w' : World} {B g : Nat} {L : Option Addr} {lc : Nat} {xs : List (TagP × TagV)} {cs : Array Value} (h : TagsO w B L lc xs) (hk : Blk w g 32 cs) (hu : Upd [some g] w w') : TagsO w' B L lc xs :=
  ⟨h.own.upd hu (by intro b hb; simp; rintro rfl; exact h.own.neBlk hk (by decide) hb), fun x hx => ⟨(h.tags x hx).ints.upd hu (by intro b hb; simp; rintro rfl; exact (h.tags x hx).ints.neBlk hk (by decide) hb), (h.tags x hx).texts.upd hu (by intro b hb; simp; rintro rfl; exact (h.tags x hx).texts.neBlk hk (by decide) hb),
    (h.tags x hx).bytes.upd hu (by intro b hb; simp; rintro rfl; exact (h.tags x hx).bytes.neBlk hk (by decide) hb), (h.tags x hx).ib, (h.tags x hx).bb⟩⟩
theorem tagV_code {b d : List Int} {k : Nat} {r : Except Int TagV} (h : tagV b k d = r) : ∀ c, r = .error c → c ≠ 0 := by
  intro c hc
  subst hc
  unfold tagV sayV at h
  split at h
  · cases h; decide
  split at h
  · cases h; decide
  split at h
  · cases h; decide
  split at h
  · cases h; decide
  split at h
  · split at h
    · cases h; decide
    · split at h <;> cases h
      decide
  split at h
  · split at h <;> cases h
    decide
  · split at h <;> cases h
    decide
/-- What parseTag hands back, cell by cell. -/
def TagOut (r : Except Int TagV) (B : Nat) (w : World) (p : TagP) (t : TagV) (ec : Int) : Prop := match r with
  | .error c => ec = c ∧ c ≠ 0
  | .ok u => ec = 0 ∧ u = t ∧ TagO w B p t
theorem tagPost_any {r : Except Int TagV} (hc : ∀ c, r = .error c → c ≠ 0) {w w' : World} {e : Ending} (h : TagVPost r w e w') :
    ∃ p t ec, e = .returned (.tuple #[.agg #[.int .i64 t.tag, .int .i64 t.typ, .slice p.IA p.i p.ic, .slice p.TA p.n p.tc, .slice p.BA p.m p.bc], .int .i64 ec]) ∧ Upd [] w w' ∧ Hid (TagOut r w.heap.size w' p t ec) := by
  cases r with
  | error c => exact ⟨⟨none, 0, 0, none, 0, 0, none, 0, 0⟩, ⟨0, 0, [], [], []⟩, c, h.1, h.2, rfl, hc c rfl⟩
  | ok t =>
    obtain ⟨p, h1, h2, h3⟩ := h
    exact ⟨p, t, 0, h1, h3, rfl, rfl, h2⟩
theorem TagsO.upd {w w' : World} {B : Nat} {L : Option Addr} {lc : Nat} {xs : List (TagP × TagV)} (h : TagsO w B L lc xs) (hu : Upd [] w w') : TagsO w' B L lc xs :=
  ⟨h.own.upd hu (by simp), fun x hx => ⟨(h.tags x hx).ints.upd hu (by simp), (h.tags x hx).texts.upd hu (by simp), (h.tags x hx).bytes.upd hu (by simp), (h.tags x hx).ib, (h.tags x hx).bb⟩⟩
def lastT (xs : List (TagP × TagV)) : Option Int := xs.getLast?.map (·.2.tag)
/-- The last tag of those that are there. -/
theorem TagsO.last {w : World} {B : Nat} {L : Option Addr} {lc : Nat} {xs : List (TagP × TagV)} (h : TagsO w B L lc xs) {j : Nat} (hj : xs.length = j) (h0 : 0 < j) : ∃ q : Int, Hid (lastT xs = some q) ∧ w.cell? ⟨bl L, ofs L + (j - 1) * 5, none⟩ = some (.int .i64 q) := by
  subst hj
  have hne : xs ≠ [] := by intro e; rw [e] at h0; simp at h0
  obtain ⟨ys, y, rfl⟩ : ∃ ys y, xs = ys ++ [y] := ⟨xs.dropLast, xs.getLast hne, (List.dropLast_concat_getLast hne).symm⟩
  refine ⟨y.2.tag, by show _ = _; simp [lastT], ?_⟩
  have hs := Seg.cell h.own.seg (ys.length * 5) (.int .i64 y.2.tag) (by
    have hl : (ys.flatMap fun x => tagC x.1 x.2).length = ys.length * 5 := by
      clear h h0 hne
      induction ys with
      | nil => rfl
      | cons a ys ih => rw [List.flatMap_cons, List.length_append, ih, List.length_cons]; simp [tagC]; omega
    rw [List.flatMap_append, List.getElem?_append_right (by rw [hl]; omega), hl, Nat.sub_self]
    simp [tagC])
  have e : (ys ++ [y]).length - 1 = ys.length := by simp
  rw [e]
  exact hs
theorem TagsO.index {w : World} {B : Nat} {L : Option Addr} {lc : Nat} {xs : List (TagP × TagV)} (h : TagsO w B L lc xs) {j : Nat} (hj : xs.length = j) (h0 : 0 < j) :
    ∀ W : World, (Instr.indexAt 22 (.slice L j lc) (.int .i64 ((j : Int) - 1))).run Try.prog W = .ok (.pointer (some ⟨bl L, ofs L + (j - 1) * 5, none⟩)) W := by
  subst hj
  have e : ((xs.length - 1 : Nat) : Int) = (xs.length : Int) - 1 := by omega
  rw [← e]
  exact run_index el_tag h.own.seg.at_ lc .i64 (xs.length - 1) (by omega)
theorem TagOut.upd {r : Except Int TagV} {B : Nat} {w w' : World} {p : TagP} {t : TagV} {ec : Int} (h : TagOut r B w p t ec) (hu : Upd [] w w') : TagOut r B w' p t ec := by
  cases r with
  | error c => exact h
  | ok u => exact ⟨h.1, h.2.1, h.2.2.ints.upd hu (by simp), h.2.2.texts.upd hu (by simp), h.2.2.bytes.upd hu (by simp), h.2.2.ib, h.2.2.bb⟩
theorem seg_tag (w : World) (a b c d e : Value) (t : TypeId) : Seg (w.alloc (.cells #[a, b, c, d, e] t)) 5 (some ⟨w.heap.size, 0, none⟩) 1 [a, b, c, d, e] :=
  ⟨rfl, fun _ => rfl, fun k u hu => by
    match k, hu with
    | 0, hu => simp at hu; subst hu; simp [bl, ofs]
    | 1, hu => simp at hu; subst hu; simp [bl, ofs]
    | 2, hu => simp at hu; subst hu; simp [bl, ofs]
    | 3, hu => simp at hu; subst hu; simp [bl, ofs]
    | 4, hu => simp at hu; subst hu; simp [bl, ofs]⟩
/-- A tag more. -/
theorem TagsO.more {w w' : World} {B B' : Nat} {L L' : Option Addr} {lc lc' : Nat} {xs : List (TagP × TagV)} {p : TagP} {t : TagV} {m : Nat} (h : TagsO w B L lc xs) (ht : TagO w B' p t) (hB : B ≤ B') (hm : m = xs.length + 1)
    (ho : Own w' B 40 5 L' m lc' ((xs.flatMap fun x => tagC x.1 x.2) ++ [.int .i64 t.tag, .int .i64 t.typ, .slice p.IA p.i p.ic, .slice p.TA p.n p.tc, .slice p.BA p.m p.bc])) (hu : Upd [ob L] w w') : TagsO w' B L' lc' (xs ++ [(p, t)]) := by
  have key : ∀ (q : TagP) (u : TagV) (C : Nat), B ≤ C → TagO w C q u → TagO w' B q u := fun q u C hC hq =>
    ⟨(hq.ints.monoB hC).upd hu (by intro g hg; simp; intro e; exact hq.ints.neOwn h.own (by decide) hg e.symm), (hq.texts.monoB hC).upd hu (by intro g hg; simp; intro e; exact hq.texts.neOwn h.own (by decide) hg e.symm),
      (hq.bytes.monoB hC).upd hu (by intro g hg; simp; intro e; exact hq.bytes.neOwn h.own (by decide) hg e.symm), hq.ib, hq.bb⟩
  subst hm
  refine ⟨?_, fun x hx => ?_⟩
  · have e : (xs ++ [(p, t)]).flatMap (fun x => tagC x.1 x.2) = (xs.flatMap fun x => tagC x.1 x.2) ++ [.int .i64 t.tag, .int .i64 t.typ, .slice p.IA p.i p.ic, .slice p.TA p.n p.tc, .slice p.BA p.m p.bc] := by simp [tagC]
    rw [e, List.length_append]
    exact ho
  · rcases List.mem_append.1 hx with hx | hx
    · exact key _ _ B (Nat.le_refl _) (h.tags x hx)
    · simp at hx
      subst hx
      exact key _ _ B' hB ht
def preR (xs : List (TagP × TagV)) (r : Except (Nat × Int) (List TagV)) : Except (Nat × Int) (List TagV) := match r with
  | .error e => .error e
  | .ok ts => .ok (xs.map (·.2) ++ ts)
theorem preR_nil (r : Except (Nat × Int) (List TagV)) : preR [] r = r := by cases r <;> rfl
theorem ent_one {b ds : List Int} {i m k : Nat} {q : Option Int} {r : Except Int TagV} {B : Nat} {w : World} {p : TagP} {t : TagV} {ec : Int} {xs : List (TagP × TagV)} (hr : tagV b (8 + 16 * i) ds = r) (ho : TagOut r B w p t ec) (hk : k = 8 + 16 * i) (h1 : ec = 1) : preR xs (entR b ds i (m + 1) q) = .error (k, ec) := by
  subst hk
  unfold entR
  rw [hr]
  cases r with
  | error c => obtain ⟨rfl, _⟩ := ho; subst h1; rfl
  | ok u => obtain ⟨h, _⟩ := ho; omega
theorem ent_ord {b ds : List Int} {i m k : Nat} {q : Option Int} {r : Except Int TagV} {B : Nat} {w : World} {p : TagP} {t : TagV} {ec : Int} {xs : List (TagP × TagV)} (hr : tagV b (8 + 16 * i) ds = r) (ho : TagOut r B w p t ec) (hk : k = 8 + 16 * i) (h1 : ec ≠ 1)
    (hq : q.any (fun x => decide (num4 b k ≤ x)) = true) : preR xs (entR b ds i (m + 1) q) = .error (k, 15) := by
  subst hk
  unfold entR
  rw [hr]
  cases r with
  | error c => obtain ⟨rfl, _⟩ := ho; simp only [hq, if_neg h1]; rfl
  | ok u => simp only [hq]; rfl
theorem ent_bad {b ds : List Int} {i m k : Nat} {q : Option Int} {r : Except Int TagV} {B : Nat} {w : World} {p : TagP} {t : TagV} {ec : Int} {xs : List (TagP × TagV)} (hr : tagV b (8 + 16 * i) ds = r) (ho : TagOut r B w p t ec) (hk : k = 8 + 16 * i) (h1 : ec ≠ 1) (h0 : ec ≠ 0)
    (hq : q.any (fun x => decide (num4 b k ≤ x)) = false) : preR xs (entR b ds i (m + 1) q) = .error (k, ec) := by
  subst hk
  unfold entR
  rw [hr]
  cases r with
  | error c => obtain ⟨rfl, _⟩ := ho; simp only [hq, if_neg h1]; rfl
  | ok u => obtain ⟨h, _⟩ := ho; exact absurd h h0
theorem ent_go {b ds : List Int} {i m k : Nat} {r : Except Int TagV} {B : Nat} {w : World} {p : TagP} {t : TagV} {ec : Int} {xs : List (TagP × TagV)} (hr : tagV b (8 + 16 * i) ds = r) (ho : TagOut r B w p t ec) (hk : k = 8 + 16 * i) (h0 : ec = 0)
    (hq : (lastT xs).any (fun x => decide (num4 b k ≤ x)) = false) : preR xs (entR b ds i (m + 1) (lastT xs)) = preR (xs ++ [(p, t)]) (entR b ds (i + 1) m (lastT (xs ++ [(p, t)]))) ∧ TagO w B p t := by
  subst hk
  rw [show lastT (xs ++ [(p, t)]) = some t.tag by simp [lastT]]
  cases r with
  | error c => obtain ⟨rfl, h⟩ := ho; exact absurd h0 h
  | ok u =>
    obtain ⟨_, rfl, h⟩ := ho
    refine ⟨?_, h⟩
    conv => lhs; unfold entR
    rw [hr]
    simp only [hq]
    cases entR b ds (i + 1) m (some u.tag) with
    | error x => rfl
    | ok ts => simp [preR]
def ParsePost (r : Except (Nat × Int) (List TagV)) (w : World) (e : Ending) (w' : World) : Prop := match r with
  | .error (k, c) => e = .returned (.tuple #[.slice none 0 0, .agg #[.string ⟨#[]⟩, .int .i64 k, .int .i64 c]]) ∧ Upd [] w w'
  | .ok ts => ∃ L lc xs, ts = xs.map (·.2) ∧ e = .returned (.tuple #[.slice L xs.length lc, .agg #[.string ⟨#[]⟩, .int .i64 0, .int .i64 0]]) ∧ TagsO w' w.heap.size L lc xs ∧ Upd [] w w'

set_option maxRecDepth 100000 in
set_option maxHeartbeats 2000000 in
theorem parse_any (w : World) (A : Option Addr) (n c : Nat) (b : List Int) (hA : Ints .u8 w A n b) (hb : ∀ z ∈ b, 0 ≤ z ∧ z ≤ 255) (hnc : n ≤ c) (hn : n ≤ 10000000) :
    Calls Try.prog 12 #[.slice A n c] w (ParsePost (parseB b) w) := by
  have HA := Lib.hid hA
  have HBB := Lib.hid hb
  have HL := hA.len
  clear hA hb
  go_enter Try.func12, Try.ntmps12
  go_upto_region 1 with (fail)
  obtain ⟨R, HRR⟩ : ∃ R, Hid (R = w.heap.size) := ⟨_, rfl⟩
  have HRK : Hid (Blk (w.alloc (.cells #[.string ⟨#[]⟩, .int .i64 0, .int .i64 0] 32)) w.heap.size 32 #[.string ⟨#[]⟩, .int .i64 0, .int .i64 0]) := Blk.new _ _ _
  have HU1 : Hid (Upd [] w (w.alloc (.cells #[.string ⟨#[]⟩, .int .i64 0, .int .i64 0] 32))) := (Upd.refl _ _).alloc _
  rw [← HRR.out] at HRK ⊢
  generalize hw1 : w.alloc _ = w1 at *
  have HA1 := Lib.hid (HA.out.upd HU1.out (by simp))
  clear hw1
  have z0 : w1.cell? ⟨R, 0, none⟩ = some (.string ⟨#[]⟩) := by rw [HRK.out.cell]; rfl
  have z1 : w1.cell? ⟨R, 1, none⟩ = some (.int .i64 0) := by rw [HRK.out.cell]; rfl
  have z2 : w1.cell? ⟨R, 2, none⟩ = some (.int .i64 0) := by rw [HRK.out.cell]; rfl
  have fz := HRK.out.frozen
  by_cases a0 : n < 8
  · have d0 : decide ((n : Int) < 8) = true := by simp; omega
    go_wp2
    have HK9 := Lib.hid (blk_set3 (y0 := .string ⟨#[]⟩) (y1 := .int .i64 0) (y2 := .int .i64 2) HRK.out)
    have HU9 := Lib.hid (upd_set3 (g := R) (y0 := .string ⟨#[]⟩) (y1 := .int .i64 0) (y2 := .int .i64 2) HU1.out (by have := HRR.out; omega))
    generalize hw9 : World.setCell _ _ _ = w9 at *
    have y0 : w9.cell? ⟨R, 0, none⟩ = some (.string ⟨#[]⟩) := by rw [HK9.out.cell]; rfl
    have y1 : w9.cell? ⟨R, 1, none⟩ = some (.int .i64 0) := by rw [HK9.out.cell]; rfl
    have y2 : w9.cell? ⟨R, 2, none⟩ = some (.int .i64 2) := by rw [HK9.out.cell]; rfl
    have HV : Hid (parseB b = .error (0, 2)) := by
      show _ = _
      unfold parseB
      rw [if_pos (by rw [HL.out]; exact a0)]
    rw [HV.out]
    exact bodyPost_ret (v := .tuple #[.slice none 0 0, .agg #[.string ⟨#[]⟩, .int .i64 (0), .int .i64 2]]) (by simp [results, Try.results12, go_sem, y0, y1, y2]) rfl ⟨rfl, HU9.out⟩
  · have d0 : decide ((n : Int) < 8) = false := by simp; omega
    obtain ⟨N, HN⟩ : ∃ N : Nat, Hid ((N : Int) = num4 b 0) := ⟨(num4 b 0).toNat, by have := (num4_bd HBB.out 0).1; show _ = _; omega⟩
    obtain ⟨d, HD⟩ : ∃ d : Nat, Hid ((d : Int) = num4 b 4) := ⟨(num4 b 4).toNat, by have := (num4_bd HBB.out 4).1; show _ = _; omega⟩
    have hNb : N ≤ 4294967295 := by have h1 := (num4_bd HBB.out 0).2; have h2 := HN.out; omega
    have hdb : d ≤ 4294967295 := by have h1 := (num4_bd HBB.out 4).2; have h2 := HD.out; omega
    have HP0 : Hid (parseB b = if 257 < N ∨ 1048576 < d then .error (0, 4) else if n < 8 + 16 * N + d then .error (0, 2) else if 8 + 16 * N + d < n then .error (0, 3)
        else if N = 0 ∨ d < 16 ∨ (b.drop 8).take 16 ≠ headB d then .error (8, 3) else if b.drop (n - 16) ≠ footB N then .error (n - 16, 3) else entR b ((b.drop (8 + 16 * N)).take (d - 16)) 1 (N - 1) none) := by
      show _ = _
      unfold parseB
      rw [if_neg (by rw [HL.out]; exact a0), ← HN.out, ← HD.out, HL.out, Int.toNat_natCast, Int.toNat_natCast]
      have e1 : (257 < (N : Int) ∨ 1048576 < (d : Int)) ↔ (257 < N ∨ 1048576 < d) := by omega
      have e2 : ((n : Int) < 8 + 16 * (N : Int) + (d : Int)) ↔ n < 8 + 16 * N + d := by omega
      have e3 : (8 + 16 * (N : Int) + (d : Int) < (n : Int)) ↔ 8 + 16 * N + d < n := by omega
      have e4 : ((N : Int) = 0 ∨ (d : Int) < 16 ∨ (b.drop 8).take 16 ≠ headB d) ↔ (N = 0 ∨ d < 16 ∨ (b.drop 8).take 16 ≠ headB d) := by
        constructor
        · rintro (h | h | h)
          · exact Or.inl (by omega)
          · exact Or.inr (Or.inl (by omega))
          · exact Or.inr (Or.inr h)
        · rintro (h | h | h)
          · exact Or.inl (by omega)
          · exact Or.inr (Or.inl (by omega))
          · exact Or.inr (Or.inr h)
      simp only [e1, e2, e3, e4]
    go_wp2_with fail
    refine (number_int A n c b 0 0 rfl w1 HA1.out HBB.out hnc (by omega) (by omega)).mono ?_
    rintro e w' ⟨rfl, rfl⟩
    rw [← HN.out]
    go_wp2_with fail
    refine (number_int A n c b 4 4 rfl w1 HA1.out HBB.out hnc (by omega) (by omega)).mono ?_
    rintro e w' ⟨rfl, rfl⟩
    rw [← HD.out]
    by_cases a1 : 257 < N
    · have d1 : decide ((257 : Int) < N) = true := by simp; omega
      go_wp2
      have HK9 := Lib.hid (blk_set3 (y0 := .string ⟨#[]⟩) (y1 := .int .i64 0) (y2 := .int .i64 4) HRK.out)
      have HU9 := Lib.hid (upd_set3 (g := R) (y0 := .string ⟨#[]⟩) (y1 := .int .i64 0) (y2 := .int .i64 4) HU1.out (by have := HRR.out; omega))
      generalize hw9 : World.setCell _ _ _ = w9 at *
      have y0 : w9.cell? ⟨R, 0, none⟩ = some (.string ⟨#[]⟩) := by rw [HK9.out.cell]; rfl
      have y1 : w9.cell? ⟨R, 1, none⟩ = some (.int .i64 0) := by rw [HK9.out.cell]; rfl
      have y2 : w9.cell? ⟨R, 2, none⟩ = some (.int .i64 4) := by rw [HK9.out.cell]; rfl
      have HV : Hid (parseB b = .error (0, 4)) := by
        show _ = _
        rw [HP0.out, if_pos (Or.inl a1)]
      rw [HV.out]
      exact bodyPost_ret (v := .tuple #[.slice none 0 0, .agg #[.string ⟨#[]⟩, .int .i64 (0), .int .i64 4]]) (by simp [results, Try.results12, go_sem, y0, y1, y2]) rfl ⟨rfl, HU9.out⟩
    · have d1 : decide ((257 : Int) < N) = false := by simp; omega
      by_cases a2 : 1048576 < d
      · have d2 : decide ((1048576 : Int) < d) = true := by simp; omega
        go_wp2
        have HK9 := Lib.hid (blk_set3 (y0 := .string ⟨#[]⟩) (y1 := .int .i64 0) (y2 := .int .i64 4) HRK.out)
        have HU9 := Lib.hid (upd_set3 (g := R) (y0 := .string ⟨#[]⟩) (y1 := .int .i64 0) (y2 := .int .i64 4) HU1.out (by have := HRR.out; omega))
        generalize hw9 : World.setCell _ _ _ = w9 at *
        have y0 : w9.cell? ⟨R, 0, none⟩ = some (.string ⟨#[]⟩) := by rw [HK9.out.cell]; rfl
        have y1 : w9.cell? ⟨R, 1, none⟩ = some (.int .i64 0) := by rw [HK9.out.cell]; rfl
        have y2 : w9.cell? ⟨R, 2, none⟩ = some (.int .i64 4) := by rw [HK9.out.cell]; rfl
        have HV : Hid (parseB b = .error (0, 4)) := by
          show _ = _
          rw [HP0.out, if_pos (Or.inr a2)]
        rw [HV.out]
        exact bodyPost_ret (v := .tuple #[.slice none 0 0, .agg #[.string ⟨#[]⟩, .int .i64 (0), .int .i64 4]]) (by simp [results, Try.results12, go_sem, y0, y1, y2]) rfl ⟨rfl, HU9.out⟩
      · have d2 : decide ((1048576 : Int) < d) = false := by simp; omega
        have HP1 : Hid (parseB b = if n < 8 + 16 * N + d then .error (0, 2) else if 8 + 16 * N + d < n then .error (0, 3)
            else if N = 0 ∨ d < 16 ∨ (b.drop 8).take 16 ≠ headB d then .error (8, 3) else if b.drop (n - 16) ≠ footB N then .error (n - 16, 3) else entR b ((b.drop (8 + 16 * N)).take (d - 16)) 1 (N - 1) none) := by
          show _ = _
          rw [HP0.out, if_neg (by omega)]
        clear HP0
        by_cases a3 : n < 8 + 16 * N + d
        · have d3 : decide ((n : Int) < 8 + 16 * (N : Int) + d) = true := by simp; omega
          go_wp2
          have HK9 := Lib.hid (blk_set3 (y0 := .string ⟨#[]⟩) (y1 := .int .i64 0) (y2 := .int .i64 2) HRK.out)
          have HU9 := Lib.hid (upd_set3 (g := R) (y0 := .string ⟨#[]⟩) (y1 := .int .i64 0) (y2 := .int .i64 2) HU1.out (by have := HRR.out; omega))
          generalize hw9 : World.setCell _ _ _ = w9 at *
          have y0 : w9.cell? ⟨R, 0, none⟩ = some (.string ⟨#[]⟩) := by rw [HK9.out.cell]; rfl
          have y1 : w9.cell? ⟨R, 1, none⟩ = some (.int .i64 0) := by rw [HK9.out.cell]; rfl
          have y2 : w9.cell? ⟨R, 2, none⟩ = some (.int .i64 2) := by rw [HK9.out.cell]; rfl
          have HV : Hid (parseB b = .error (0, 2)) := by
            show _ = _
            rw [HP1.out, if_pos a3]
          rw [HV.out]
          exact bodyPost_ret (v := .tuple #[.slice none 0 0, .agg #[.string ⟨#[]⟩, .int .i64 (0), .int .i64 2]]) (by simp [results, Try.results12, go_sem, y0, y1, y2]) rfl ⟨rfl, HU9.out⟩
        · have d3 : decide ((n : Int) < 8 + 16 * (N : Int) + d) = false := by simp; omega
          by_cases a4 : 8 + 16 * N + d < n
          · have d4 : decide (8 + 16 * (N : Int) + d < (n : Int)) = true := by simp; omega
            go_wp2
            have HK9 := Lib.hid (blk_set3 (y0 := .string ⟨#[]⟩) (y1 := .int .i64 0) (y2 := .int .i64 3) HRK.out)
            have HU9 := Lib.hid (upd_set3 (g := R) (y0 := .string ⟨#[]⟩) (y1 := .int .i64 0) (y2 := .int .i64 3) HU1.out (by have := HRR.out; omega))
            generalize hw9 : World.setCell _ _ _ = w9 at *
            have y0 : w9.cell? ⟨R, 0, none⟩ = some (.string ⟨#[]⟩) := by rw [HK9.out.cell]; rfl
            have y1 : w9.cell? ⟨R, 1, none⟩ = some (.int .i64 0) := by rw [HK9.out.cell]; rfl
            have y2 : w9.cell? ⟨R, 2, none⟩ = some (.int .i64 3) := by rw [HK9.out.cell]; rfl
            have HV : Hid (parseB b = .error (0, 3)) := by
              show _ = _
              rw [HP1.out, if_neg a3, if_pos a4]
            rw [HV.out]
            exact bodyPost_ret (v := .tuple #[.slice none 0 0, .agg #[.string ⟨#[]⟩, .int .i64 (0), .int .i64 3]]) (by simp [results, Try.results12, go_sem, y0, y1, y2]) rfl ⟨rfl, HU9.out⟩
          · have d4 : decide (8 + 16 * (N : Int) + d < (n : Int)) = false := by simp; omega
            have HP2 : Hid (parseB b = if N = 0 ∨ d < 16 ∨ (b.drop 8).take 16 ≠ headB d then .error (8, 3) else if b.drop (n - 16) ≠ footB N then .error (n - 16, 3) else entR b ((b.drop (8 + 16 * N)).take (d - 16)) 1 (N - 1) none) := by
              show _ = _
              rw [HP1.out, if_neg a3, if_neg a4]
            have hne : n = 8 + 16 * N + d := by omega
            have HNE := Lib.hid hne
            clear HP1 hne
            by_cases a5 : N = 0
            · have d5 : ((N : Int) == 0) = true := by simp [a5]
              have E5 := Lib.hid a5
              clear a5
              go_wp2
              go_quiet (fail)
              generalize hw2 : w1.drewN _ = w2
              have HRK2 : Hid (Blk w2 R 32 #[.string ⟨#[]⟩, .int .i64 0, .int .i64 0]) := by rw [← hw2]; exact HRK.out.drewN _
              have HU2 : Hid (Upd [] w w2) := by rw [← hw2]; exact HU1.out.drewN _
              clear hw2 z0 z1 z2 fz
              have z0 : w2.cell? ⟨R, 0, none⟩ = some (.string ⟨#[]⟩) := by rw [HRK2.out.cell]; rfl
              have z1 : w2.cell? ⟨R, 1, none⟩ = some (.int .i64 0) := by rw [HRK2.out.cell]; rfl
              have z2 : w2.cell? ⟨R, 2, none⟩ = some (.int .i64 0) := by rw [HRK2.out.cell]; rfl
              have fz := HRK2.out.frozen
              go_wp2
              have HK9 := Lib.hid (blk_set3 (y0 := .string ⟨#[]⟩) (y1 := .int .i64 8) (y2 := .int .i64 3) HRK2.out)
              have HU9 := Lib.hid (upd_set3 (g := R) (y0 := .string ⟨#[]⟩) (y1 := .int .i64 8) (y2 := .int .i64 3) HU2.out (by have := HRR.out; omega))
              generalize hw9 : World.setCell _ _ _ = w9 at *
              have y0 : w9.cell? ⟨R, 0, none⟩ = some (.string ⟨#[]⟩) := by rw [HK9.out.cell]; rfl
              have y1 : w9.cell? ⟨R, 1, none⟩ = some (.int .i64 8) := by rw [HK9.out.cell]; rfl
              have y2 : w9.cell? ⟨R, 2, none⟩ = some (.int .i64 3) := by rw [HK9.out.cell]; rfl
              have HV : Hid (parseB b = .error (8, 3)) := by
                show _ = _
                rw [HP2.out, if_pos (Or.inl E5.out)]
              rw [HV.out]
              exact bodyPost_ret (v := .tuple #[.slice none 0 0, .agg #[.string ⟨#[]⟩, .int .i64 (8), .int .i64 3]]) (by simp [results, Try.results12, go_sem, y0, y1, y2]) rfl ⟨rfl, HU9.out⟩
            · have d5 : ((N : Int) == 0) = false := by simp; omega
              by_cases a6 : d < 16
              · have d6 : decide ((d : Int) < 16) = true := by simp; omega
                go_wp2
                go_quiet (fail)
                generalize hw2 : w1.drewN _ = w2
                have HRK2 : Hid (Blk w2 R 32 #[.string ⟨#[]⟩, .int .i64 0, .int .i64 0]) := by rw [← hw2]; exact HRK.out.drewN _
                have HU2 : Hid (Upd [] w w2) := by rw [← hw2]; exact HU1.out.drewN _
                clear hw2 z0 z1 z2 fz
                have z0 : w2.cell? ⟨R, 0, none⟩ = some (.string ⟨#[]⟩) := by rw [HRK2.out.cell]; rfl
                have z1 : w2.cell? ⟨R, 1, none⟩ = some (.int .i64 0) := by rw [HRK2.out.cell]; rfl
                have z2 : w2.cell? ⟨R, 2, none⟩ = some (.int .i64 0) := by rw [HRK2.out.cell]; rfl
                have fz := HRK2.out.frozen
                go_wp2
                have HK9 := Lib.hid (blk_set3 (y0 := .string ⟨#[]⟩) (y1 := .int .i64 8) (y2 := .int .i64 3) HRK2.out)
                have HU9 := Lib.hid (upd_set3 (g := R) (y0 := .string ⟨#[]⟩) (y1 := .int .i64 8) (y2 := .int .i64 3) HU2.out (by have := HRR.out; omega))
                generalize hw9 : World.setCell _ _ _ = w9 at *
                have y0 : w9.cell? ⟨R, 0, none⟩ = some (.string ⟨#[]⟩) := by rw [HK9.out.cell]; rfl
                have y1 : w9.cell? ⟨R, 1, none⟩ = some (.int .i64 8) := by rw [HK9.out.cell]; rfl
                have y2 : w9.cell? ⟨R, 2, none⟩ = some (.int .i64 3) := by rw [HK9.out.cell]; rfl
                have HV : Hid (parseB b = .error (8, 3)) := by
                  show _ = _
                  rw [HP2.out, if_pos (Or.inr (Or.inl a6))]
                rw [HV.out]
                exact bodyPost_ret (v := .tuple #[.slice none 0 0, .agg #[.string ⟨#[]⟩, .int .i64 (8), .int .i64 3]]) (by simp [results, Try.results12, go_sem, y0, y1, y2]) rfl ⟨rfl, HU9.out⟩
              · have d6 : decide ((d : Int) < 16) = false := by simp; omega
                have hn24 : 24 ≤ n := by have := HNE.out; omega
                have hcutB := run_cut_lh el_byte A n c .i64 .i64 8 24 8 24 rfl rfl (by omega) (by omega)
                have HC8 : Hid (∀ W, Upd [] w1 W → Ints .u8 W (cutA 1 A c 8) 16 ((b.drop 8).take 16)) := fun W hW => (HA1.out.cut (lo := 8) (hi := 24) (c := c) (by omega) (by omega) hnc).upd hW (by simp)
                have HC8B : Hid (∀ z ∈ (b.drop 8).take 16, 0 ≤ z ∧ z ≤ 255) := fun z hz => HBB.out z (List.mem_of_mem_drop (List.mem_of_mem_take hz))
                have hwd : IntKind.i64.wrap ((d : Int) - 16) = (d : Int) - 16 := by rw [IntKind.wrap_i64]; omega
                have HHB : Hid (∀ z ∈ headB d, 0 ≤ z ∧ z ≤ 255) := be4s_bd _
                have HQB : Hid (∀ z ∈ [(63 : Int), 7, (d : Int) - 16, 16], 0 ≤ z ∧ z ≤ 4294967296) := by intro z hz; simp at hz; omega
                obtain ⟨q, HQ⟩ : ∃ q, Hid (eqB ((b.drop 8).take 16) (headB d) = q) := ⟨_, rfl⟩
                go_wp2_with fail
                refine wp_region_pre 11 (by kernel_rfl) (by kernel_rfl) (by kernel_rfl) (by kernel_rfl) (fun _ _ _ _ _ h => h) ?_
                simp only [List.take_succ_cons, List.take_zero, List.drop_succ_cons, List.drop_zero]
                iterate 11 (refine wpPre_stepK (fun K hK => ?_); go_simp; refine hK _ ?_; clear hK K)
                refine wpPre_nil ?_
                change wpList _ _ _ _ _ w1.drew
                go_wp2_with fail
                refine (put_any (w1.drew.alloc (.cells #[.int .i64 63, .int .i64 7, .int .i64 ((d : Int) - 16), .int .i64 16] 3)) w1.heap.size none 0 0 [] (Own.nil _ _ _ _) (by simp) (by omega) _ 4 4 [63, 7, (d : Int) - 16, 16] (ints_lit w1.drew .i64 _ [63, 7, (d : Int) - 16, 16]) HQB.out (by omega) (fun _ => by simp [ob])).mono ?_
                rintro e w2 ⟨X2, c2, rfl, ho2, hv2, _⟩
                have HV2 : Hid (Upd [] w1 w2) := (((Upd.refl [] w1).drew).alloc _).then hv2 (by simp [ob])
                have HO2 : Hid (Own w2 w1.heap.size 5 1 X2 16 c2 ((headB d).map (Value.int .u8))) := ho2
                clear ho2 hv2 z0 z1 z2 fz
                go_wp2_with fail
                refine (equal_any w2 _ 16 _ _ (HC8.out _ HV2.out) HC8B.out _ 16 _ _ (Ints.ofOwn HO2.out) HHB.out).mono ?_
                rintro e w3 ⟨rfl, rfl⟩
                rw [HQ.out]
                have HRK2 := Lib.hid (HRK.out.upd HV2.out (by simp))
                have HU2 := Lib.hid (HU1.out.trans HV2.out)
                have HA2 := Lib.hid (HA1.out.upd HV2.out (by simp))
                clear HC8 HO2 HV2 HA1 HRK
                have z0 : w2.cell? ⟨R, 0, none⟩ = some (.string ⟨#[]⟩) := by rw [HRK2.out.cell]; rfl
                have z1 : w2.cell? ⟨R, 1, none⟩ = some (.int .i64 0) := by rw [HRK2.out.cell]; rfl
                have z2 : w2.cell? ⟨R, 2, none⟩ = some (.int .i64 0) := by rw [HRK2.out.cell]; rfl
                have fz := HRK2.out.frozen
                cases q with
                | false =>
                  go_wp2
                  have HK9 := Lib.hid (blk_set3 (y0 := .string ⟨#[]⟩) (y1 := .int .i64 8) (y2 := .int .i64 3) HRK2.out)
                  have HU9 := Lib.hid (upd_set3 (g := R) (y0 := .string ⟨#[]⟩) (y1 := .int .i64 8) (y2 := .int .i64 3) HU2.out (by have := HRR.out; omega))
                  generalize hw9 : World.setCell _ _ _ = w9 at *
                  have y0 : w9.cell? ⟨R, 0, none⟩ = some (.string ⟨#[]⟩) := by rw [HK9.out.cell]; rfl
                  have y1 : w9.cell? ⟨R, 1, none⟩ = some (.int .i64 8) := by rw [HK9.out.cell]; rfl
                  have y2 : w9.cell? ⟨R, 2, none⟩ = some (.int .i64 3) := by rw [HK9.out.cell]; rfl
                  have HV : Hid (parseB b = .error (8, 3)) := by
                    show _ = _
                    rw [HP2.out, if_pos (Or.inr (Or.inr (of_decide_eq_false HQ.out)))]
                  rw [HV.out]
                  exact bodyPost_ret (v := .tuple #[.slice none 0 0, .agg #[.string ⟨#[]⟩, .int .i64 (8), .int .i64 3]]) (by simp [results, Try.results12, go_sem, y0, y1, y2]) rfl ⟨rfl, HU9.out⟩
                | true =>
                  have HP3 : Hid (parseB b = if b.drop (n - 16) ≠ footB N then .error (n - 16, 3) else entR b ((b.drop (8 + 16 * N)).take (d - 16)) 1 (N - 1) none) := by
                    show _ = _
                    rw [HP2.out, if_neg (by rintro (h | h | h) <;> first | exact a5 h | exact a6 h | exact h (of_decide_eq_true HQ.out))]
                  clear HP2 HQ HC8B HHB HQB hcutB hwd d5 d6
                  have e7 : 8 + 16 * (N : Int) + d - 16 = ((n - 16 : Nat) : Int) := by have := HNE.out; omega
                  have hcutF := run_cut_l el_byte A n c .i64 (8 + 16 * (N : Int) + d - 16) (n - 16) e7 (by omega)
                  have HCF : Hid (∀ W, Upd [] w2 W → Ints .u8 W (cutA 1 A c (n - 16)) (n - (n - 16)) (b.drop (n - 16))) := fun W hW => (cut_from HA2.out (by omega) hnc).upd hW (by simp)
                  have HCFB : Hid (∀ z ∈ b.drop (n - 16), 0 ≤ z ∧ z ≤ 255) := fun z hz => HBB.out z (List.mem_of_mem_drop hz)
                  have HFB : Hid (∀ z ∈ footB N, 0 ≤ z ∧ z ≤ 255) := be4s_bd _
                  have HQB : Hid (∀ z ∈ [(63 : Int), 7, 4294967296 - 16 * (N : Int), 16], 0 ≤ z ∧ z ≤ 4294967296) := by intro z hz; simp at hz; omega
                  have hw1 : IntKind.i64.wrap (16 * (N : Int)) = 16 * (N : Int) := by rw [IntKind.wrap_i64]; omega
                  have hw2 : IntKind.i64.wrap (4294967296 - 16 * (N : Int)) = 4294967296 - 16 * (N : Int) := by rw [IntKind.wrap_i64]; omega
                  obtain ⟨q, HQ⟩ : ∃ q, Hid (eqB (b.drop (n - 16)) (footB N) = q) := ⟨_, rfl⟩
                  clear e7
                  go_wp2_with fail
                  refine wp_region_pre 6 (by kernel_rfl) (by kernel_rfl) (by kernel_rfl) (by kernel_rfl) (fun _ _ _ _ _ h => h) ?_
                  simp only [List.take_succ_cons, List.take_zero, List.drop_succ_cons, List.drop_zero]
                  iterate 6 (refine wpPre_stepK (fun K hK => ?_); go_simp; refine hK _ ?_; clear hK K)
                  refine wpPre_nil ?_
                  change wpList _ _ _ _ _ w2.drew
                  go_wp2_with fail
                  refine (put_any (w2.drew.alloc (.cells #[.int .i64 63, .int .i64 7, .int .i64 (4294967296 - 16 * (N : Int)), .int .i64 16] 3)) w2.heap.size none 0 0 [] (Own.nil _ _ _ _) (by simp) (by omega) _ 4 4 [63, 7, 4294967296 - 16 * (N : Int), 16] (ints_lit w2.drew .i64 _ [63, 7, 4294967296 - 16 * (N : Int), 16]) HQB.out (by omega) (fun _ => by simp [ob])).mono ?_
                  rintro e w3 ⟨X3, c3, rfl, ho3, hv3, _⟩
                  have HV3 : Hid (Upd [] w2 w3) := (((Upd.refl [] w2).drew).alloc _).then hv3 (by simp [ob])
                  have HO3 : Hid (Own w3 w2.heap.size 5 1 X3 16 c3 ((footB N).map (Value.int .u8))) := ho3
                  clear ho3 hv3 z0 z1 z2 fz
                  go_wp2_with fail
                  refine (equal_any w3 _ _ _ _ (HCF.out _ HV3.out) HCFB.out _ 16 _ _ (Ints.ofOwn HO3.out) HFB.out).mono ?_
                  rintro e w4 ⟨rfl, rfl⟩
                  rw [HQ.out]
                  have HRK3 := Lib.hid (HRK2.out.upd HV3.out (by simp))
                  have HU3 := Lib.hid (HU2.out.trans HV3.out)
                  have HA3 := Lib.hid (HA2.out.upd HV3.out (by simp))
                  clear HCF HO3 HV3 HA2 HRK2
                  have z0 : w3.cell? ⟨R, 0, none⟩ = some (.string ⟨#[]⟩) := by rw [HRK3.out.cell]; rfl
                  have z1 : w3.cell? ⟨R, 1, none⟩ = some (.int .i64 0) := by rw [HRK3.out.cell]; rfl
                  have z2 : w3.cell? ⟨R, 2, none⟩ = some (.int .i64 0) := by rw [HRK3.out.cell]; rfl
                  have fz := HRK3.out.frozen
                  have HE7 : Hid (8 + 16 * (N : Int) + d - 16 = ((n - 16 : Nat) : Int)) := by have := HNE.out; show _ = _; omega
                  cases q with
                  | false =>
                    go_wp2
                    have HK9 := Lib.hid (blk_set3 (y0 := .string ⟨#[]⟩) (y1 := .int .i64 (8 + 16 * (N : Int) + d - 16)) (y2 := .int .i64 3) HRK3.out)
                    have HU9 := Lib.hid (upd_set3 (g := R) (y0 := .string ⟨#[]⟩) (y1 := .int .i64 (8 + 16 * (N : Int) + d - 16)) (y2 := .int .i64 3) HU3.out (by have := HRR.out; omega))
                    generalize hw9 : World.setCell _ _ _ = w9 at *
                    have y0 : w9.cell? ⟨R, 0, none⟩ = some (.string ⟨#[]⟩) := by rw [HK9.out.cell]; rfl
                    have y1 : w9.cell? ⟨R, 1, none⟩ = some (.int .i64 (8 + 16 * (N : Int) + d - 16)) := by rw [HK9.out.cell]; rfl
                    have y2 : w9.cell? ⟨R, 2, none⟩ = some (.int .i64 3) := by rw [HK9.out.cell]; rfl
                    have HV : Hid (parseB b = .error (n - 16, 3)) := by
                      show _ = _
                      rw [HP3.out, if_pos (of_decide_eq_false HQ.out)]
                    rw [HV.out]
                    exact bodyPost_ret (v := .tuple #[.slice none 0 0, .agg #[.string ⟨#[]⟩, .int .i64 (8 + 16 * (N : Int) + d - 16), .int .i64 3]]) (by simp [results, Try.results12, go_sem, y0, y1, y2]) rfl ⟨by rw [HE7.out], HU9.out⟩
                  | true =>
                    have HP4 : Hid (parseB b = entR b ((b.drop (8 + 16 * N)).take (d - 16)) 1 (N - 1) none) := by
                      show _ = _
                      rw [HP3.out, if_neg (by intro h; exact h (of_decide_eq_true HQ.out))]
                    clear HP3 HQ HCFB HFB HQB hcutF hw1 hw2
                    have e8 : 8 + 16 * (N : Int) = ((8 + 16 * N : Nat) : Int) := by omega
                    have hcutD := run_cut_lh el_byte A n c .i64 .i64 (8 + 16 * (N : Int)) (8 + 16 * (N : Int) + d - 16) (8 + 16 * N) (n - 16) e8 HE7.out (by have := HNE.out; omega) (by omega)
                    have HCD : Hid (Ints .u8 w3 (cutA 1 A c (8 + 16 * N)) (d - 16) ((b.drop (8 + 16 * N)).take (d - 16))) := by
                      have h := HA3.out.cut (lo := 8 + 16 * N) (hi := n - 16) (c := c) (by have := HNE.out; omega) (by omega) hnc
                      have e : n - 16 - (8 + 16 * N) = d - 16 := by have := HNE.out; omega
                      rw [e] at h
                      exact h
                    have e9 : n - 16 - (8 + 16 * N) = d - 16 := by have := HNE.out; omega
                    rw [e9] at hcutD
                    clear e8 e9
                    have hDs : Hid (∀ W, Upd [] w W → Ints .u8 W (cutA 1 A c (8 + 16 * N)) (d - 16) ((b.drop (8 + 16 * N)).take (d - 16))) := fun W hW => by
                      have h := (HA.out.upd hW (by simp)).cut (lo := 8 + 16 * N) (hi := n - 16) (c := c) (by have := HNE.out; omega) (by omega) hnc
                      have e : n - 16 - (8 + 16 * N) = d - 16 := by have := HNE.out; omega
                      rw [e] at h
                      exact h
                    obtain ⟨D, HDD⟩ : ∃ D, Hid (D = cutA 1 A c (8 + 16 * N)) := ⟨_, rfl⟩
                    obtain ⟨ds, HDS⟩ : ∃ ds, Hid (ds = (b.drop (8 + 16 * N)).take (d - 16)) := ⟨_, rfl⟩
                    obtain ⟨dc, HDC⟩ : ∃ dc, Hid (dc = c - (8 + 16 * N)) := ⟨_, rfl⟩
                    rw [← HDD.out, ← HDS.out] at hDs
                    rw [← HDS.out] at HP4
                    rw [← HDD.out, ← HDC.out] at hcutD
                    have HDB : Hid (∀ z ∈ ds, 0 ≤ z ∧ z ≤ 255) := fun z hz => HBB.out z (by rw [HDS.out] at hz; exact List.mem_of_mem_drop (List.mem_of_mem_take hz))
                    have HDE : Hid (∃ a, D = some a) := by
                      obtain ⟨a, ha⟩ : ∃ a, A = some a := ints_some HA.out (by omega)
                      show ∃ a, D = some a
                      rw [HDD.out]
                      exact cut_some ha _ _
                    clear HCD HA3 HE7
                    go_wp2_with fail
                    clear hcutD z0 z1 z2 fz
                    go_loopw [9, 10] (fun x i wr => ∃ (j : Nat) (L : Option Addr) (lc : Nat) (xs : List (TagP × TagV)), j + 1 ≤ N ∧ i = .int .i64 ((j : Int) + 1) ∧ xs.length = j ∧ x = .slice L j lc ∧ Hid (TagsO wr w.heap.size L lc xs) ∧ Hid (Upd [] w wr) ∧ Hid (Blk wr R 32 #[.string ⟨#[]⟩, .int .i64 0, .int .i64 0]) ∧ Hid (parseB b = preR xs (entR b ds (j + 1) (N - 1 - j) (lastT xs)))) (fun _ i _ => N - (intOf i).toNat)
                    case atStart => exact ⟨0, none, 0, [], by omega, rfl, rfl, rfl, TagsO.nil _ _, HU3, HRK3, by show _ = _; rw [HP4.out]; exact (preR_nil _).symm⟩
                    case round =>
                      obtain ⟨j, L, lc, xs, hj, rfl, hxl, rfl, HT, HU, HK, HP⟩ := hrel
                      by_cases hlt : j + 1 < N
                      · have dlt : decide ((j : Int) + 1 < N) = true := by simp; omega
                        obtain ⟨k, HKK⟩ : ∃ k : Nat, Hid (k = 8 + 16 * (j + 1)) := ⟨_, rfl⟩
                        have ek : 8 + 16 * ((j : Int) + 1) = (k : Int) := by rw [HKK.out]; omega
                        have hkn : k + 16 ≤ n := by have h1 := HNE.out; have h2 := HKK.out; omega
                        go_wp2_with fail
                        refine (parseTag_any wr A n c b (HA.out.upd HU.out (by simp)) HBB.out hnc (by omega) k hkn D (d - 16) dc ds (hDs.out _ HU.out) HDB.out (by have h1 := HDC.out; have h2 := HNE.out; omega) (by omega) HDE.out).mono ?_
                        obtain ⟨r, HR⟩ : ∃ r, Hid (tagV b k ds = r) := ⟨_, rfl⟩
                        rw [HR.out]
                        intro e w4 hres
                        obtain ⟨p, t, ec, rfl, hv4, HO⟩ := tagPost_any (tagV_code HR.out) hres
                        have HV4 := Lib.hid hv4
                        clear hres hv4
                        go_upto_region 23 with (fail)
                        have HB5 : Hid (Blk (w4.alloc (.cells #[.int .i64 t.tag, .int .i64 t.typ, .slice p.IA p.i p.ic, .slice p.TA p.n p.tc, .slice p.BA p.m p.bc] 40)) w4.heap.size 40 #[.int .i64 t.tag, .int .i64 t.typ, .slice p.IA p.i p.ic, .slice p.TA p.n p.tc, .slice p.BA p.m p.bc]) := Blk.new _ _ _
                        have HV5 : Hid (Upd [] wr (w4.alloc (.cells #[.int .i64 t.tag, .int .i64 t.typ, .slice p.IA p.i p.ic, .slice p.TA p.n p.tc, .slice p.BA p.m p.bc] 40))) := HV4.out.alloc _
                        have HW5 : Hid (Upd [] w4 (w4.alloc (.cells #[.int .i64 t.tag, .int .i64 t.typ, .slice p.IA p.i p.ic, .slice p.TA p.n p.tc, .slice p.BA p.m p.bc] 40))) := (Upd.refl _ _).alloc _
                        obtain ⟨G, HG⟩ : ∃ G, Hid (G = w4.heap.size) := ⟨_, rfl⟩
                        rw [← HG.out] at HB5 ⊢
                        generalize hw5 : w4.alloc _ = w5 at *
                        clear hw5
                        have HU5 := Lib.hid (HU.out.trans HV5.out)
                        have HT5 := Lib.hid (HT.out.upd HV5.out)
                        have HK5 := Lib.hid (HK.out.upd HV5.out (by simp))
                        have HO5 := Lib.hid (HO.out.upd HW5.out)
                        have HRT : Hid (tagV b (8 + 16 * (j + 1)) ds = r) := by show _ = _; rw [← HKK.out]; exact HR.out
                        have HPE : Hid (parseB b = preR xs (entR b ds (j + 1) (N - 2 - j + 1) (lastT xs))) := by
                          show _ = _
                          rw [HP.out, show N - 1 - j = N - 2 - j + 1 by omega]
                        have hwsz := HU.out.size
                        clear HV4 HW5 HO HR HP HT HK
                        have z0 : w5.cell? ⟨R, 0, none⟩ = some (.string ⟨#[]⟩) := by rw [HK5.out.cell]; rfl
                        have z1 : w5.cell? ⟨R, 1, none⟩ = some (.int .i64 0) := by rw [HK5.out.cell]; rfl
                        have z2 : w5.cell? ⟨R, 2, none⟩ = some (.int .i64 0) := by rw [HK5.out.cell]; rfl
                        have fz := HK5.out.frozen
                        by_cases a7 : ec = 1
                        · have d7 : (ec == 1) = true := by simp [a7]
                          have E7 := Lib.hid a7
                          clear a7
                          go_wp2
                          have HK9 := Lib.hid (blk_set3 (y0 := .string ⟨#[]⟩) (y1 := .int .i64 ((k : Int))) (y2 := .int .i64 ec) HK5.out)
                          have HU9 := Lib.hid (upd_set3 (g := R) (y0 := .string ⟨#[]⟩) (y1 := .int .i64 ((k : Int))) (y2 := .int .i64 ec) HU5.out (by have := HRR.out; omega))
                          generalize hw9 : World.setCell _ _ _ = w9 at *
                          have y0 : w9.cell? ⟨R, 0, none⟩ = some (.string ⟨#[]⟩) := by rw [HK9.out.cell]; rfl
                          have y1 : w9.cell? ⟨R, 1, none⟩ = some (.int .i64 ((k : Int))) := by rw [HK9.out.cell]; rfl
                          have y2 : w9.cell? ⟨R, 2, none⟩ = some (.int .i64 ec) := by rw [HK9.out.cell]; rfl
                          have HV : Hid (parseB b = .error (k, ec)) := by
                            show _ = _
                            rw [HPE.out]
                            exact ent_one HRT.out HO5.out HKK.out E7.out
                          rw [HV.out]
                          exact bodyPost_ret (v := .tuple #[.slice none 0 0, .agg #[.string ⟨#[]⟩, .int .i64 ((k : Int)), .int .i64 ec]]) (by simp [results, Try.results12, go_sem, y0, y1, y2]) rfl ⟨rfl, HU9.out⟩
                        · have d7 : (ec == 1) = false := by simp [a7]
                          by_cases h0 : 0 < j
                          · have d8 : decide ((0 : Int) < j) = true := by simp; omega
                            obtain ⟨q, HQ0, hcq⟩ := HT5.out.last hxl h0
                            have hixq := HT5.out.index hxl h0
                            have hwj : IntKind.i64.wrap ((j : Int) - 1) = (j : Int) - 1 := by rw [IntKind.wrap_i64]; omega
                            have HAr := Lib.hid (HA.out.upd HU5.out (by simp))
                            by_cases hord : num4 b k ≤ q
                            · have d5 : decide (num4 b k ≤ q) = true := by simpa using hord
                              go_wp2
                              go_quiet ((go_at_call 26; exact quietL (number_any A n c b k _ (HAr.out.drewN _) HBB.out hnc (by omega) (by omega))))
                              clear hwj hixq hcq d5 HAr
                              generalize hw6 : w5.drewN _ = w6
                              have HU6 : Hid (Upd [] w w6) := by rw [← hw6]; exact HU5.out.drewN _
                              have HV6 : Hid (Upd [] w5 w6) := by rw [← hw6]; exact (Upd.refl _ _).drewN _
                              have HT6 := Lib.hid (HT5.out.upd HV6.out)
                              have HK6 := Lib.hid (HK5.out.upd HV6.out (by simp))
                              have HO6 := Lib.hid (HO5.out.upd HV6.out)
                              have HB6 := Lib.hid (HB5.out.upd HV6.out (by simp))
                              clear hw6 HV6 z0 z1 z2 fz HU5 HT5 HK5 HO5 HB5
                              have z0 : w6.cell? ⟨R, 0, none⟩ = some (.string ⟨#[]⟩) := by rw [HK6.out.cell]; rfl
                              have z1 : w6.cell? ⟨R, 1, none⟩ = some (.int .i64 0) := by rw [HK6.out.cell]; rfl
                              have z2 : w6.cell? ⟨R, 2, none⟩ = some (.int .i64 0) := by rw [HK6.out.cell]; rfl
                              have fz := HK6.out.frozen
                              go_wp2
                              have HK9 := Lib.hid (blk_set3 (y0 := .string ⟨#[]⟩) (y1 := .int .i64 ((k : Int))) (y2 := .int .i64 15) HK6.out)
                              have HU9 := Lib.hid (upd_set3 (g := R) (y0 := .string ⟨#[]⟩) (y1 := .int .i64 ((k : Int))) (y2 := .int .i64 15) HU6.out (by have := HRR.out; omega))
                              generalize hw9 : World.setCell _ _ _ = w9 at *
                              have y0 : w9.cell? ⟨R, 0, none⟩ = some (.string ⟨#[]⟩) := by rw [HK9.out.cell]; rfl
                              have y1 : w9.cell? ⟨R, 1, none⟩ = some (.int .i64 ((k : Int))) := by rw [HK9.out.cell]; rfl
                              have y2 : w9.cell? ⟨R, 2, none⟩ = some (.int .i64 15) := by rw [HK9.out.cell]; rfl
                              have HV : Hid (parseB b = .error (k, 15)) := by
                                show _ = _
                                rw [HPE.out]
                                exact ent_ord HRT.out HO6.out HKK.out a7 (by rw [HQ0.out]; simpa using hord)
                              rw [HV.out]
                              exact bodyPost_ret (v := .tuple #[.slice none 0 0, .agg #[.string ⟨#[]⟩, .int .i64 ((k : Int)), .int .i64 15]]) (by simp [results, Try.results12, go_sem, y0, y1, y2]) rfl ⟨rfl, HU9.out⟩
                            · have d5 : decide (num4 b k ≤ q) = false := by simpa using hord
                              have HQ : Hid ((lastT xs).any (fun x => decide (num4 b k ≤ x)) = false) := by show _ = _; rw [HQ0.out]; simpa using hord
                              go_wp2
                              go_quiet ((go_at_call 26; exact quietL (number_any A n c b k _ (HAr.out.drewN _) HBB.out hnc (by omega) (by omega))))
                              clear hwj hixq hcq d5 HAr
                              generalize hw6 : w5.drewN _ = w6
                              have HU6 : Hid (Upd [] w w6) := by rw [← hw6]; exact HU5.out.drewN _
                              have HV6 : Hid (Upd [] w5 w6) := by rw [← hw6]; exact (Upd.refl _ _).drewN _
                              have HT6 := Lib.hid (HT5.out.upd HV6.out)
                              have HK6 := Lib.hid (HK5.out.upd HV6.out (by simp))
                              have HO6 := Lib.hid (HO5.out.upd HV6.out)
                              have HB6 := Lib.hid (HB5.out.upd HV6.out (by simp))
                              clear hw6 HV6 z0 z1 z2 fz HU5 HT5 HK5 HO5 HB5
                              have z0 : w6.cell? ⟨R, 0, none⟩ = some (.string ⟨#[]⟩) := by rw [HK6.out.cell]; rfl
                              have z1 : w6.cell? ⟨R, 1, none⟩ = some (.int .i64 0) := by rw [HK6.out.cell]; rfl
                              have z2 : w6.cell? ⟨R, 2, none⟩ = some (.int .i64 0) := by rw [HK6.out.cell]; rfl
                              have fz := HK6.out.frozen
                              by_cases a9 : ec = 0
                              · have d9 : (ec != 0) = false := by simp [a9]
                                obtain ⟨HGO, HTO⟩ : Hid (preR xs (entR b ds (j + 1) (N - 2 - j + 1) (lastT xs)) = preR (xs ++ [(p, t)]) (entR b ds (j + 1 + 1) (N - 2 - j) (lastT (xs ++ [(p, t)])))) ∧ Hid (TagO w6 wr.heap.size p t) := ent_go HRT.out HO6.out HKK.out a9 HQ.out
                                clear a9 z0 z1 z2 fz
                                have t0 : w6.cell? ⟨G, 0, none⟩ = some (.int .i64 t.tag) := by rw [HB6.out.cell]; rfl
                                have t1 : w6.cell? ⟨G, 1, none⟩ = some (.int .i64 t.typ) := by rw [HB6.out.cell]; rfl
                                have t2 : w6.cell? ⟨G, 2, none⟩ = some (.slice p.IA p.i p.ic) := by rw [HB6.out.cell]; rfl
                                have t3 : w6.cell? ⟨G, 3, none⟩ = some (.slice p.TA p.n p.tc) := by rw [HB6.out.cell]; rfl
                                have t4 : w6.cell? ⟨G, 4, none⟩ = some (.slice p.BA p.m p.bc) := by rw [HB6.out.cell]; rfl
                                have HTO6 := HT6.out.own
                                rw [hxl] at HTO6
                                have HOW := Lib.hid HTO6
                                have hsz6 := HU6.out.size
                                clear HTO6
                                go_wp2_with (at_builtin; refine wpList_app rfl rfl el_tag rfl (HOW.out.alloc _) rfl (seg_tag _ _ _ _ _ _ _) (by intro u hu; simp at hu; rcases hu with rfl | rfl | rfl | rfl | rfl <;> rfl) (by simp only [maxLen]; omega) (by omega) (by simp; omega) ?_; intro L7 c7 w7 hown7 hu7 hfr7)
                                have HV7 : Hid (Upd [ob L] w6 w7) := ((Upd.refl _ _).alloc _).trans hu7
                                have HT7 := Lib.hid (HT6.out.more HTO.out hwsz (m := j + 1) (by omega) hown7 HV7.out)
                                have HK7 := Lib.hid (HK6.out.upd HV7.out (by simp; exact fun h => HT6.out.own.neBlk HK6.out (by decide) h.symm))
                                have HU7 := Lib.hid (HU6.out.then HV7.out (fun b hb => by simp at hb; right; exact (HT6.out.own.base hb.symm).1))
                                clear hown7 hu7 hfr7
                                go_roundw
                                case rel =>
                                  refine ⟨j + 1, L7, c7, xs ++ [(p, t)], by omega, by go_num, by simp [hxl], rfl, HT7, HU7, HK7, ?_⟩
                                  show _ = _
                                  rw [HPE.out, HGO.out, show N - 1 - (j + 1) = N - 2 - j by omega]
                                case measure => simp [intOf]; omega
                              · have d9 : (ec != 0) = true := by simp [a9]
                                go_wp2
                                have HK9 := Lib.hid (blk_set3 (y0 := .string ⟨#[]⟩) (y1 := .int .i64 ((k : Int))) (y2 := .int .i64 ec) HK6.out)
                                have HU9 := Lib.hid (upd_set3 (g := R) (y0 := .string ⟨#[]⟩) (y1 := .int .i64 ((k : Int))) (y2 := .int .i64 ec) HU6.out (by have := HRR.out; omega))
                                generalize hw9 : World.setCell _ _ _ = w9 at *
                                have y0 : w9.cell? ⟨R, 0, none⟩ = some (.string ⟨#[]⟩) := by rw [HK9.out.cell]; rfl
                                have y1 : w9.cell? ⟨R, 1, none⟩ = some (.int .i64 ((k : Int))) := by rw [HK9.out.cell]; rfl
                                have y2 : w9.cell? ⟨R, 2, none⟩ = some (.int .i64 ec) := by rw [HK9.out.cell]; rfl
                                have HV : Hid (parseB b = .error (k, ec)) := by
                                  show _ = _
                                  rw [HPE.out]
                                  exact ent_bad HRT.out HO6.out HKK.out (by assumption) a9 HQ.out
                                rw [HV.out]
                                exact bodyPost_ret (v := .tuple #[.slice none 0 0, .agg #[.string ⟨#[]⟩, .int .i64 ((k : Int)), .int .i64 ec]]) (by simp [results, Try.results12, go_sem, y0, y1, y2]) rfl ⟨rfl, HU9.out⟩
                          · have d8 : decide ((0 : Int) < j) = false := by simp; omega
                            have HQ : Hid ((lastT xs).any (fun x => decide (num4 b k ≤ x)) = false) := by
                              show _ = _
                              have : xs = [] := List.length_eq_zero_iff.1 (by omega)
                              rw [this]
                              rfl
                            go_wp2
                            go_quiet (fail)
                            generalize hw6 : w5.drewN _ = w6
                            have HU6 : Hid (Upd [] w w6) := by rw [← hw6]; exact HU5.out.drewN _
                            have HV6 : Hid (Upd [] w5 w6) := by rw [← hw6]; exact (Upd.refl _ _).drewN _
                            have HT6 := Lib.hid (HT5.out.upd HV6.out)
                            have HK6 := Lib.hid (HK5.out.upd HV6.out (by simp))
                            have HO6 := Lib.hid (HO5.out.upd HV6.out)
                            have HB6 := Lib.hid (HB5.out.upd HV6.out (by simp))
                            clear hw6 HV6 z0 z1 z2 fz HU5 HT5 HK5 HO5 HB5
                            have z0 : w6.cell? ⟨R, 0, none⟩ = some (.string ⟨#[]⟩) := by rw [HK6.out.cell]; rfl
                            have z1 : w6.cell? ⟨R, 1, none⟩ = some (.int .i64 0) := by rw [HK6.out.cell]; rfl
                            have z2 : w6.cell? ⟨R, 2, none⟩ = some (.int .i64 0) := by rw [HK6.out.cell]; rfl
                            have fz := HK6.out.frozen
                            by_cases a9 : ec = 0
                            · have d9 : (ec != 0) = false := by simp [a9]
                              obtain ⟨HGO, HTO⟩ : Hid (preR xs (entR b ds (j + 1) (N - 2 - j + 1) (lastT xs)) = preR (xs ++ [(p, t)]) (entR b ds (j + 1 + 1) (N - 2 - j) (lastT (xs ++ [(p, t)])))) ∧ Hid (TagO w6 wr.heap.size p t) := ent_go HRT.out HO6.out HKK.out a9 HQ.out
                              clear a9 z0 z1 z2 fz
                              have t0 : w6.cell? ⟨G, 0, none⟩ = some (.int .i64 t.tag) := by rw [HB6.out.cell]; rfl
                              have t1 : w6.cell? ⟨G, 1, none⟩ = some (.int .i64 t.typ) := by rw [HB6.out.cell]; rfl
                              have t2 : w6.cell? ⟨G, 2, none⟩ = some (.slice p.IA p.i p.ic) := by rw [HB6.out.cell]; rfl
                              have t3 : w6.cell? ⟨G, 3, none⟩ = some (.slice p.TA p.n p.tc) := by rw [HB6.out.cell]; rfl
                              have t4 : w6.cell? ⟨G, 4, none⟩ = some (.slice p.BA p.m p.bc) := by rw [HB6.out.cell]; rfl
                              have HTO6 := HT6.out.own
                              rw [hxl] at HTO6
                              have HOW := Lib.hid HTO6
                              have hsz6 := HU6.out.size
                              clear HTO6
                              go_wp2_with (at_builtin; refine wpList_app rfl rfl el_tag rfl (HOW.out.alloc _) rfl (seg_tag _ _ _ _ _ _ _) (by intro u hu; simp at hu; rcases hu with rfl | rfl | rfl | rfl | rfl <;> rfl) (by simp only [maxLen]; omega) (by omega) (by simp; omega) ?_; intro L7 c7 w7 hown7 hu7 hfr7)
                              have HV7 : Hid (Upd [ob L] w6 w7) := ((Upd.refl _ _).alloc _).trans hu7
                              have HT7 := Lib.hid (HT6.out.more HTO.out hwsz (m := j + 1) (by omega) hown7 HV7.out)
                              have HK7 := Lib.hid (HK6.out.upd HV7.out (by simp; exact fun h => HT6.out.own.neBlk HK6.out (by decide) h.symm))
                              have HU7 := Lib.hid (HU6.out.then HV7.out (fun b hb => by simp at hb; right; exact (HT6.out.own.base hb.symm).1))
                              clear hown7 hu7 hfr7
                              go_roundw
                              case rel =>
                                refine ⟨j + 1, L7, c7, xs ++ [(p, t)], by omega, by go_num, by simp [hxl], rfl, HT7, HU7, HK7, ?_⟩
                                show _ = _
                                rw [HPE.out, HGO.out, show N - 1 - (j + 1) = N - 2 - j by omega]
                              case measure => simp [intOf]; omega
                            · have d9 : (ec != 0) = true := by simp [a9]
                              go_wp2
                              have HK9 := Lib.hid (blk_set3 (y0 := .string ⟨#[]⟩) (y1 := .int .i64 ((k : Int))) (y2 := .int .i64 ec) HK6.out)
                              have HU9 := Lib.hid (upd_set3 (g := R) (y0 := .string ⟨#[]⟩) (y1 := .int .i64 ((k : Int))) (y2 := .int .i64 ec) HU6.out (by have := HRR.out; omega))
                              generalize hw9 : World.setCell _ _ _ = w9 at *
                              have y0 : w9.cell? ⟨R, 0, none⟩ = some (.string ⟨#[]⟩) := by rw [HK9.out.cell]; rfl
                              have y1 : w9.cell? ⟨R, 1, none⟩ = some (.int .i64 ((k : Int))) := by rw [HK9.out.cell]; rfl
                              have y2 : w9.cell? ⟨R, 2, none⟩ = some (.int .i64 ec) := by rw [HK9.out.cell]; rfl
                              have HV : Hid (parseB b = .error (k, ec)) := by
                                show _ = _
                                rw [HPE.out]
                                exact ent_bad HRT.out HO6.out HKK.out (by assumption) a9 HQ.out
                              rw [HV.out]
                              exact bodyPost_ret (v := .tuple #[.slice none 0 0, .agg #[.string ⟨#[]⟩, .int .i64 ((k : Int)), .int .i64 ec]]) (by simp [results, Try.results12, go_sem, y0, y1, y2]) rfl ⟨rfl, HU9.out⟩
                      · have dlt : decide ((j : Int) + 1 < N) = false := by simp; omega
                        have z0 : wr.cell? ⟨R, 0, none⟩ = some (.string ⟨#[]⟩) := by rw [HK.out.cell]; rfl
                        have z1 : wr.cell? ⟨R, 1, none⟩ = some (.int .i64 0) := by rw [HK.out.cell]; rfl
                        have z2 : wr.cell? ⟨R, 2, none⟩ = some (.int .i64 0) := by rw [HK.out.cell]; rfl
                        have fz := HK.out.frozen
                        go_wp2
                        have HK9 := Lib.hid (blk_set3 (y0 := .string ⟨#[]⟩) (y1 := .int .i64 0) (y2 := .int .i64 0) HK.out)
                        have HU9 := Lib.hid (upd_set3 (g := R) (y0 := .string ⟨#[]⟩) (y1 := .int .i64 0) (y2 := .int .i64 0) HU.out (by have := HRR.out; omega))
                        have HT9 := Lib.hid (HT.out.fault HK.out (upd3 (y0 := .string ⟨#[]⟩) (y1 := .int .i64 0) (y2 := .int .i64 0)))
                        generalize hw9 : World.setCell _ _ _ = w9 at *
                        have y0 : w9.cell? ⟨R, 0, none⟩ = some (.string ⟨#[]⟩) := by rw [HK9.out.cell]; rfl
                        have y1 : w9.cell? ⟨R, 1, none⟩ = some (.int .i64 0) := by rw [HK9.out.cell]; rfl
                        have y2 : w9.cell? ⟨R, 2, none⟩ = some (.int .i64 0) := by rw [HK9.out.cell]; rfl
                        have HV : Hid (parseB b = .ok (xs.map (·.2))) := by
                          show _ = _
                          rw [HP.out, show N - 1 - j = 0 by omega]
                          simp [entR, preR]
                        rw [HV.out]
                        exact bodyPost_ret (v := .tuple #[.slice L j lc, .agg #[.string ⟨#[]⟩, .int .i64 0, .int .i64 0]]) (by simp [results, Try.results12, go_sem, y0, y1, y2]) rfl ⟨L, lc, xs, rfl, by rw [hxl], HT9.out, HU9.out⟩

end Go.Proofs.Ytogknbpbjgdldaa
