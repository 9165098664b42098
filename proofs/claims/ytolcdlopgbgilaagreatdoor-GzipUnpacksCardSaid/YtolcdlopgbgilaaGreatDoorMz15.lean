/- Merged by wip/tools/merge.py: RiD StepCall RiE. -/
import Derived.Deep.Cut
import Derived.Test.YtolcdlopgbgilaaGreatDoorMz05
import Derived.Test.YtolcdlopgbgilaaGreatDoorMz14

/-! Text RiD. -/
namespace Go.Dray
open Go.RowKit
theorem Upd.two {w w' : World} {s : Nat} {A : Option Addr} (h : Upd [some s] w w') : Upd [some s, ob A] w w' := h.mono (by intro b hb; simp at hb ⊢; exact Or.inl hb)
theorem Upd.nil2 {w w' : World} {s : Nat} {A : Option Addr} (h : Upd [] w w') : Upd [some s, ob A] w w' := h.mono (by simp)
theorem Upd.next2 {w w1 w2 : World} {s : Nat} {A A1 : Option Addr} (h : Upd [some s, ob A] w w1) (hf : Fresh w A A1) (h2 : Upd [some s, ob A1] w1 w2) : Upd [some s, ob A] w w2 := h.then h2 (by
  intro b hb
  simp at hb
  rcases hb with rfl | hb
  · left; simp
  · rcases hf b hb.symm with h3 | h3
    · left; simp [h3]
    · right; exact h3)
theorem Fresh.next {w w1 : World} {A A1 A2 : Option Addr} (h : Fresh w A A1) (h2 : Fresh w1 A1 A2) (hs : w.heap.size ≤ w1.heap.size) : Fresh w A A2 := fun g hg => by
  rcases h2 g hg with h3 | h3
  · exact h g h3
  · right; omega
end Go.Dray
namespace Go.Proofs.YtolcdlopgbgilaaGreatDoor
open Go.RowKit Go.Dray

theorem RSt.push {w w1 : World} {B s : Nat} {X : Option Addr} {xc : Nat} {bs : List Bool} {p : Nat} {OA : Option Addr} {on oc : Nat} {o : List Int} {most : Nat} {e : Int} (h : RSt w B s X xc bs p OA on oc o most e) {X3 : Option Addr} {c m : Nat} {l : List Int}
    (hown : Own w1 B 5 1 X3 (on + m) c (o.map (Value.int .u8) ++ l.map (Value.int .u8))) (hu : Upd [ob OA] w w1) (hr : on + m ≤ most + 1) (hr0 : e = 0 → on + m ≤ most) (hb : ∀ z ∈ l, 0 ≤ z ∧ z ≤ 255) :
    RSt (w1.setCell ⟨s, 2, none⟩ (.slice X3 (on + m) c)) B s X xc bs p X3 (on + m) c (o ++ l) most e ∧ Upd [some s, ob OA] w (w1.setCell ⟨s, 2, none⟩ (.slice X3 (on + m) c)) := by
  have hos : ob OA ≠ some s := h.own.neBlk h.blk (by decide)
  have hb1 := h.blk.upd hu (by simp; exact fun e => hos e.symm)
  have hx1 := h.bits.upd hu (by intro k hk; simp; exact fun e => h.bits.neOwn h.own (by decide) hk e.symm)
  refine ⟨⟨hb1.set 2 _, hx1.far (p := ⟨s, 2, none⟩) (hx1.neBlk hb1 (by decide)) _, ?_, h.sb, h.pos, hr, hr0, h.blen, h.mb, ?_, ?_⟩, ?_⟩
  · rw [List.map_append]; exact hown.far (p := ⟨s, 2, none⟩) (hown.neBlk hb1 (by decide)) _
  · intro z hz
    rcases List.mem_append.1 hz with h' | h'
    · exact h.obd z h'
    · exact hb z h'
  · have h1 := h.bw; have h2 := hu.size; simp; omega
  · exact (hu.mono (by intro b hb; simp at hb ⊢; exact Or.inr hb)).putIn (by simp) _

/-- What a step of the reference leaves. -/
def RGoPost (w : World) (B s : Nat) (X : Option Addr) (xc : Nat) (bs : List Bool) (p : Nat) (OA : Option Addr) (o : List Int) (most : Nat) (Xp : Pr → Pr) (e : Ending) (w' : World) : Prop :=
  ∃ p' OA' on' oc' o' err', e = .returned (.tuple #[]) ∧ RSt w' B s X xc bs p' OA' on' oc' o' most err' ∧ Upd [some s, ob OA] w w' ∧ Fresh w OA OA' ∧
    ((err' ≠ 0 ∧ ∀ k, run bs most (Xp k) p o = .err err') ∨ (err' = 0 ∧ p ≤ p' ∧ ∀ k, run bs most (Xp k) p o = run bs most k p' o'))

/-- What is said between two symbols. -/
structure RcSt (w wr : World) (B s : Nat) (X : Option Addr) (xc : Nat) (bs : List Bool) (p : Nat) (OA : Option Addr) (o : List Int) (most : Nat) (lz dz : List Int) (F : Nat) (g4 g5 : Nat) (A1 : Option Addr) (c1 : Nat) (C1 : Option Addr) (d1 : Nat) (A2 : Option Addr) (c2 : Nat) (C2 : Option Addr) (d2 : Nat)
    (q : Nat) (OX : Option Addr) (xn oc : Nat) (ox : List Int) (err : Int) : Prop where
  st : RSt wr B s X xc bs q OX xn oc ox most err
  upd : Upd [some s, ob OA] w wr
  fresh : Fresh w OA OX
  cl : Cd wr lz A1 c1 C1 d1
  cd : Cd wr dz A2 c2 C2 d2
  b4 : Blk wr g4 93 #[.slice A1 lz.length c1, .slice C1 lz.length d1]
  b5 : Blk wr g5 93 #[.slice A2 dz.length c2, .slice C2 dz.length d2]
  ge : p ≤ q
  run_ : if err = 0 then ∃ f, bs.length - q < f ∧ ∀ K, run bs most (symPr lz dz F K) p o = run bs most (symPr lz dz f K) q ox else ∀ K, run bs most (symPr lz dz F K) p o = .err err

/-- The frame of what is said: another step. -/
theorem RcSt.step {w wr w' : World} {B s : Nat} {X : Option Addr} {xc : Nat} {bs : List Bool} {p : Nat} {OA : Option Addr} {o : List Int} {most : Nat} {lz dz : List Int} {F : Nat} {g4 g5 : Nat} {A1 : Option Addr} {c1 : Nat} {C1 : Option Addr} {d1 : Nat} {A2 : Option Addr} {c2 : Nat} {C2 : Option Addr} {d2 : Nat}
    {q : Nat} {OX : Option Addr} {xn oc : Nat} {ox : List Int} {err : Int} (h : RcSt w wr B s X xc bs p OA o most lz dz F g4 g5 A1 c1 C1 d1 A2 c2 C2 d2 q OX xn oc ox err) {q' : Nat} {OY : Option Addr} {yn yc : Nat} {oy : List Int} {err' : Int}
    (hs : RSt w' B s X xc bs q' OY yn yc oy most err') (hu : Upd [some s, ob OX] wr w') (hf : Fresh wr OX OY) (hq : q ≤ q')
    (hr : if err' = 0 then ∃ f, bs.length - q' < f ∧ ∀ K, run bs most (symPr lz dz F K) p o = run bs most (symPr lz dz f K) q' oy else ∀ K, run bs most (symPr lz dz F K) p o = .err err') :
    RcSt w w' B s X xc bs p OA o most lz dz F g4 g5 A1 c1 C1 d1 A2 c2 C2 d2 q' OY yn yc oy err' :=
  have hn : ∀ g t cs, Blk wr g t cs → t ≠ 89 → t ≠ 5 → some g ∉ [some s, ob OX] := fun g t cs hb h1 h2 => by
    simp
    exact ⟨hb.ne h.st.blk h1, fun e => h.st.own.neBlk hb (fun e => h2 e.symm) e.symm⟩
  ⟨hs, h.upd.next2 h.fresh hu, h.fresh.next hf h.upd.size, h.cl.keep h.st hu, h.cd.keep h.st hu, h.b4.upd hu (hn _ _ _ h.b4 (by decide) (by decide)), h.b5.upd hu (hn _ _ _ h.b5 (by decide) (by decide)), Nat.le_trans h.ge hq, hr⟩

theorem badE_false (e x : Int) : badE e false x = e := by unfold badE; rw [if_neg (fun h => absurd h.1 (by decide))]
theorem badE_err {e : Int} (h : e ≠ 0) (b : Bool) (x : Int) : badE e b x = e := by unfold badE; rw [if_neg (fun h' => h h'.2)]
theorem badE_true (x : Int) : badE 0 true x = x := by unfold badE; rw [if_pos ⟨rfl, rfl⟩]

theorem Fresh.refl (w : World) (A : Option Addr) : Fresh w A A := fun _ h => Or.inl h

set_option maxRecDepth 100000 in
set_option maxHeartbeats 8000000 in
theorem coded_any {w : World} {B s : Nat} {X : Option Addr} {xc : Nat} {bs : List Bool} {p : Nat} {OA : Option Addr} {on oc : Nat} {o : List Int} {most : Nat} (h : RSt w B s X xc bs p OA on oc o most 0)
    {lz dz : List Int} {A1 : Option Addr} {c1 : Nat} {C1 : Option Addr} {d1 : Nat} {A2 : Option Addr} {c2 : Nat} {C2 : Option Addr} {d2 : Nat} (hl : Cd w lz A1 c1 C1 d1) (hd : Cd w dz A2 c2 C2 d2) (F : Nat) (hF : bs.length - p < F) :
    Calls Tryz.prog 46 #[.pointer (some ⟨s, 0, none⟩), .agg #[.slice A1 lz.length c1, .slice C1 lz.length d1], .agg #[.slice A2 dz.length c2, .slice C2 dz.length d2]] w (RGoPost w B s X xc bs p OA o most (symPr lz dz F)) := by
  obtain ⟨ln, hln⟩ : ∃ ln, ln = lz.length := ⟨_, rfl⟩
  obtain ⟨dn, hdn⟩ : ∃ dn, dn = dz.length := ⟨_, rfl⟩
  have HLN := Lib.hid hln
  have HDN := Lib.hid hdn
  have hl320 : ln ≤ 320 := by rw [hln]; exact (chk_zero hl.ok).1
  have hd320 : dn ≤ 320 := by rw [hdn]; exact (chk_zero hd.ok).1
  obtain ⟨w1, hw1⟩ : ∃ w1 : World, w1 = w.alloc (.cells #[.slice A1 ln c1, .slice C1 ln d1] 93) := ⟨_, rfl⟩
  obtain ⟨w2, hw2⟩ : ∃ w2 : World, w2 = w1.alloc (.cells #[.slice A2 dn c2, .slice C2 dn d2] 93) := ⟨_, rfl⟩
  have hu1 : Upd [] w w1 := by rw [hw1]; exact (Upd.refl _ _).alloc _
  have hu2 : Upd [] w1 w2 := by rw [hw2]; exact (Upd.refl _ _).alloc _
  have hb4 : Blk w1 w.heap.size 93 #[.slice A1 ln c1, .slice C1 ln d1] := by rw [hw1]; exact Blk.new _ _ _
  have hb5 : Blk w2 w1.heap.size 93 #[.slice A2 dn c2, .slice C2 dn d2] := by rw [hw2]; exact Blk.new _ _ _
  have hb4' := hb4.upd hu2 (by simp)
  rw [hln] at hb4'
  rw [hdn] at hb5
  have HS0 : Hid (RcSt w w2 B s X xc bs p OA o most lz dz F w.heap.size w1.heap.size A1 c1 C1 d1 A2 c2 C2 d2 p OA on oc o 0) :=
    ⟨h.grow (hu1.trans hu2), (hu1.trans hu2).nil2, Fresh.refl _ _, hl.grow (hu1.trans hu2), hd.grow (hu1.trans hu2), hb4', hb5, Nat.le_refl _, by rw [if_pos rfl]; exact ⟨F, hF, fun _ => rfl⟩⟩
  rw [← hln, ← hdn]
  obtain ⟨g4, hg4⟩ : ∃ g4, g4 = w.heap.size := ⟨_, rfl⟩
  have hg5 : w1.heap.size = g4 + 1 := by rw [hw1, hg4]; simp
  rw [← hg4, hg5] at HS0
  clear h hl hd hb4 hb4' hb5 hu1 hu2 hln hdn
  go_enter Tryz.func46, Tryz.ntmps46
  go_wp2
  rw [← hw1, ← hg4]
  rw [← hw2]
  clear hw1 hw2 hg4 hg5
  generalize g4 + 1 = g5 at HS0 ⊢
  go_loopw [6] (fun _ wr => ∃ q OX xn yc ox err, Hid (RcSt w wr B s X xc bs p OA o most lz dz F g4 g5 A1 c1 C1 d1 A2 c2 C2 d2 q OX xn yc ox err)) (fun _ wr => if intOf ((wr.cell? ⟨s, 4, none⟩).getD undef) = 0 then bs.length + 1 - (intOf ((wr.cell? ⟨s, 1, none⟩).getD undef)).toNat else 0)
  case atStart => exact ⟨p, OA, on, oc, o, 0, HS0⟩
  case round =>
    clear HS0
    obtain ⟨q, OX, xn, yc, ox, err, HS⟩ := hrel
    have hm1 := HS.out.st.blk.cell 1
    have hm4 := HS.out.st.blk.cell 4
    simp at hm1 hm4
    have hqN := HS.out.st.pos
    have hbl := HS.out.st.blen
    by_cases he : err = 0
    · subst he
      have e4 := HS.out.b4.cell 0
      have e4' := HS.out.b4.cell 1
      simp at e4 e4'
      rw [← HLN.out] at e4 e4'
      obtain ⟨f, hf, hrun⟩ : ∃ f, bs.length - q < f ∧ ∀ K, run bs most (symPr lz dz F K) p o = run bs most (symPr lz dz f K) q ox := by have := HS.out.run_; rw [if_pos rfl] at this; exact this
      obtain ⟨f', rfl⟩ : ∃ f', f = f' + 1 := ⟨f - 1, by omega⟩
      have HRUN := Lib.hid hrun
      clear hrun
      go_wp2_with fail
      have hsym : Calls Tryz.prog 76 #[.pointer (some ⟨s, 0, none⟩), .agg #[.slice A1 ln c1, .slice C1 ln d1]] wr (SymPost wr B s X xc bs q OX xn yc ox most 0 lz) := by rw [HLN.out]; exact symbol_any HS.out.st HS.out.cl
      refine hsym.mono ?_
      clear hsym
      rintro e w3 ⟨v, q3, err3, rfl, hs3, hv3, hq3, ⟨h, _⟩ | ⟨-, rfl, hlt3, hv0, hvl, hnx⟩ | ⟨-, hne, rfl, rfl, kk, hnx⟩⟩
      · exact absurd rfl h
      · have HU3 : Hid (Upd [some s, ob OX] wr w3) := hv3.two
        have HS3 := Lib.hid hs3
        have HR3 : Hid (∀ K, run bs most (symPr lz dz F K) p o = run bs most (if v = 256 then K else if 256 < v then againPr v dz (symPr lz dz f' K) else .emit [v] (symPr lz dz f' K)) q3 ox) := fun K => by
          rw [HRUN.out, symPr, run_next_ok hnx, show q + (q3 - q) = q3 from by omega]
        have hv320 : v < 320 := by have := HLN.out; omega
        have c4 := hs3.blk.cell 4
        simp at c4
        have hp3 := hs3.pos
        clear hs3 hv3 hnx hvl HRUN e4 e4'
        by_cases h256 : v = 256
        · subst h256
          go_wp2
          go_end0
          exact ⟨q3, OX, xn, yc, ox, 0, rfl, HS3.out, HS.out.upd.next2 HS.out.fresh HU3.out, HS.out.fresh, Or.inr ⟨rfl, by have := HS.out.ge; omega, fun K => by rw [HR3.out, if_pos trivial]⟩⟩
        · have dv : (v == 256) = false := by simp [h256]
          by_cases hlo : v < 256
          · have hroom := HS3.out.room0 rfl
            have hmb := HS3.out.mb
            have c2 := HS3.out.blk.cell 2
            have c3 := HS3.out.blk.cell 3
            simp at c2 c3
            go_wp2
            go_still_tail 11, (by kernel_rfl)
            change wpList _ _ _ _ _ w3.drew
            have HS4 : Hid (RSt w3.drew B s X xc bs q3 OX xn yc ox most 0) := HS3.out.drewN 1
            have HU4 : Hid (Upd [some s, ob OX] wr w3.drew) := HU3.out.drew
            generalize w3.drew = w4 at HS4 HU4 ⊢
            clear c2 c3 c4 HS3 HU3
            go_wp2_with fail
            refine (bad_any HS4.out (decide (most ≤ xn)) 4 (by decide)).mono ?_
            rintro e w5 ⟨rfl, hs5, hv5⟩
            obtain ⟨err5, h5⟩ : ∃ err5, err5 = badE 0 (decide (most ≤ xn)) 4 := ⟨_, rfl⟩
            rw [← h5] at hs5
            have HE5 : Hid ((most ≤ xn ∧ err5 = 4) ∨ (xn < most ∧ err5 = 0)) := by
              show _ ∨ _
              by_cases h : most ≤ xn
              · left; refine ⟨h, ?_⟩; rw [h5, show decide (most ≤ xn) = true from by simpa using h]; rfl
              · right; refine ⟨by omega, ?_⟩; rw [h5, show decide (most ≤ xn) = false from by simpa using h]; rfl
            have HS5 := Lib.hid hs5
            have HU5 : Hid (Upd [some s, ob OX] wr w5) := HU4.out.trans hv5.two
            have c2 := hs5.blk.cell 2
            have f2 := hs5.blk.frozen 2
            have hO := hs5.own
            have hbw := hs5.bw
            simp at c2
            have hvm : v % 256 = v := by omega
            clear hs5 hv5 h5 HS4 HU4
            go_wp2_with (at_builtin; refine wpList_app rfl rfl el_byte rfl (hO.alloc _) rfl (Seg.one _ _ _) (by simp [Value.oneCell']) (by simp only [maxLen]; omega) (by omega) (by simp; omega) ?_; intro X5 c5 w6 hown6 hu6 hfr6; have HB6 := Lib.hid (((HS5.out.blk.alloc _)).upd hu6 (by have := HS5.out.own.neBlk HS5.out.blk (by decide); simp; exact fun e => this e.symm)); have k1 : w6.cell? ⟨s, 2, none⟩ = some (.slice OX xn yc) := (by rw [HB6.out.cell]; rfl); have kf := HB6.out.frozen 2)
            have hga : Upd [] w5 (w5.alloc (.cells #[.int .u8 v] 5)) := (Upd.refl [] w5).alloc _
            have hpu := (HS5.out.grow hga).push (l := [v]) (m := 1) hown6 hu6 (by have := HS5.out.room; omega) (fun h0 => by rcases HE5.out with ⟨_, h⟩ | ⟨h, _⟩ <;> omega) (by intro z hz; rw [List.mem_singleton] at hz; subst hz; omega)
            have HP1 := Lib.hid hpu.1
            have HP2 : Hid (Upd [some s, ob OX] wr (w6.setCell ⟨s, 2, none⟩ (.slice X5 (xn + 1) c5))) := HU5.out.trans (hga.nil2.trans hpu.2)
            have HF6 : Hid (Fresh wr OX X5) := fun g hg => by
              rcases hfr6 g hg with h | h
              · exact Or.inl h
              · right; have h1 := HU5.out.size; have h2 := hga.size; omega
            clear hown6 hu6 hfr6 HB6 k1 kf hO c2 f2 hpu hga HS5 HU5
            generalize w6.setCell ⟨s, 2, none⟩ (.slice X5 (xn + 1) c5) = w7 at HP1 HP2 ⊢
            have m1 := HP1.out.blk.cell 1
            have m4 := HP1.out.blk.cell 4
            simp at m1 m4
            go_wp2
            go_roundw
            case rel =>
              refine ⟨q3, X5, xn + 1, c5, ox ++ [v], err5, HS.out.step HP1.out HP2.out HF6.out (by omega) ?_⟩
              have hol : ox.length = xn := HS.out.st.olen
              rcases HE5.out with ⟨h1, h2⟩ | ⟨h1, h2⟩
              · rw [h2, if_neg (by decide)]
                intro K
                rw [HR3.out, if_neg h256, if_neg (by omega), run, if_neg (by simp; omega)]
              · rw [h2, if_pos rfl]
                refine ⟨f', by omega, fun K => ?_⟩
                rw [HR3.out, if_neg h256, if_neg (by omega), run, if_pos (by simp; omega)]
            case measure => simp [intOf, hm1, hm4, m1, m4]; split <;> omega
          · have hhi : 256 < v := by omega
            have dlo : decide (v < 256) = false := by simp; omega
            go_wp2_with fail
            refine (bad_any HS3.out (decide ((285 : Int) < v)) 3 (by decide)).mono ?_
            rintro e w4 ⟨rfl, hs4, hv4⟩
            by_cases h285 : 285 < v
            · rw [show decide ((285 : Int) < v) = true from by simpa using h285, badE_true] at hs4
              have k4 := hs4.blk.cell 4
              simp at k4
              go_wp2
              go_end0
              exact ⟨q3, OX, xn, yc, ox, 3, rfl, hs4, HS.out.upd.next2 HS.out.fresh (HU3.out.trans hv4.two), HS.out.fresh, Or.inl ⟨by decide, fun K => by rw [HR3.out, if_neg h256, if_pos hhi]; unfold againPr; rw [if_pos (by omega), run]⟩⟩
            · rw [show decide ((285 : Int) < v) = false from by simpa using h285, badE_false] at hs4
              have HS4 := Lib.hid hs4
              have HU4 : Hid (Upd [some s, ob OX] wr w4) := HU3.out.trans hv4.two
              have k4 := hs4.blk.cell 4
              simp at k4
              clear hs4 hv4 c4 HS3 HU3
              go_wp2_with fail
              refine (rlength_any HS4.out v (by omega) (by omega)).mono ?_
              rintro e w5 ⟨cnt, p5, err5, rfl, hs5, hv5, hp5, hc0, hc1, hres5⟩
              have HS5 := Lib.hid hs5
              have HU5 : Hid (Upd [some s, ob OX] wr w5) := HU4.out.trans hv5.two
              have HRS5 := Lib.hid hres5
              have hcd5 := HS.out.cd.keep HS.out.st HU5.out
              have HCD5 := Lib.hid hcd5
              have hb5 := HS.out.b5.upd HU5.out (by have h1 := HS.out.b5.ne HS.out.st.blk (by decide); have h2 := HS.out.st.own.neBlk HS.out.b5 (by decide); simp; exact ⟨h1, fun e => h2 e.symm⟩)
              have l0 := hb5.cell 0
              have l1 := hb5.cell 1
              simp at l0 l1
              rw [← HDN.out] at l0 l1
              have HB5 := Lib.hid hb5
              clear hs5 hv5 hres5 k4 HS4 HU4 hcd5 hb5
              go_wp2_with fail
              have hsym : Calls Tryz.prog 76 #[.pointer (some ⟨s, 0, none⟩), .agg #[.slice A2 dn c2, .slice C2 dn d2]] w5 (SymPost w5 B s X xc bs p5 OX xn yc ox most err5 dz) := by rw [HDN.out]; exact symbol_any HS5.out HCD5.out
              refine hsym.mono ?_
              clear hsym
              rintro e w6 ⟨t, p6, err6, rfl, hs6, hv6, hp6, hres6⟩
              have HS6 := Lib.hid hs6
              have HU6 : Hid (Upd [some s, ob OX] wr w6) := HU5.out.trans hv6.two
              have ht0 : 0 ≤ t ∧ t ≤ 320 := by
                have hdl := HDN.out
                rcases hres6 with ⟨_, _, _, h⟩ | ⟨_, _, _, h1, h2, _⟩ | ⟨_, _, _, h, _⟩ <;> omega
              have HK6 : Hid ((err6 = 0 ∧ 3 ≤ cnt ∧ cnt ≤ 258 ∧ ∀ K, run bs most (symPr lz dz F K) p o = run bs most (if 30 ≤ t then .fail 3 else distPr t fun back => .look fun out => if (out.length : Int) < back then .fail 3 else .emit (cp out back.toNat cnt.toNat) (symPr lz dz f' K)) p6 ox) ∨ (err6 ≠ 0 ∧ t = 0 ∧ ∀ K, run bs most (symPr lz dz F K) p o = .err err6)) := by
                have e1 : ∀ K, run bs most (symPr lz dz F K) p o = run bs most (lenPr (v - 257) fun cnt => .next dz fun t => if 30 ≤ t then .fail 3 else distPr t fun back => .look fun out => if (out.length : Int) < back then .fail 3 else .emit (cp out back.toNat cnt.toNat) (symPr lz dz f' K)) q3 ox := fun K => by
                  rw [HR3.out, if_neg h256, if_pos hhi]
                  unfold againPr
                  rw [if_neg (by omega)]
                rcases HRS5.out with ⟨h1, h2⟩ | ⟨h1, h2, h3, h4⟩
                · right
                  rcases hres6 with ⟨_, h, _, h'⟩ | ⟨h, _⟩ | ⟨h, _⟩
                  · exact ⟨by rw [h]; exact h1, h', fun K => by rw [e1, h2, h]⟩
                  · exact absurd h h1
                  · exact absurd h h1
                · rcases hres6 with ⟨h, _⟩ | ⟨_, h5, h6, _, _, h7⟩ | ⟨_, h5, h6, h7, kk, h8⟩
                  · exact absurd h1 h
                  · exact Or.inl ⟨h5, h2, h3, fun K => by rw [e1, h4, run_next_ok h7, show p5 + (p6 - p5) = p6 from by omega]⟩
                  · exact Or.inr ⟨h5, h7, fun K => by rw [e1, h4, run_next_no h8 h5]⟩
              clear hs6 hv6 hres6 HRS5 l0 l1 HS5 HU5 HR3 HCD5 HB5
              go_wp2_with fail
              refine (bad_any HS6.out (decide ((29 : Int) < t)) 3 (by decide)).mono ?_
              rintro e w7 ⟨rfl, hs7, hv7⟩
              obtain ⟨err7, h7⟩ : ∃ err7, err7 = badE err6 (decide ((29 : Int) < t)) 3 := ⟨_, rfl⟩
              rw [← h7] at hs7
              have HK7 : Hid ((err7 = 0 ∧ t ≤ 29 ∧ 3 ≤ cnt ∧ cnt ≤ 258 ∧ ∀ K, run bs most (symPr lz dz F K) p o = run bs most (distPr t fun back => .look fun out => if (out.length : Int) < back then .fail 3 else .emit (cp out back.toNat cnt.toNat) (symPr lz dz f' K)) p6 ox) ∨ (err7 ≠ 0 ∧ ∀ K, run bs most (symPr lz dz F K) p o = .err err7)) := by
                rcases HK6.out with ⟨h1, h2, h3, h4⟩ | ⟨h1, h2, h3⟩
                · rw [h1] at h7
                  by_cases h29 : 29 < t
                  · rw [show decide ((29 : Int) < t) = true from by simpa using h29, badE_true] at h7
                    exact Or.inr ⟨by omega, fun K => by rw [h4, if_pos (by omega), run, h7]⟩
                  · rw [show decide ((29 : Int) < t) = false from by simpa using h29, badE_false] at h7
                    exact Or.inl ⟨h7, by omega, h2, h3, fun K => by rw [h4, if_neg (by omega)]⟩
                · rw [badE_err h1] at h7
                  exact Or.inr ⟨by omega, fun K => by rw [h3, h7]⟩
              have HS7 := Lib.hid hs7
              have HU7 : Hid (Upd [some s, ob OX] wr w7) := HU6.out.trans hv7.two
              have k4 := hs7.blk.cell 4
              simp at k4
              clear hs7 hv7 h7 HK6 HS6 HU6
              by_cases he7 : err7 = 0
              · subst he7
                obtain ⟨-, ht29, hcn3, hcn258, hrun7⟩ : _ ∧ _ ∧ _ ∧ _ ∧ _ := by rcases HK7.out with h | ⟨h, _⟩; exact h; exact absurd rfl h
                have HR7 := Lib.hid hrun7
                clear hrun7 HK7
                go_wp2_with fail
                refine (rdistance_any HS7.out t ht0.1 ht29).mono ?_
                rintro e w8 ⟨back, p8, err8, rfl, hs8, hv8, hp8, hb0, hb1, hres8⟩
                have HS8 := Lib.hid hs8
                have HU8 : Hid (Upd [some s, ob OX] wr w8) := HU7.out.trans hv8.two
                have HRS8 := Lib.hid hres8
                have k2 := hs8.blk.cell 2
                simp at k2
                have hroomx := hs8.room
                have hmb := hs8.mb
                clear hs8 hv8 hres8 k4 HS7 HU7
                go_wp2_with fail
                refine (bad_any HS8.out (decide ((xn : Int) < back)) 3 (by decide)).mono ?_
                rintro e w9 ⟨rfl, hs9, hv9⟩
                obtain ⟨err9, h9⟩ : ∃ err9, err9 = badE err8 (decide ((xn : Int) < back)) 3 := ⟨_, rfl⟩
                rw [← h9] at hs9
                have HK9 : Hid ((err9 = 0 ∧ 1 ≤ back ∧ back ≤ xn ∧ ∀ K, run bs most (symPr lz dz F K) p o = run bs most (.emit (cp ox back.toNat cnt.toNat) (symPr lz dz f' K)) p8 ox) ∨ (err9 ≠ 0 ∧ ∀ K, run bs most (symPr lz dz F K) p o = .err err9)) := by
                  have hol : ox.length = xn := HS.out.st.olen
                  rcases HRS8.out with ⟨h1, h2⟩ | ⟨h1, h2, h3, h4⟩
                  · rw [badE_err h1] at h9
                    exact Or.inr ⟨by omega, fun K => by rw [HR7.out, h2, h9]⟩
                  · rw [h1] at h9
                    by_cases hbk : (xn : Int) < back
                    · rw [show decide ((xn : Int) < back) = true from by simpa using hbk, badE_true] at h9
                      exact Or.inr ⟨by omega, fun K => by rw [HR7.out, h4, run, if_pos (by omega), run, h9]⟩
                    · rw [show decide ((xn : Int) < back) = false from by simpa using hbk, badE_false] at h9
                      exact Or.inl ⟨h9, by omega, by omega, fun K => by rw [HR7.out, h4, run, if_neg (by omega)]⟩
                have HS9 := Lib.hid hs9
                have HU9 : Hid (Upd [some s, ob OX] wr w9) := HU8.out.trans hv9.two
                have j2 := hs9.blk.cell 2
                have j3 := hs9.blk.cell 3
                simp at j2 j3
                clear hs9 hv9 h9 k2 HRS8 HS8 HU8 HR7
                go_wp2
                go_still_tail 13, (by kernel_rfl)
                change wpList _ _ _ _ _ w9.drew
                have HSa : Hid (RSt w9.drew B s X xc bs p8 OX xn yc ox most err9) := HS9.out.drewN 1
                have HUa : Hid (Upd [some s, ob OX] wr w9.drew) := HU9.out.drew
                generalize w9.drew = wa at HSa HUa ⊢
                clear j2 j3 HS9 HU9
                go_wp2_with fail
                refine (bad_any HSa.out (decide ((most : Int) - xn < cnt)) 4 (by decide)).mono ?_
                rintro e wb ⟨rfl, hsb, hvb⟩
                obtain ⟨errb, hb⟩ : ∃ errb, errb = badE err9 (decide ((most : Int) - xn < cnt)) 4 := ⟨_, rfl⟩
                rw [← hb] at hsb
                have HKb : Hid ((errb = 0 ∧ 1 ≤ back ∧ back ≤ xn ∧ cnt ≤ (most : Int) - xn ∧ ∀ K, run bs most (symPr lz dz F K) p o = run bs most (symPr lz dz f' K) p8 (ox ++ cp ox back.toNat cnt.toNat)) ∨ (errb ≠ 0 ∧ ∀ K, run bs most (symPr lz dz F K) p o = .err errb)) := by
                  have hol : ox.length = xn := HS.out.st.olen
                  rcases HK9.out with ⟨h1, h2, h3, h4⟩ | ⟨h1, h2⟩
                  · rw [h1] at hb
                    by_cases hbk : (most : Int) - xn < cnt
                    · rw [show decide ((most : Int) - xn < cnt) = true from by simpa using hbk, badE_true] at hb
                      exact Or.inr ⟨by omega, fun K => by rw [h4, run, cp_len, if_neg (by omega), hb]⟩
                    · rw [show decide ((most : Int) - xn < cnt) = false from by simpa using hbk, badE_false] at hb
                      exact Or.inl ⟨hb, h2, h3, by omega, fun K => by rw [h4, run, cp_len, if_pos (by omega)]⟩
                  · rw [badE_err h1] at hb
                    exact Or.inr ⟨by omega, fun K => by rw [h2, hb]⟩
                have HSb := Lib.hid hsb
                have HUb : Hid (Upd [some s, ob OX] wr wb) := HUa.out.trans hvb.two
                have i4 := hsb.blk.cell 4
                simp at i4
                clear hsb hvb hb HK9 HSa HUa
                obtain ⟨N, rfl⟩ := Int.eq_ofNat_of_zero_le (show 0 ≤ cnt by omega)
                obtain ⟨bk, rfl⟩ := Int.eq_ofNat_of_zero_le (show 0 ≤ back by omega)
                have hmb := HSb.out.mb
                obtain ⟨wo, rfl⟩ : ∃ wo : World, wo = wr := ⟨_, rfl⟩
                go_wp2
                go_loopw [10] (fun i wr => ∃ k : Nat, k ≤ N ∧ i = .int .i64 k ∧ (errb ≠ 0 → k = 0) ∧ ∃ OY yc', Hid (RSt wr B s X xc bs p8 OY (xn + k) yc' (ox ++ cp ox bk k) most errb) ∧ Hid (Upd [some s, ob OX] wo wr ∧ Fresh wo OX OY)) (fun i _ => N - (intOf i).toNat)
                case atStart => exact ⟨0, by omega, rfl, fun _ => rfl, OX, yc, by simp only [cp, List.append_nil]; exact HSb, ⟨HUb.out, Fresh.refl _ _⟩⟩
                case round =>
                  clear HSb HUb i4
                  obtain ⟨k, hkN, rfl, hk0, OY, yc', HY, HF⟩ := hrel
                  have y4 := HY.out.blk.cell 4
                  have y1 := HY.out.blk.cell 1
                  simp at y4 y1
                  by_cases heb : errb = 0
                  · subst heb
                    obtain ⟨-, hbk1, hbkx, hcnt, hrunb⟩ : _ ∧ _ ∧ _ ∧ _ ∧ _ := by rcases HKb.out with h | ⟨h, _⟩; exact h; exact absurd rfl h
                    have HRB := Lib.hid hrunb
                    have hcN : xn + N ≤ most := by omega
                    clear hrunb HKb hk0
                    by_cases hlt : k < N
                    · obtain ⟨oy, hoy⟩ : ∃ oy, oy = ox ++ cp ox bk k := ⟨_, rfl⟩
                      obtain ⟨yn, hyn⟩ : ∃ yn, yn = xn + k := ⟨_, rfl⟩
                      rw [← hoy, ← hyn] at HY
                      have HOX := Lib.hid hoy
                      have HXN := Lib.hid hyn
                      have hlen := HY.out.olen
                      obtain ⟨b, hb⟩ : ∃ b, oy[yn - bk]? = some b := ⟨_, List.getElem?_eq_getElem (by omega)⟩
                      have hvb := HY.out.obd b (List.mem_of_getElem? hb)
                      have HVG : Hid (oy.getD (oy.length - bk) 0 = b) := by show _ = _; rw [hlen, List.getD, hb]; rfl
                      have y2 := HY.out.blk.cell 2
                      have yf := HY.out.blk.frozen 2
                      simp at y2
                      have hvc := (Ints.ofOwn HY.out.own).cell hb
                      have hix := (Ints.ofOwn HY.out.own).indexI el_byte yc' .i64 ((yn : Int) - bk) (yn - bk) (by omega) (by omega)
                      have hyb : yn ≤ 16777217 := by have := HY.out.room; omega
                      clear hb hoy hyn hlen
                      go_wp2_with fail
                      have hwr : IntKind.i64.wrap ((yn : Int) - bk) = (yn : Int) - bk := by rw [IntKind.wrap_i64]; omega
                      have hbw := HY.out.bw
                      have HPU : Hid (∀ (X3 : Option Addr) (c3 : Nat) (w5 : World), Own w5 B 5 1 X3 (yn + 1) c3 (oy.map (Value.int .u8) ++ [.int .u8 b]) → Upd [ob OY] (wr.alloc (.cells #[.int .u8 b] 5)).drew w5 → Fresh (wr.alloc (.cells #[.int .u8 b] 5)).drew OY X3 →
                          RSt (w5.setCell ⟨s, 2, none⟩ (.slice X3 (yn + 1) c3)) B s X xc bs p8 X3 (yn + 1) c3 (oy ++ [b]) most 0 ∧ Upd [some s, ob OX] wo (w5.setCell ⟨s, 2, none⟩ (.slice X3 (yn + 1) c3)) ∧ Fresh wo OX X3) := fun X3 c3 w5 h1 h2 h3 => by
                        have hga : Upd [] wr (wr.alloc (.cells #[.int .u8 b] 5)).drew := ((Upd.refl [] wr).alloc _).drew
                        have hyx := HXN.out
                        have hpu := (HY.out.grow hga).push (l := [b]) (m := 1) h1 h2 (by omega) (fun _ => by omega) (by intro z hz; rw [List.mem_singleton] at hz; subst hz; exact hvb)
                        refine ⟨hpu.1, ((HF.out.1.trans hga.nil2).next2 HF.out.2 hpu.2), ?_⟩
                        exact HF.out.2.next h3 (by have h5 := HF.out.1.size; have h6 := hga.size; omega)
                      have y2' : (wr.alloc (.cells #[.int .u8 b] 5)).cell? ⟨s, 2, none⟩ = some (.slice OY yn yc') := ((Upd.refl [] wr).alloc _).cell y2 (by simp)
                      go_region_law (first | (refine step_app rfl rfl el_byte rfl ((HY.out.own.alloc _).drew) rfl ((Seg.one wr _ _).drewN 1) (by simp [Value.oneCell']) (by simp only [maxLen]; omega) (by omega) (by simp; omega) ?_; intro X3 c3 w5 hown5 hu5 hfr5; have HB5 := Lib.hid (((HY.out.blk.alloc _).drew).upd hu5 (by have := HY.out.own.neBlk HY.out.blk (by decide); simp; exact fun e => this e.symm)); have k1 : w5.cell? ⟨s, 2, none⟩ = some (.slice OY yn yc') := (by rw [HB5.out.cell]; rfl); have kf := HB5.out.frozen 2))
                      all_goals
                        have hp := Lib.hid (HPU.out _ _ _ hown5 hu5 hfr5)
                        clear hown5 hu5 hfr5 HB5 k1 kf
                        generalize w5.setCell ⟨s, 2, none⟩ (.slice X3 (yn + 1) c3) = w6 at hp ⊢
                        go_wp2
                        go_roundw
                        case rel =>
                          refine ⟨k + 1, by omega, by go_num, fun h => absurd rfl h, X3, c3, ?_, ⟨hp.out.2.1, hp.out.2.2⟩⟩
                          have h1 := hp.out.1
                          rw [cp, ← List.append_assoc, ← HOX.out, HVG.out, show xn + (k + 1) = yn + 1 from by rw [HXN.out]; omega]
                          exact h1
                        case measure => simp [intOf]; omega
                    · obtain rfl : k = N := by omega
                      go_wp2
                      go_roundw
                      case rel =>
                        refine ⟨p8, OY, xn + k, yc', ox ++ cp ox bk k, 0, HS.out.step HY.out HF.out.1 HF.out.2 (by omega) ?_⟩
                        rw [if_pos rfl]
                        refine ⟨f', by omega, fun K => ?_⟩
                        rw [HRB.out, Int.toNat_natCast, Int.toNat_natCast]
                      case measure => simp [intOf, hm1, hm4, y1, y4]; omega
                  · have deb : (errb == 0) = false := by simp [heb]
                    have HEB : Hid (∀ K, run bs most (symPr lz dz F K) p o = .err errb) := by rcases HKb.out with ⟨h, _⟩ | ⟨_, h⟩; exact absurd h heb; exact h
                    obtain rfl : k = 0 := hk0 heb
                    clear HKb
                    by_cases hN0 : 0 < N
                    · have dN : decide ((0 : Int) < N) = true := by simp; omega
                      go_wp2
                      go_roundw
                      case rel =>
                        refine ⟨p8, OY, xn + 0, yc', ox ++ cp ox bk 0, errb, HS.out.step HY.out HF.out.1 HF.out.2 (by omega) ?_⟩
                        rw [if_neg heb]
                        exact HEB.out
                      case measure => simp [intOf, hm1, hm4, y4, heb]; omega
                    · omega
              · have d7 : (err7 != 0) = true := by simp [he7]
                go_wp2
                go_end0
                exact ⟨p6, OX, xn, yc, ox, err7, rfl, HS7.out, HS.out.upd.next2 HS.out.fresh HU7.out, HS.out.fresh, Or.inl ⟨he7, fun K => by rcases HK7.out with ⟨h, _⟩ | ⟨_, h⟩; exact absurd h he7; exact h K⟩⟩
      · have c4 := hs3.blk.cell 4
        simp at c4
        have d1 : (err3 != 0) = true := by simp [hne]
        go_wp2
        go_end0
        exact ⟨q3, OX, xn, yc, ox, err3, rfl, hs3, HS.out.upd.next2 HS.out.fresh hv3.two, HS.out.fresh, Or.inl ⟨hne, fun K => by rw [HRUN.out, symPr, run_next_no hnx hne]⟩⟩
    · have d0 : (err == 0) = false := by simp [he]
      have HE : Hid (∀ K, run bs most (symPr lz dz F K) p o = .err err) := by have := HS.out.run_; rw [if_neg he] at this; exact this
      go_wp2
      go_end0
      exact ⟨q, OX, xn, yc, ox, err, rfl, HS.out.st, HS.out.upd, HS.out.fresh, Or.inl ⟨he, HE.out⟩⟩

end Go.Proofs.YtolcdlopgbgilaaGreatDoor

/-! Text StepCall. -/
namespace Go.Dray
open Go.RowKit

theorem step_call {P : Program} {w : World} {ops : Array Oper} {o : Oper} {a : Act} {K : Act → World → Prop} {Q : Exit → Act → World → Prop} {E : Prop} (hgd : o.guard = none) {f : FuncId} {fn : Func} {c : Code} (hf : P.funcs[f]? = some fn) (hname : (fn.name == "runtime.NumGoroutine") = false) (hb : fn.body = some c) {as1 : Array Operand} {tys : Array TypeId}
    (ho : o.op = .call { callee := .value (.func f), args := as1, argTypes := tys }) {args : Array Value} (ha : as1.map a.eval = args) {R : Ending → World → Prop} (hc : Calls P f args w R)
    (h : ∀ e w', R e w' → ∃ v, e = .returned v ∧ K (a.put o.dst v) w') : if Region.wanted o (yielded ops a.tmps) = true then Oper.wp P o a w K Q else E := by
  rw [if_pos (by simp [Region.wanted, hgd])]
  subst ha
  unfold Oper.wp
  have e1 : (execOp a.eval o).run P w = .ok (.enter f (as1.map a.eval)) w := by
    simp [execOp, ho, resolve, invoke, go_sem]
    have h1 : fn.name ≠ "runtime.NumGoroutine" := by simpa using hname
    simp [callFunc, hf, h1, hb]
  rw [e1]
  show Calls P f _ w _
  exact hc.mono fun e w' hp => by
    obtain ⟨v, rfl, hk⟩ := h e w' hp
    exact hk

end Go.Dray

/-! Text RiE. -/
namespace Go.Proofs.YtolcdlopgbgilaaGreatDoor
open Go.RowKit Go.Dray

theorem bytesAt_succ (bs : List Bool) (p n : Nat) : bytesAt bs p (n + 1) = bytesAt bs p n ++ [num ((bs.drop (p + 8 * n)).take 8)] := by unfold bytesAt; rw [tab_succ]
theorem bytesAt_len (bs : List Bool) (p n : Nat) : (bytesAt bs p n).length = n := tab_len _ _

theorem run_alignR {bs : List Bool} {most p : Nat} {o : List Int} {k : Pr} : run bs most (.align k) p o = run bs most k (alignUp p) o := by rw [run]

set_option maxRecDepth 100000 in
set_option maxHeartbeats 4000000 in
theorem rstored_any {w : World} {B s : Nat} {X : Option Addr} {xc : Nat} {bs : List Bool} {p : Nat} {OA : Option Addr} {on oc : Nat} {o : List Int} {most : Nat} (h : RSt w B s X xc bs p OA on oc o most 0) (h8 : bs.length % 8 = 0) :
    Calls Tryz.prog 45 #[.pointer (some ⟨s, 0, none⟩)] w (RGoPost w B s X xc bs p OA o most storedPr) := by
  have HS := Lib.hid h
  have hp := h.pos
  have hbl := h.blen
  have hau : alignUp p ≤ bs.length := by unfold alignUp; omega
  have hage := alignUp_ge p
  obtain ⟨q, hq⟩ : ∃ q, q = alignUp p := ⟨_, rfl⟩
  have HQ := Lib.hid hq
  have hq8 : q % 8 = 0 := by rw [hq]; unfold alignUp; omega
  have hqp : p ≤ q ∧ q < p + 8 := by rw [hq]; unfold alignUp; omega
  rw [← hq] at hau
  clear h hq hage
  go_enter Tryz.func45, Tryz.ntmps45
  go_wp2
  go_loopw [5] (fun _ wr => ∃ r : Nat, p ≤ r ∧ r ≤ q ∧ Hid (RSt wr B s X xc bs r OA on oc o most 0) ∧ Hid (Upd [some s] w wr)) (fun _ wr => q - (intOf ((wr.cell? ⟨s, 1, none⟩).getD undef)).toNat)
  case atStart => exact ⟨p, by omega, by omega, HS, Upd.refl _ _⟩
  case round =>
    clear HS
    obtain ⟨r, hr1, hr2, HS, HU⟩ := hrel
    have c1 := HS.out.blk.cell 1
    have f1 := HS.out.blk.frozen 1
    simp at c1
    by_cases hr8 : r % 8 = 0
    · obtain rfl : r = q := by omega
      have d0 : ((r : Int) % 8 != 0) = false := by simp; omega
      go_wp2_with fail
      refine (number_any HS.out 16 (by omega)).mono ?_
      rintro e w1 ⟨v1, p1, err1, rfl, hs1, hv1, hp1, hv10, hv1n, hc1⟩
      have HS1 := Lib.hid hs1
      have HU1 := Lib.hid (HU.out.trans hv1)
      have HC1 := Lib.hid hc1
      clear hs1 hv1 hc1 c1 f1 HU
      go_wp2_with fail
      refine (number_any HS1.out 16 (by omega)).mono ?_
      rintro e w2 ⟨v2, p2, err2, rfl, hs2, hv2, hp2, hv20, hv2n, hc2⟩
      have HS2 := Lib.hid hs2
      have HU2 := Lib.hid (HU1.out.trans hv2)
      have HK2 : Hid ((err2 = 0 ∧ p2 = r + 16 + 16 ∧ ∀ K, run bs most (storedPr K) p o = run bs most (if v2 ≠ 65535 - v1 then .fail 3 else .bytes v1.toNat fun b => .emit b K) p2 o) ∨ (err2 ≠ 0 ∧ ∀ K, run bs most (storedPr K) p o = .err err2)) := by
        have e0 : ∀ K, run bs most (storedPr K) p o = run bs most (.take 16 fun n => .take 16 fun m => if m ≠ 65535 - n then .fail 3 else .bytes n.toNat fun b => .emit b K) r o := fun K => by unfold storedPr; rw [run_alignR, ← HQ.out]
        rcases HC1.out with ⟨h, _⟩ | ⟨_, h1, rfl, rfl, h2⟩ | ⟨_, h1, rfl, rfl, h2⟩
        · exact absurd rfl h
        · rcases hc2 with ⟨h, _⟩ | ⟨_, h3, rfl, rfl, h4⟩ | ⟨_, h3, rfl, rfl, h4⟩
          · exact absurd rfl h
          · exact Or.inl ⟨rfl, rfl, fun K => by rw [e0, run_take_ok h1, run_take_ok h3, ← h2, ← h4]⟩
          · exact Or.inr ⟨by decide, fun K => by rw [e0, run_take_ok h1, run_take_no h3]⟩
        · rcases hc2 with ⟨_, h3, h4, h5⟩ | ⟨h, _⟩ | ⟨h, _⟩
          · rw [h3]; exact Or.inr ⟨by decide, fun K => by rw [e0, run_take_no h1]⟩
          · exact absurd h (by decide)
          · exact absurd h (by decide)
      clear hs2 hv2 hc2 HC1 HS1 HU1
      go_wp2_with fail
      refine (bad_any HS2.out (v2 != 65535 - v1) 3 (by decide)).mono ?_
      rintro e w3 ⟨rfl, hs3, hv3⟩
      obtain ⟨err3, h3⟩ : ∃ err3, err3 = badE err2 (v2 != 65535 - v1) 3 := ⟨_, rfl⟩
      rw [← h3] at hs3
      have HK3 : Hid ((err3 = 0 ∧ p2 = r + 16 + 16 ∧ ∀ K, run bs most (storedPr K) p o = run bs most (.bytes v1.toNat fun b => .emit b K) p2 o) ∨ (err3 ≠ 0 ∧ ∀ K, run bs most (storedPr K) p o = .err err3)) := by
        rcases HK2.out with ⟨h1, h4, h2⟩ | ⟨h1, h2⟩
        · rw [h1] at h3
          by_cases hne : v2 = 65535 - v1
          · rw [show (v2 != 65535 - v1) = false from by simp [hne], badE_false] at h3
            exact Or.inl ⟨h3, h4, fun K => by rw [h2, if_neg (fun h => h hne)]⟩
          · rw [show (v2 != 65535 - v1) = true from by simp [hne], badE_true] at h3
            exact Or.inr ⟨by omega, fun K => by rw [h2, if_pos hne, run, h3]⟩
        · rw [badE_err h1] at h3
          exact Or.inr ⟨by omega, fun K => by rw [h2, h3]⟩
      have HS3 := Lib.hid hs3
      have HU3 := Lib.hid (HU2.out.trans hv3)
      have k4 := hs3.blk.cell 4
      simp at k4
      clear hs3 hv3 h3 HK2 HS2 HU2
      by_cases he3 : err3 = 0
      · subst he3
        obtain ⟨-, hp232, hrun⟩ : _ ∧ _ ∧ _ := by rcases HK3.out with h | ⟨h, _⟩; exact h; exact absurd rfl h
        have HR3 := Lib.hid hrun
        have HA2 : Hid (alignUp p2 = p2) := by show _ = _; unfold alignUp; omega
        clear hrun HK3
        obtain ⟨N, rfl⟩ := Int.eq_ofNat_of_zero_le hv10
        have hN : N ≤ 70000 := by omega
        clear hv1n hv2n hv20
        have k0 := HS3.out.blk.cell 0
        have k1 := HS3.out.blk.cell 1
        have k2 := HS3.out.blk.cell 2
        have k3 := HS3.out.blk.cell 3
        simp at k0 k1 k2 k3
        obtain ⟨bn, hbn⟩ : ∃ bn, bn = bs.length := ⟨_, rfl⟩
        have HBN := Lib.hid hbn
        rw [← hbn] at k0 hau hbl
        have hp2l : p2 ≤ bn := by rw [hbn]; exact HS3.out.pos
        have hroom := HS3.out.room0 rfl
        have hmb := HS3.out.mb
        have kf4 := HS3.out.blk.frozen 4
        clear hbn
        by_cases hshort : (bn : Int) - p2 < 8 * N
        · have ds : decide ((bn : Int) - p2 < 8 * N) = true := by simp; omega
          have HE : Hid (∀ K, run bs most (storedPr K) p o = .err 2) := fun K => by
            rw [HR3.out, run, HA2.out, if_neg (by rw [← HBN.out]; omega)]
          go_wp2
          go_quiet (fail)
          have HS4 := Lib.hid (HS3.out.drewN nq)
          have HU4 : Hid (Upd [some s] w (w3.drewN nq)) := HU3.out.drewN nq
          have k4' : (w3.drewN nq).cell? ⟨s, 4, none⟩ = some (.int .i64 0) := k4
          have kf4' : (w3.drewN nq).frozen? ⟨s, 4, none⟩ = false := kf4
          generalize w3.drewN nq = w4 at HS4 HU4 k4' kf4' ⊢
          clear k0 k1 k2 k3 k4 kf4 HS3 HU3
          go_wp2
          go_end0
          exact ⟨p2, OA, on, oc, o, 2, rfl, HS4.out.err (by decide), (HU4.out.trans (HS4.out.put 4 _)).two, Fresh.refl _ _, Or.inl ⟨by decide, HE.out⟩⟩
        · have ds : decide ((bn : Int) - p2 < 8 * N) = false := by simp; omega
          go_wp2
          go_quiet (fail)
          have HS4 := Lib.hid (HS3.out.drewN nq)
          have HU4 : Hid (Upd [some s] w (w3.drewN nq)) := HU3.out.drewN nq
          have k4' : (w3.drewN nq).cell? ⟨s, 4, none⟩ = some (.int .i64 0) := k4
          have k2' : (w3.drewN nq).cell? ⟨s, 2, none⟩ = some (.slice OA on oc) := k2
          have k3' : (w3.drewN nq).cell? ⟨s, 3, none⟩ = some (.int .i64 most) := k3
          have kf4' : (w3.drewN nq).frozen? ⟨s, 4, none⟩ = false := kf4
          generalize w3.drewN nq = w4 at HS4 HU4 k4' k2' k3' kf4' ⊢
          clear k0 k1 k2 k3 k4 kf4 HS3 HU3
          by_cases hlarge : (most : Int) - on < N
          · have dl : decide ((most : Int) - on < N) = true := by simp; omega
            have HE : Hid (∀ K, run bs most (storedPr K) p o = .err 4) := fun K => by
              rw [HR3.out, run, HA2.out, if_pos (by rw [← HBN.out]; omega), run, bytesAt_len, HS4.out.olen, if_neg (by omega)]
            go_wp2
            go_quiet (fail)
            have HS5 := Lib.hid (HS4.out.drewN nq)
            have HU5 : Hid (Upd [some s] w (w4.drewN nq)) := HU4.out.drewN nq
            have k4 : (w4.drewN nq).cell? ⟨s, 4, none⟩ = some (.int .i64 0) := k4'
            have kf4 : (w4.drewN nq).frozen? ⟨s, 4, none⟩ = false := kf4'
            generalize w4.drewN nq = w5 at HS5 HU5 k4 kf4 ⊢
            clear k4' k2' k3' kf4' HS4 HU4
            go_wp2
            go_end0
            exact ⟨p2, OA, on, oc, o, 4, rfl, HS5.out.err (by decide), (HU5.out.trans (HS5.out.put 4 _)).two, Fresh.refl _ _, Or.inl ⟨by decide, HE.out⟩⟩
          · have dl : decide ((most : Int) - on < N) = false := by simp; omega
            have HE : Hid (∀ K, run bs most (storedPr K) p o = run bs most K (p2 + 8 * N) (o ++ bytesAt bs p2 N)) := fun K => by
              rw [HR3.out, run, HA2.out, if_pos (by rw [← HBN.out, Int.toNat_natCast]; omega), run, bytesAt_len, HS4.out.olen, Int.toNat_natCast, if_pos (by omega)]
            go_wp2
            go_quiet (fail)
            have HS5 := Lib.hid (HS4.out.drewN nq)
            have HU5 : Hid (Upd [some s, ob OA] w (w4.drewN nq)) := (HU4.out.drewN nq).two
            generalize w4.drewN nq = w5 at HS5 HU5 ⊢
            clear k4' k2' k3' kf4' HS4 HU4
            go_wp2
            go_loopw [4] (fun v wr => ∃ k : Nat, k ≤ N ∧ v = .int .i64 k ∧ ∃ OX xc', Hid (RSt wr B s X xc bs (p2 + 8 * k) OX (on + k) xc' (o ++ bytesAt bs p2 k) most 0) ∧ Hid (Upd [some s, ob OA] w wr ∧ Fresh w OA OX)) (fun v _ => N - (intOf v).toNat)
            case atStart => exact ⟨0, by omega, rfl, OA, oc, by simp only [bytesAt, tab, List.range_zero, List.map_nil, List.append_nil, Nat.mul_zero, Nat.add_zero]; exact HS5, ⟨HU5.out, Fresh.refl _ _⟩⟩
            case round =>
              clear HS5 HU5
              obtain ⟨k, hkN, rfl, OX, xc', HX, HF⟩ := hrel
              by_cases hlt : k < N
              · have y2 := HX.out.blk.cell 2
                simp at y2
                obtain ⟨xn, hxn⟩ : ∃ xn, xn = on + k := ⟨_, rfl⟩
                obtain ⟨ox, hox⟩ : ∃ ox, ox = o ++ bytesAt bs p2 k := ⟨_, rfl⟩
                obtain ⟨pk, hpk⟩ : ∃ pk, pk = p2 + 8 * k := ⟨_, rfl⟩
                rw [← hxn, ← hox, ← hpk] at HX
                rw [← hxn] at y2
                have HXN := Lib.hid hxn
                have HOX := Lib.hid hox
                have HPK := Lib.hid hpk
                have hpk8 : pk + 8 ≤ bn := by omega
                have hxnb : xn ≤ 16777217 := by have := HX.out.room; omega
                clear hxn hox hpk
                have HNM : Hid (∀ W, Upd [] wr W → Calls Tryz.prog 44 #[.pointer (some ⟨s, 0, none⟩), .int .i64 8] W (NumPost W B s X xc bs pk OX xn xc' ox most 0 8)) := fun W hW => number_any (HX.out.grow hW) 8 (by omega)
                go_wp2
                go_region_law (first
                  | (go_simp; go_at_call 44; go_wp2_with (go_at_call 44; refine (HNM.out _ ((Upd.refl [] wr).drew)).mono ?_; rintro e w5 ⟨v, p5, err5, rfl, hs5, hv5, hp5, hv50, hv5n, hc5⟩; obtain ⟨hE, hP, hV⟩ : err5 = 0 ∧ p5 = pk + 8 ∧ v = num ((bs.drop pk).take 8) := (by rcases hc5 with ⟨h, _⟩ | ⟨_, _, h1, h2, h3⟩ | ⟨_, h, _⟩; exact absurd rfl h; exact ⟨h1, h2, h3⟩; rw [← HBN.out] at h; omega); subst hE hP; have HV := Lib.hid hV; have HV5 : Hid (Upd [some s] wr w5) := ((Upd.refl _ wr).drew).trans hv5; have HS5 := Lib.hid hs5; have hv255 : v ≤ 255 := (by omega); have hvw : IntKind.u8.wrap v = v := (by rw [IntKind.wrap_u8]; omega); have z2 := hs5.blk.cell 2; simp at z2; have z2' : (w5.alloc (.cells #[.int .u8 v] 5)).cell? ⟨s, 2, none⟩ = some (.slice OX xn xc') := ((Upd.refl [] w5).alloc _).cell z2 (by simp); clear hc5 hs5 hv5 hv5n hV))
                  | (refine step_app rfl rfl el_byte rfl (HS5.out.own.alloc _) rfl (Seg.one w5 _ _) (by simp [Value.oneCell']) (by simp only [maxLen]; omega) (by omega) (by have := HS5.out.bw; simp; omega) ?_; intro X3 c3 w6 hown6 hu6 hfr6; have HB6 := Lib.hid (((HS5.out.blk.alloc _)).upd hu6 (by have := HS5.out.own.neBlk HS5.out.blk (by decide); simp; exact fun e => this e.symm)); have k1 : w6.cell? ⟨s, 2, none⟩ = some (.slice OX xn xc') := (by rw [HB6.out.cell]; rfl); have kf := HB6.out.frozen 2))
                all_goals
                  have hga : Upd [] w5 (w5.alloc (.cells #[.int .u8 v] 5)) := (Upd.refl [] w5).alloc _
                  have hpu := (HS5.out.grow hga).push (l := [v]) (m := 1) hown6 hu6 (by have := HXN.out; omega) (fun _ => by have := HXN.out; omega) (by intro z hz; rw [List.mem_singleton] at hz; subst hz; exact ⟨hv50, hv255⟩)
                  have HP1 := Lib.hid hpu.1
                  have HP2 : Hid (Upd [some s, ob OA] w (w6.setCell ⟨s, 2, none⟩ (.slice X3 (xn + 1) c3))) := ((HF.out.1.next2 HF.out.2 HV5.out.two).next2 HF.out.2 (hga.nil2.trans hpu.2))
                  have HF6 : Hid (Fresh w OA X3) := HF.out.2.next hfr6 (by have h1 := HF.out.1.size; have h2 := HV5.out.size; have h3 := hga.size; omega)
                  clear hpu hga hown6 hu6 hfr6 HB6 k1 kf z2 z2' HS5 HV5
                  generalize w6.setCell ⟨s, 2, none⟩ (.slice X3 (xn + 1) c3) = w7 at HP1 HP2 ⊢
                  go_wp2
                  go_roundw
                  case rel =>
                    refine ⟨k + 1, by omega, by go_num, X3, c3, ?_, ⟨HP2.out, HF6.out⟩⟩
                    have h1 := HP1.out
                    rw [bytesAt_succ, ← List.append_assoc, ← HOX.out, ← HPK.out, ← HV.out, show p2 + 8 * (k + 1) = pk + 8 from by rw [HPK.out]; omega, show on + (k + 1) = xn + 1 from by rw [HXN.out]; omega]
                    exact h1
                  case measure => simp [intOf]; omega
              · obtain rfl : k = N := by omega
                go_wp2
                go_end0
                exact ⟨p2 + 8 * k, OX, on + k, xc', o ++ bytesAt bs p2 k, 0, rfl, HX.out, HF.out.1, HF.out.2, Or.inr ⟨rfl, by omega, HE.out⟩⟩
      · have d3 : (err3 != 0) = true := by simp [he3]
        have HE : Hid (∀ K, run bs most (storedPr K) p o = .err err3) := by rcases HK3.out with ⟨h, _⟩ | ⟨_, h⟩; exact absurd h he3; exact h
        go_wp2
        go_end0
        exact ⟨p2, OA, on, oc, o, err3, rfl, HS3.out, HU3.out.two, Fresh.refl _ _, Or.inl ⟨he3, HE.out⟩⟩
    · have d0 : ((r : Int) % 8 != 0) = true := by simp; omega
      have hrl : r + 1 ≤ bs.length := by omega
      have HS' : Hid (RSt (wr.setCell ⟨s, 1, none⟩ (.int .i64 ((r : Int) + 1))) B s X xc bs (r + 1) OA on oc o most 0) := HS.out.move (q := r + 1) hrl
      have HU' : Hid (Upd [some s] w (wr.setCell ⟨s, 1, none⟩ (.int .i64 ((r : Int) + 1)))) := HU.out.trans (HS.out.put 1 _)
      have m1 := HS'.out.blk.cell 1
      simp at m1
      clear HS HU
      go_wp2
      go_roundw
      case rel => exact ⟨r + 1, by omega, by omega, HS', HU'⟩
      case measure => simp [intOf, c1, m1]; omega

end Go.Proofs.YtolcdlopgbgilaaGreatDoor
