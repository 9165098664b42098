/- The walks of the reference's get and says. -/
import Derived.Test.YtogknbpbjgdldaaRfC
namespace Go.Proofs.Ytogknbpbjgdldaa
open Go.RowKit Go.Dray

set_option maxHeartbeats 400000 in
theorem rget_any (A : Option Addr) (n c : Nat) (b : List Int) (x : Int) (k : Nat) (hx : x = k) (w : World) (hs : Ints .u8 w A n b) (hb : ∀ z ∈ b, 0 ≤ z ∧ z ≤ 255) (hn : n ≤ 100000000000000) (hk : k + 4 ≤ n) :
    Calls Try.prog 29 #[.slice A n c, .int .i64 x] w fun e w' => e = .returned (.int .i64 (num4 b k)) ∧ w = w' := by
  subst hx
  have HB := Lib.hid hb
  have HS := Lib.hid hs
  obtain ⟨x, HX⟩ : ∃ x, Hid (x = num4 b k) := ⟨_, rfl⟩
  have hbd := num4_bd hb k
  rw [← HX.out] at hbd
  clear hs hb
  go_enter Try.func29, Try.ntmps29
  go_wp2_with fail
  refine (rgetBe_ok A n c b k 4 w HS.out HB.out hn (by omega) (by omega) (by omega) (by omega)).mono ?_
  rintro e w' ⟨rfl, rfl⟩
  have HE : Hid (beNum ((b.drop (k : Int).toNat).take (4 : Int).toNat) = x) := by
    show _ = _
    rw [HX.out, Int.toNat_natCast]
    rfl
  rw [HE.out]
  go_wp2
  go_ret
  exact ⟨ret_int HX.out, rfl⟩

theorem blk_set6 {w : World} {g : Nat} {t : TypeId} {x0 x1 x2 x3 x4 x5 y0 y1 y2 y3 y4 y5 : Value} (h : Blk w g t #[x0, x1, x2, x3, x4, x5]) : Blk ((((((w.setCell ⟨g, 0, none⟩ y0).setCell ⟨g, 1, none⟩ y1).setCell ⟨g, 2, none⟩ y2).setCell ⟨g, 3, none⟩ y3).setCell ⟨g, 4, none⟩ y4).setCell ⟨g, 5, none⟩ y5) g t #[y0, y1, y2, y3, y4, y5] :=
  (((((h.set 0 y0).set 1 y1).set 2 y2).set 3 y3).set 4 y4).set 5 y5
theorem upd_set6 {L : List (Option Nat)} {w0 w : World} {g : Nat} {y0 y1 y2 y3 y4 y5 : Value} (h : Upd L w0 w) (hg : w0.heap.size ≤ g) : Upd L w0 ((((((w.setCell ⟨g, 0, none⟩ y0).setCell ⟨g, 1, none⟩ y1).setCell ⟨g, 2, none⟩ y2).setCell ⟨g, 3, none⟩ y3).setCell ⟨g, 4, none⟩ y4).setCell ⟨g, 5, none⟩ y5) :=
  (((((h.put hg _).put hg _).put hg _).put hg _).put hg _).put hg _
theorem upd6 {w : World} {g : Nat} {y0 y1 y2 y3 y4 y5 : Value} : Upd [some g] w ((((((w.setCell ⟨g, 0, none⟩ y0).setCell ⟨g, 1, none⟩ y1).setCell ⟨g, 2, none⟩ y2).setCell ⟨g, 3, none⟩ y3).setCell ⟨g, 4, none⟩ y4).setCell ⟨g, 5, none⟩ y5) :=
  ((((((Upd.refl [some g] w).putIn (by simp) _).putIn (by simp) _).putIn (by simp) _).putIn (by simp) _).putIn (by simp) _).putIn (by simp) _
theorem nought_run {u : List Int} {q : Nat} (h : u[q]? = some 0) (hb : ∀ i, i < q → u[i]? ≠ some 0) : noughtAt u = q := by
  unfold noughtAt
  obtain ⟨hq, he⟩ := List.getElem?_eq_some_iff.1 h
  rw [List.findIdx_eq hq]
  refine ⟨by simp [he], fun j hj => ?_⟩
  have := hb j hj
  rw [List.getElem?_eq_getElem (by omega)] at this
  simpa using this
theorem nought_none {u : List Int} (hb : ∀ i, i < u.length → u[i]? ≠ some 0) : ¬ noughtAt u < u.length := by
  unfold noughtAt
  intro h
  have h2 := List.findIdx_getElem (w := h)
  have h3 := hb _ h
  rw [List.getElem?_eq_getElem h] at h3
  apply h3
  congr 1
  simpa using h2
theorem sayV_texts {tg ty : Int} {d : List Int} {fr cnt : Nat} (hx : ¬ (cnt = 0 ∨ (ty = 6 ∧ cnt ≠ 1) ∨ fr % sizeT ty ≠ 0)) (hn : numT ty = false) (h7 : ¬ ty = 7) (h4 : cnt ≠ 0) :
    sayV tg ty d fr cnt = match textsR (d.drop fr) cnt with | none => .error 2 | some ss => .ok ⟨tg, ty, [], ss, []⟩ := by
  unfold sayV
  rw [if_neg hx, hn, if_neg (by decide : ¬ (false = true)), if_neg h7]
  by_cases hd : d.length < fr
  · rw [if_pos hd, List.drop_of_length_le (by omega)]
    obtain ⟨c, rfl⟩ : ∃ c, cnt = c + 1 := ⟨cnt - 1, by omega⟩
    rfl
  · rw [if_neg hd]
    rfl

def SaysPost (r : Except Int TagV) (w : World) (e : Ending) (w' : World) : Prop := match r with
  | .error c => e = .returned (.agg #[.int .i64 0, .int .i64 0, .slice none 0 0, .slice none 0 0, .slice none 0 0, .int .i64 c]) ∧ Upd [] w w'
  | .ok t => ∃ p : TagP, e = .returned (.agg #[.int .i64 t.tag, .int .i64 t.typ, .slice p.IA p.i p.ic, .slice p.TA p.n p.tc, .slice p.BA p.m p.bc, .int .i64 0]) ∧ TagO w' w.heap.size p t ∧ Upd [] w w'

end Go.Proofs.Ytogknbpbjgdldaa
