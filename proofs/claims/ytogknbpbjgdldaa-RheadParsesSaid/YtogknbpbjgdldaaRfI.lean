/- says, joined; what the first and the last entry must be. -/
import Derived.Test.YtogknbpbjgdldaaRfE
import Derived.Test.YtogknbpbjgdldaaRfF
import Derived.Test.YtogknbpbjgdldaaRfG
import Derived.Test.YtogknbpbjgdldaaRfH
namespace Go.Proofs.Ytogknbpbjgdldaa
open Go.RowKit Go.Dray

theorem says_any (w : World) (tg ty : Int) (D : Option Addr) (m dc : Nat) (d : List Int) (hD : Ints .u8 w D m d) (hd : ∀ z ∈ d, 0 ≤ z ∧ z ≤ 255) (hmc : m ≤ dc) (hm : m ≤ 100000000) (fr cnt : Nat) (hfrb : fr ≤ 4294967295) (hcnb : cnt ≤ 4294967295) :
    Calls Try.prog 30 #[.agg #[.int .i64 tg, .int .i64 ty, .slice none 0 0, .slice none 0 0, .slice none 0 0], .slice D m dc, .int .i64 fr, .int .i64 cnt] w (SaysPost (sayV tg ty d fr cnt) w) := by
  by_cases b4 : cnt = 0
  · exact says_zero w tg ty D m dc d hD hd hmc hm fr cnt hfrb hcnb b4
  · cases hnum : numT ty with
    | true => exact says_num w tg ty D m dc d hD hd hmc hm fr cnt hfrb hcnb b4 hnum
    | false =>
      by_cases h7 : ty = 7
      · exact says_bin w tg ty D m dc d hD hd hmc hm fr cnt hfrb hcnb b4 hnum h7
      · by_cases h6 : ty = 6
        · by_cases b8 : cnt = 1
          · exact says_txt6 w tg ty D m dc d hD hd hmc hm fr cnt hfrb hcnb b4 b8 hnum h6 h7
          · exact says_six w tg ty D m dc d hD hd hmc hm fr cnt hfrb hcnb b4 b8 hnum h6
        · exact says_txt w tg ty D m dc d hD hd hmc hm fr cnt hfrb hcnb b4 hnum h6 h7
theorem sayV_code {tg ty : Int} {d : List Int} {fr cnt : Nat} {c : Int} (h : sayV tg ty d fr cnt = .error c) : c = 2 ∨ c = 3 := by
  unfold sayV at h
  split at h
  · cases h; simp
  split at h
  · cases h; simp
  split at h
  · split at h
    · cases h; simp
    · split at h <;> cases h
      simp
  split at h
  · split at h <;> cases h
    simp
  · split at h <;> cases h
    simp
theorem saysPost_any {tg ty : Int} {d : List Int} {fr cnt : Nat} {w w' : World} {e : Ending} (h : SaysPost (sayV tg ty d fr cnt) w e w') :
    ∃ p t ec, e = .returned (.agg #[.int .i64 t.tag, .int .i64 t.typ, .slice p.IA p.i p.ic, .slice p.TA p.n p.tc, .slice p.BA p.m p.bc, .int .i64 ec]) ∧ Upd [] w w' ∧ Hid (TagOut (sayV tg ty d fr cnt) w.heap.size w' p t ec) ∧ ec ≠ 1 := by
  cases hr : sayV tg ty d fr cnt with
  | error c =>
    rw [hr] at h
    have hc := sayV_code hr
    exact ⟨⟨none, 0, 0, none, 0, 0, none, 0, 0⟩, ⟨0, 0, [], [], []⟩, c, h.1, h.2, ⟨rfl, by omega⟩, by omega⟩
  | ok t =>
    rw [hr] at h
    obtain ⟨p, h1, h2, h3⟩ := h
    exact ⟨p, t, 0, h1, h3, ⟨rfl, rfl, h2⟩, by decide⟩
theorem rget_int (A : Option Addr) (n c : Nat) (b : List Int) (x : Int) (w : World) (h0 : 0 ≤ x) (hs : Ints .u8 w A n b) (hb : ∀ z ∈ b, 0 ≤ z ∧ z ≤ 255) (hn : n ≤ 100000000000000) (hk : x.toNat + 4 ≤ n) :
    Calls Try.prog 29 #[.slice A n c, .int .i64 x] w fun e w' => e = .returned (.int .i64 (num4 b x.toNat)) ∧ w = w' := rget_any A n c b x x.toNat (by omega) w hs hb hn hk
theorem TagOut.farU {r : Except Int TagV} {B B' : Nat} {w w' : World} {p : TagP} {t : TagV} {ec : Int} {M : List (Option Nat)} (h : TagOut r B w p t ec) (hu : Upd M w w') (hM : ∀ g, B ≤ g → some g ∉ M) (hB : B' ≤ B) : TagOut r B' w' p t ec := by
  cases r with
  | error c => exact h
  | ok u =>
    obtain ⟨h1, h2, h3⟩ := h
    exact ⟨h1, h2, (h3.ints.upd hu (fun g hg => hM g (h3.ints.base hg).1)).monoB hB, (h3.texts.upd hu (fun g hg => hM g (h3.texts.base hg).1)).monoB hB, (h3.bytes.upd hu (fun g hg => hM g (h3.bytes.base hg).1)).monoB hB, h3.ib, h3.bb⟩
def noP : TagP := ⟨none, 0, 0, none, 0, 0, none, 0, 0⟩
def noT : TagV := ⟨0, 0, [], [], []⟩
theorem out_err (w : World) (B : Nat) {c : Int} (h : c ≠ 0) : TagOut (.error c) B w noP noT c := ⟨rfl, h⟩
theorem tagV_ne1 {b d : List Int} {k : Nat} (h : ¬ (num4 b k < 100 ∨ 2147483647 < num4 b k)) : tagV b k d ≠ .error 1 := by
  unfold tagV
  rw [if_neg h]
  split
  · intro e; cases e
  · intro e
    have := sayV_code e
    omega
theorem ent_ord2 {b ds : List Int} {i m k : Nat} {q : Option Int} {xs : List (TagP × TagV)} (hr : tagV b (8 + 16 * i) ds ≠ .error 1) (hk : k = 8 + 16 * i) (hq : q.any (fun x => decide (num4 b k ≤ x)) = true) : preR xs (entR b ds i (m + 1) q) = .error (k, 15) := by
  subst hk
  unfold entR
  cases h : tagV b (8 + 16 * i) ds with
  | error c =>
    have : c ≠ 1 := by rintro rfl; exact hr h
    simp only [hq, if_neg this]
    rfl
  | ok u => simp only [hq]; rfl
/-- Sixteen bytes as four numbers. -/
theorem four_nums {b : List Int} {k : Nat} {x0 x1 x2 x3 : Int} (hk : k + 16 ≤ b.length) (h : (b.drop k).take 16 = be4s [x0, x1, x2, x3]) (h0 : 0 ≤ x0 ∧ x0 < 4294967296) (h1 : 0 ≤ x1 ∧ x1 < 4294967296) (h2 : 0 ≤ x2 ∧ x2 < 4294967296) (h3 : 0 ≤ x3 ∧ x3 < 4294967296) :
    num4 b k = x0 ∧ num4 b (k + 4) = x1 ∧ num4 b (k + 8) = x2 ∧ num4 b (k + 12) = x3 := by
  have e : b = b.take k ++ (be4s [x0, x1, x2, x3] ++ (b.drop k).drop 16) := by
    rw [← h, List.take_append_drop, List.take_append_drop]
  have := entry_nums (b.take k) ((b.drop k).drop 16) x0 x1 x2 x3 k (by rw [List.length_take]; omega) h0 h1 h2 h3
  rw [← e] at this
  exact this
theorem nums_four {b : List Int} {k : Nat} (hb : ∀ z ∈ b, 0 ≤ z ∧ z ≤ 255) (hk : k + 16 ≤ b.length) : (b.drop k).take 16 = be4s [num4 b k, num4 b (k + 4), num4 b (k + 8), num4 b (k + 12)] := by
  have one : ∀ j, j + 4 ≤ b.length → beB (num4 b j) 4 = (b.drop j).take 4 := by
    intro j hj
    have hl : ((b.drop j).take 4).length = 4 := by rw [List.length_take, List.length_drop]; omega
    have := beB_beNum ((b.drop j).take 4) (fun z hz => hb z (List.mem_of_mem_drop (List.mem_of_mem_take hz)))
    rw [hl] at this
    exact this
  rw [be4s_cons, be4s_cons, be4s_cons, be4s_cons, one k (by omega), one (k + 4) (by omega), one (k + 8) (by omega), one (k + 12) (by omega)]
  have cut : ∀ (u : List Int) (p q : Nat), u.take (p + q) = u.take p ++ (u.drop p).take q := fun u p q => List.take_add
  rw [show (16 : Nat) = 4 + (4 + (4 + 4)) by rfl, cut (b.drop k) 4 _, cut _ 4 _, cut _ 4 _, List.drop_drop, List.drop_drop, List.drop_drop]
  simp [be4s, Nat.add_assoc]
theorem head_nums {b : List Int} {n d : Nat} (hl : b.length = n) (_hb : ∀ z ∈ b, 0 ≤ z ∧ z ≤ 255) (hn : 24 ≤ n ∧ 16 ≤ d ∧ d ≤ 1048576) (h : (b.drop 8).take 16 = headB d) : num4 b 8 = 63 ∧ num4 b 12 = 7 ∧ num4 b 16 = (d : Int) - 16 ∧ num4 b 20 = 16 :=
  four_nums (k := 8) (by omega) h (by omega) (by omega) (by omega) (by omega)
theorem head_of {b : List Int} {n d : Nat} (hl : b.length = n) (hb : ∀ z ∈ b, 0 ≤ z ∧ z ≤ 255) (hn : 24 ≤ n) (h0 : num4 b 8 = 63) (h1 : num4 b 12 = 7) (h2 : num4 b 16 = (d : Int) - 16) (h3 : num4 b 20 = 16) : (b.drop 8).take 16 = headB d := by
  rw [nums_four hb (k := 8) (by omega), h0, h1, h2, h3]
  rfl
theorem foot_take {b : List Int} {n : Nat} (hl : b.length = n) (hn : 16 ≤ n) : (b.drop (n - 16)).take 16 = b.drop (n - 16) := List.take_of_length_le (by rw [List.length_drop]; omega)
theorem foot_nums {b : List Int} {n N : Nat} (hl : b.length = n) (_hb : ∀ z ∈ b, 0 ≤ z ∧ z ≤ 255) (hn : 24 ≤ n) (hN : 1 ≤ N ∧ N ≤ 257) (h : b.drop (n - 16) = footB N) : num4 b (n - 16) = 63 ∧ num4 b (n - 16 + 4) = 7 ∧ num4 b (n - 16 + 8) = 4294967296 - 16 * (N : Int) ∧ num4 b (n - 16 + 12) = 16 :=
  four_nums (k := n - 16) (by omega) (by rw [foot_take hl (by omega)]; exact h) (by omega) (by omega) (by omega) (by omega)
theorem foot_of {b : List Int} {n N : Nat} (hl : b.length = n) (hb : ∀ z ∈ b, 0 ≤ z ∧ z ≤ 255) (hn : 24 ≤ n) (h0 : num4 b (n - 16) = 63) (h1 : num4 b (n - 16 + 4) = 7) (h2 : num4 b (n - 16 + 8) = 4294967296 - 16 * (N : Int)) (h3 : num4 b (n - 16 + 12) = 16) : b.drop (n - 16) = footB N := by
  rw [← foot_take hl (by omega), nums_four hb (k := n - 16) (by omega), h0, h1, h2, h3]
  rfl

end Go.Proofs.Ytogknbpbjgdldaa
