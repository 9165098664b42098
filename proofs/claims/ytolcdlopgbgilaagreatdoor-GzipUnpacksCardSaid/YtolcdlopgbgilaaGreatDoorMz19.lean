/- Merged by wip/tools/merge.py: FindP DefA DefB DefC DefD. -/
import Derived.IntWalk
import Derived.StillTailTactics
import Derived.Test.YtolcdlopgbgilaaGreatDoorMz18

/-! Text FindP. -/
namespace Go.Proofs.YtolcdlopgbgilaaGreatDoor
open Go.RowKit Go.Dray

/-- Three bytes at a place. -/
def three (xs : List Int) (p : Nat) : List Int := (xs.drop p).take 3
theorem three_len {xs : List Int} {p : Nat} (h : p + 3 ≤ xs.length) : (three xs p).length = 3 := by unfold three; rw [List.length_take, List.length_drop]; omega
theorem three_get {xs : List Int} {p j : Nat} (hj : j < 3) : (three xs p).getD j 0 = xs.getD (p + j) 0 := by
  unfold three
  simp only [List.getD, List.getElem?_take_of_lt hj, List.getElem?_drop]

/-- The last place ahead of i at which these three bytes stand. -/
def LastIs (xs : List Int) (n i : Nat) (ys : List Int) : Option Int → Prop
  | none => ∀ q, q < i → q + 3 ≤ n → three xs q ≠ ys
  | some v => ∃ p : Nat, v = p ∧ p < i ∧ p + 3 ≤ n ∧ three xs p = ys ∧ ∀ q, p < q → q < i → q + 3 ≤ n → three xs q ≠ ys
/-- So does a map say it of all bytes. -/
def Last (xs : List Int) (n i : Nat) (f : List Int → Option Int) : Prop := ∀ ys, LastIs xs n i ys (f ys)
/-- The place of the same bytes ahead of p, or -1. -/
def Old (xs : List Int) (n p : Nat) (z : Int) : Prop := (z = -1 ∧ LastIs xs n p (three xs p) none) ∨ LastIs xs n p (three xs p) (some z)

theorem Last.none (xs : List Int) (n : Nat) : Last xs n 0 fun _ => Option.none := fun _ q h => by omega
theorem Last.succ {xs : List Int} {n i : Nat} {f : List Int → Option Int} (h : Last xs n i f) (hi : n < i + 3) : Last xs n (i + 1) f := by
  intro ys
  have hy := h ys
  match hf : f ys, hy with
  | .none, hy => exact fun q h1 h2 => hy q (by omega) h2
  | some v, hy =>
    obtain ⟨p, h1, h2, h3, h4, h5⟩ := hy
    exact ⟨p, h1, by omega, h3, h4, fun q g1 g2 g3 => h5 q g1 (by omega) g3⟩
theorem Last.put {xs : List Int} {n i : Nat} {f : List Int → Option Int} (h : Last xs n i f) (hi : i + 3 ≤ n) : Last xs n (i + 1) fun ys => if ys = three xs i then some (i : Int) else f ys := by
  intro ys
  show LastIs xs n (i + 1) ys (if ys = three xs i then some (i : Int) else f ys)
  by_cases he : ys = three xs i
  · rw [if_pos he]
    exact ⟨i, rfl, by omega, hi, he.symm, fun q g1 g2 => by omega⟩
  · rw [if_neg he]
    have hy := h ys
    have hne : three xs i ≠ ys := fun e => he e.symm
    match hf : f ys, hy with
    | .none, hy =>
      intro q h1 h2
      by_cases hq : q = i
      · subst hq; exact hne
      · exact hy q (by omega) h2
    | some v, hy =>
      obtain ⟨p, h1, h2, h3, h4, h5⟩ := hy
      refine ⟨p, h1, by omega, h3, h4, fun q g1 g2 g3 => ?_⟩
      by_cases hq : q = i
      · subst hq; exact hne
      · exact h5 q g1 (by omega) g3
theorem Last.old {xs : List Int} {n i : Nat} {f : List Int → Option Int} (h : Last xs n i f) {v : Int} {ok : Bool} (hv : f (three xs i) = if ok = true then some v else Option.none) : Old xs n i (if ok = true then v else -1) := by
  have := h (three xs i)
  rw [hv] at this
  cases ok with
  | true => exact Or.inr this
  | false => exact Or.inl ⟨rfl, this⟩

/-- So many bytes are the same at two places, as far as a run goes. -/
def SameIs (xs : List Int) (n p q k : Nat) : Prop := k ≤ 258 ∧ q + k ≤ n ∧ (∀ j, j < k → xs.getD (p + j) 0 = xs.getD (q + j) 0) ∧ (k < 258 → q + k < n → xs.getD (p + k) 0 ≠ xs.getD (q + k) 0)
theorem SameIs.uniq {xs : List Int} {n p q k k' : Nat} (h : SameIs xs n p q k) (h' : SameIs xs n p q k') : k = k' := by
  obtain ⟨a1, a2, a3, a4⟩ := h
  obtain ⟨b1, b2, b3, b4⟩ := h'
  rcases Nat.lt_trichotomy k k' with hlt | heq | hgt
  · exact absurd (b3 k hlt) (a4 (by omega) (by omega))
  · exact heq
  · exact absurd (a3 k' hgt) (b4 (by omega) (by omega))

/-- The best of the runs from the places from b on. -/
def Best (xs : List Int) (n i b size back : Nat) : Prop :=
  (size = 1 ∧ back = 0 ∧ ∀ q, b ≤ q → q < i → three xs q ≠ three xs i) ∨
  ∃ p, b ≤ p ∧ p < i ∧ back = i - p ∧ three xs p = three xs i ∧ 3 ≤ size ∧ SameIs xs n p i size ∧ ∀ q k, b ≤ q → q < i → three xs q = three xs i → SameIs xs n q i k → k < size ∨ (k = size ∧ q ≤ p)
/-- What is found at i. -/
def FoundF (xs : List Int) (n i size back : Nat) : Prop := (n < i + 3 ∧ size = 1 ∧ back = 0) ∨ (i + 3 ≤ n ∧ Best xs n i 0 size back)
theorem Best.uniq {xs : List Int} {n i b s1 b1 s2 b2 : Nat} (h : Best xs n i b s1 b1) (h' : Best xs n i b s2 b2) : s1 = s2 ∧ b1 = b2 := by
  rcases h with ⟨rfl, rfl, h⟩ | ⟨p, a1, a2, a3, a4, a5, a6, a7⟩
  · rcases h' with ⟨rfl, rfl, _⟩ | ⟨q, c1, c2, c3, c4, _, _, _⟩
    · exact ⟨rfl, rfl⟩
    · exact absurd c4 (h q c1 c2)
  · rcases h' with ⟨rfl, rfl, h'⟩ | ⟨q, c1, c2, c3, c4, c5, c6, c7⟩
    · exact absurd a4 (h' p a1 a2)
    · have e1 := a7 q s2 c1 c2 c4 c6
      have e2 := c7 p s1 a1 a2 a4 a6
      omega
theorem FoundF.uniq {xs : List Int} {n i s1 b1 s2 b2 : Nat} (h : FoundF xs n i s1 b1) (h' : FoundF xs n i s2 b2) : s1 = s2 ∧ b1 = b2 := by
  rcases h with ⟨h0, rfl, rfl⟩ | ⟨h0, h⟩
  · rcases h' with ⟨_, rfl, rfl⟩ | ⟨g0, _⟩
    · exact ⟨rfl, rfl⟩
    · omega
  · rcases h' with ⟨g0, _, _⟩ | ⟨_, h'⟩
    · omega
    · exact h.uniq h'

/-- One candidate more. -/
theorem Best.start (xs : List Int) (n i : Nat) : Best xs n i i 1 0 := Or.inl ⟨rfl, rfl, fun q h1 h2 => by omega⟩
theorem Best.better {xs : List Int} {n i b p size back k : Nat} (h : Best xs n i b size back) (hp : p < b) (hb : b ≤ i) (h3 : three xs p = three xs i) (hs : SameIs xs n p i k) (hk3 : 3 ≤ k) (hlt : size < k) (hno : ∀ q, p < q → q < b → three xs q ≠ three xs i) : Best xs n i p k (i - p) := by
  refine Or.inr ⟨p, Nat.le_refl _, by omega, rfl, h3, hk3, hs, fun q k' g1 g2 g3 g4 => ?_⟩
  by_cases hq : q = p
  · subst hq
    have := g4.uniq hs
    omega
  · by_cases hqb : q < b
    · exact absurd g3 (hno q (by omega) hqb)
    · rcases h with ⟨_, _, h⟩ | ⟨p0, a1, a2, a3, a4, a5, a6, a7⟩
      · exact absurd g3 (h q (by omega) g2)
      · have := a7 q k' (by omega) g2 g3 g4
        omega
theorem Best.worse {xs : List Int} {n i b p size back k : Nat} (h : Best xs n i b size back) (hp : p < b) (h3 : three xs p = three xs i) (hs : SameIs xs n p i k) (hk3 : 3 ≤ k) (hle : k ≤ size) (hno : ∀ q, p < q → q < b → three xs q ≠ three xs i) : Best xs n i p size back := by
  rcases h with ⟨rfl, rfl, h⟩ | ⟨p0, a1, a2, a3, a4, a5, a6, a7⟩
  · omega
  · refine Or.inr ⟨p0, by omega, a2, a3, a4, a5, a6, fun q k' g1 g2 g3 g4 => ?_⟩
    by_cases hq : q = p
    · subst hq
      have := g4.uniq hs
      omega
    · by_cases hqb : q < b
      · exact absurd g3 (hno q (by omega) hqb)
      · exact a7 q k' (by omega) g2 g3 g4
/-- None is better than a run of 258. -/
theorem Best.full {xs : List Int} {n i b back : Nat} (h : Best xs n i b 258 back) : Best xs n i 0 258 back := by
  rcases h with ⟨h, _⟩ | ⟨p, a1, a2, a3, a4, a5, a6, a7⟩
  · omega
  · refine Or.inr ⟨p, by omega, a2, a3, a4, a5, a6, fun q k g1 g2 g3 g4 => ?_⟩
    by_cases hqb : q < b
    · have := g4.1
      omega
    · exact a7 q k (by omega) g2 g3 g4
theorem Best.all {xs : List Int} {n i b size back : Nat} (h : Best xs n i b size back) (hno : ∀ q, q < b → three xs q ≠ three xs i) : Best xs n i 0 size back := by
  rcases h with ⟨h1, h2, h⟩ | ⟨p, a1, a2, a3, a4, a5, a6, a7⟩
  · refine Or.inl ⟨h1, h2, fun q _ g2 => ?_⟩
    by_cases hqb : q < b
    · exact hno q hqb
    · exact h q (by omega) g2
  · refine Or.inr ⟨p, by omega, a2, a3, a4, a5, a6, fun q k g1 g2 g3 g4 => ?_⟩
    by_cases hqb : q < b
    · exact absurd g3 (hno q hqb)
    · exact a7 q k (by omega) g2 g3 g4

/-- A piece that is found: a run, or none. -/
def Found (xs : List Int) (n i size back : Nat) : Prop :=
  (size = 1 ∧ back = 0) ∨ (3 ≤ size ∧ size ≤ 258 ∧ 1 ≤ back ∧ back ≤ i ∧ i + size ≤ n ∧ ∀ j, j < size → xs.getD (i - back + j) 0 = xs.getD (i + j) 0)
theorem Best.found {xs : List Int} {n i b size back : Nat} (h : Best xs n i b size back) : Found xs n i size back := by
  rcases h with ⟨h1, h2, _⟩ | ⟨p, a1, a2, rfl, a4, a5, a6, a7⟩
  · exact Or.inl ⟨h1, h2⟩
  · refine Or.inr ⟨a5, a6.1, by omega, by omega, a6.2.1, fun j hj => ?_⟩
    rw [show i - (i - p) + j = p + j from by omega]
    exact a6.2.2.1 j hj
theorem FoundF.found {xs : List Int} {n i size back : Nat} (h : FoundF xs n i size back) : Found xs n i size back := by
  rcases h with ⟨_, h1, h2⟩ | ⟨_, h⟩
  · exact Or.inl ⟨h1, h2⟩
  · exact h.found

/-- The pieces that bytes are made of, from i on. -/
def Parsed (xs : List Int) (n : Nat) : Nat → List Piece → Prop
  | i, [] => i = n
  | i, x :: ps => i < n ∧ ∃ size back, FoundF xs n i size back ∧ x = (if back = 0 then (xs.getD i 0, 0) else ((size : Int), (back : Int))) ∧ Parsed xs n (i + size) ps
theorem Parsed.uniq {xs : List Int} {n : Nat} : ∀ (ps ps' : List Piece) (i : Nat), Parsed xs n i ps → Parsed xs n i ps' → ps = ps'
  | [], [], _, _, _ => rfl
  | [], _ :: _, _, h, h' => by
    unfold Parsed at h h'
    omega
  | _ :: _, [], _, h, h' => by
    unfold Parsed at h h'
    omega
  | x :: ps, y :: ps', i, h, h' => by
    unfold Parsed at h h'
    obtain ⟨_, s1, b1, f1, rfl, r1⟩ := h
    obtain ⟨_, s2, b2, f2, rfl, r2⟩ := h'
    obtain ⟨rfl, rfl⟩ := f1.uniq f2
    rw [Parsed.uniq ps ps' _ r1 r2]
/-- Up to i they are these. -/
def ParsedTo (xs : List Int) (n i : Nat) (ps : List Piece) : Prop := ∀ qs, Parsed xs n i qs → Parsed xs n 0 (ps ++ qs)
theorem ParsedTo.start (xs : List Int) (n : Nat) : ParsedTo xs n 0 [] := fun _ h => h
theorem ParsedTo.step {xs : List Int} {n i size back : Nat} {ps : List Piece} (h : ParsedTo xs n i ps) (hi : i < n) (hf : FoundF xs n i size back) {x : Piece} (hx : x = if back = 0 then (xs.getD i 0, 0) else ((size : Int), (back : Int))) : ParsedTo xs n (i + size) (ps ++ [x]) := fun qs hq => by
  rw [List.append_assoc]
  exact h _ ⟨hi, size, back, hf, hx, hq⟩
theorem ParsedTo.all {xs : List Int} {n : Nat} {ps : List Piece} (h : ParsedTo xs n n ps) : Parsed xs n 0 ps := by
  have := h [] rfl
  rwa [List.append_nil] at this

end Go.Proofs.YtolcdlopgbgilaaGreatDoor

/-! Text DefA. -/
namespace Go.Proofs.YtolcdlopgbgilaaGreatDoor
open Go.RowKit Go.Dray

/-- The finder at block f, of the bytes xs, with the places ahead of i. -/
structure Fst (w : World) (f : Nat) (A : Option Addr) (n c : Nat) (xs : List Int) (g h : Nat) (zs : List Int) (i : Nat) : Prop where
  blk : Blk w f 137 #[.slice A n c, .map (some g), .slice (some ⟨h, 0, none⟩) 32768 32768, .int .i64 n]
  src : Ints .u8 w A n xs
  nc : n ≤ c
  map : Places w g 3 (Last xs n i)
  old : Blk w h 3 (zs.map (Value.int .i64)).toArray
  zl : zs.length = 32768
  oldr : ∀ p, p < i → p + 3 ≤ n → Old xs n p (zs.getD p 0)
  small : n ≤ 3000
  bl_f : 0 < n → bl A ≠ f
  bl_g : 0 < n → bl A ≠ g
  bl_h : 0 < n → bl A ≠ h

section
variable {w w' : World} {f : Nat} {A : Option Addr} {n c : Nat} {xs : List Int} {g h : Nat} {zs : List Int} {i : Nat} {L : List (Option Nat)}
theorem Fst.drewN (H : Fst w f A n c xs g h zs i) (q : Nat) : Fst (w.drewN q) f A n c xs g h zs i := ⟨H.blk, H.src.drewN q, H.nc, H.map, H.old, H.zl, H.oldr, H.small, H.bl_f, H.bl_g, H.bl_h⟩
theorem Fst.upd (H : Fst w f A n c xs g h zs i) (hu : Upd L w w') (h1 : some f ∉ L) (h2 : some g ∉ L) (h3 : some h ∉ L) (h4 : 0 < n → some (bl A) ∉ L) : Fst w' f A n c xs g h zs i :=
  ⟨H.blk.upd hu h1, H.src.upd hu h4, H.nc, H.map.upd hu h2, H.old.upd hu h3, H.zl, H.oldr, H.small, H.bl_f, H.bl_g, H.bl_h⟩
theorem Fst.len (H : Fst w f A n c xs g h zs i) : xs.length = n := H.src.len.out
end

def SamePost (xs : List Int) (n p q : Nat) (w : World) (e : Ending) (w' : World) : Prop :=
  ∃ k m : Nat, e = .returned (.int .i64 k) ∧ w' = w.drewN m ∧ k ≤ 258 ∧ q + k ≤ n ∧ (∀ j, j < k → xs.getD (p + j) 0 = xs.getD (q + j) 0) ∧ (k < 258 → q + k < n → xs.getD (p + k) 0 ≠ xs.getD (q + k) 0)

set_option maxRecDepth 100000 in
set_option maxHeartbeats 1000000 in
theorem same_any {w : World} {f : Nat} {A : Option Addr} {n c : Nat} {xs : List Int} {g h : Nat} {zs : List Int} {i : Nat} (H : Fst w f A n c xs g h zs i) (p q : Nat) (hpq : p < q) (hq : q < n) :
    Calls Tryz.prog 114 #[.pointer (some ⟨f, 0, none⟩), .int .i64 p, .int .i64 q] w (SamePost xs n p q w) := by
  have hn := H.small
  have HS := Lib.hid H.src
  have HB := Lib.hid H.blk
  have c0 := H.blk.cell 0
  simp at c0
  clear H
  obtain ⟨most, hm1, hm2, hm3⟩ : ∃ most : Nat, most ≤ 258 ∧ q + most ≤ n ∧ (most < 258 → q + most = n) := ⟨min 258 (n - q), by omega, by omega, by omega⟩
  by_cases hb : (258 : Int) ≤ (n : Int) - q
  all_goals
    go_enter Tryz.func114, Tryz.ntmps114
    go_wp2
    go_loopw [8] (fun v wr => ∃ k m : Nat, k ≤ most ∧ v = .int .i64 k ∧ wr = w.drewN m ∧ Hid (∀ j, j < k → xs.getD (p + j) 0 = xs.getD (q + j) 0)) (fun v _ => most - (intOf v).toNat)
    case atStart => exact ⟨0, 0, by omega, rfl, rfl, fun j hj => by omega⟩
    case round =>
      obtain ⟨k, m, hk, rfl, rfl, HE⟩ := hrel
      by_cases hlt : k < most
      · have d1 : decide ((k : Int) < 258) = true := by simp; omega
        have d2 : decide ((k : Int) < (n : Int) - q) = true := by simp; omega
        obtain ⟨x, HX, cx⟩ := HS.out.int (i := p + k) (by omega)
        obtain ⟨y, HY, cy⟩ := HS.out.int (i := q + k) (by omega)
        have ix := HS.out.indexI el_byte c .i64 ((p : Int) + k) (p + k) (by omega) (by omega)
        have iy := HS.out.indexI el_byte c .i64 ((q : Int) + k) (q + k) (by omega) (by omega)
        have wx : IntKind.i64.wrap ((p : Int) + k) = (p : Int) + k := by rw [IntKind.wrap_i64]; omega
        have wy : IntKind.i64.wrap ((q : Int) + k) = (q : Int) + k := by rw [IntKind.wrap_i64]; omega
        have HXD : Hid (xs.getD (p + k) 0 = x) := by show _ = _; rw [List.getD, HX.out]; rfl
        have HYD : Hid (xs.getD (q + k) 0 = y) := by show _ = _; rw [List.getD, HY.out]; rfl
        by_cases hxy : x = y
        · subst hxy
          go_wp2
          go_quiet (fail)
          clear wx wy
          go_wp2
          go_roundw
          case rel =>
            refine ⟨k + 1, m + nq, by omega, by go_num, by first | rfl | rw [World.drewN_drewN], fun j hj => ?_⟩
            by_cases hjk : j < k
            · exact HE.out j hjk
            · obtain rfl : j = k := by omega
              rw [HXD.out, HYD.out]
          case measure => simp [intOf]; omega
        · have d3 : (x == y) = false := by simpa using hxy
          go_wp2
          go_quiet (fail)
          clear wx wy
          go_wp2
          go_ret
          exact ⟨k, m + nq, rfl, by first | rfl | rw [World.drewN_drewN], by omega, by omega, HE.out, fun _ _ => by rw [HXD.out, HYD.out]; exact hxy⟩
      · obtain rfl : k = most := by omega
        have d1 : decide ((k : Int) < (if (258 : Int) ≤ (n : Int) - q then 258 else (n : Int) - q)) = false := by split <;> simp <;> omega
        first
          | rw [if_pos hb] at d1
          | rw [if_neg (by omega)] at d1
        go_wp2
        go_quiet (fail)
        go_wp2
        go_ret
        exact ⟨k, m + nq, rfl, by first | rfl | rw [World.drewN_drewN], by omega, by omega, HE.out, fun h1 h2 => by have := hm3 h1; omega⟩

end Go.Proofs.YtolcdlopgbgilaaGreatDoor

/-! Text DefB. -/
namespace Go.Proofs.YtolcdlopgbgilaaGreatDoor
open Go.RowKit Go.Dray

theorem size_byte (w : World) : (sizeOf 5).run Tryz.prog w = .ok 1 w := by
  obtain ⟨i, hi, hz, hs, hb⟩ := info_get el_byte
  simp [sizeOf, typeInfo, hi, hs]
theorem zero_int (w : World) : (zeroValue 3).run Tryz.prog w = .ok (.int .i64 0) w := by
  obtain ⟨i, hi, hz, hs, hb⟩ := info_get el_int
  simp [zeroValue, typeInfo, hi, hz]
theorem under_three : Tryz.prog.underlying 165 = some (.array 3 5) := Tryz.underlying165
theorem under_map : Tryz.prog.underlying 135 = some (.map 165 3) := Tryz.underlying135

theorem three_eq {xs : List Int} {p : Nat} {x y z : Int} (hx : xs[p]? = some x) (hy : xs[p + 1]? = some y) (hz : xs[p + 2]? = some z) : three xs p = [x, y, z] := by
  unfold three
  obtain ⟨h1, h1'⟩ := List.getElem?_eq_some_iff.1 hx
  obtain ⟨h2, h2'⟩ := List.getElem?_eq_some_iff.1 hy
  obtain ⟨h3, h3'⟩ := List.getElem?_eq_some_iff.1 hz
  rw [List.drop_eq_getElem_cons h1, List.drop_eq_getElem_cons h2, List.drop_eq_getElem_cons h3, h1', h2', h3']
  rfl

def FindPost (xs : List Int) (n i : Nat) (w : World) (e : Ending) (w' : World) : Prop :=
  ∃ size back m : Nat, e = .returned (.tuple #[.int .i64 size, .int .i64 back]) ∧ w' = w.drewN m ∧ FoundF xs n i size back

/-- The same three bytes are followed by a run of three at least. -/
theorem three_run {xs : List Int} {n p i k : Nat} (h3 : three xs p = three xs i) (hi : i + 3 ≤ n) (hd : k < 258 → i + k < n → xs.getD (p + k) 0 ≠ xs.getD (i + k) 0) : 3 ≤ k := by
  rcases Nat.lt_or_ge k 3 with h | h
  · exfalso
    refine hd (by omega) (by omega) ?_
    rw [← three_get h, ← three_get h, h3]
  · exact h

set_option maxRecDepth 100000 in
set_option maxHeartbeats 2000000 in
theorem find_any {w : World} {f : Nat} {A : Option Addr} {n c : Nat} {xs : List Int} {g h : Nat} {zs : List Int} {i : Nat} (H : Fst w f A n c xs g h zs i) (hi : i < n) :
    Calls Tryz.prog 89 #[.pointer (some ⟨f, 0, none⟩), .int .i64 i] w (FindPost xs n i w) := by
  have hn := H.small
  have HH := Lib.hid H
  have c0 := H.blk.cell 0
  have c1 := H.blk.cell 1
  have c2 := H.blk.cell 2
  have c3 := H.blk.cell 3
  simp at c0 c1 c2 c3
  have hnc := H.nc
  clear H
  by_cases hs : n - i < 3
  · have d1 : decide ((n : Int) - i < 3) = true := by simp; omega
    go_enter Tryz.func89, Tryz.ntmps89
    go_wp2
    go_ret2
    exact ⟨1, 0, 0, rfl, rfl, Or.inl ⟨by omega, rfl, rfl⟩⟩
  · have d1 : decide ((n : Int) - i < 3) = false := by simp; omega
    have hA := Seg.at_ HH.out.src (by omega)
    have hcut0 := run_cut_lh el_byte A n c .i64 .i64 (i : Int) ((i : Int) + 3) i (i + 3) rfl (by omega) (by omega) (by omega)
    have hcA : cutA 1 A c i = some ⟨bl A, ofs A + i, none⟩ := by
      unfold cutA
      rw [if_neg (by omega)]
      generalize bl A = b at hA ⊢
      generalize ofs A = o at hA ⊢
      subst hA
      simp [Addr.add_lit]
    rw [hcA, show i + 3 - i = 3 from by omega] at hcut0
    have hcut := hcut0
    have har : ∀ W, (Instr.arrayAt 165 (.slice (some ⟨bl A, ofs A + i, none⟩) 3 (c - i))).run Tryz.prog W = .ok (.pointer (some ⟨bl A, ofs A + i, none⟩)) W := fun W => by
      simp [Instr.arrayAt, run_underlying under_three]
    obtain ⟨x, HX, cx⟩ := HH.out.src.int (i := i) (by omega)
    obtain ⟨y, HY, cy⟩ := HH.out.src.int (i := i + 1) (by omega)
    obtain ⟨z, HZ, cz⟩ := HH.out.src.int (i := i + 2) (by omega)
    rw [← Nat.add_assoc] at cy cz
    have H3 : Hid (three xs i = [x, y, z]) := three_eq HX.out HY.out HZ.out
    obtain ⟨fl, hfl, v, ok, hlk, hok⟩ := HH.out.map.look (P := Tryz.prog) under_map under_three Tryz.underlying5 size_byte zero_int (three xs i) (three_len (by rw [HH.out.len]; omega))
    have hlk1 : ∀ q, (Instr.lookup 135 (.map (some g)) (.agg #[.int .u8 x, .int .u8 y, .int .u8 z]) true).run Tryz.prog (w.drewN q) = .ok (.tuple #[.int .i64 v, .bool ok]) (w.drewN q) := fun q => by
      have := hlk (w.drewN q) rfl
      rw [H3.out] at this
      exact this
    have HOK : Hid (LastIs xs n i (three xs i) (if ok = true then some v else none)) := by
      have h1 := hfl (three xs i)
      rw [hok] at h1
      exact h1
    have hi3 : i + 3 ≤ n := by omega
    have w3 : IntKind.i64.wrap ((i : Int) + 3) = (i : Int) + 3 := by rw [IntKind.wrap_i64]; omega
    clear hlk hok hfl hcut0 hA hcA
    go_enter Tryz.func89, Tryz.ntmps89
    go_wp2
    go_quiet (fail)
    clear cx cy cz hcut har hlk1 w3
    go_wp2
    go_loopw [4, 5, 6, 7, 8] (fun vs vb va vo vn wr => ∃ (size back t m b : Nat) (at_ : Int) (ok : Bool), vs = .int .i64 size ∧ vb = .int .i64 back ∧ va = .int .i64 at_ ∧ vo = .bool ok ∧ vn = .int .i64 t ∧ t + b ≤ i ∧ wr = w.drewN m ∧ Hid (Best xs n i b size back) ∧ Hid (LastIs xs n b (three xs i) (if ok = true then some at_ else none))) (fun _ _ _ _ vn _ => n - (intOf vn).toNat)
    case atStart => exact ⟨1, 0, 0, nq, i, v, ok, rfl, rfl, rfl, rfl, rfl, by omega, rfl, Best.start xs n i, HOK⟩
    case round =>
      clear HOK
      obtain ⟨size, back, t, m, b, at_, ok, rfl, rfl, rfl, rfl, rfl, ht, rfl, HF, HO⟩ := hrel
      cases ok with
      | false =>
        have HF9 : Hid (FoundF xs n i size back) := Or.inr ⟨hi3, HF.out.all fun q hq => (show ∀ q, q < b → q + 3 ≤ n → three xs q ≠ three xs i from HO.out) q hq (by omega)⟩
        clear HO
        go_wp2
        go_ret2
        exact ⟨size, back, m, rfl, rfl, HF9.out⟩
      | true =>
        obtain ⟨p, rfl, hpb, h2, h3, h5⟩ := (show LastIs xs n b (three xs i) (some at_) from HO.out)
        have H3P := Lib.hid h3
        have HNO : Hid (∀ q, p < q → q < b → three xs q ≠ three xs i) := fun q g1 g2 => h5 q g1 g2 (by omega)
        have hpi : p < i := by omega
        clear h2 h3 h5 HO
        by_cases htn : t < n
        · have d2 : decide ((t : Int) < n) = true := by simp; omega
          have d3 : decide ((i : Int) - p ≤ 32768) = true := by simp; omega
          go_wp2_with fail
          refine (same_any (HH.out.drewN m) p i hpi hi).mono ?_
          rintro e w2 ⟨k, m2, rfl, rfl, hk1, hk2, hk3, hk4⟩
          have hk : 3 ≤ k := three_run H3P.out (by omega) hk4
          have HSI : Hid (SameIs xs n p i k) := ⟨hk1, hk2, hk3, hk4⟩
          clear hk3 hk4
          by_cases hsk : size < k
          · have d4 : decide ((size : Int) < k) = true := by simp; omega
            have HF' : Hid (Best xs n i p k (i - p)) := HF.out.better hpb (by omega) H3P.out HSI.out hk hsk HNO.out
            by_cases h258 : k = 258
            · have d5 : ((k : Int) == 258) = true := by simp; omega
              have HF9 : Hid (FoundF xs n i k (i - p)) := Or.inr ⟨hi3, by have := HF'.out; rw [h258] at this ⊢; exact this.full⟩
              clear h258
              go_wp2
              go_ret2
              exact ⟨k, i - p, m + m2, by rw [show ((i - p : Nat) : Int) = (i : Int) - p from by omega]; rfl, by first | rfl | rw [World.drewN_drewN], HF9.out⟩
            · have d5 : ((k : Int) == 258) = false := by simp; omega
              have hcell := HH.out.old.cell p
              have hpl : p < zs.length := by rw [HH.out.zl]; omega
              obtain ⟨oz, hoz⟩ : ∃ oz, oz = zs[p] := ⟨_, rfl⟩
              have co : w.cell? ⟨h, p, none⟩ = some (.int .i64 oz) := by rw [hcell, hoz]; simp [hpl]
              have HOZ : Hid (Old xs n p oz) := by
                have := HH.out.oldr p hpi (by omega)
                rw [List.getD, List.getElem?_eq_getElem hpl] at this
                rw [hoz]
                exact this
              have ih := (HH.out.old.seg).index el_int 32768 .i64 p (by simp [HH.out.zl]; omega)
              have ih' : ∀ W : World, (Instr.indexAt 64 (.slice (some ⟨h, 0, none⟩) 32768 32768) (.int .i64 ((p : Int) % 32768))).run Tryz.prog W = .ok (.pointer (some ⟨h, p, none⟩)) W := fun W => by
                have h1 := ih W
                simp only [List.size_toArray, List.length_map, HH.out.zl, Nat.mul_one] at h1
                rw [show (p : Int) % 32768 = p from by omega]
                simpa [bl, ofs] using h1
              clear hcell hoz ih hpl
              go_wp2
              go_roundw
              case rel =>
                refine ⟨k, i - p, t + 1, m + m2, p, oz, decide (0 ≤ oz), rfl, by rw [show ((i - p : Nat) : Int) = (i : Int) - p from by omega], rfl, rfl, by go_num, by omega, by first | rfl | rw [World.drewN_drewN], HF', ?_⟩
                have h3 := H3P.out
                rcases HOZ.out with ⟨h1, h2⟩ | h2
                · have hd : ¬ (decide (0 ≤ oz) = true) := by simp; omega
                  show LastIs xs n p (three xs i) (if decide (0 ≤ oz) = true then some oz else none)
                  rw [if_neg hd, ← h3]
                  exact h2
                · have h4 := h2
                  obtain ⟨p2, h5, _⟩ := h4
                  have hd : decide (0 ≤ oz) = true := by simp; omega
                  show LastIs xs n p (three xs i) (if decide (0 ≤ oz) = true then some oz else none)
                  rw [if_pos hd, ← h3]
                  exact h2
              case measure => simp [intOf]; omega
          · have d4 : decide ((size : Int) < k) = false := by simp; omega
            have HF' : Hid (Best xs n i p size back) := HF.out.worse hpb H3P.out HSI.out hk (by omega) HNO.out
            by_cases h258 : size = 258
            · have d5 : ((size : Int) == 258) = true := by simp; omega
              have HF9 : Hid (FoundF xs n i size back) := Or.inr ⟨hi3, by have := HF'.out; rw [h258] at this ⊢; exact this.full⟩
              clear h258
              go_wp2
              go_ret2
              exact ⟨size, back, m + m2, rfl, by first | rfl | rw [World.drewN_drewN], HF9.out⟩
            · have d5 : ((size : Int) == 258) = false := by simp; omega
              have hcell := HH.out.old.cell p
              have hpl : p < zs.length := by rw [HH.out.zl]; omega
              obtain ⟨oz, hoz⟩ : ∃ oz, oz = zs[p] := ⟨_, rfl⟩
              have co : w.cell? ⟨h, p, none⟩ = some (.int .i64 oz) := by rw [hcell, hoz]; simp [hpl]
              have HOZ : Hid (Old xs n p oz) := by
                have := HH.out.oldr p hpi (by omega)
                rw [List.getD, List.getElem?_eq_getElem hpl] at this
                rw [hoz]
                exact this
              have ih := (HH.out.old.seg).index el_int 32768 .i64 p (by simp [HH.out.zl]; omega)
              have ih' : ∀ W : World, (Instr.indexAt 64 (.slice (some ⟨h, 0, none⟩) 32768 32768) (.int .i64 ((p : Int) % 32768))).run Tryz.prog W = .ok (.pointer (some ⟨h, p, none⟩)) W := fun W => by
                have h1 := ih W
                simp only [List.size_toArray, List.length_map, HH.out.zl, Nat.mul_one] at h1
                rw [show (p : Int) % 32768 = p from by omega]
                simpa [bl, ofs] using h1
              clear hcell hoz ih hpl
              go_wp2
              go_roundw
              case rel =>
                refine ⟨size, back, t + 1, m + m2, p, oz, decide (0 ≤ oz), rfl, rfl, rfl, rfl, by go_num, by omega, by first | rfl | rw [World.drewN_drewN], HF', ?_⟩
                have h3 := H3P.out
                rcases HOZ.out with ⟨h1, h2⟩ | h2
                · have hd : ¬ (decide (0 ≤ oz) = true) := by simp; omega
                  show LastIs xs n p (three xs i) (if decide (0 ≤ oz) = true then some oz else none)
                  rw [if_neg hd, ← h3]
                  exact h2
                · have h4 := h2
                  obtain ⟨p2, h5, _⟩ := h4
                  have hd : decide (0 ≤ oz) = true := by simp; omega
                  show LastIs xs n p (three xs i) (if decide (0 ≤ oz) = true then some oz else none)
                  rw [if_pos hd, ← h3]
                  exact h2
              case measure => simp [intOf]; omega
        · exfalso
          omega

end Go.Proofs.YtolcdlopgbgilaaGreatDoor

/-! Text DefC. -/
namespace Go.Proofs.YtolcdlopgbgilaaGreatDoor
open Go.RowKit Go.Dray

def AddPost (f : Nat) (A : Option Addr) (n c : Nat) (xs : List Int) (g h : Nat) (i : Nat) (w : World) (e : Ending) (w' : World) : Prop :=
  e = .returned (.tuple #[]) ∧ ∃ zs, Fst w' f A n c xs g h zs i ∧ Upd [some g, some h] w w'

theorem Fst.older {w : World} {f : Nat} {A : Option Addr} {n c : Nat} {xs : List Int} {g h : Nat} {zs : List Int} {i : Nat} (H : Fst w f A n c xs g h zs i) (p : Nat) (hp : i ≤ p) (u : Int) : Fst (w.setCell ⟨h, p, none⟩ (.int .i64 u)) f A n c xs g h (zs.set p u) i := by
  have hu : Upd [some h] w (w.setCell ⟨h, p, none⟩ (.int .i64 u)) := (Upd.refl _ w).putIn (by simp) _
  refine ⟨H.blk.upd hu (by simp; exact H.blk.ne H.old (by decide)), H.src.upd hu (by simp; exact fun hn => H.bl_h hn), H.nc, H.map.upd hu (by simp; exact H.map.ne H.old), ?_, by rw [List.length_set]; exact H.zl, fun q hq hq3 => ?_, H.small, H.bl_f, H.bl_g, H.bl_h⟩
  · have := H.old.set p (.int .i64 u)
    rw [List.setIfInBounds_toArray, ← List.map_set] at this
    exact this
  · have e : (zs.set p u).getD q 0 = zs.getD q 0 := by simp only [List.getD, List.getElem?_set_ne (show p ≠ q by omega)]
    rw [e]
    exact H.oldr q hq hq3
theorem Fst.store {w : World} {f : Nat} {A : Option Addr} {n c : Nat} {xs : List Int} {g h : Nat} {zs : List Int} {i : Nat} {u : Int} (H : Fst w f A n c xs g h (zs.set i u) i) (ho : Old xs n i u) (hi : i < n) {x y z : Int} (h3 : three xs i = [x, y, z]) :
    ∃ w', (Instr.mapUpdate 135 (.map (some g)) (.agg #[.int .u8 x, .int .u8 y, .int .u8 z]) (.int .i64 i)).run Tryz.prog w.drew = .ok () w' ∧ Fst w' f A n c xs g h (zs.set i u) (i + 1) ∧ Upd [some g] w.drew w' := by
  have hl3 : i + 3 ≤ n := by
    have := congrArg List.length h3
    unfold three at this
    rw [List.length_take, List.length_drop, H.len] at this
    simp at this
    omega
  have hm : Places w.drew g 3 (Last xs n i) := H.map
  obtain ⟨w', hr, hp, hu⟩ := hm.store (P := Tryz.prog) (R' := Last xs n (i + 1)) under_map under_three Tryz.underlying5 size_byte (three xs i) (by rw [h3]; rfl) i (fun _ h => h.put hl3)
  rw [h3] at hr
  have hul : Upd [some g] w w' := (Upd.refl _ w).drew.trans hu
  refine ⟨w', hr, ⟨H.blk.upd hul (by simp; exact fun e => H.map.ne H.blk e.symm), H.src.upd hul (by simp; exact fun hn => H.bl_g hn), H.nc, hp, H.old.upd hul (by simp; exact fun e => H.map.ne H.old e.symm), H.zl, fun q hq hq3 => ?_, H.small, H.bl_f, H.bl_g, H.bl_h⟩, hu⟩
  by_cases hqi : q < i
  · exact H.oldr q hqi hq3
  · obtain rfl : q = i := by omega
    have hzl := H.zl
    rw [List.length_set] at hzl
    have hsm := H.small
    have e : (zs.set q u).getD q 0 = u := by rw [List.getD, List.getElem?_set_self (by omega)]; rfl
    rw [e]
    exact ho

set_option maxRecDepth 100000 in
set_option maxHeartbeats 2000000 in
theorem add_any {w : World} {f : Nat} {A : Option Addr} {n c : Nat} {xs : List Int} {g h : Nat} {zs : List Int} {i : Nat} (H : Fst w f A n c xs g h zs i) (hi : i < n) :
    Calls Tryz.prog 90 #[.pointer (some ⟨f, 0, none⟩), .int .i64 i] w (AddPost f A n c xs g h (i + 1) w) := by
  have hn := H.small
  have HH := Lib.hid H
  have c0 := H.blk.cell 0
  simp at c0
  have hnc := H.nc
  clear H
  by_cases hs : n - i < 3
  · have d1 : decide ((n : Int) - i < 3) = true := by simp; omega
    go_enter Tryz.func90, Tryz.ntmps90
    go_wp2
    go_end0
    exact ⟨rfl, zs, ⟨HH.out.blk, HH.out.src, HH.out.nc, HH.out.map.mono fun _ h => h.succ (by omega), HH.out.old, HH.out.zl, fun p hp hp3 => HH.out.oldr p (by omega) hp3, HH.out.small, HH.out.bl_f, HH.out.bl_g, HH.out.bl_h⟩, Upd.refl _ _⟩
  · have d1 : decide ((n : Int) - i < 3) = false := by simp; omega
    have hA := Seg.at_ HH.out.src (by omega)
    have hcut := run_cut_lh el_byte A n c .i64 .i64 (i : Int) ((i : Int) + 3) i (i + 3) rfl (by omega) (by omega) (by omega)
    have hcA : cutA 1 A c i = some ⟨bl A, ofs A + i, none⟩ := by
      unfold cutA
      rw [if_neg (by omega)]
      generalize bl A = b at hA ⊢
      generalize ofs A = o at hA ⊢
      subst hA
      simp [Addr.add_lit]
    rw [hcA, show i + 3 - i = 3 from by omega] at hcut
    have har : ∀ W, (Instr.arrayAt 165 (.slice (some ⟨bl A, ofs A + i, none⟩) 3 (c - i))).run Tryz.prog W = .ok (.pointer (some ⟨bl A, ofs A + i, none⟩)) W := fun W => by
      simp [Instr.arrayAt, run_underlying under_three]
    obtain ⟨x, HX, cx⟩ := HH.out.src.int (i := i) (by omega)
    obtain ⟨y, HY, cy⟩ := HH.out.src.int (i := i + 1) (by omega)
    obtain ⟨z, HZ, cz⟩ := HH.out.src.int (i := i + 2) (by omega)
    rw [← Nat.add_assoc] at cy cz
    have H3 : Hid (three xs i = [x, y, z]) := three_eq HX.out HY.out HZ.out
    obtain ⟨w1, hw1⟩ : ∃ w1 : World, w1 = w.alloc (.cells #[.int .u8 x, .int .u8 y, .int .u8 z] 165) := ⟨_, rfl⟩
    obtain ⟨b3, hb3⟩ : ∃ b3, b3 = w.heap.size := ⟨_, rfl⟩
    have hu1 : Upd [] w w1 := by rw [hw1]; exact (Upd.refl _ _).alloc _
    have HK1 : Hid (Blk w1 b3 165 #[.int .u8 x, .int .u8 y, .int .u8 z]) := by rw [hw1, hb3]; exact Blk.new _ _ _
    have HF1 : Hid (Fst w1 f A n c xs g h zs i) := HH.out.upd hu1 (by simp) (by simp) (by simp) (by simp)
    have HU1 := Lib.hid hu1
    clear hu1 hA hcA
    go_enter Tryz.func90, Tryz.ntmps90
    go_wp2
    rw [← hw1, ← hb3]
    clear hw1 hb3 cx cy cz hcut har c0
    have k1 := HF1.out.blk.cell 1
    have k2 := HF1.out.blk.cell 2
    simp at k1 k2
    have e0 := HK1.out.cell 0
    have e1 := HK1.out.cell 1
    have e2 := HK1.out.cell 2
    simp at e0 e1 e2
    obtain ⟨fl, hfl, v, ok, hlk, hok⟩ := HF1.out.map.look (P := Tryz.prog) under_map under_three Tryz.underlying5 size_byte zero_int (three xs i) (three_len (by rw [HH.out.len]; omega))
    have hlk1 : ∀ q, (Instr.lookup 135 (.map (some g)) (.agg #[.int .u8 x, .int .u8 y, .int .u8 z]) true).run Tryz.prog (w1.drewN q) = .ok (.tuple #[.int .i64 v, .bool ok]) (w1.drewN q) := fun q => by
      have := hlk (w1.drewN q) rfl
      rw [H3.out] at this
      exact this
    have HOK : Hid (Old xs n i (if ok = true then v else -1)) := hfl.old hok
    clear hlk hok hfl
    go_quiet (fail)
    obtain ⟨w2, hw2⟩ : ∃ w2 : World, w2 = w1.drewN nq := ⟨_, rfl⟩
    have HF2 : Hid (Fst w2 f A n c xs g h zs i) := by rw [hw2]; exact HF1.out.drewN nq
    have HK2 : Hid (Blk w2 b3 165 #[.int .u8 x, .int .u8 y, .int .u8 z]) := by rw [hw2]; exact HK1.out
    have HU2 : Hid (Upd [] w w2) := by rw [hw2]; exact HU1.out.drewN nq
    rw [← hw2]
    clear hw2 HF1 HK1 HU1 hlk1 k1 k2 e0 e1 e2
    have k1 := HF2.out.blk.cell 1
    have k2 := HF2.out.blk.cell 2
    simp at k1 k2
    have hf2 := HF2.out.old.frozen i
    have hpl : i < zs.length := by rw [HF2.out.zl]; omega
    obtain ⟨oz, hoz⟩ : ∃ oz, oz = zs[i] := ⟨_, rfl⟩
    have co : w2.cell? ⟨h, i, none⟩ = some (.int .i64 oz) := by rw [HF2.out.old.cell, hoz]; simp [hpl]
    have ih := (HF2.out.old.seg).index el_int 32768 .i64 i (by simp [HF2.out.zl]; omega)
    have ih' : ∀ W : World, (Instr.indexAt 64 (.slice (some ⟨h, 0, none⟩) 32768 32768) (.int .i64 ((i : Int) % 32768))).run Tryz.prog W = .ok (.pointer (some ⟨h, i, none⟩)) W := fun W => by
      have h1 := ih W
      simp only [List.size_toArray, List.length_map, HF2.out.zl, Nat.mul_one] at h1
      rw [show (i : Int) % 32768 = i from by omega]
      simpa [bl, ofs] using h1
    clear hoz ih hpl
    cases ok with
    | true =>
      have hox : Old xs n i (v) := HOK.out
      go_wp2
      have hwz : (zs.set i (v)).length = 32768 := by rw [List.length_set]; exact HF2.out.zl
      have HF3 : Hid (Fst (w2.setCell ⟨h, i, none⟩ (.int .i64 (v))) f A n c xs g h (zs.set i (v)) i) := HF2.out.older i (by omega) _
      have HK3 : Hid (Blk (w2.setCell ⟨h, i, none⟩ (.int .i64 (v))) b3 165 #[.int .u8 x, .int .u8 y, .int .u8 z]) := HK2.out.far (p := ⟨h, i, none⟩) (fun e => HK2.out.ne HF2.out.old (by decide) e) _
      have HU3 : Hid (Upd [some g, some h] w (w2.setCell ⟨h, i, none⟩ (.int .i64 (v)))) := (HU2.out.mono (by simp)).putIn (by simp) _
      have HOX := Lib.hid hox
      generalize w2.setCell ⟨h, i, none⟩ (.int .i64 (v)) = w3 at HF3 HK3 HU3 ⊢
      clear HF2 HK2 HU2 k1 k2 hf2 co ih' hox hwz
      have k1 := HF3.out.blk.cell 1
      simp at k1
      have e0 := HK3.out.cell 0
      have e1 := HK3.out.cell 1
      have e2 := HK3.out.cell 2
      simp at e0 e1 e2
      go_still_tail 6, (by kernel_rfl)
      change wpList _ _ _ _ _ w3.drew
      obtain ⟨w4, hrun, hmap, hu4⟩ := HF3.out.store HOX.out hi (x := x) (y := y) (z := z) H3.out
      have hst : (Instr.mapUpdate 135 (.map (some g)) (.agg #[.int .u8 x, .int .u8 y, .int .u8 z]) (.int .i64 i)).run Tryz.prog w3.drew = .ok () w4 := hrun
      have HF4 := Lib.hid hmap
      have HU4 : Hid (Upd [some g, some h] w w4) := (HU3.out.drew).trans (hu4.mono (by simp))
      clear hrun hmap hu4 HF3 HK3 HU3 k1 e0 e1 e2
      have d5 : decide ((0 : Int) ≤ (i : Int) - 32768) = false := by simp; omega
      have d6 : decide ((32768 : Int) ≤ (i : Int)) = false := by simp; omega
      go_wp2
      go_end0
      exact ⟨rfl, zs.set i (v), HF4.out, HU4.out⟩
    | false =>
      have hox : Old xs n i (-1) := HOK.out
      go_wp2
      have hwz : (zs.set i (-1)).length = 32768 := by rw [List.length_set]; exact HF2.out.zl
      have HF3 : Hid (Fst (w2.setCell ⟨h, i, none⟩ (.int .i64 (-1))) f A n c xs g h (zs.set i (-1)) i) := HF2.out.older i (by omega) _
      have HK3 : Hid (Blk (w2.setCell ⟨h, i, none⟩ (.int .i64 (-1))) b3 165 #[.int .u8 x, .int .u8 y, .int .u8 z]) := HK2.out.far (p := ⟨h, i, none⟩) (fun e => HK2.out.ne HF2.out.old (by decide) e) _
      have HU3 : Hid (Upd [some g, some h] w (w2.setCell ⟨h, i, none⟩ (.int .i64 (-1)))) := (HU2.out.mono (by simp)).putIn (by simp) _
      have HOX := Lib.hid hox
      generalize w2.setCell ⟨h, i, none⟩ (.int .i64 (-1)) = w3 at HF3 HK3 HU3 ⊢
      clear HF2 HK2 HU2 k1 k2 hf2 co ih' hox hwz
      have k1 := HF3.out.blk.cell 1
      simp at k1
      have e0 := HK3.out.cell 0
      have e1 := HK3.out.cell 1
      have e2 := HK3.out.cell 2
      simp at e0 e1 e2
      go_still_tail 6, (by kernel_rfl)
      change wpList _ _ _ _ _ w3.drew
      obtain ⟨w4, hrun, hmap, hu4⟩ := HF3.out.store HOX.out hi (x := x) (y := y) (z := z) H3.out
      have hst : (Instr.mapUpdate 135 (.map (some g)) (.agg #[.int .u8 x, .int .u8 y, .int .u8 z]) (.int .i64 i)).run Tryz.prog w3.drew = .ok () w4 := hrun
      have HF4 := Lib.hid hmap
      have HU4 : Hid (Upd [some g, some h] w w4) := (HU3.out.drew).trans (hu4.mono (by simp))
      clear hrun hmap hu4 HF3 HK3 HU3 k1 e0 e1 e2
      have d5 : decide ((0 : Int) ≤ (i : Int) - 32768) = false := by simp; omega
      have d6 : decide ((32768 : Int) ≤ (i : Int)) = false := by simp; omega
      go_wp2
      go_end0
      exact ⟨rfl, zs.set i (-1), HF4.out, HU4.out⟩

end Go.Proofs.YtolcdlopgbgilaaGreatDoor

/-! Text DefD. -/
namespace Go.Proofs.YtolcdlopgbgilaaGreatDoor
open Go.RowKit Go.Dray

theorem el_piece : El Tryz.prog 68 106 (.agg #[.int .i32 0, .int .i32 0]) 2 8 := ⟨Tryz.underlying68, by kernel_rfl, rfl, by omega⟩

/-- A piece's cells. -/
def pcell (x : Piece) : List Value := [.int .i32 x.1, .int .i32 x.2]
def pcells (ps : List Piece) : List Value := ps.flatMap pcell
theorem pcells_snoc (ps : List Piece) (x : Piece) : pcells (ps ++ [x]) = pcells ps ++ [.int .i32 x.1, .int .i32 x.2] := by simp [pcells, pcell]
theorem pcells_len (ps : List Piece) : (pcells ps).length = ps.length * 2 := by
  induction ps with
  | nil => rfl
  | cons x ps ih =>
    have : pcells (x :: ps) = pcell x ++ pcells ps := by simp [pcells]
    rw [this, List.length_append, ih, List.length_cons]
    simp [pcell]
    omega
theorem pcells_get {ps : List Piece} {k : Nat} {x : Piece} (h : ps[k]? = some x) : (pcells ps)[k * 2]? = some (.int .i32 x.1) ∧ (pcells ps)[k * 2 + 1]? = some (.int .i32 x.2) := by
  induction ps generalizing k with
  | nil => simp at h
  | cons y ps ih =>
    have e : pcells (y :: ps) = .int .i32 y.1 :: .int .i32 y.2 :: pcells ps := by simp [pcells, pcell]
    rw [e]
    match k, h with
    | 0, h => simp at h; subst h; exact ⟨rfl, rfl⟩
    | k + 1, h =>
      have := ih (k := k) (by simpa using h)
      rw [show (k + 1) * 2 = k * 2 + 1 + 1 from by omega]
      exact ⟨by simpa using this.1, by simpa using this.2⟩

/-- The pieces that the closure has captured: in a box. -/
structure PSt (w : World) (B bx : Nat) (PA : Option Addr) (c : Nat) (ps : List Piece) : Prop where
  box : Blk w bx 68 #[.slice PA ps.length c]
  own : Own w B 106 2 PA ps.length c (pcells ps)
  bb : B ≤ bx
  bw : B ≤ w.heap.size
theorem PSt.upd {w w' : World} {B bx : Nat} {PA : Option Addr} {c : Nat} {ps : List Piece} {L : List (Option Nat)} (H : PSt w B bx PA c ps) (hu : Upd L w w') (h1 : some bx ∉ L) (h2 : ∀ g, ob PA = some g → some g ∉ L) : PSt w' B bx PA c ps :=
  ⟨H.box.upd hu h1, H.own.upd hu h2, H.bb, Nat.le_trans H.bw hu.size⟩

def PutPost (w : World) (B bx : Nat) (PA : Option Addr) (ps : List Piece) (e : Ending) (w' : World) : Prop :=
  e = .returned (.tuple #[]) ∧ ∃ PA' c', PSt w' B bx PA' c' ps ∧ Upd [some bx, ob PA] w w' ∧ Fresh w PA PA'

theorem Seg.twoD (w : World) (x y : Value) (t : TypeId) : Seg (w.alloc (.cells #[x, y] t)) 2 (some ⟨w.heap.size, 0, none⟩) 1 [x, y] :=
  ⟨rfl, fun _ => rfl, fun k u hu => by
    match k, hu with
    | 0, hu => simp at hu; subst hu; simp [bl, ofs]
    | 1, hu => simp at hu; subst hu; simp [bl, ofs]⟩

set_option maxRecDepth 100000 in
set_option maxHeartbeats 1000000 in
theorem put_piece {w : World} {B bx : Nat} {PA : Option Addr} {c : Nat} {ps : List Piece} (H : PSt w B bx PA c ps) (hl : ps.length ≤ 100000) (x y : Nat) (hx : x ≤ 100000) (hy : y ≤ 100000) :
    Calls Tryz.prog 63 #[.int .i64 x, .int .i64 y, .pointer (some ⟨bx, 0, none⟩)] w (PutPost w B bx PA (ps ++ [((x : Int), (y : Int))])) := by
  have HH := Lib.hid H
  have c0 := H.box.cell 0
  simp at c0
  have f0 := H.box.frozen 0
  have wx : IntKind.i32.wrap (x : Int) = x := by rw [IntKind.wrap_i32]; omega
  have wy : IntKind.i32.wrap (y : Int) = y := by rw [IntKind.wrap_i32]; omega
  clear H
  have hsl := Seg.twoD w (.int .i32 (x : Int)) (.int .i32 (y : Int)) 106
  have hu0 : Upd [] w (w.alloc (.cells #[.int .i32 (x : Int), .int .i32 (y : Int)] 106)) := (Upd.refl _ w).alloc _
  go_enter Tryz.func63, Tryz.ntmps63
  go_wp2_with (at_builtin; refine wpList_app rfl rfl el_piece rfl (HH.out.own.alloc _) rfl hsl (by simp [Value.oneCell']) (by simp only [maxLen]; omega) (by omega) (by have := HH.out.bw; simp; omega) ?_; intro PA' c' w2 hown hu hfr; have HB2 := Lib.hid ((HH.out.box.alloc (.cells #[.int .i32 (x : Int), .int .i32 (y : Int)] 106)).upd hu (by simp; exact fun e => HH.out.own.neBlk HH.out.box (by decide) e.symm)); have k0 := HB2.out.cell 0; simp at k0; have kf := HB2.out.frozen 0)
  have hug : Upd [some bx, ob PA] w w2 := ((Upd.refl _ w).alloc _).trans (hu.mono (by simp; intro b hb; exact Or.inr hb))
  have hob : ∀ k, ob PA' = some k → k ≠ bx := fun k hk e => by subst e; exact hown.neBlk HB2.out (by decide) hk
  go_end0
  refine ⟨rfl, PA', c', ⟨?_, ?_, HH.out.bb, ?_⟩, hug.putIn (by simp) _, fun k hk => ?_⟩
  · have := HB2.out.set 0 (.slice PA' (ps.length + 1) c')
    rw [List.length_append]
    exact this
  · rw [pcells_snoc, List.length_append]
    exact hown.far (p := ⟨bx, 0, none⟩) (fun e => hob bx e rfl) _
  · have := HH.out.bw
    have := hug.size
    simp
    omega
  · rcases hfr k hk with h | h
    · exact Or.inl h
    · right; simp at h; omega

end Go.Proofs.YtolcdlopgbgilaaGreatDoor
