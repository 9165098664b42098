/- What bytes are as a header; the walk of bytes.Equal. -/
import Derived.Test.YtogknbpbjgdldaaRhI
namespace Go.Proofs.Ytogknbpbjgdldaa
open Go.RowKit Go.Dray

theorem bytesOf_inj : ∀ (xs ys : List Int), (∀ z ∈ xs, 0 ≤ z ∧ z ≤ 255) → (∀ z ∈ ys, 0 ≤ z ∧ z ≤ 255) → Lib.bytesOf xs = Lib.bytesOf ys → xs = ys
  | [], [], _, _, _ => rfl
  | [], y :: ys, _, _, h => by simp [Lib.bytesOf] at h
  | x :: xs, [], _, _, h => by simp [Lib.bytesOf] at h
  | x :: xs, y :: ys, hx, hy, h => by
    unfold Lib.bytesOf at h
    rw [List.map_cons, List.map_cons] at h
    injection h with h1 h2
    have e1 := congrArg UInt8.toNat h1
    have hx0 := hx x (by simp)
    have hy0 := hy y (by simp)
    rw [UInt8.toNat_ofNat', UInt8.toNat_ofNat'] at e1
    have e2 : x = y := by omega
    rw [e2, bytesOf_inj xs ys (fun z hz => hx z (by simp [hz])) (fun z hz => hy z (by simp [hz])) h2]

def eqB (xs ys : List Int) : Bool := decide (xs = ys)
theorem equal_any (w : World) (A : Option Addr) (n c : Nat) (xs : List Int) (hA : Ints .u8 w A n xs) (hx : ∀ z ∈ xs, 0 ≤ z ∧ z ≤ 255) (D : Option Addr) (m d : Nat) (ys : List Int) (hD : Ints .u8 w D m ys) (hy : ∀ z ∈ ys, 0 ≤ z ∧ z ≤ 255) :
    Calls Try.prog 27 #[.slice A n c, .slice D m d] w fun e w' => e = .returned (.bool (eqB xs ys)) ∧ w = w' := by
  refine (Try.bytes_Equal (.slice A n c) (.slice D m d) xs ys w (hA.str Try.underlying25 Try.underlying5 Try.underlying9 c) (hD.str Try.underlying25 Try.underlying5 Try.underlying9 d)).mono fun e w' ⟨he, hw⟩ => ⟨?_, hw.symm⟩
  rw [he]
  apply ret_bool
  unfold eqB
  by_cases h : xs = ys
  · subst h; simp
  · have h2 : Lib.bytesOf xs ≠ Lib.bytesOf ys := fun e => h (bytesOf_inj xs ys hx hy e)
    simp [h, h2]

/-- The region's entry, and the data's last 16 bytes, as they must be. -/
def headB (d : Int) : List Int := be4s [63, 7, d - 16, 16]
def footB (n : Int) : List Int := be4s [63, 7, 4294967296 - 16 * n, 16]
/-- Entry by entry. -/
def entR (b data : List Int) : Nat → Nat → Option Int → Except (Nat × Int) (List TagV)
  | _, 0, _ => .ok []
  | i, r + 1, q =>
    match tagV b (8 + 16 * i) data with
    | .error e => if e = 1 then .error (8 + 16 * i, 1) else if q.any (fun x => decide (num4 b (8 + 16 * i) ≤ x)) = true then .error (8 + 16 * i, 15) else .error (8 + 16 * i, e)
    | .ok t => if q.any (fun x => decide (num4 b (8 + 16 * i) ≤ x)) = true then .error (8 + 16 * i, 15) else
      match entR b data (i + 1) r (some t.tag) with
      | .error x => .error x
      | .ok ts => .ok (t :: ts)
/-- What bytes are as a header: tags, or where and why not. -/
def parseB (b : List Int) : Except (Nat × Int) (List TagV) :=
  if b.length < 8 then .error (0, 2)
  else if 257 < num4 b 0 ∨ 1048576 < num4 b 4 then .error (0, 4)
  else if (b.length : Int) < 8 + 16 * num4 b 0 + num4 b 4 then .error (0, 2)
  else if 8 + 16 * num4 b 0 + num4 b 4 < (b.length : Int) then .error (0, 3)
  else if num4 b 0 = 0 ∨ num4 b 4 < 16 ∨ (b.drop 8).take 16 ≠ headB (num4 b 4) then .error (8, 3)
  else if b.drop (b.length - 16) ≠ footB (num4 b 0) then .error (b.length - 16, 3)
  else entR b ((b.drop (8 + 16 * (num4 b 0).toNat)).take ((num4 b 4).toNat - 16)) 1 ((num4 b 0).toNat - 1) none

theorem tagV_tag {b data : List Int} {k : Nat} {t : TagV} (h : tagV b k data = .ok t) : t.tag = num4 b k ∧ t.typ = num4 b (k + 4) := by
  unfold tagV at h
  split at h
  · cases h
  · split at h
    · cases h
    · unfold sayV at h
      split at h
      · cases h
      · split at h
        · cases h
        · split at h
          · split at h
            · cases h
            · split at h
              · injection h with h; subst h; exact ⟨rfl, rfl⟩
              · cases h
          · split at h
            · split at h
              · cases h
              · injection h with h; subst h; exact ⟨rfl, rfl⟩
            · split at h
              · cases h
              · injection h with h; subst h; exact ⟨rfl, rfl⟩

end Go.Proofs.Ytogknbpbjgdldaa
