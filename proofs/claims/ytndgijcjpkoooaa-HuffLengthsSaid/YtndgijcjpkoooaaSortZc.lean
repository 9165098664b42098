/- The walk of slices.symMergeCmpFunc at huff.Lengths' closure (printed by gen/symm.py). -/
import Derived.Test.YtndgijcjpkoooaaSortZ
import Derived.Test.YtndgijcjpkoooaaSortZb
namespace Go.Proofs.Ytndgijcjpkoooaa
open Go.RowKit Go.Dray

theorem symMerge_any {w0 : World} {B : Nat} {A : Option Addr} {n c bx : Nat} {CA : Option Addr} {cn cc : Nat} {zs : List Int} (hn : n ≤ 1000) (N : Nat) :
    ∀ (w : World) (d : Nat → Int) (a m b : Nat), b - a < N → SS w0 w B A n c bx CA cn cc zs d → a < m → m < b → b ≤ n → Sd (keyOf zs) a m d → Sd (keyOf zs) m b d →
      Calls Try.prog 45 #[.slice A n c, .int .i64 a, .int .i64 m, .int .i64 b, .func (.func 39) #[] #[.pointer (some ⟨bx, 0, none⟩)]] w (SPost w0 B A n c bx CA cn cc zs fun d' => Mv n a b d d' ∧ Sd (keyOf zs) a b d') := by
  induction N with
  | zero => intro w d a m b h; omega
  | succ N ih =>
    intro w d a m b h hs ha hm hb h1 h2
    by_cases e1 : m = a + 1
    · subst e1
      exact symMerge_one hs a b (by omega) hb hn h2
    · by_cases e2 : b = m + 1
      · subst e2
        exact symMerge_last hs a m (by omega) hb hn h1
      · rcases Nat.lt_or_ge ((a + b) / 2) m with hc | hc
        · exact symMerge_hi hs N hn ih a m b ((a + b) / 2) (by omega) (by omega) (by omega) hb h1 h2 (by omega) (by omega) hc
        · exact symMerge_lo hs N hn ih a m b ((a + b) / 2) (by omega) (by omega) (by omega) hb h1 h2 (by omega) (by omega) hc

end Go.Proofs.Ytndgijcjpkoooaa
