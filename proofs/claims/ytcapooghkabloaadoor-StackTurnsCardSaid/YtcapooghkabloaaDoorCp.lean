/- Part of the proof of a law of this seat: facts that it uses, each proved here. No conditions. -/
import Derived.Test.YtcapooghkabloaaDoorOv
namespace Go.Eng
open Go
theorem Vl.copy {P : Program} {w : World} {K : Value → World → Prop} {T T' ty E g o dLen dCap sLen sCap : Nat} {a : Addr} {full cs : List Value} (hcl : Cl w g E full) (hn : cs.length = Nat.min sLen dLen) (hsrc : ∀ j v, cs[j]? = some v → w.cell? (a.add j) = some v)
    (hfit : o + cs.length ≤ full.length) (h1 : ∀ v ∈ cs, v.oneCell' = true) (k : ∀ w', Upd w w' g E (full.take o ++ cs ++ full.drop (o + cs.length)) → K (.int .i64 cs.length) w') (hu : P.underlying T = some (.slice E) := by kernel_rfl) (hs : (P.info? E).map (·.size) = some 1 := by kernel_rfl) :
    Vl P (Builtin.copy_ #[T, T'] ty #[.slice (some ⟨g, o, none⟩) dLen dCap, .slice (some a) sLen sCap]) w K := by
  have hr := run_copy_row (P := P) w T T' ty E g o dLen dCap a sLen sCap full.toArray E cs hu hs hcl hn hsrc (by simpa using hfit) h1
  refine Vl.i hr (k _ ⟨rfl, rfl, rfl, by simp, ?_, fun x hx => setRow_other w g x _ fun e => hx e⟩)
  have := setRow_heap w g full.toArray (full.take o ++ cs ++ full.drop (o + cs.length)).toArray E (0, 0) hcl
  exact this
theorem run_cap {P : Program} {T t n c : Nat} {a : Option Addr} (hT : slT P T = true) (w : World) : (Builtin.cap_ #[T] t #[.slice a n c]).run P w = .ok (.int .i64 c) w := by
  unfold slT at hT
  split at hT
  · rename_i E hu
    have hu := run_underlying' hu
    unfold Builtin.cap_
    simp only [List.getElem?_toArray, List.getElem?_cons_zero, Sem.run_bind, hu, Result.andThen]
    rfl
  · cases hT
theorem Vl.cap {P : Program} {w : World} {K : Value → World → Prop} {T t n c : Nat} {a : Option Addr} (k : K (.int .i64 c) w) (hT : slT P T = true := by kernel_rfl) : Vl P (Builtin.cap_ #[T] t #[.slice a n c]) w K := Vl.i (run_cap hT w) k
end Go.Eng
