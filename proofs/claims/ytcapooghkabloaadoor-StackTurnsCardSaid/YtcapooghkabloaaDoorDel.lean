/- Part of the proof of a law of this seat: facts that it uses, each proved here. No conditions. -/
import Derived.Test.YtcapooghkabloaaDoorSl3
namespace Go.Eng
open Go
section
variable {P : Program} {w : World} {K : Value → World → Prop} {T : Nat}
/-- append where there is room -/
theorem Vl.appendFit {E sz ty g n m cap c : Nat} {full news : List Value} {a : Addr} (hT : slB P T E sz = true) (hcl : Cl w g E full) (hfl : full.length = cap * sz) (hroom : n + m ≤ cap) (hl : news.length = m * sz)
    (hnews : ∀ j u, news[j]? = some u → w.cell? (a.add j) = some u) (h1 : ∀ u ∈ news, u.oneCell' = true)
    (k : ∀ w', Upd w w' g E (full.take (n * sz) ++ news ++ full.drop (n * sz + news.length)) → K (.slice (some ⟨g, 0, none⟩) (n + m) cap) w') :
    Vl P (Builtin.append_ #[T, T] ty #[.slice (some ⟨g, 0, none⟩) n cap, .slice (some a) m c]) w K := by
  obtain ⟨by_, i, z, hs, _⟩ := SlT.of hT
  have hi := hs.size
  have hle : n * sz + news.length ≤ full.toArray.size := by
    rw [hl, ← Nat.add_mul]; simp only [List.size_toArray, hfl]; exact Nat.mul_le_mul_right _ hroom
  have hr := run_append_room (P := P) w T ty E i hs.under hs.info g n cap full.toArray hcl a m c news (by rw [hi]; exact hl) hnews h1 hroom (by rw [hi]; exact hle)
  rw [hi] at hr
  refine Vl.i hr (k _ ⟨rfl, rfl, rfl, by simp, ?_, fun x hx => setRow_other w g x _ fun e => hx e⟩)
  exact setRow_heap w g full.toArray (full.take (n * sz) ++ news ++ full.drop (n * sz + news.length)).toArray E (0, 0) hcl
end
end Go.Eng
