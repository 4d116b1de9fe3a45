/- Part of the proof of a law of this seat: facts that it uses, each proved here. No conditions. -/
import Derived.Test.YtcapooghkabloaaDoorMapS
namespace Go.Eng
open Go
/-! ### Structs and arrays, whole -/
def aggB (P : Program) (T n : Nat) : Bool := (match P.underlying T with | some (.struct _) | some (.array ..) => true | _ => false) && szT P T n
section
variable {P : Program} {w : World} {K : Value → World → Prop} {T : Nat}
theorem run_isAggT {n : Nat} (h : aggB P T n = true) (w : World) : (isAgg T).run P w = .ok true w := by
  unfold aggB at h
  simp only [Bool.and_eq_true] at h
  have h := h.1
  unfold isAgg
  split at h
  · rename_i d hu; rw [Sem.run_bind, run_underlying' hu]; rfl
  · rename_i d hu; rw [Sem.run_bind, run_underlying' hu]; rfl
  · cases h
/-- an element of an array's value, of one cell -/
def arr1T (P : Program) (T n : Nat) : Bool := match P.underlying T with
  | some (.array m E) => Nat.beq m n && szT P E 1 && aggT P E
  | _ => false
theorem Vl.ixV {cs : Array Value} {kd : IntKind} (n : Nat) {i : Nat} {v : Value} (hi : i < n) (hv : cs[i]? = some v) (k : K v w) (hT : arr1T P T n = true := by kernel_rfl) :
    Vl P (Instr.index T (.agg cs) (.int kd i)) w K := by
  refine Vl.i (w' := w) ?_ k
  unfold arr1T at hT
  split at hT
  · rename_i m E hu
    simp only [Bool.and_eq_true] at hT
    have e := Nat.eq_of_beq_eq_true hT.1.1
    subst e
    have hu := run_underlying' hu
    unfold Instr.index asIntOf
    simp only [Sem.run_bind, Sem.run_pure, Result.andThen, hu]
    rw [if_pos ⟨by omega, by omega⟩]
    simp only [Sem.run_bind, run_sizeOf hT.1.2, Result.andThen, Int.toNat_natCast, Nat.mul_one]
    unfold part
    simp only [Sem.run_bind, run_isAgg hT.2, Result.andThen, Bool.false_eq_true, if_false, hv]
    rfl
  · cases hT
theorem add_off (b o j : Nat) : (⟨b, o, none⟩ : Addr).add j = ⟨b, o + j, none⟩ := by
  unfold Addr.add; split
  · rename_i h; subst h; rfl
  · rfl
theorem run_loadCellsFrom {b o E : Nat} {cs : List Value} (h : Cl w b E cs) : ∀ (n i : Nat) (acc : Array Value), o + i + n ≤ cs.length →
    (loadCellsFrom ⟨b, o, none⟩ i n acc).run P w = .ok (acc ++ ((cs.drop (o + i)).take n).toArray) w
  | 0, i, acc, _ => by simp [loadCellsFrom]
  | n + 1, i, acc, hle => by
    have hc : cs[o + i]? = some (cs[o + i]'(by omega)) := by simp
    unfold loadCellsFrom
    have hl : (load (⟨b, o + i, none⟩ : Addr)).run P w = .ok (cs[o + i]'(by omega)) w := by unfold load; simp only [Sem.run, h.cell hc]
    rw [add_off, Sem.run_bind, hl]
    simp only [Result.andThen]
    rw [run_loadCellsFrom h n (i + 1) _ (by omega)]
    congr 1
    rw [List.drop_eq_getElem_cons (by omega : o + i < cs.length), List.take_succ_cons]
    apply Array.ext'
    simp [Nat.add_assoc]
theorem run_loadAgg {b o E n : Nat} {cs : List Value} (h : Cl w b E cs) (hle : o + n ≤ cs.length) (hT : aggB P T n = true) :
    (Instr.loadAt T (.pointer (some ⟨b, o, none⟩))).run P w = .ok (.agg ((cs.drop o).take n).toArray) w := by
  have hs : szT P T n = true := by unfold aggB at hT; simp only [Bool.and_eq_true] at hT; exact hT.2
  unfold Instr.loadAt Instr.sureAddr loadVar loadCells
  simp only [Sem.run_bind, Sem.run_pure, Result.andThen, run_isAggT hT]
  simp only [if_true, Sem.run_bind, run_sizeOf hs, Result.andThen]
  rw [run_loadCellsFrom h n 0 #[] (by omega)]
  simp
theorem Vl.ldA {b o E : Nat} (n : Nat) {cs : List Value} (h : Cl w b E cs) (hle : o + n ≤ cs.length) (k : K (.agg ((cs.drop o).take n).toArray) w) (hT : aggB P T n = true := by kernel_rfl) :
    Vl P (Instr.loadAt T (.pointer (some ⟨b, o, none⟩))) w K := Vl.i (run_loadAgg h hle hT) k
theorem Rs.ldA {b o E : Nat} (n : Nat) {cs : List Value} {K : Value → Prop} (h : Cl w b E cs) (hle : o + n ≤ cs.length) (k : K (.agg ((cs.drop o).take n).toArray)) (hT : aggB P T n = true := by kernel_rfl) :
    Rs P (Instr.loadAt T (.pointer (some ⟨b, o, none⟩))) w K := Rs.i (run_loadAgg h hle hT) k

theorem run_storeCells {b o E : Nat} : ∀ (vs : List Value) (i : Nat) (w : World) (cs : List Value), Cl w b E cs → o + i + vs.length ≤ cs.length → (∀ v ∈ vs, One v) →
    ∃ w', (storeCells ⟨b, o, none⟩ vs i).run P w = .ok () w' ∧ Upd w w' b E (cs.take (o + i) ++ vs ++ cs.drop (o + i + vs.length))
  | [], i, w, cs, h, _, _ => ⟨w, rfl, rfl, rfl, rfl, rfl, by simpa using h, fun _ _ => rfl⟩
  | v :: vs, i, w, cs, h, hle, h1 => by
    simp only [List.length_cons] at hle
    have hv := h1 v (by simp)
    have hst := run_store_one (P := P) (i := o + i) hv h (by omega)
    have hu := upd_setCell (i := o + i) v h
    obtain ⟨w', hr, hu'⟩ := run_storeCells (o := o) vs (i + 1) _ _ hu.cl (by simp; omega) (fun v hv => h1 v (List.mem_cons_of_mem _ hv))
    refine ⟨w', ?_, hu'.os.trans hu.os, hu'.tape.trans hu.tape, hu'.output.trans hu.output, hu'.size.trans hu.size, ?_, fun k hk => (hu'.same k hk).trans (hu.same k hk)⟩
    · unfold storeCells
      rw [add_off, Sem.run_bind, hst]; exact hr
    · have := hu'.cl
      have e : (cs.set (o + i) v).take (o + (i + 1)) ++ vs ++ (cs.set (o + i) v).drop (o + (i + 1) + vs.length) = cs.take (o + i) ++ v :: vs ++ cs.drop (o + i + (v :: vs).length) := by
        have e1 : (cs.set (o + i) v).take (o + (i + 1)) = cs.take (o + i) ++ [v] := by
          apply List.ext_getElem?; intro j
          simp only [List.getElem?_take, List.getElem?_set, List.getElem?_append, List.length_take]
          by_cases h1 : j < o + i
          · rw [if_pos (by omega), if_neg (by omega), if_pos (by omega), if_pos h1]
          · by_cases h2 : j = o + i
            · subst h2
              have e : min (o + i) cs.length = o + i := by omega
              rw [if_pos (by omega), if_pos rfl, if_pos (by omega), e, if_neg (by omega)]
              simp
            · rw [if_neg (by omega), if_neg (by omega)]
              rw [List.getElem?_eq_none (by simp; omega)]
        have e2 : (cs.set (o + i) v).drop (o + (i + 1) + vs.length) = cs.drop (o + i + (v :: vs).length) := by
          rw [List.drop_set_of_lt (by omega)]
          congr 1; simp; omega
        rw [e1, e2]; simp
      rw [e] at this; exact this
theorem Ef.setA {b o E n : Nat} {cs : List Value} {vs : Array Value} {K : World → Prop} (h : Cl w b E cs) (hn : vs.size = n) (hle : o + n ≤ cs.length) (h1 : ∀ v ∈ vs.toList, One v)
    (k : ∀ w', Upd w w' b E (cs.take o ++ vs.toList ++ cs.drop (o + n)) → K w') (hT : szT P T n = true := by kernel_rfl) : Ef P (Instr.storeAt T (.pointer (some ⟨b, o, none⟩)) (.agg vs)) w K := by
  obtain ⟨w', hr, hu⟩ := run_storeCells (P := P) (o := o) vs.toList 0 w cs h (by simp; omega) h1
  refine Ef.i (w' := w') ?_ (k w' (by simpa [hn] using hu))
  unfold Instr.storeAt Instr.sureAddr storeVar
  simp only [Sem.run_bind, Sem.run_pure, Result.andThen, run_sizeOf hT]
  have : (Value.agg vs).cells.size = n := hn
  rw [if_neg (by rw [this]; simp)]
  exact hr
end
end Go.Eng
