/- Part of the proof of a law of this seat: facts that it uses, each proved here. No conditions. -/
import Derived.Test.YtcapooghkabloaaDoorIns2
import Derived.Lib.AppendZerosOnto
namespace Go.Eng
open Go
/-- append of k zero values onto a row that has no room. -/
theorem Vl.appZeros {P : Program} {w : World} {K : Value → World → Prop} {T E sz ty tn g cap n k : Nat} {cs : List Value} (hT : slB P T E sz = true) (htn : P.underlying tn = some (.int .i64)) (h : Row w E sz (.slice (some ⟨g, 0, none⟩) n cap) n cs) (hk : 0 < k) (hc : cap < n + k) (hb : n + k ≤ 100000000)
    (kk : ∀ w' full cap', Nw w w' (.cells (cs ++ full).toArray E) → n + k ≤ cap' → cap' ≤ maxLen → (cs ++ full).length = cap' * sz → K (.slice (some ⟨w.heap.size, 0, none⟩) (n + k) cap') w') :
    Vl P (Builtin.append_ #[T, tn] ty #[.slice (some ⟨g, 0, none⟩) n cap, .int .i64 (k : Nat)]) w K := by
  obtain ⟨by_, i, z, hs, hb1, hb2⟩ := SlT.of hT
  have hi := hs.size
  have hmul : (n + k) * by_ ≤ 140737488355328 := by
    calc (n + k) * by_ ≤ 100000000 * 1000 := Nat.mul_le_mul hb hb1
      _ ≤ 140737488355328 := by omega
  have hmul2 : k * by_ ≤ (n + k) * by_ := Nat.mul_le_mul_right _ (by omega)
  have hmax : n + k ≤ maxLen := by simp only [maxLen]; omega
  have hfit : Builtin.nextslicecap (n + k) cap * i.bytes ≤ 281474976710656 := by
    rw [hs.bytes]
    have hle : Builtin.nextslicecap (n + k) cap ≤ 2 * (n + k) := nextslicecap_le hc
    calc Builtin.nextslicecap (n + k) cap * by_ ≤ 2 * (n + k) * by_ := Nat.mul_le_mul_right _ hle
      _ = 2 * ((n + k) * by_) := by rw [Nat.mul_assoc]
      _ ≤ 281474976710656 := by omega
  have hold : (Builtin.firstCells i.size n (.slice (some ⟨g, 0, none⟩) n cap)).run P w.drew = .ok cs.toArray w.drew := by
    rw [hi]
    exact run_firstCells_some (w := w.drew) sz n ⟨g, 0, none⟩ n cap cs h.1 (fun j v hj => by
      rw [add_off, Nat.zero_add]; exact (h.ext (dr_ext w)).cell hj)
  have hr := Lib.run_append_grow_zeros w T tn ty E i z .i64 .i64 hs.under htn hs.info hs.zero (some ⟨g, 0, none⟩) n cap cs hold k hk (by rw [hi]; exact hs.pos) hc (by simp only [maxLen] at hmax; omega) (by rw [hs.bytes]; omega) hfit
  have hge := grownCap_ge w (n + k) cap E
  have hcm := grownCap_le_maxLen w (n + k) cap E hmax
  refine Vl.i hr ?_
  have hz : ∀ m, (Builtin.zeroCells z.cells m).toList.length = m * sz := fun m => by rw [Array.length_toList, size_zeroCells, hs.zsz]
  refine kk _ ((Builtin.zeroCells z.cells k).toList ++ (Builtin.zeroCells z.cells (grownCap w (n + k) cap E - (n + k))).toList) _ ?_ hge hcm ?_
  · have e : (cs ++ ((Builtin.zeroCells z.cells k).toList ++ (Builtin.zeroCells z.cells (grownCap w (n + k) cap E - (n + k))).toList)).toArray = cs.toArray ++ Builtin.zeroCells z.cells k ++ Builtin.zeroCells z.cells (grownCap w (n + k) cap E - (n + k)) := by
      apply Array.ext'; simp
    rw [e]
    have hn := nw_alloc (dr w) (.cells (cs.toArray ++ Builtin.zeroCells z.cells k ++ Builtin.zeroCells z.cells (grownCap w (n + k) cap E - (n + k))) E)
    exact ⟨hn.os, hn.tape, hn.output, hn.size, hn.new, hn.same⟩
  · rw [List.length_append, List.length_append, hz, hz, h.1, ← Nat.add_mul, ← Nat.add_mul]
    congr 1; omega
end Go.Eng
namespace Go.Proofs
open Go Go.Eng
theorem c_Insert_grow {w : World} {g b cap n : Nat} {cs : List Value} {x : Value} (h : Row w T_int 1 (.slice (some ⟨g, 0, none⟩) n cap) n cs) (h1 : ∀ u ∈ cs, u.oneCell' = true) (hx : Cl w b T_int [x]) (hx1 : x.oneCell' = true) {i : Nat} (hi : i < n) (hroom : ¬ n + 1 ≤ cap) (hb : n ≤ 1000000) {K : Value → World → Prop}
    (k : ∀ cap' w', Row w' T_int 1 (.slice (some ⟨w.heap.size, 0, none⟩) (n + 1) cap') (n + 1) (cs.take i ++ [x] ++ cs.drop i) → 0 < cap' → Ext w w' → w.heap.size < w'.heap.size → K (.slice (some ⟨w.heap.size, 0, none⟩) (n + 1) cap') w') :
    Cf Tryd.prog n_slices_Insert_ints #[.slice (some ⟨g, 0, none⟩) n cap, .int .i64 i, .slice (some ⟨b, 0, none⟩) 1 1] w K := by
  refine L_slices_Insert_ints _ _ _ _ _ ?_
  unfold S_slices_Insert_ints
  have hcs : cs.length = n := by have := h.1; omega
  have hnc : n ≤ cap := h.le
  have hgb : b < w.heap.size := hx.lt
  refine Vl.i (run_slc (l := i) (h := n) slB31 (.inr rfl) (.inl ⟨rfl, rfl⟩) (by omega) hnc w) ?_
  refine Vl.len (Vl.eql (Cond_bool (fun h => by have := of_decide_eq_true h; omega) fun _ => ?_))
  refine Vl.len (Vl.eql (Cond_bool (fun h => by have := of_decide_eq_true h; omega) fun _ => ?_))
  refine Vl.add (Vl.cap (Vl.gtr (Cond_bool (fun _ => ?_) fun h => by have := of_decide_eq_false h; omega)))
  refine Vl.take h (by omega) (Vl.add (Vl.sub ?_))
  have en1 : (n : Int) + ((1 : Nat) : Int) - (i : Int) = ((n + 1 - i : Nat) : Int) := by omega
  rw [en1]
  have ht := h.take (show i ≤ n by omega) rfl
  rw [Nat.mul_one] at ht
  refine Vl.appZeros slB31 (by kernel_rfl) ht (by omega) (by omega) (by omega) fun w1 full cap' hN hc hcm hfl => ?_
  have e2 : i + (n + 1 - i) = n + 1 := by omega
  rw [e2] at hc ⊢
  rw [Nat.mul_one] at hfl
  have hE1 := hN.ext
  have hcl1 := hN.cl
  have hf : (cs.take i).length = i := by simp; omega
  have sl : ∀ l : Nat, l ≤ n + 1 → 0 < cap' - l → ∀ w', (Instr.sliceAt T_sl_int (.slice (some ⟨w.heap.size, 0, none⟩) (n + 1) cap') (some (.int .i64 (l : Nat))) none none).run Tryd.prog w' = .ok (.slice (some ⟨w.heap.size, l, none⟩) (n + 1 - l) (cap' - l)) w' := fun l hl2 hl w' => by
    rw [run_slc (l := l) (h := n + 1) slB31 (.inr rfl) (.inl ⟨rfl, rfl⟩) hl2 hc w', if_neg (by omega)]
    have : (some (⟨w.heap.size, 0, none⟩ : Addr)).map (·.add (l * 1)) = some ⟨w.heap.size, l, none⟩ := by
      show some ((⟨w.heap.size, 0, none⟩ : Addr).add (l * 1)) = _
      rw [add_off]; congr 2; omega
    rw [this]
  have sl0 : ∀ w', (Instr.sliceAt T_sl_int (.slice (some ⟨g, 0, none⟩) n cap) (some (.int .i64 (i : Nat))) none none).run Tryd.prog w' = .ok (.slice (some ⟨g, i, none⟩) (n - i) (cap - i)) w' := fun w' => by
    rw [run_slc (l := i) (h := n) slB31 (.inr rfl) (.inl ⟨rfl, rfl⟩) (by omega) hnc w', if_neg (by omega)]
    have : (some (⟨g, 0, none⟩ : Addr)).map (·.add (i * 1)) = some ⟨g, i, none⟩ := by
      show some ((⟨g, 0, none⟩ : Addr).add (i * 1)) = _
      rw [add_off]; congr 2; omega
    rw [this]
  refine Vl.i (sl i (by omega) (by omega) w1) ?_
  refine Vl.copy (cs := [x]) hcl1 (Nat.min_eq_left (show 1 ≤ n + 1 - i by omega)).symm (fun j v hv => ?_) (by show i + 1 ≤ _; omega) (fun u hu => by simp at hu; subst hu; exact hx1) fun w2 h2 => ?_
  · rw [add_off, Nat.zero_add]; exact (hx.ext hE1).cell hv
  have ei1 : (i : Int) + ((1 : Nat) : Int) = ((i + 1 : Nat) : Int) := by omega
  refine ⟨fun _ => True, trivial, Pv.add ?_⟩
  rw [ei1]
  refine Pv.i (sl (i + 1) (by omega) (by omega)) (Pv.i sl0 ?_)
  have hne : g ≠ w.heap.size := by
    have : g < w.heap.size := h.lt g (blk_some (by omega))
    omega
  have h2' : Row (dr w2) T_int 1 (.slice (some ⟨g, 0, none⟩) n cap) n cs := ((h.ext hE1).chg h2.chg fun b' hb' e => by
    have e : b' = w.heap.size := e
    rw [blk_some (by omega)] at hb'; cases hb'; exact hne e).ext (dr_ext w2)
  have hdl : (cs.drop i).length = n - i := by simp [hcs]
  refine Vl.copy (cs := cs.drop i) h2.cl.dr ?_ (fun j v hv => ?_) ?_ (fun u hu => h1 u (List.mem_of_mem_drop hu)) fun w3 h3 => ⟨fun _ => True, trivial, ?_⟩
  · rw [hdl]
    have e : Nat.min (n - i) (n + 1 - (i + 1)) = n - i := Nat.min_eq_left (by omega)
    exact e.symm
  · rw [add_off]
    rw [List.getElem?_drop] at hv
    exact h2'.cell hv
  · simp [hdl] at hfl ⊢; omega
  · refine k cap' w3 ⟨?_, .inr ⟨w.heap.size, cap', _, rfl, h3.cl, hc, by omega, hcm, ?_, ?_⟩⟩ (by omega) ?_ ?_
    · simp [hcs]; omega
    · rw [Nat.mul_one, ← hfl]; simp [hcs] at hfl ⊢; omega
    · rw [Nat.mul_one]
      have ea : (cs.take i ++ full).take i = cs.take i := List.take_left' hf
      rw [ea]
      have eb : (cs.take i ++ [x] ++ (cs.take i ++ full).drop (i + [x].length)).take (i + 1) = cs.take i ++ [x] := List.take_left' (by simp; omega)
      rw [eb]
      exact List.take_left' (by simp [hcs]; omega)
    · have hd : Ext w (dr w2) := ((hE1.newer (S' := (· = w.heap.size)) h2.chg (fun x hx e => by omega))).then (dr_ext w2)
      exact hd.newer (S' := (· = w.heap.size)) h3.chg (fun x hx e => by omega)
    · have a := hN.size
      have b1 := h2.size
      have c := h3.size
      have : (dr w2).heap.size = w2.heap.size := rfl
      omega
end Go.Proofs
