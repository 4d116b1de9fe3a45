/- Part of the proof of a law of this seat: facts that it uses, each proved here. No conditions. -/
import Derived.LaidMore
import Derived.Lay
import Derived.OpenShut
import Derived.ProofKit
import Derived.SevenTiedAt
import Derived.Stop.Joined
import Derived.Stop.LaidErr
import Derived.Test.YtcapooghkabloaaDoorCards
import Derived.Test.YtcapooghkabloaaDoorTie
import Derived.Test.YtcapooghkabloaaDoorGL
namespace Go.Proofs.YtcapooghkabloaaDoor
open Go Go.Eng
open Go.ChangeShapes hiding strs
open Go.WideShapes Go.ChangeAt Go.RowKit

theorem own : ownKnob Tryd.prog.godebug = none := by kernel_rfl
theorem laidOut : laidOutB Tryd.prog = true := by kernel_rfl

def spaceZ (c : Nat) : Int := if spc (UInt8.ofNat c) then 1 else 0
theorem space_data : (Rows.laid_strings_asciiSpace : DataW Unit) = .agg ((List.range 256).map fun c => .lit (.int .u8 (spaceZ c))) := by kernel_rfl
theorem u142 : Tryd.prog.underlying T_a256_uint8 = some (.array 256 T_uint8) := by kernel_rfl
theorem u5 : Tryd.prog.underlying T_uint8 = some (.int .u8) := by kernel_rfl
theorem u4 : Tryd.prog.underlying T_bool = some .bool := by kernel_rfl
theorem u9 : Tryd.prog.underlying T_string = some .string := by kernel_rfl
theorem u22 : Tryd.prog.underlying T_sl_string = some (.slice T_string) := by kernel_rfl
theorem c5 : Tryd.prog.cellsOf T_uint8 = 1 := by kernel_rfl
theorem c9 : Tryd.prog.cellsOf T_string = 1 := by kernel_rfl

/-- The table of the library's spaces, out of what the row lists. -/
theorem glob {W : World} (h : laidMetH Tryd.prog Rows.stackFarRow.laid W) : Glob W := by
  rw [MakeChecks.laidMetH_plain _ _ _ (by kernel_rfl)] at h
  have h2 := (laidMet.tail (laidMet.tail h))
  obtain ⟨ps, ⟨g, t, cs, fuel, p, q, hg, ht, hv, hd, _, _⟩, _, _⟩ := h2
  obtain rfl := Option.some.inj ((show Tryd.prog.globalNamed "strings.asciiSpace" = some 0 by kernel_rfl).symm.trans hg)
  obtain rfl := Option.some.inj ((show (Tryd.prog.globals[0]?).map (·.type) = some T_a256_uint8 by kernel_rfl).symm.trans ht)
  rw [show (Rows.laid_strings_asciiSpace : DataW Unit) = _ from space_data] at hd
  obtain ⟨xs, m, _, ex, _, hl, hel⟩ := DataW.trod_array u142 hd
  intro c
  have hr : c.toNat < 256 := c.toNat_lt
  have hE := hel c.toNat hr
  rw [c5, Nat.mul_one, List.getElem?_eq_getElem (by omega)] at hE
  obtain ⟨z, e1, e2, _⟩ := DataW.trod_int u5 hE
  have e3 : (xs.map (·.1)) = (List.range 256).map fun c => .lit (.int .u8 (spaceZ c)) := (DataW.agg.inj (Prod.mk.inj ex).1).symm
  have e4 : (xs.map (·.1))[c.toNat]? = ((List.range 256).map fun c => (DataW.lit (.int .u8 (spaceZ c)) : DataW Unit))[c.toNat]? := by rw [e3]
  rw [List.getElem?_map, List.getElem?_map, List.getElem?_eq_getElem (by omega : c.toNat < xs.length), List.getElem?_range hr, e2] at e4
  have hz : z = spaceZ c.toNat := by
    simpa using e4
  rw [World.var?_cell hg hv c.toNat]
  have : cs.toList[c.toNat]? = some (.int .u8 z) := by
    have h0 : ((cs.toList.drop c.toNat).take 1)[0]? = some (.int .u8 z) := by rw [e1]; rfl
    simpa using h0
  rw [hz] at this
  have e5 : spaceZ c.toNat = if spc c then 1 else 0 := by unfold spaceZ; simp
  rw [e5] at this
  simpa using this

section
variable {H : Type} {enc : TypeId × Value → H}
theorem stays_all {W W' : World} {sp : Nat → Bool} (hb : Below W.heap.size W W') : ∀ (ts : List TypeId) (vs : List Value) (ds : List (DataW H)) (ps : List MemPlace), (∀ t ∈ ts, Tryd.prog.readableRec t = true ∧ t < Tryd.prog.types.size) →
    DataW.TrodAll enc Tryd.prog W 0 (fun _ => true) true ts vs ds ps → (∀ p ∈ ps, p.block < W.heap.size) → (∀ p ∈ ps, sp p.block = true) → DataW.TrodAll enc Tryd.prog W' 0 sp true ts vs ds ps
  | [], vs, ds, ps, _, h, _, _ => by
    obtain ⟨rfl, rfl, rfl⟩ := trodAll_nil h
    exact h
  | t :: ts, vs, ds, ps, ht, h, hlt, hsp => by
    obtain ⟨v, vs', d, ds', p, q, rfl, rfl, rfl, h1, h2⟩ := trodAll_cons h
    obtain ⟨r1, r2⟩ := ht t (List.mem_cons_self ..)
    refine trodAll_cons_mk (WideElems.Trod_stays laidOut r1 r2 h1 (fun x hx => hb.same (hlt x (List.mem_append_left _ hx))) (fun x hx => hsp x (List.mem_append_left _ hx)))
      (stays_all hb ts vs' ds' q (fun u hu => ht u (List.mem_cons_of_mem _ hu)) h2 (fun x hx => hlt x (List.mem_append_right _ hx)) fun x hx => hsp x (List.mem_append_right _ hx))

set_option maxRecDepth 100000 in
/-- A law that answers true, and changes new memory alone, leaves what its row says. -/
theorem law_post {f : Func} {s : ChangeSpec} {ar fr ho ag : Bool} {W W' : World} {args : Array Value} {ds gs : List (DataW H)} {before : List MemPlace} (hW : DataW.Whole enc Tryd.prog f.params.toList s.vars ar W args.toList ds gs before)
    (hvars : s.vars = []) (hr : f.resultTypes = #[T_bool]) (hs : gs = [] → s.fn H ds = { results := [.lit (.bool true)], args := ds }) (hread : ∀ t ∈ f.params.toList, Tryd.prog.readableRec t = true ∧ t < Tryd.prog.types.size)
    (hb : Below W.heap.size W W') : s.post enc Tryd.prog f ar fr ho ag W args (.bool true) W' := by
  have hW' := hW
  obtain ⟨p, q, hA, hV, rfl, hz, hnd⟩ := hW
  rw [hvars] at hV
  obtain ⟨rfl, rfl⟩ := trodVars_none hV
  have hs' := hs rfl
  have hlt : ∀ x ∈ p, x.block < W.heap.size := fun x hx => hW'.lt x (by rw [List.append_nil]; exact hx)
  have hargs : ∀ sp : Nat → Bool, (∀ x ∈ p ++ [], sp x.block = true) → DataW.TrodAll enc Tryd.prog W' 0 sp true f.params.toList args.toList (s.fn H (ds ++ [])).args p := fun sp hsp => by
    rw [List.append_nil, hs']
    exact stays_all hb _ _ _ _ hread hA hlt fun x hx => hsp x (by rw [List.append_nil]; exact hx)
  have hvs : ∀ sp : Nat → Bool, DataW.TrodVars enc Tryd.prog W' sp s.vars (s.fn H (ds ++ [])).vars [] := fun sp => by
    rw [List.append_nil, hs', hvars]
    exact rfl
  have hres : ∀ (b : Nat) (sp : Nat → Bool) (hd : Bool), DataW.TrodAll enc Tryd.prog W' b sp hd f.resultTypes.toList ((Value.bool true).resultList f.resultTypes.size) (s.fn H (ds ++ [])).results [] := fun b sp hd => by
    rw [List.append_nil, hs', hr]
    exact trodAll_mk1 (shut_bool u4 _)
  have hold : ∀ x ∈ p ++ [], (fun b => decide (b < W.heap.size)) x.block = true := fun x hx => by simpa using hW'.lt x hx
  refine ⟨ds, [], p ++ [], [], p, [], hW', hres _ _ _, hargs _ hold, hvs _, World.keptBut_mono (fun x hx => ⟨hx, Or.inr (List.mem_append.1 hx)⟩) (hb.frame _), fun _ => ?_⟩
  refine ⟨ok_one hr rfl (okWide_bool_mk u4 _), _, _, ([] ++ p) ++ [], ⟨[] ++ p, [], trodAll_append (hargs _ (fun _ _ => rfl)) (hres _ _ _), hvs _, rfl, ?_, ?_⟩, ?_⟩
  · intro b off hp
    have hp' : MemPlace.cell b off ∈ p ++ [] := by rwa [List.nil_append] at hp
    rw [hb.frozen (show (⟨b, off, none⟩ : Addr).block < W.heap.size from hW'.lt _ hp')]
    exact hz b off hp'
  · intro ha
    have := hnd ha
    rwa [List.nil_append]
  · intro x hx _
    rwa [List.nil_append] at hx

set_option maxRecDepth 100000 in
theorem strs_of {W : World} {v : Value} {d : DataW H} {p : List MemPlace} (hv : Value.okWide Tryd.prog W .any 0 T_sl_string v) (h : DataW.Trod enc Tryd.prog W 0 (fun _ => true) true T_sl_string v d p) :
    ∃ l : List ByteArray, Strs W v l ∧ l.length ≤ 9223372036854775807 := by
  obtain ⟨a0, len, cap, rfl⟩ := okWide_slice u22 hv
  obtain ⟨fuel, hf⟩ := h
  rcases open_strings u22 u9 c9 hf with ⟨hcs, hx⟩ | ⟨a, len', cap', ss, hcs, _, hl, hm, hz, hx, hcell, hsz⟩
  · have e : Value.slice a0 len cap = .slice none 0 0 := by
      have : [Value.slice a0 len cap] = [Value.slice none 0 0] := hcs
      injection this
    cases e
    exact ⟨[], ⟨none, 0, rfl, by simp, fun i hi => by simp at hi⟩, Nat.zero_le _⟩
  · have e : Value.slice a0 len cap = .slice (some a) len' cap' := by
      have : [Value.slice a0 len cap] = [Value.slice (some a) len' cap'] := hcs
      injection this
    cases e
    have hz : ss.length = cap := by simpa using hz
    have hlen : (ss.take len).length = len := by simp; omega
    refine ⟨ss.take len, ⟨some a, cap, by rw [hlen], by omega, fun i hi => ?_⟩, ?_⟩
    · have hi' : i < ss.length := by omega
      have h0 := hcell 0 (by omega)
      have hsp : a.spot = none := by
        unfold Addr.add at h0
        rw [if_pos rfl] at h0
        unfold World.cell? at h0
        split at h0
        · split at h0
          · cases h0
          · rename_i hn; simpa using hn
        · cases h0
      obtain ⟨b, o, s⟩ := a
      cases hsp
      refine ⟨b, o, rfl, ?_⟩
      have hci := hcell i hi'
      have ea : (⟨b, o, none⟩ : Addr).add i = ⟨b, o + i, none⟩ := add_off b o i
      rw [ea] at hci
      rw [hci]
      simp [List.getD, hi']
    · rw [hlen]
      have : maxLen ≤ 9223372036854775807 := by unfold maxLen; exact Nat.le_of_ble_eq_true (by kernel_rfl)
      exact Nat.le_trans (Nat.le_trans hl hm) this
end
end Go.Proofs.YtcapooghkabloaaDoor
