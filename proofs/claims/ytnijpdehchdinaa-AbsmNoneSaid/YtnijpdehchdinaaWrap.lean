/-
  From a contract over no blocks to a law's row: it returns true, and of what was there nothing turns.
-/
import Derived.Test.YtnijpdehchdinaaRows
import Derived.Test.YtnijpdehchdinaaHlW
import Derived.ChangeSlices
import Derived.WalkKit
import Derived.ProofKit
import Derived.OpenShut
import Derived.JoinedCond
import Derived.Carry
set_option linter.unusedVariables false
set_option linter.unusedSimpArgs false
namespace Go.Hl
open Go.ChangeShapes Go.WideShapes Go.ChangeAt Go.RowKit

theorem of_ct {P : Program} {f : FuncId} {W : World} {args : Array Value} (h : Ct P W.heap f args.toList [] fun v L => v = .bool true) :
    Calls P f args W fun e W' => e = .returned (.bool true) ∧ Below W.heap.size W W' := by
  have hh : Has W.heap [] W := ⟨Nat.le_refl _, fun _ _ => rfl, List.nodup_nil, fun b hb => (by cases hb), fun p hp => (by cases hp)⟩
  refine (h.out W hh).mono ?_
  rintro e W' ⟨v, L', rfl, rfl, hs⟩
  exact ⟨rfl, hs.os, hs.tape, hs.output, hs.size, fun k hk => hs.keep k hk (by simp)⟩

variable {H : Type} {enc : TypeId × Value → H} {P : Program}
theorem trodAll_stays (hl : laidOutB P = true) {W W' : World} {sp : Nat → Bool} (hb : Below W.heap.size W W') : ∀ {ts : List TypeId} {vs : List Value} {ds : List (DataW H)} {p : List MemPlace}, (∀ t ∈ ts, P.readableRec t = true ∧ t < P.types.size) →
    (∀ x ∈ p, x.block < W.heap.size) → (∀ x ∈ p, sp x.block = true) → DataW.TrodAll enc P W 0 (fun _ => true) true ts vs ds p → DataW.TrodAll enc P W' 0 sp true ts vs ds p
  | [], vs, ds, p, _, _, _, h => by
    obtain ⟨rfl, rfl, rfl⟩ := trodAll_nil h
    exact trodAll_mk0
  | t :: ts, vs, ds, p, ht, hlt, hsp, h => by
    obtain ⟨v, vs', d, ds', p1, p2, rfl, rfl, rfl, h1, h2⟩ := trodAll_cons h
    have h3 := WideElems.Trod_stays (sp' := sp) hl (ht t (List.mem_cons_self ..)).1 (ht t (List.mem_cons_self ..)).2 h1 (fun x hx => hb.same (hlt x (List.mem_append_left _ hx))) (fun x hx => hsp x (List.mem_append_left _ hx))
    exact trodAll_cons_mk h3 (trodAll_stays hl hb (fun t' h' => ht t' (List.mem_cons_of_mem _ h')) (fun x hx => hlt x (List.mem_append_right _ hx)) (fun x hx => hsp x (List.mem_append_right _ hx)) h2)

theorem law_post {f : Func} {s : ChangeSpec} {apart fresh handsOn again : Bool} {W W' : World} {args : Array Value} {ds gs : List (DataW H)} {before : List MemPlace} (hs : s.vars = []) (hb : Below W.heap.size W W')
    (hW : DataW.Whole enc P f.params.toList s.vars apart W args.toList ds gs before) (hfn : s.fn H ds = { results := [.lit (.bool true)], args := ds })
    (hl : laidOutB P = true) (hp : ∀ t ∈ f.params.toList, P.readableRec t = true ∧ t < P.types.size) {t : TypeId} (ht : P.underlying t = some .bool) (hr : f.resultTypes = #[t]) :
    s.post enc P f apart fresh handsOn again W args (.bool true) W' := by
  have hW0 := hW
  obtain ⟨p, q, hA, hV, rfl, hz, hn⟩ := hW
  rw [hs] at hV
  obtain ⟨rfl, rfl⟩ := trodVars_none hV
  simp only [List.append_nil] at hW0 hz hn
  have hlt : ∀ x ∈ p, x.block < W.heap.size := fun x hx => by simpa using hW0.lt x hx
  have hst : ∀ sp : Nat → Bool, (∀ x ∈ p, sp x.block = true) → DataW.TrodAll enc P W' 0 sp true f.params.toList args.toList (s.fn H (ds ++ [])).args p := fun sp hsp => by
    rw [List.append_nil, hfn]
    exact trodAll_stays hl hb hp hlt hsp hA
  have hvars : ∀ sp : Nat → Bool, DataW.TrodVars enc P W' sp s.vars (s.fn H (ds ++ [])).vars [] := fun sp => by
    rw [hs, List.append_nil, hfn]
    exact rfl
  have hres : ∀ (b : Nat) (sp : Nat → Bool) (hd : Bool), DataW.TrodAll enc P W' b sp hd f.resultTypes.toList ((Value.bool true).resultList f.resultTypes.size) (s.fn H (ds ++ [])).results [] := fun b sp hd => by
    rw [List.append_nil, hfn, hr]
    exact trodAll_cons_mk (shut_bool ht true) trodAll_mk0
  have hok := ok_one (P := P) (W' := W') (f := f) (v := .bool true) hr rfl (okWide_bool_mk ht true)
  have hold : ∀ x ∈ p, (fun b => decide (b < W.heap.size)) x.block = true := fun x hx => by simpa using hlt x hx
  refine ⟨ds, [], p, [], p, [], hW0, hres _ _ _, hst _ hold, hvars _, World.keptBut_mono (fun x hx => ⟨hx, ?_⟩) (hb.frame (· ∈ p)), fun _ => ?_⟩
  · exact .inr (.inl hx)
  · refine ⟨hok, _, _, ([] ++ p) ++ [], ⟨[] ++ p, [], trodAll_append (hst _ (fun _ _ => rfl)) (hres _ _ _), hvars _, rfl, ?_, ?_⟩, ?_⟩
    · intro b off hpm
      have hpm' : (MemPlace.cell b off) ∈ p := by simpa using hpm
      rw [hb.frozen (p := ⟨b, off, none⟩) (hlt _ hpm')]
      exact hz b off hpm'
    · intro ha
      simpa using hn ha
    · intro x hx _
      simpa using hx
/-- A slice of whole numbers that came in. -/
theorem ints_in {P : Program} {W : World} {t e : TypeId} {k : IntKind} {v : Value} {d : DataW H} {ps : List MemPlace} (ht : P.underlying t = some (.slice e)) (he : P.underlying e = some (.int k)) (hc : P.cellsOf e = 1)
    (h : DataW.Trod enc P W 0 (fun _ => true) true t v d ps) {base : Nat} (hok : Value.okWide P W .any base t v) : ∃ pa pm pc xs, v = .slice pa pm pc ∧ SlRd W.heap [] 1 pa pm pc (ints k xs) ∧ ∀ x ∈ xs, (Lit.int k x).wf = true := by
  obtain ⟨n, hn⟩ := h
  obtain ⟨va, vl, vc, rfl⟩ := okWide_slice ht hok
  rcases open_ints ht he hc hn with ⟨h1, h2⟩ | ⟨a, len, cap, zs, h1, hb, hl, hm, hlen, h2, hat, hwf⟩
  · simp [Value.cells] at h1
    obtain ⟨rfl, rfl, rfl⟩ := h1
    exact ⟨none, 0, 0, [], rfl, ⟨rfl, Nat.le_refl _, by omega, fun h => absurd h (by omega)⟩, fun x hx => by cases hx⟩
  · simp [Value.cells] at h1
    obtain ⟨rfl, rfl, rfl⟩ := h1
    simp only [if_true] at hlen
    refine ⟨some a, vl, vc, zs.take vl, rfl, ⟨by rw [length_ints, List.length_take]; omega, hl, by simpa [maxLen] using hm, fun hp => ?_⟩, fun x hx => hwf x (List.mem_of_mem_take hx)⟩
    have h0 := hat 0 (by omega)
    obtain ⟨b, o, sp⟩ := a
    have hadd : (⟨b, o, sp⟩ : Addr).add 0 = ⟨b, o, sp⟩ := rfl
    rw [hadd] at h0
    unfold World.cell? at h0
    cases hh : W.heap[b]? with
    | none => simp [hh] at h0
    | some ob =>
      cases ob with
      | cells c et fr =>
        cases sp with
        | some z => simp [hh] at h0
        | none =>
          refine ⟨b, o, c.toList, rfl, ⟨fun w hw => ⟨et, fr, by rw [hw.base b (Array.getElem?_eq_some_iff.1 hh).1, hh]⟩⟩, fun j u hu => ?_⟩
          have hj : j < zs.length := by
            have := (List.getElem?_eq_some_iff.1 hu).1
            rw [length_ints, List.length_take] at this; omega
          have h2 := hat j hj
          rw [Addr.add_lit] at h2
          simp only [World.cell?, hh, Option.isSome_none, Bool.false_eq_true, if_false] at h2
          have h3 : (ints k (zs.take vl))[j]? = some (.int k (zs.getD j 0)) := by
            have hjv : j < vl := by
              have := (List.getElem?_eq_some_iff.1 hu).1
              rw [length_ints, List.length_take] at this; omega
            simp [ints, List.getElem?_take_of_lt hjv, List.getD_eq_getElem?_getD, List.getElem?_eq_getElem hj]
          rw [h3] at hu
          rw [← hu, ← h2]
          simp
      | _ => simp [hh] at h0
end Go.Hl
