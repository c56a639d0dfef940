/- Maps whose keys are structs or arrays: a look-up and a store, by a list of what the map holds. Conditions: keys are compared as told (a hypothesis of each law). -/
import Derived.Test.YtafimdhmdakcaaaEql
set_option linter.unusedVariables false
set_option linter.unusedSimpArgs false
namespace Go.Proofs.Ytafimdhmdakcaaa
open Go Go.RowKit

section
variable {α : Type}
/-- Block b is a map that holds mp, in the order in which the keys came. -/
def MapAt (enc : α → Value) (w : World) (b : Nat) (mp : List (α × Value)) : Prop :=
  ∃ es clk, w.heap[b]? = some (.map es clk) ∧ es.toList.map (fun e => (e.key, e.val)) = mp.map (fun p => (enc p.1, p.2))

theorem MapAt.kp {enc : α → Value} {S : List Nat} {w w' : World} {b : Nat} {mp : List (α × Value)} (h : MapAt enc w b mp) (hk : Kp S w w') (hb : b ∉ S) : MapAt enc w' b mp := by
  obtain ⟨es, clk, h1, h2⟩ := h
  exact ⟨es, clk, hk.blk h1 hb, h2⟩

theorem MapAt.drew {enc : α → Value} {w : World} {b : Nat} {mp : List (α × Value)} (h : MapAt enc w b mp) : MapAt enc w.drew b mp := h

theorem MapAt.lt {enc : α → Value} {w : World} {b : Nat} {mp : List (α × Value)} (h : MapAt enc w b mp) : b < w.heap.size := by
  obtain ⟨es, clk, h1, _⟩ := h
  exact blk_lt h1

theorem MapAt.new (enc : α → Value) (w : World) : MapAt enc (w.alloc (.map #[] 0)) w.heap.size [] := ⟨#[], 0, blk_new _ _, rfl⟩

end

section
variable {P : Program} {α : Type} [DecidableEq α]

theorem run_getMap {w : World} {b : Nat} {es : Array MapEntry} {clk : Nat} (h : w.heap[b]? = some (.map es clk)) : (getObj b).run P w = .ok (.map es clk) w := by
  simp [getObj, Sem.run, h]

theorem run_setMap {w : World} {b : Nat} {es : Array MapEntry} {clk : Nat} (h : w.heap[b]? = some (.map es clk)) (o : Obj) : (setObj b o).run P w = .ok () { w with heap := w.heap.setIfInBounds b o } := by
  simp [setObj, Sem.run, h]

/-- How keys of a type are told: compared as they are, hashable, stored bit by bit. -/
structure KeyLaw (P : Program) (kT : TypeId) (enc : α → Value) : Prop where
  eq : ∀ (a b : α) (w : World), (Op.equal kT (enc a) (enc b)).run P w = .ok (decide (a = b)) w
  chk : ∀ (a : α) (e : Bool) (w : World), (Instr.checkKey e 10000 kT (enc a)).run P w = .ok () w
  bits : ∀ a : α, Instr.sameBits 10000 (enc a) (enc a) = true
  und : ∃ d, P.underlying kT = some d ∧ ∀ a b : α, Instr.sameNow d (enc a) (enc b) = none

def look (mp : List (α × Value)) (a : α) : Option Value := (mp.find? fun p => decide (a = p.1)).map (·.2)

def put : List (α × Value) → α → Value → List (α × Value)
  | [], a, v => [(a, v)]
  | p :: r, a, v => if a = p.1 then (a, v) :: r else p :: put r a v

theorem look_put (mp : List (α × Value)) (a b : α) (v : Value) : look (put mp a v) b = if b = a then some v else look mp b := by
  induction mp with
  | nil =>
    by_cases h : b = a
    · simp [put, look, h]
    · simp [put, look, h]
  | cons p r ih =>
    unfold put
    by_cases h : a = p.1
    · rw [if_pos h]
      by_cases hb : b = a
      · simp [look, hb]
      · have : ¬ b = p.1 := fun e => hb (e.trans h.symm)
        simp [look, hb, this]
    · rw [if_neg h]
      by_cases hb : b = p.1
      · have : ¬ b = a := fun e => h (e.symm.trans hb)
        rw [if_neg this]
        simp [look, hb]
      · have e1 : look (p :: put r a v) b = look (put r a v) b := by simp [look, hb]
        have e2 : look (p :: r) b = look r b := by simp [look, hb]
        rw [e1, e2, ih]

variable {kT : TypeId} {enc : α → Value}

/-- The search of a key. -/
theorem run_findAsking_law (K : KeyLaw P kT enc) (a : α) (w : World) : ∀ (es : List MapEntry) (mp : List (α × Value)) (i : Nat), es.map (fun e => (e.key, e.val)) = mp.map (fun p => (enc p.1, p.2)) →
    ((Instr.findAsking kT (enc a) es i).run P w = .ok none w ∧ look mp a = none ∧ put mp a = fun v => mp ++ [(a, v)]) ∨
    ∃ j v e, (Instr.findAsking kT (enc a) es i).run P w = .ok (some (i + j, v)) w ∧ look mp a = some v ∧ es[j]? = some e ∧ e.key = enc a ∧ ∀ v', put mp a v' = mp.set j (a, v')
  | [], mp, i, h => by
    cases mp with
    | nil => exact .inl ⟨by simp [Instr.findAsking], rfl, rfl⟩
    | cons _ _ => simp at h
  | e :: es, mp, i, h => by
    cases mp with
    | nil => simp at h
    | cons p r =>
      simp only [List.map_cons, List.cons.injEq, Prod.mk.injEq] at h
      obtain ⟨⟨hk, hv⟩, hr⟩ := h
      by_cases hap : a = p.1
      · right
        refine ⟨0, p.2, e, ?_, by simp [look, hap], rfl, by rw [hk, hap], fun v' => by simp [put, hap]⟩
        simp [Instr.findAsking, hk, K.eq, hap, hv]
      · rcases run_findAsking_law K a w es r (i + 1) hr with ⟨h1, h2, h3⟩ | ⟨j, v, e', h1, h2, h4, h5, h3⟩
        · left
          refine ⟨by simp [Instr.findAsking, hk, K.eq, hap, h1], by simpa [look, hap] using h2, ?_⟩
          funext v
          simp only [put, if_neg hap, congrFun h3 v]
          rfl
        · right
          refine ⟨j + 1, v, e', ?_, by simpa [look, hap] using h2, by simpa using h4, h5, fun v' => by simp [put, hap, h3 v']⟩
          simp [Instr.findAsking, hk, K.eq, hap, h1, Nat.add_assoc, Nat.add_comm 1 j]

theorem run_findKey_law (K : KeyLaw P kT enc) (a : α) (w : World) (es : List MapEntry) (mp : List (α × Value)) (h : es.map (fun e => (e.key, e.val)) = mp.map (fun p => (enc p.1, p.2))) :
    ((Instr.findKey kT (enc a) es).run P w = .ok none w ∧ look mp a = none ∧ put mp a = fun v => mp ++ [(a, v)]) ∨
    ∃ j v e, (Instr.findKey kT (enc a) es).run P w = .ok (some (j, v)) w ∧ look mp a = some v ∧ es[j]? = some e ∧ e.key = enc a ∧ ∀ v', put mp a v' = mp.set j (a, v') := by
  obtain ⟨d, hd, hnow⟩ := K.und
  cases es with
  | nil =>
    cases mp with
    | nil => exact .inl ⟨by simp [Instr.findKey, run_underlying hd, Instr.findNow], rfl, rfl⟩
    | cons _ _ => simp at h
  | cons e es =>
    have hn : Instr.findNow d (enc a) (e :: es) 0 = none := by
      cases mp with
      | nil => simp at h
      | cons p r =>
        simp only [List.map_cons, List.cons.injEq, Prod.mk.injEq] at h
        simp [Instr.findNow, h.1.1, hnow]
    rcases run_findAsking_law K a w (e :: es) mp 0 h with ⟨h1, h2, h3⟩ | ⟨j, v, e', h1, h2, h4, h5, h3⟩
    · exact .inl ⟨by simp [Instr.findKey, run_underlying hd, hn, h1], h2, h3⟩
    · exact .inr ⟨j, v, e', by simp [Instr.findKey, run_underlying hd, hn, h1], h2, h4, h5, h3⟩

/-- 'v, ok := m[k]' and 'm[k]'. -/
theorem run_lookup_law (K : KeyLaw P kT enc) {mT eT : TypeId} {i : TypeInfo} {z : Value} (hm : P.underlying mT = some (.map kT eT)) (hi : P.info? eT = some i) (hz : i.zero = some z)
    {w : World} {b : Nat} {mp : List (α × Value)} (h : MapAt enc w b mp) (a : α) (ok : Bool) :
    (Instr.lookup mT (.map (some b)) (enc a) ok).run P w = .ok (if ok then .tuple #[(look mp a).getD z, .bool (look mp a).isSome] else (look mp a).getD z) w := by
  obtain ⟨es, clk, h1, h2⟩ := h
  rcases run_findKey_law K a w es.toList mp h2 with ⟨g1, g2, _⟩ | ⟨j, v, e, g1, g2, _, _, _⟩
  · cases ok <;> simp [Instr.lookup, run_underlying hm, run_getMap h1, K.chk, g1, g2, zeroValue, typeInfo, hi, hz]
  · cases ok <;> simp [Instr.lookup, run_underlying hm, run_getMap h1, K.chk, g1, g2]

/-- 'm[k] = v'. -/
theorem run_mapUpdate_law (K : KeyLaw P kT enc) {mT eT : TypeId} (hm : P.underlying mT = some (.map kT eT)) {w : World} {b : Nat} {mp : List (α × Value)} (h : MapAt enc w b mp) (a : α) (v : Value) :
    ∃ w', (Instr.mapUpdate mT (.map (some b)) (enc a) v).run P w = .ok () w' ∧ MapAt enc w' b (put mp a v) ∧ Kp [b] w w' ∧ w'.heap.size = w.heap.size := by
  obtain ⟨es, clk, h1, h2⟩ := h
  have hb := blk_lt h1
  have hset : ∀ o : Obj, (({ w with heap := w.heap.setIfInBounds b o } : World).heap)[b]? = some o := fun o => by simp [hb]
  have hkp : ∀ o : Obj, Kp [b] w { w with heap := w.heap.setIfInBounds b o } := fun o => ⟨rfl, rfl, rfl, by simp, fun k _ hn => by
    show (w.heap.setIfInBounds b o)[k]? = _
    rw [Array.getElem?_setIfInBounds_ne (fun e => hn (by simp [e]))]⟩
  rcases run_findKey_law K a w es.toList mp h2 with ⟨g1, g2, g3⟩ | ⟨j, v0, e, g1, g2, g4, g5, g3⟩
  · refine ⟨_, ?_, ⟨es.push { key := enc a, val := v, born := clk }, clk + 1, hset _, ?_⟩, hkp _, by simp⟩
    · simp [Instr.mapUpdate, run_underlying hm, run_getMap h1, run_setMap h1, K.chk, g1]
    · rw [congrFun g3 v]; simp [h2]
  · have g4' : es[j]? = some e := by simpa using g4
    refine ⟨_, ?_, ⟨es.modify j fun e => { e with key := enc a, val := v }, clk, hset _, ?_⟩, hkp _, by simp⟩
    · simp [Instr.mapUpdate, run_underlying hm, run_getMap h1, run_setMap h1, K.chk, g1, Instr.keyThatStays, g4', g5, K.bits]
    · rw [g3 v, Array.toList_modify, List.map_set, ← h2]
      apply List.ext_getElem?
      intro k
      simp only [List.getElem?_map, List.getElem?_modify, List.getElem?_set, List.length_map]
      by_cases hk : j = k
      · subst hk
        have hlt : j < es.size := by
          rw [List.getElem?_eq_some_iff] at g4; simpa using g4.1
        simp [g4, hlt]
      · simp [hk]
end
end Go.Proofs.Ytafimdhmdakcaaa
