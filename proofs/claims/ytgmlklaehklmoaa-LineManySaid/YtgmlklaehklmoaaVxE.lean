/- What the evaluator answers, the machine does: the theorem that the seat's statements lean on. (A help: no statement of the seat is proved here.) -/
import Derived.Test.YtgmlklaehklmoaaVxD
import Derived.ProofKit
set_option linter.unusedVariables false
set_option linter.unusedSimpArgs false
namespace Go.Vx

/-- What was there is as it was; new blocks may stand behind it. -/
def Kept (w w' : World) : Prop := w.keptBut w' (fun _ => False) ∧ (∀ a : Addr, a.block < w.heap.size → w'.frozen? a = w.frozen? a) ∧ w.heap.size ≤ w'.heap.size

theorem Kept.frame {w w' : World} (h : Kept w w') (may : MemPlace → Prop) : w.keptBut w' may := World.keptBut_mono (fun _ f => f.elim) h.1

theorem Kept.cell {w w' : World} (h : Kept w w') {a : Addr} {v : Value} (hc : w.cell? a = some v) : w'.cell? a = some v := by
  have hlt : a.block < w.heap.size := by
    unfold World.cell? at hc
    cases hb : w.heap[a.block]? with
    | none => simp [hb] at hc
    | some o => exact (Array.getElem?_eq_some_iff.mp hb).1
  have := h.1.2.2 a.block hlt
  unfold World.cell? at hc ⊢
  cases hb : w.heap[a.block]? with
  | none => simp [hb] at hc
  | some o =>
    cases hb' : w'.heap[a.block]? with
    | none => rw [hb, hb'] at this; cases o <;> simp at this
    | some o' =>
      rw [hb] at hc
      rw [hb, hb'] at this
      cases o <;> cases o' <;> simp at this hc ⊢
      · obtain ⟨rfl, rfl, h1, h2⟩ := this
        exact ⟨hc.1, by rw [h2]; exact hc.2⟩

theorem kept_of_le {β β' : At} {H H' : Heap} {w w' : World} (hro : ∀ g cs e, H.row g ≠ some (cs, e, false)) (h : Le β H w β' H' w') : Kept w w' := by
  have hsame : ∀ k, k < w.heap.size → w'.heap[k]? = w.heap[k]? := fun k hk => h.blocks k hk fun ⟨g, b, cs, e, _, h2, _⟩ => hro g cs e h2
  refine ⟨⟨h.os, h.output, fun i hi => ?_⟩, fun a ha => ?_, h.size⟩
  · rw [hsame i hi]
    split
    · rename_i h1 h2
      rw [h1] at h2
      simp only [Option.some.injEq, Obj.cells.injEq] at h2
      obtain ⟨rfl, rfl, rfl⟩ := h2
      exact ⟨rfl, rfl, rfl, fun _ _ => rfl⟩
    · rename_i h1 h2
      rw [h1] at h2
      simp only [Option.some.injEq, Obj.map.injEq] at h2
      obtain ⟨rfl, rfl⟩ := h2
      exact .inr ⟨rfl, rfl⟩
    · rfl
  · simp only [World.frozen?, hsame a.block ha]

theorem rel_empty (w : World) (i : Nat → Nat → Option Value) (hi : ∀ b o c, i b o = some c → w.cell? ⟨b, o, none⟩ = some c) (hg : GlobOk i) : Rel ⟨fun _ => none, i⟩ Heap.empty w where
  lies := fun g b h => by cases h
  tot := fun g cs e ro h => by simp [Heap.empty, Heap.row, Heap.get, Trie.get_leaf] at h
  fresh := fun g o h => by simp [Heap.empty, Heap.row, Heap.get, Trie.get_leaf] at h
  apart := fun g g' b b' cs e _ h => by cases h
  immw := hi
  immm := fun b o c hc hm => by obtain ⟨_, _, _, _, h, _⟩ := hm; cases h
  glob := hg
  fro := fun g t l e b h => by simp [Heap.empty, Heap.get, Trie.get_leaf] at h

theorem runs_true {P : Program} (hm : P.follows .mixedOrders = true) {n : Nat} {f : FuncId} {args : List AV} {cargs : Array Value} {β : At} {H H' : Heap} {w : World} {t : Bool}
    (h : callA_ P n f args H = some (.bool t true, H')) (hR : Rel β H w) (ha : VsRel H.n β args cargs.toList) (hro : ∀ g cs e, H.row g ≠ some (cs, e, false)) :
    Calls P f cargs w fun e w' => e = .returned (.bool true) ∧ Kept w w' := by
  refine (calls_sound hm n f args H _ H' h β w cargs hR ha).mono ?_
  rintro e w' ⟨β', c, rfl, hR', hLe, hv⟩
  rw [bool_of hv]
  exact ⟨rfl, kept_of_le hro hLe⟩

/-- A closed call that answers true. -/
def isTrue (r : Option (AV × Heap)) : Bool :=
  match r with
  | some (.bool _ true, _) => true
  | _ => false
theorem isTrue_spec {r : Option (AV × Heap)} (h : isTrue r = true) : ∃ t H', r = some (.bool t true, H') := by
  unfold isTrue at h
  split at h
  · rename_i t H'; exact ⟨t, H', rfl⟩
  · cases h

open Go.ChangeShapes in
theorem post_kept {P : Program} {H : Type} {enc : TypeId × Value → H} {f : Func} {s : ChangeSpec} {apart fresh handsOn again : Bool} {W W' : World} {args : Array Value} {v : Value} {ds gs : List (DataW H)} {before pa pv : List MemPlace}
    (hW : DataW.Whole enc P f.params.toList s.vars apart W args.toList ds gs before)
    (hres : ∀ (b : Nat) (sp : Nat → Bool) (hd : Bool), DataW.TrodAll enc P W' b sp hd f.resultTypes.toList (v.resultList f.resultTypes.size) (s.fn H (ds ++ gs)).results [])
    (hargs : ∀ sp : Nat → Bool, (∀ p ∈ before, sp p.block = true) → DataW.TrodAll enc P W' 0 sp true f.params.toList args.toList (s.fn H (ds ++ gs)).args pa)
    (hvars : ∀ sp : Nat → Bool, (∀ p ∈ before, sp p.block = true) → DataW.TrodVars enc P W' sp s.vars (s.fn H (ds ++ gs)).vars pv)
    (hps : before = pa ++ pv) (hg : Kept W W')
    (hok : ∀ (j : Nat) (t : TypeId) (r : Value), f.resultTypes[j]? = some t → (v.resultList f.resultTypes.size)[j]? = some r → Value.okWide P W' .any 0 t r) :
    s.post enc P f apart fresh handsOn again W args v W' := by
  have hold : ∀ p ∈ before, (fun b => decide (b < W.heap.size)) p.block = true := fun p hp => by simpa using hW.lt p hp
  have hlt := hW.lt
  refine ⟨ds, gs, before, [], pa, pv, hW, hres _ _ _, hargs _ hold, hvars _ hold, World.keptBut_mono (fun _ f => f.elim) hg.1, fun _ => ?_⟩
  obtain ⟨_, _, _, _, _, hz, hn⟩ := hW
  refine ⟨hok, _, _, ([] ++ pa) ++ pv, ⟨[] ++ pa, pv, trodAll_append (hargs _ (fun _ _ => rfl)) (hres _ _ _), hvars _ (fun _ _ => rfl), rfl, ?_, ?_⟩, ?_⟩
  · intro b off hp
    have hp' : MemPlace.cell b off ∈ before := by rw [hps]; simpa using hp
    rw [hg.2.1 _ (hlt _ hp')]
    exact hz b off hp'
  · intro ha
    have := hn ha
    rw [hps] at this
    simpa using this
  · intro p hp _
    rw [hps]
    simpa using hp
end Go.Vx
