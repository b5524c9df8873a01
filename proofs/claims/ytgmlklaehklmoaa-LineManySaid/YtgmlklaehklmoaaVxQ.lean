/- What a law is handed: its arguments, read as data; a law's call by its contract. (A help: no statement of the seat is proved here.) -/
import Derived.Test.YtgmlklaehklmoaaVxP
import Derived.OpenShut
import Derived.ReadAgain
set_option linter.unusedVariables false
set_option linter.unusedSimpArgs false
namespace Go.Vx
open Go.ChangeShapes Go.WideShapes

/-! Fit for their kinds. -/
def wfT : (t : Ty) → t.den → Prop
  | .bool, _ => True
  | .int k, n => (Lit.int k n).wf = true
  | .byte, _ => True
  | .str, s => s.length ≤ maxLen
  | .sl t, l => l.length ≤ maxLen ∧ ∀ x, x ∈ l → wfT t x
  | .unit, _ => True
  | .pair a b, x => wfT a x.1 ∧ wfT b x.2
def wfV : (p : VP) → p.den → Prop
  | .int k, n => (Lit.int k n).wf = true
  | .str, s => s.length ≤ maxLen
  | .vec t, l => l.length ≤ maxLen ∧ ∀ x, x ∈ l → wfT t x
  | .cat a b, x => wfV a x.1 ∧ wfV b x.2
  | .agg l, x => wfV l x
  | .tup l, x => wfV l x
  | _, _ => True

/-- Is it a type whose values are data of that shape? -/
def tyIn (P : Program) : Ty → (TypeId ⊕ (Nat × List Field)) → Bool
  | .bool, .inl t => match P.underlying t with
    | some .bool => true
    | _ => false
  | .int k, .inl t => match P.underlying t with
    | some (.int q) => decide (k = q)
    | _ => false
  | .byte, .inl t => match P.underlying t with
    | some (.int q) => decide (q = .u8)
    | _ => false
  | .str, .inl t => match P.underlying t with
    | some .string => true
    | _ => false
  | .sl T, .inl t => match P.underlying t with
    | some (.slice e) => decide (P.cellsOf e = T.z) && (decide (0 < T.z) && tyIn P T (.inl e))
    | _ => false
  | .unit, .inr (_, []) => true
  | .pair a b, .inl t => match P.underlying t with
    | some (.struct fs) => match fs.toList with
      | f :: fs => decide (P.cellsOf t = a.z + b.z) && (decide (f.offset = 0) && (decide (P.cellsOf f.type = a.z) && (tyIn P a (.inl f.type) && tyIn P b (.inr (a.z, fs)))))
      | [] => false
    | _ => false
  | .pair a b, .inr (off, f :: fs) => decide (f.offset = off) && (decide (P.cellsOf f.type = a.z) && (tyIn P a (.inl f.type) && tyIn P b (.inr (off + a.z, fs))))
  | _, _ => false

theorem list_of {α : Type} {p : Nat → α → Prop} : ∀ n : Nat, (∀ i, i < n → ∃ x, p i x) → ∃ l : List α, l.length = n ∧ ∀ i x, l[i]? = some x → p i x
  | 0, _ => ⟨[], rfl, fun i x h => by simp at h⟩
  | n + 1, h => by
    obtain ⟨l, hl, hp⟩ := list_of n fun i hi => h i (by omega)
    obtain ⟨x, hx⟩ := h n (by omega)
    refine ⟨l ++ [x], by simp [hl], fun i y hy => ?_⟩
    by_cases hi : i < n
    · exact hp i y (by rwa [List.getElem?_append_left (by omega)] at hy)
    · rw [List.getElem?_append_right (by omega), hl] at hy
      have : i = n := by
        have := (List.getElem?_eq_some_iff.1 hy).1
        simp at this; omega
      subst this
      simp at hy
      subst hy
      exact hx

theorem cells_at {w : World} {base : Nat} {a : Addr} {n : Nat} {cs : List Value} (h : w.cells? base a n = some cs) : cs.length = n ∧ ∀ i c, cs[i]? = some c → w.cell? ⟨a.block, a.off + i, none⟩ = some c := by
  unfold World.cells? at h
  split at h
  · refine ⟨by simpa using mapM_some_length h, fun i c hc => ?_⟩
    have hi : i < n := by
      have := mapM_some_length h
      simp at this
      have := (List.getElem?_eq_some_iff.1 hc).1
      omega
    have := mapM_some_get h i i (by simp [hi])
    rw [hc] at this
    unfold Addr.add at this
    split at this
    · rename_i e; subst e
      unfold World.cell? at this ⊢
      split at this
      · split at this
        · cases this
        · rename_i h1 h2; simp only [h1]; simpa using this
      · cases this
    · exact this
  · cases h

/-- What lies in memory is known to stay. -/
def Sees (β : At) (w : World) : Prop := ∀ b o c, w.cell? ⟨b, o, none⟩ = some c → β.imm b o = some c

section reads
variable {H : Type} {en : TypeId × Value → H} {P : Program} {w : World} {base : Nat} {sp : Nat → Bool} {hd : Bool}
theorem take_add_drop {α : Type} (cs : List α) (o x y : Nat) : (cs.drop o).take x ++ (cs.drop (o + x)).take y = (cs.drop o).take (x + y) := by
  rw [← List.drop_drop, List.take_add]

theorem read_ty : (T : Ty) →
    (∀ (t : TypeId) (cs : List Value) (fuel : Nat) (x : DataW H × List MemPlace), tyIn P T (.inl t) = true → DataW.trod en P w base sp hd fuel t cs = some x →
      ∃ d : T.den, wfT T d ∧ ∀ N β, Sees β w → VsRel N β (enc T d) cs) ∧
    (∀ (off : Nat) (fs : List Field) (cs : List Value) (n : Nat), tyIn P T (.inr (off, fs)) = true →
      (∀ f, f ∈ fs → ∃ x, DataW.trod en P w base sp hd n f.type ((cs.drop f.offset).take (P.cellsOf f.type)) = some x) →
      ∃ d : T.den, wfT T d ∧ ∀ N β, Sees β w → VsRel N β (enc T d) ((cs.drop off).take T.z))
  | .bool => ⟨fun t cs fuel x ht h => by
      simp only [tyIn] at ht
      split at ht
      · rename_i hu
        obtain ⟨b, rfl, _⟩ := DataW.trod_bool hu h
        exact ⟨b, trivial, fun N β _ => .one (.bool _ _)⟩
      · exact (Bool.false_ne_true ht).elim, fun off fs cs n ht => by simp [tyIn] at ht⟩
  | .int k => ⟨fun t cs fuel x ht h => by
      simp only [tyIn] at ht
      split at ht
      · rename_i q hu
        have hq := of_decide_eq_true ht
        subst hq
        obtain ⟨n, rfl, _, hw⟩ := DataW.trod_int hu h
        exact ⟨n, hw, fun N β _ => .one (.int _ _ _)⟩
      · exact (Bool.false_ne_true ht).elim, fun off fs cs n ht => by simp [tyIn] at ht⟩
  | .byte => ⟨fun t cs fuel x ht h => by
      simp only [tyIn] at ht
      split at ht
      · rename_i q hu
        have hq := of_decide_eq_true ht
        subst hq
        obtain ⟨n, rfl, _, hw⟩ := DataW.trod_int hu h
        simp only [Lit.wf, Bool.and_eq_true, decide_eq_true_eq, IntKind.min, IntKind.max, IntKind.signed, IntKind.bits] at hw
        have h0 : 0 ≤ n := by simpa using hw.1
        have h1 : n < 256 := by have := hw.2; simp at this; omega
        refine ⟨UInt8.ofNat n.toNat, trivial, fun N β _ => ?_⟩
        have : n = ((UInt8.ofNat n.toNat).toNat : Int) := by simp [UInt8.toNat_ofNat']; omega
        conv => rhs; rw [this]
        exact .one (.int _ _ _)
      · exact (Bool.false_ne_true ht).elim, fun off fs cs n ht => by simp [tyIn] at ht⟩
  | .str => ⟨fun t cs fuel x ht h => by
      simp only [tyIn] at ht
      split at ht
      · rename_i hu
        obtain ⟨s, rfl, _, hw⟩ := DataW.trod_string hu h
        exact ⟨s.data.toList, (by show s.data.toList.length ≤ maxLen; simpa using hw), fun N β _ => .one (.str _ _ _ rfl)⟩
      · exact (Bool.false_ne_true ht).elim, fun off fs cs n ht => by simp [tyIn] at ht⟩
  | .sl T => ⟨fun t cs fuel x ht h => by
      simp only [tyIn] at ht
      split at ht
      · rename_i e hu
        simp only [Bool.and_eq_true, decide_eq_true_eq] at ht
        obtain ⟨hz, hz0, ht⟩ := ht
        rcases DataW.trod_slice hu h with ⟨rfl, _⟩ | ⟨a, len, cap, elems, rest, n, _, rfl, _, _, hl, hc, hlen, hel, _, _⟩
        · refine ⟨[], ⟨by simp, fun x hx => by simp at hx⟩, fun N β _ => .one ?_⟩
          exact .vec T [] 0 none 0 0 (fun _ => .nilIface) (by simp) ⟨fun h => by simp at h, fun _ => rfl⟩ (fun k v h => by simp [encL] at h) (fun k v h => by simp [encL] at h)
        · have hex : ∀ i, i < len → ∃ d : T.den, ∃ cs, w.cells? base (a.add (i * T.z)) T.z = some cs ∧ wfT T d ∧ ∀ N β, Sees β w → VsRel N β (enc T d) cs := fun i hi => by
            have h1 := hel i hi
            rw [hz, List.getElem?_eq_getElem (by omega)] at h1
            simp only [Option.bind_eq_some_iff] at h1
            obtain ⟨cs, hcs, h1⟩ := h1
            obtain ⟨d, hd1, hd2⟩ := (read_ty T).1 e cs n _ ht h1
            exact ⟨d, cs, hcs, hd1, hd2⟩
          obtain ⟨l, hll, hl'⟩ := list_of len hex
          subst hll
          refine ⟨l, ⟨by omega, fun x hx => ?_⟩, fun N β hs => .one ?_⟩
          · obtain ⟨i, hi⟩ := List.getElem?_of_mem hx
            obtain ⟨_, _, h, _⟩ := hl' i x hi
            exact h
          · have key : ∀ k v, (encL T l)[k]? = some v → ∃ c, w.cell? ⟨a.block, a.off + k, none⟩ = some c ∧ VRel N β v c ∧ (k = 0 → a.spot = none) := fun k v hk => by
              have hkl := (List.getElem?_eq_some_iff.1 hk).1
              rw [encL_length] at hkl
              have hi : k / T.z < l.length := Nat.div_lt_of_lt_mul (by rwa [Nat.mul_comm])
              have ho : k % T.z < T.z := Nat.mod_lt _ hz0
              have hk' : k / T.z * T.z + k % T.z = k := by rw [Nat.mul_comm]; exact Nat.div_add_mod _ _
              rw [← hk', encL_get T l _ _ hi ho] at hk
              obtain ⟨cs, hcs, _, hr⟩ := hl' (k / T.z) (l.getD (k / T.z) T.dflt) (by rw [List.getD_eq_getElem?_getD, List.getElem?_eq_getElem hi]; rfl)
              obtain ⟨c, hc, hrel⟩ := (hr N β hs).at _ _ hk
              have hcell := (cells_at hcs).2 _ _ hc
              refine ⟨c, ?_, hrel, fun h0 => ?_⟩
              · rw [← hk']
                unfold Addr.add at hcell
                split at hcell
                · rename_i e; rw [e, Nat.zero_add]; exact hcell
                · rw [← Nat.add_assoc]; exact hcell
              · subst h0
                have hd0 : (0 : Nat) / T.z = 0 := Nat.zero_div _
                rw [hd0, Nat.zero_mul] at hcs
                unfold World.cells? at hcs
                split at hcs
                · have h0 := mapM_some_get hcs 0 0 (List.getElem?_range hz0)
                  have hl0 := mapM_some_length hcs
                  simp at hl0
                  rw [List.getElem?_eq_getElem (by omega)] at h0
                  simp only [Addr.add, if_true] at h0
                  unfold World.cell? at h0
                  split at h0
                  · split at h0
                    · cases h0
                    · rename_i h2; simpa using h2
                  · cases h0
                · cases hcs
            refine .vec T l cap (some a) a.block a.off (fun k => (w.cell? ⟨a.block, a.off + k, none⟩).getD .nilIface) hl ⟨fun h0 => ?_, fun h => by cases h⟩ (fun k v hk => ?_) (fun k v hk => ?_)
            · have : 0 < (encL T l).length := by rw [encL_length]; exact Nat.mul_pos h0 hz0
              obtain ⟨c, _, _, hsp⟩ := key 0 _ (List.getElem?_eq_getElem this)
              have := hsp rfl
              cases a; simp_all
            · obtain ⟨c, hc, _, _⟩ := key k v hk
              simp only [hc, Option.getD_some]
              exact hs _ _ _ hc
            · obtain ⟨c, hc, hr, _⟩ := key k v hk
              simp only [hc, Option.getD_some]
              exact hr
      · exact (Bool.false_ne_true ht).elim, fun off fs cs n ht => by simp [tyIn] at ht⟩
  | .unit => ⟨fun t cs fuel x ht h => by simp [tyIn] at ht, fun off fs cs n ht hf => ⟨(), trivial, fun N β _ => by simpa [Ty.z, enc] using VsRel.nil⟩⟩
  | .pair a b => ⟨fun t cs fuel x ht h => by
      simp only [tyIn] at ht
      split at ht
      · rename_i fs hu
        split at ht
        · rename_i f fs' hfs
          simp only [Bool.and_eq_true, decide_eq_true_eq] at ht
          obtain ⟨hz, ho, hfz, ha, hb⟩ := ht
          obtain ⟨xs, n, _, _, hl, hlen, hf⟩ := DataW.trod_struct hu h
          have hall : ∀ g, g ∈ fs.toList → ∃ x, DataW.trod en P w base sp hd n g.type ((cs.drop g.offset).take (P.cellsOf g.type)) = some x := fun g hg => by
            obtain ⟨i, hi⟩ := List.getElem?_of_mem hg
            have hi' : fs[i]? = some g := by simpa using hi
            have := hf i g hi'
            have hlt : i < xs.length := by
              have := (Array.getElem?_eq_some_iff.1 hi').1
              omega
            rw [List.getElem?_eq_getElem hlt] at this
            exact ⟨_, this⟩
          obtain ⟨x0, h0⟩ := hall f (by rw [hfs]; simp)
          obtain ⟨d, hd1, hd2⟩ := (read_ty a).1 f.type _ _ _ ha h0
          obtain ⟨d', hd3, hd4⟩ := (read_ty b).2 a.z fs' cs n hb fun g hg => hall g (by rw [hfs]; simp [hg])
          refine ⟨(d, d'), ⟨hd1, hd3⟩, fun N β hs => ?_⟩
          have := (hd2 N β hs).append (hd4 N β hs)
          rw [ho, hfz] at this
          have e := take_add_drop cs 0 a.z b.z
          rw [Nat.zero_add] at e
          rw [e, List.drop_zero, List.take_of_length_le (by omega)] at this
          exact this
        · cases ht
      · exact (Bool.false_ne_true ht).elim, fun off fs cs n ht hf => by
      match fs, ht, hf with
      | f :: fs, ht, hf =>
        simp only [tyIn, Bool.and_eq_true, decide_eq_true_eq] at ht
        obtain ⟨ho, hfz, ha, hb⟩ := ht
        obtain ⟨x0, h0⟩ := hf f (by simp)
        obtain ⟨d, hd1, hd2⟩ := (read_ty a).1 f.type _ _ _ ha h0
        obtain ⟨d', hd3, hd4⟩ := (read_ty b).2 (off + a.z) fs cs n hb fun g hg => hf g (by simp [hg])
        refine ⟨(d, d'), ⟨hd1, hd3⟩, fun N β hs => ?_⟩
        have := (hd2 N β hs).append (hd4 N β hs)
        rw [ho, hfz, take_add_drop] at this
        exact this
      | [], ht, hf => simp [tyIn] at ht⟩

/-! Arguments. -/
def tyVP : Ty → VP
  | .bool => .bool
  | .int k => .int k
  | .byte => .byte
  | .str => .str
  | .sl t => .vec t
  | .unit => .nil
  | .pair a b => .cat (tyVP a) (tyVP b)
theorem tyVP_of : (T : Ty) → (d : T.den) → wfT T d → ∃ x : (tyVP T).den, wfV (tyVP T) x ∧ ∀ len, encV (tyVP T) x len = enc T d
  | .bool, d, _ => ⟨d, trivial, fun _ => rfl⟩
  | .int k, d, h => ⟨d, h, fun _ => rfl⟩
  | .byte, d, _ => ⟨d, trivial, fun _ => rfl⟩
  | .str, d, h => ⟨d, h, fun _ => rfl⟩
  | .sl t, d, h => ⟨d, h, fun _ => rfl⟩
  | .unit, d, _ => ⟨(), trivial, fun _ => rfl⟩
  | .pair a b, d, h => by
    obtain ⟨x, hx, ex⟩ := tyVP_of a d.1 h.1
    obtain ⟨y, hy, ey⟩ := tyVP_of b d.2 h.2
    exact ⟨(x, y), ⟨hx, hy⟩, fun len => by simp only [tyVP, encV, enc, ex, ey]⟩
def argVP : Ty → VP
  | .pair a b => .agg (tyVP (.pair a b))
  | T => tyVP T
def parV : List Ty → VP
  | [] => .nil
  | [T] => argVP T
  | T :: Ts => .cat (argVP T) (parV Ts)

theorem read_arg {r : Reach} {b0 : Nat} {T : Ty} {t : TypeId} {v : Value} {d : DataW H} {ps : List MemPlace} (hT : tyIn P T (.inl t) = true) (hv : Value.okWide P w r b0 t v) (h : DataW.Trod en P w base sp hd t v d ps) :
    ∃ x : (argVP T).den, wfV (argVP T) x ∧ ∀ N β len, Sees β w → VsRel N β (encV (argVP T) x len) [v] := by
  obtain ⟨fuel, h⟩ := h
  obtain ⟨d', hd', hr⟩ := (read_ty T).1 t _ fuel _ hT h
  obtain ⟨x, hx, ex⟩ := tyVP_of T d' hd'
  cases T with
  | pair a b =>
    simp only [tyIn] at hT
    split at hT
    · rename_i fs hu
      obtain ⟨cs, rfl, _⟩ := okWide_struct hu hv
      refine ⟨x, hx, fun N β len hs => .one (.agg _ _ ?_)⟩
      have := hr N β hs
      rw [← ex len] at this
      exact this
    · cases hT
  | unit => simp [tyIn] at hT
  | bool =>
    simp only [tyIn] at hT
    split at hT
    · rename_i hu
      obtain ⟨b, rfl⟩ := okWide_bool hu hv
      exact ⟨x, hx, fun N β len hs => by have := hr N β hs; rw [← ex len] at this; exact this⟩
    · cases hT
  | int k =>
    simp only [tyIn] at hT
    split at hT
    · rename_i q hu
      obtain ⟨b, rfl⟩ := okWide_int hu hv
      exact ⟨x, hx, fun N β len hs => by have := hr N β hs; rw [← ex len] at this; exact this⟩
    · cases hT
  | byte =>
    simp only [tyIn] at hT
    split at hT
    · rename_i q hu
      obtain ⟨b, rfl⟩ := okWide_int hu hv
      exact ⟨x, hx, fun N β len hs => by have := hr N β hs; rw [← ex len] at this; exact this⟩
    · cases hT
  | str =>
    simp only [tyIn] at hT
    split at hT
    · rename_i hu
      obtain ⟨b, rfl⟩ := okWide_string hu hv
      exact ⟨x, hx, fun N β len hs => by have := hr N β hs; rw [← ex len] at this; exact this⟩
    · cases hT
  | sl T =>
    simp only [tyIn] at hT
    split at hT
    · rename_i e hu
      obtain ⟨a, l, c, rfl⟩ := okWide_slice hu hv
      exact ⟨x, hx, fun N β len hs => by have := hr N β hs; rw [← ex len] at this; exact this⟩
    · cases hT

/-- The parameters' types and shapes. -/
def parsIn (P : Program) : List TypeId → List Ty → Bool
  | [], [] => true
  | t :: ts, T :: Ts => tyIn P T (.inl t) && parsIn P ts Ts
  | _, _ => false
theorem read_args {r : Reach} {b0 : Nat} : ∀ {ts : List TypeId} {Ts : List Ty} {vs : List Value} {ds : List (DataW H)} {ps : List MemPlace}, parsIn P ts Ts = true →
    (∀ (j : Nat) t v, ts[j]? = some t → vs[j]? = some v → Value.okWide P w r b0 t v) → DataW.TrodAll en P w base sp hd ts vs ds ps →
    ∃ x : (parV Ts).den, wfV (parV Ts) x ∧ ∀ N β len, Sees β w → VsRel N β (encV (parV Ts) x len) vs
  | [], [], vs, ds, ps, _, _, h => by
    obtain ⟨rfl, _, _⟩ := trodAll_nil h
    exact ⟨(), trivial, fun _ _ _ _ => .nil⟩
  | t :: ts, T :: Ts, vs, ds, ps, ht, hv, h => by
    simp only [parsIn, Bool.and_eq_true] at ht
    obtain ⟨v, vs', d, ds', p, q, rfl, _, _, h1, h2⟩ := trodAll_cons h
    obtain ⟨x, hx, hxr⟩ := read_arg ht.1 (hv 0 t v rfl rfl) h1
    obtain ⟨y, hy, hyr⟩ := read_args ht.2 (fun j t' v' h1 h2 => hv (j + 1) t' v' (by simpa using h1) (by simpa using h2)) h2
    cases Ts with
    | nil =>
      cases ts with
      | nil =>
        obtain ⟨rfl, _, _⟩ := trodAll_nil h2
        exact ⟨x, hx, fun N β len hs => hxr N β len hs⟩
      | cons a b => simp [parsIn] at ht
    | cons T' Ts' => exact ⟨(x, y), ⟨hx, hy⟩, fun N β len hs => (hxr N β len hs).append (hyr N β len hs)⟩
  | [], _ :: _, _, _, _, ht, _, _ => by simp [parsIn] at ht
  | _ :: _, [], _, _, _, ht, _, _ => by simp [parsIn] at ht
end reads

/-! Read again behind the call. -/
theorem Kept.sameAt {w w' : World} (h : Kept w w') {p : MemPlace} (hp : p.block < w.heap.size) : w.sameAt w' p := by
  have hk := h.1.2.2 p.block hp
  cases p with
  | cell b off =>
    show w'.cell? ⟨b, off, none⟩ = w.cell? ⟨b, off, none⟩
    simp only [MemPlace.block] at hk
    unfold World.cell?
    simp only
    split at hk
    · rename_i c t fr c' t' fr' h1 h2
      rw [h1, h2]
      simp only [Option.isSome_none, Bool.false_eq_true, if_false]
      exact hk.2.2.2 off fun f => f
    · rename_i h1 h2
      rw [h1, h2]
    · rw [hk]
  | map b =>
    show w'.heap[b]? = w.heap[b]?
    simp only [MemPlace.block] at hk
    split at hk
    · rename_i c t fr c' t' fr' h1 h2
      obtain ⟨rfl, rfl, _, he⟩ := hk
      have : c' = c := Array.ext_getElem? fun j => he j fun f => f
      rw [h1, h2, this]
    · rename_i h1 h2
      rcases hk with f | ⟨rfl, rfl⟩
      · exact f.elim
      · rw [h1, h2]
    · exact hk
section again
variable {H : Type} {en : TypeId × Value → H} {P : Program} {w w' : World} {base : Nat} {sp : Nat → Bool} {hd : Bool}
theorem trodAll_carry : ∀ {ts : List TypeId} {vs : List Value} {ds : List (DataW H)} {ps : List MemPlace}, DataW.TrodAll en P w base sp hd ts vs ds ps → (∀ p, p ∈ ps → w.sameAt w' p) → DataW.TrodAll en P w' base sp hd ts vs ds ps
  | [], [], [], _, h, _ => h
  | _ :: _, _ :: _, _ :: _, _, ⟨p, q, ⟨n, h1⟩, h2, e⟩, hs => ⟨p, q, ⟨n, DataW.trod_carry n _ _ _ h1 fun x hx => hs x (by rw [e]; exact List.mem_append_left _ hx)⟩, trodAll_carry h2 fun x hx => hs x (by rw [e]; exact List.mem_append_right _ hx), e⟩
theorem trodAll_length : ∀ {ts : List TypeId} {vs : List Value} {ds : List (DataW H)} {ps : List MemPlace}, DataW.TrodAll en P w base sp hd ts vs ds ps → ds.length = ts.length
  | [], [], [], _, _ => rfl
  | _ :: _, _ :: _, _ :: _, _, ⟨_, _, _, h2, _⟩ => by simp only [List.length_cons, trodAll_length h2]
theorem read_again (hl : laidOutB P = true) (hm : mapsRowed P = true)
    (hf : ((List.range P.types.size).all fun t => match P.underlying t with | some (.slice e) => decide (0 < P.cellsOf e) | _ => true) = true)
    {ts : List TypeId} (hts : (ts.all fun t => decide (t < P.types.size)) = true) {vs : List Value} {ds : List (DataW H)} {ps : List MemPlace} (h : DataW.TrodAll en P w 0 (fun _ => true) true ts vs ds ps) (hlt : ∀ p, p ∈ ps → p.block < w.heap.size) (hk : Kept w w')
    (hs : ∀ p, p ∈ ps → sp p.block = true) : DataW.TrodAll en P w' 0 sp true ts vs ds ps :=
  trodAll_carry (DataW.TrodAll.respare (kids_rows hl hm) (slices_full_of P hf) (fun t ht => by have := List.all_eq_true.1 hts t ht; simpa using this) h hs) fun p hp => hk.sameAt (hlt p hp)
end again

/-! A law: it answers true, and leaves all as it was. -/
def lawCon (Ts : List Ty) : Con where
  D := ⟨[], parV Ts⟩
  A := ⟨[], .bool⟩
  pre := fun x => wfV (parV Ts) x.2
  spec := fun _ => .inl ((), true)

theorem law_calls {P : Program} {f : FuncId} {Ts : List Ty} (hC : ConOk P f (lawCon Ts)) {H : Type} {en : TypeId × Value → H} {w : World} {r : Reach} {b0 : Nat} {ts : List TypeId} {args : Array Value} {ds : List (DataW H)} {ps : List MemPlace}
    (ht : parsIn P ts Ts = true) (hv : ∀ (j : Nat) t v, ts[j]? = some t → args.toList[j]? = some v → Value.okWide P w r b0 t v) (hA : DataW.TrodAll en P w 0 (fun _ => true) true ts args.toList ds ps)
    (hG : GlobOk fun b o => w.cell? ⟨b, o, none⟩) : Calls P f args w fun e w' => e = .returned (.bool true) ∧ Kept w w' := by
  obtain ⟨x, hx, hr⟩ := read_args ht hv hA
  have hR : Rel ⟨fun _ => none, fun b o => w.cell? ⟨b, o, none⟩⟩ Heap.empty w := rel_empty w _ (fun _ _ _ h => h) hG
  refine (hC ((), x) hx _ w args hR (Dom.args_eq (lawCon Ts).D ((), x) ▸ hr _ _ _ fun b o c h => h)).mono ?_
  rintro e w' ⟨β', c, rfl, hR', hLe, hv⟩
  have hv : VRel 0 β' (.bool true true) c := hv
  have hLe : Le _ Heap.empty w β' _ w' := hLe
  rw [bool_of hv]
  exact ⟨rfl, kept_of_le (fun g cs e h => by simp [Heap.empty, Heap.row, Heap.get, Trie.get_leaf] at h) hLe⟩
theorem glob_none (h : globInts = []) {i : Nat → Nat → Option Value} : GlobOk i := fun g hg => by rw [h] at hg; simp at hg
end Go.Vx
