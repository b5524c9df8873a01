/- Each operation of the evaluator is the machine's: append, conversions. (A help: no statement of the seat is proved here.) -/
import Derived.Test.YtgmlklaehklmoaaVx7
set_option linter.unusedVariables false
set_option linter.unusedSimpArgs false
namespace Go.Vx
section mem
variable {P : Program} {o : Oper} {a : Act} {β : At} {H : Heap} {w : World} {m : Tm}

theorem row_read (hR : Rel β H w) {r : Ref} {n : Nat} {l : List AV} (h : rowAt H r n = some l) : ∃ b cs e ro, β r.g = some b ∧ H.row r.g = some (cs, e, ro) ∧ Lies H.n β w cs ro b ∧ r.i + n ≤ cs.length ∧ l = (cs.drop r.i).take n ∧
    ∃ vs : List Value, vs.length = n ∧ (∀ j v, vs[j]? = some v → w.cell? ((⟨b.blk, b.off + r.i, none⟩ : Addr).add j) = some v) ∧ VsRel H.n β l vs := by
  unfold rowAt at h
  split at h
  · rename_i cs e ro hget
    split at h
    · rename_i hle
      cases h
      obtain ⟨b, hb⟩ := hR.tot _ _ _ _ hget
      obtain ⟨cs', e', ro', hget', hl⟩ := hR.lies _ b hb
      rw [hget] at hget'
      cases hget'
      exact ⟨b, cs, e, ro, hb, hget, hl, hle, rfl, cells_read hl r.i n hle⟩
    · cases h
  · cases h

theorem bytes_rel {N : Nat} {t : Bool} {s : List UInt8} {b : ByteArray} (h : b.data.toList = s) : VsRel N β (bytesAV t s) (byteCells b) := by
  unfold bytesAV byteCells
  rw [h]
  induction s generalizing b with
  | nil => exact .nil
  | cons x s ih => exact .cons _ _ _ _ (.int _ _ _) (ih (b := ⟨s.toArray⟩) (by simp))

theorem lot_row {ob : AObj} {r : Ref} {n s : Nat} {L : Lot} (h : ob.srcAt r n s = some L) : ∃ cs e ro, ob.row = some (cs, e, ro) ∧ r.i + n * s ≤ cs.length ∧ L.list = (cs.drop r.i).take (n * s) := by
  unfold AObj.srcAt at h
  split at h
  · rename_i t l e ro
    split at h
    · rename_i hc
      obtain ⟨hz, ho, hs, hle⟩ := hc
      cases h
      have hi : r.i = r.e * t.z := by unfold Ref.i; rw [hz, ho, Nat.add_zero]
      refine ⟨_, _, _, rfl, ?_, ?_⟩
      · rw [encL_length, hi, hs, ← Nat.add_mul]; exact Nat.mul_le_mul_right _ hle
      · simp only [Lot.list]
        rw [encL_take, encL_drop, hi, hs]
    · cases h
  · rename_i t l e
    split at h
    · rename_i hc
      obtain ⟨hz, ho, hs, hle⟩ := hc
      cases h
      have hi : r.i = r.e * t.z := by unfold Ref.i; rw [hz, ho, Nat.add_zero]
      refine ⟨_, _, _, rfl, ?_, ?_⟩
      · rw [encL_length, hi, hs, ← Nat.add_mul]; exact Nat.mul_le_mul_right _ hle
      · simp only [Lot.list]
        rw [encL_take, encL_drop, hi, hs]
    · cases h
  · split at h
    · rename_i cs e ro hr
      split at h
      · rename_i hle; cases h; exact ⟨cs, e, ro, hr, hle, rfl⟩
      · cases h
    · cases h
theorem sliceSrc_row {r : Ref} {n s : Nat} {L : Lot} (h : sliceSrc H (some r) n s = some L) : rowAt H r (n * s) = some L.list := by
  simp only [sliceSrc] at h
  split at h
  · rename_i ob hob
    obtain ⟨cs, e, ro, hr, hle, hl⟩ := lot_row h
    have : H.row r.g = some (cs, e, ro) := by unfold Heap.row; rw [hob]; exact hr
    unfold rowAt
    rw [this, hl]
    simp only [if_pos hle]
  · cases h
theorem lot_ok {L : Lot} (h : L.ok = true) : L.list.all AV.cell = true := by
  cases L with
  | cells l => exact h
  | vec t l => exact encL_all t l
theorem join_row (a b : Lot) (e : TypeId) : ∃ L, (joinRow a b e).row = some (L, e, false) ∧ Like (a.list ++ b.list) L := by
  unfold joinRow
  split
  · rename_i t l t' l'
    split
    · rename_i ht; subst ht; exact ⟨_, rfl, by rw [encL_append]; exact Like.refl _⟩
    · exact ⟨_, rfl, Like.refl _⟩
  · split
    · rename_i h; exact ⟨_, rfl, by rw [encL_append]; exact (Like.refl _).append (decL_like h).1⟩
    · exact ⟨_, rfl, Like.refl _⟩
  · split
    · rename_i h; exact ⟨_, rfl, by rw [encL_append]; exact (decL_like h).1.append (Like.refl _)⟩
    · exact ⟨_, rfl, Like.refl _⟩
  · exact ⟨_, rfl, Like.refl _⟩
theorem encL_byte : ∀ s : List UInt8, encL .byte s = bytesAV true s
  | [] => rfl
  | b :: s => congrArg (AV.int true .u8 (b.toNat : Int) :: ·) (encL_byte s)
theorem strSrc_list (t : Bool) (s : List UInt8) : ∃ u, (strSrc t s).list = bytesAV u s := by
  cases t with
  | true => exact ⟨true, encL_byte s⟩
  | false => exact ⟨false, rfl⟩
theorem strSrc_ok (t : Bool) (s : List UInt8) : (strSrc t s).ok = true := by
  cases t with
  | true => rfl
  | false => simp [strSrc, Lot.ok, bytesAV, AV.cell]

/-- What is appended. -/
theorem src_sound (hR : Rel β H w) {x : AV} {c : Value} (hx : VRel H.n β x c) {sz : Nat} {new : Lot} {n : Nat} {tn : Bool} (h : srcCells H sz x = some (new, n, tn)) (hn : n ≠ 0) (hp : new.list.all AV.cell = true) {u : TypeId} (hu : kindOf P u = 3 ∨ kindOf P u = 7)
    (hk : (kindOf P u = 7 → ∃ t s, x = .str t s) ∧ (kindOf P u = 3 → (∃ t r q z, x = .slice t r q z) ∨ ∃ t l, x = .vec t l)) : ∃ news, Src P sz u c n news w ∧ VsRel H.n β new.list news := by
  obtain ⟨_, _, h3, _, _, _, h7⟩ := under_of_kind (P := P) (t := u)
  rcases hu with hu | hu
  · obtain ⟨e', he⟩ := h3 hu
    rcases hk.2 hu with ⟨tt, r, q, z, rfl⟩ | ⟨tt, l, rfl⟩
    · cases hx with
      | snil => simp only [srcCells] at h; cases h; exact absurd rfl hn
      | slice _ r _ _ cap a hg hle hsm hb =>
        simp only [srcCells] at h
        split at h
        · rename_i e
          subst e
          cases hr0 : sliceSrc H (some r) q z with
          | none => rw [hr0] at h; cases h
          | some l =>
            rw [hr0] at h
            cases h
            have hr := sliceSrc_row hr0
            obtain ⟨b, cs, t, ro, hbg, hget, hl, hle', hll, vs, hlen, hc, hv⟩ := row_read hR hr
            obtain ⟨h1, h2⟩ := hb b hbg
            have hbn : b.nil = false := by
              cases e : b.nil with
              | false => rfl
              | true => have := h1 e; omega
            rw [(h2 hbn).1 (by omega)]
            exact ⟨vs, Src.ofSlice w he _ _ _ vs hlen hc (one_of_plain hv hp), hv⟩
        · cases h
    · cases hx with
      | vec _ _ cap a b o cs hle ha h1 h2 =>
        simp only [srcCells] at h
        split at h
        · rename_i e
          subst e
          cases h
          obtain ⟨vs, hlen, hcv, hr⟩ := imm_read hR h1 h2 0 (encL tt l).length (by omega)
          rw [List.drop_zero, List.take_length] at hr
          rw [ha.1 (by omega)]
          rw [encL_length] at hlen
          exact ⟨vs, Src.ofSlice w he _ _ _ vs hlen (by simpa using hcv) (one_of_plain hr hp), hr⟩
        · cases h
  · obtain ⟨tt, s, rfl⟩ := hk.1 hu
    obtain ⟨b, rfl, hb⟩ := str_of hx
    simp only [srcCells] at h
    split at h
    · rename_i e
      subst e
      cases h
      obtain ⟨uu, hs⟩ := strSrc_list tn s
      refine ⟨byteCells b, ?_, by rw [hs]; exact bytes_rel hb⟩
      have := Src.ofString (P := P) w (h7 hu) b
      rw [slen hb] at this
      exact this
    · cases h

theorem append_zero (t u ty e : TypeId) (i : TypeInfo) (ht : P.underlying t = some (.slice e)) (hi : P.info? e = some i) (hu : (∃ e', P.underlying u = some (.slice e')) ∨ P.underlying u = some .string) (base : Option Addr) (k c : Nat) (hc : k ≤ c) (x : Value)
    (hx : (∃ b cap, x = .slice b 0 cap) ∨ ∃ s : ByteArray, x = .string s ∧ s.size = 0) (w : World) : (Builtin.append_ #[t, u] ty #[.slice base k c, x]).run P w = .ok (.slice base k c) w := by
  have hf : (Builtin.lenOf x).run P w = .ok 0 w ∧ (Builtin.firstCells i.size 0 x).run P w = .ok #[] w := by
    rcases hx with ⟨b, cap, rfl⟩ | ⟨s, rfl, hs⟩
    · refine ⟨by simp [Builtin.lenOf], ?_⟩
      cases b with
      | none => simp [Builtin.firstCells]
      | some b => simp [Builtin.firstCells, loadCells, loadCellsFrom]
    · refine ⟨by simp [Builtin.lenOf, hs], ?_⟩
      simp [Builtin.firstCells]
  rcases hu with ⟨e', hu⟩ | hu <;> cases base <;>
    simp [Builtin.append_, run_underlying ht, run_underlying hu, sizeOf, typeInfo, hi, hf.1, hf.2, hc, storeCells]

theorem grownCap_le (w : World) (need old : Nat) (e : TypeId) : need ≤ grownCap w need old e := by
  simp only [grownCap, Question.cut]
  omega

theorem zeroCells_size (z : Array Value) (n : Nat) : (Builtin.zeroCells z n).size = n * z.size := by simp [Builtin.zeroCells]

theorem append_sound (hR : Rel β H w) {t u ty : TypeId} {s x v : AV} {cs cx : Value} (hs : VRel H.n β s cs) (hx : VRel H.n β x cx) (hu : kindOf P u = 3 ∨ kindOf P u = 7) {H' : Heap} (h : appendA P t s x H = some (v, H'))
    (hk : (kindOf P u = 7 → ∃ tt q, x = .str tt q) ∧ (kindOf P u = 3 → (∃ tt r q z, x = .slice tt r q z) ∨ ∃ t l, x = .vec t l)) :
    ∃ β' w' c, Rel β' H' w' ∧ Le β H w β' H' w' ∧ (Builtin.append_ #[t, u] ty #[cs, cx]).run P w = .ok c w' ∧ VRel H'.n β' v c := by
  have hkind : (∃ e', P.underlying u = some (.slice e')) ∨ P.underlying u = some .string := by
    obtain ⟨_, _, h3, _, _, _, h7⟩ := under_of_kind (P := P) (t := u)
    rcases hu with hu | hu
    · exact .inl (h3 hu)
    · exact .inr (h7 hu)
  unfold appendA at h
  split at h
  · cases h
  · rename_i e he
    have ht := elem_of he
    split at h
    · rename_i sz by_ ze hsz hby hze
      split at h
      · cases h
      · rename_i hpos
        split at h
        · cases h
        · rename_i new n tn hsrc
          unfold size? at hsz
          unfold bytes? at hby
          unfold zero? at hze
          cases hi : P.info? e with
          | none => rw [hi] at hsz; cases hsz
          | some i =>
            rw [hi] at hsz hby hze
            simp only [Option.map_some, Option.some.injEq, Option.bind_some] at hsz hby hze
            cases hzz : i.zero with
            | none => rw [hzz] at hze; cases hze
            | some zc =>
              rw [hzz] at hze
              have hzv : VRel H.n β ze zc := ofConst_sound hze
              have hzl := hzv.cells.length
              simp only [Array.length_toList] at hzl
              have hx00 : n = 0 → (∃ b cap, cx = .slice b 0 cap) ∨ ∃ s : ByteArray, cx = .string s ∧ s.size = 0 := by
                intro h0
                subst h0
                cases hx with
                | snil => exact .inl ⟨_, 0, rfl⟩
                | slice _ r' q' z' cap ad hg hle hsm hb =>
                  simp only [srcCells] at hsrc
                  split at hsrc
                  · cases hr : sliceSrc H (some r') q' sz with
                    | none => rw [hr] at hsrc; cases hsrc
                    | some l => rw [hr] at hsrc; simp only [Option.map_some, Option.some.injEq, Prod.mk.injEq] at hsrc; obtain ⟨_, rfl, _⟩ := hsrc; exact .inl ⟨_, _, rfl⟩
                  · cases hsrc
                | vec tt l' cap a b o cs hle ha h1 h2 =>
                  simp only [srcCells] at hsrc
                  split at hsrc
                  · simp only [Option.some.injEq, Prod.mk.injEq] at hsrc
                    rw [hsrc.2.1]
                    exact .inl ⟨_, _, rfl⟩
                  · cases hsrc
                | eptr => cases hsrc
                | str _ q b hb =>
                  simp only [srcCells] at hsrc
                  split at hsrc
                  · simp only [Option.some.injEq, Prod.mk.injEq] at hsrc
                    exact .inr ⟨b, rfl, by rw [slen hb]; exact hsrc.2.1⟩
                  · cases hsrc
                | bool => cases hsrc
                | int => cases hsrc
                | pnil => cases hsrc
                | ptr => cases hsrc
                | mnil => cases hsrc
                | func => cases hsrc
                | nilFunc => cases hsrc
                | nilIface => cases hsrc
                | agg => cases hsrc
                | tup => cases hsrc
              split at h
              · rename_i h00
                obtain ⟨h0, _⟩ := h00
                split at h
                · rename_i ts r q z
                  split at h
                  · cases h
                    have hx0 := hx00 h0
                    refine ⟨β, w, cs, hR, Le.refl _ _ _, ?_, hs⟩
                    cases hs with
                    | snil => exact append_zero t u ty e i ht hi hkind _ 0 0 (Nat.le_refl _) cx hx0 w
                    | slice _ _ _ _ cap ad hg hle hsm hb => exact append_zero t u ty e i ht hi hkind _ _ _ hle cx hx0 w
                  · cases h
                · cases h
              · rename_i hn0
                have hnl0 : n = 0 → new.list.length = 0 := by
                  intro h0
                  subst h0
                  unfold srcCells at hsrc
                  split at hsrc
                  · cases hsrc; rfl
                  · rename_i r' q' z'
                    split at hsrc
                    · cases hr : sliceSrc H (some r') q' sz with
                      | none => rw [hr] at hsrc; cases hsrc
                      | some l =>
                        rw [hr] at hsrc
                        simp only [Option.map_some, Option.some.injEq, Prod.mk.injEq] at hsrc
                        obtain ⟨rfl, rfl, _⟩ := hsrc
                        obtain ⟨_, _, _, _, _, _, _, _, hll, _⟩ := row_read hR (sliceSrc_row hr)
                        rw [hll]; simp
                    · cases hsrc
                  · split at hsrc
                    · simp only [Option.some.injEq, Prod.mk.injEq] at hsrc
                      obtain ⟨rfl, h2, _⟩ := hsrc
                      simp only [Lot.list, encL_length, h2, Nat.zero_mul]
                    · cases hsrc
                  · rename_i s'
                    split at hsrc
                    · simp only [Option.some.injEq, Prod.mk.injEq] at hsrc
                      obtain ⟨rfl, h2, _⟩ := hsrc
                      obtain ⟨uu, hsl⟩ := strSrc_list tn s'
                      rename_i tt _ _
                      obtain ⟨uu, hsl⟩ := strSrc_list tt s'
                      rw [hsl]
                      simp [bytesAV, h2]
                    · cases hsrc
                  · cases hsrc
                split at h
                · -- a nil slice
                  rename_i ts q z
                  split at h
                  · rename_i hc
                    cases h
                    have hok := lot_ok hc.2
                    by_cases hn : n = 0
                    · -- and nothing behind it
                      have hnl := hnl0 hn
                      obtain ⟨L, hrow, hlike⟩ := join_row (.cells []) new e
                      have hL0 : L = [] := by
                        have := hlike.1
                        rw [show (Lot.cells []).list = [] from rfl, List.nil_append, hnl] at this
                        exact List.length_eq_zero_iff.1 this
                      subst hL0
                      cases hs with
                      | snil _ _ a0 =>
                        have hrun := append_zero t u ty e i ht hi hkind a0 0 0 (Nat.le_refl _) cx (hx00 hn) w
                        have hb0 : Base := ⟨w.heap.size, 0, 0, true⟩
                        have hRel := hR.push (w' := w) ⟨w.heap.size, 0, 0, true⟩ hrow (fun g b' hb hn' => by have := hR.blk_lt hb hn'; simp; omega) (fun p c hc => by have := hR.imm_lt hc; simp at this) (fun _ _ _ => rfl)
                          ⟨fun j v hv => (by simp at hv), fun j v hv => (by simp at hv), (by simp), fun _ => rfl, fun _ _ => rfl, fun h => (by cases h), fun _ h => (by cases h)⟩
                        have hLe := Le.alloc (w' := w) hR rfl rfl rfl (Nat.le_refl _) (fun _ _ => rfl) ⟨w.heap.size, 0, 0, true⟩ (Nat.le_refl _) (joinRow (.cells []) new e)
                        refine ⟨_, _, _, hRel, hLe, hrun, ?_⟩
                        rw [hn]
                        refine .slice _ _ _ _ _ _ (by simp) (Nat.le_refl _) (fun _ => rfl) fun b hb => ?_
                        rw [put_same] at hb
                        cases hb
                        exact ⟨fun _ => ⟨rfl, fun _ => rfl⟩, fun h => by cases h⟩
                    obtain ⟨news, hS, hv⟩ := src_sound hR hx hsrc hn hok hu hk
                    obtain ⟨L, hrow, hlike⟩ := join_row (.cells []) new e
                    rw [← hsz] at hS
                    cases hs with
                    | snil _ _ a0 =>
                      have hb1 : 1 ≤ by_ := by omega
                      have hn47 : n ≤ 140737488355328 := Nat.le_trans (Nat.le_mul_of_pos_right n hb1) hc.1
                      have hrun := run_append_grow_src (P := P) w t u ty e i zc ht hi hzz a0 0 0 [] (by cases a0 <;> simp [Builtin.firstCells, loadCells, loadCellsFrom]) cx n news hS (by omega) (by omega) (by
                        have := growslice_fits (need := 0 + n) (old := 0) (bytes := i.bytes) (by omega) (by rw [hby]; simpa using hc.1)
                        exact this)
                      have hlen := hv.length
                      have hcap := grownCap_le w (0 + n) 0 e
                      generalize hC : (([] ++ news).toArray ++ Builtin.zeroCells zc.cells (grownCap w (0 + n) 0 e - (0 + n))) = C at hrun
                      have hCl : C.toList = news ++ (Builtin.zeroCells zc.cells (grownCap w (0 + n) 0 e - (0 + n))).toList := by rw [← hC]; simp
                      have hCs : C.size = n * sz + (grownCap w (0 + n) 0 e - (0 + n)) * sz := by
                        have : C.size = C.toList.length := by simp
                        rw [this, hCl, List.length_append, hS.newsLen, Array.length_toList, zeroCells_size, ← hzl, hsz]
                        have : ze.cells.length = sz := by omega
                        rw [this]
                      have htk : VsRel H.n β new.list (C.toList.take new.list.length) := by rw [hCl, List.take_append_of_le_length (by omega), List.take_of_length_le (by omega)]; exact hv
                      have hlike' : Like new.list L := by simpa [Lot.list] using hlike
                      obtain ⟨hr, hle⟩ := new_row hR (.inr rfl) (e := e) hrow (by rw [hlike'.1]; exact hlike'.2.2 _ _ _ htk) (hlike'.2.1 hok) (by
                        rw [hlike'.1]
                        have : C.size = C.toList.length := by simp
                        rw [this, hCl, List.length_append]; omega)
                      refine ⟨_, _, _, hr, hle, hrun, ?_⟩
                      rw [Nat.zero_add]
                      refine slice_new (by simpa using hcap) ?_
                      rw [hCs, ← Nat.add_mul]
                      simp only [Nat.zero_add] at hcap ⊢
                      exact Nat.mul_le_mul_right _ (by omega)
                  · cases h
                · rename_i ts r q z
                  split at h
                  · rename_i hzs
                    subst hzs
                    split at h
                    · rename_i cs0 e0 old hget hold0
                      have hold := sliceSrc_row hold0
                      split at h
                      · rename_i hc
                        cases h
                        have hok := lot_ok hc.2
                        by_cases hn : n = 0
                        · -- nothing behind it
                          have hnl := hnl0 hn
                          obtain ⟨L, hrow, hlike⟩ := join_row old new e
                          obtain ⟨b, cs1, e1, ro1, hbg, hget1, hl, hle1, hold1, vs, hvl, hvc, hvr⟩ := row_read hR hold
                          rw [hget] at hget1
                          cases hget1
                          have hg : r.g < H.n := hR.row_lt hget
                          have hnew : new.list = [] := List.length_eq_zero_iff.1 hnl
                          rw [hnew, List.append_nil] at hlike
                          have holdl : old.list.length = q * z := by rw [hvr.length, hvl]
                          have hplain : old.list.all AV.cell = true := by
                            rw [hold1]
                            exact List.all_eq_true.2 fun y hy => by
                              obtain ⟨k, hk⟩ := List.mem_iff_getElem?.1 (List.mem_of_mem_drop (List.mem_of_mem_take hy))
                              exact hl.plain k y hk
                          cases hs with
                          | slice _ _ _ _ cap a0 hg' hle hsm hb =>
                            obtain ⟨hnl', hat0⟩ := hb b hbg
                            have hrun := append_zero t u ty e i ht hi hkind a0 q cap hle cx (hx00 hn) w
                            have hkill := hR.kill hg
                            cases hbn : b.nil with
                            | true =>
                              have hcap0 := (hnl' hbn).2 (hl.nr rfl hbn)
                              have hq0 : q = 0 := by omega
                              have hL0 : L = [] := by
                                have := hlike.1
                                rw [holdl, hq0, Nat.zero_mul] at this
                                exact List.length_eq_zero_iff.1 this
                              subst hL0
                              have hRel := hkill.push (w' := w) ⟨w.heap.size, 0, 0, true⟩ hrow (fun g b' hb hn' => by have := hkill.blk_lt hb hn'; simp; omega) (fun p c hc => by have := hR.imm_lt hc; simp at this) (fun _ _ _ => rfl)
                                ⟨fun j v hv => (by simp at hv), fun j v hv => (by simp at hv), (by simp), fun _ => rfl, fun _ _ => rfl, fun h => (by cases h), fun _ h => (by cases h)⟩
                              have hLe := Le.take (w' := w) (b' := ⟨w.heap.size, 0, 0, true⟩) hR (joinRow old new e) hbg hget (.inr (Nat.le_refl _)) rfl rfl rfl (Nat.le_refl _) (fun _ _ _ => rfl)
                              refine ⟨_, _, _, hRel, hLe, hrun, ?_⟩
                              rw [hn, Nat.add_zero]
                              refine .slice _ _ _ _ _ _ (by simp) hle hsm fun b2 hb2 => ?_
                              simp only [Heap.n_set] at hb2
                              rw [put_same] at hb2
                              cases hb2
                              exact ⟨fun _ => ⟨hq0, fun _ => hcap0⟩, fun h => by cases h⟩
                            | false =>
                              obtain ⟨had, hroom⟩ := hat0 hbn
                              have hqz : q * z ≤ cap * z := Nat.mul_le_mul_right _ hle
                              have hKeep : Keeps H.n β (put (put β r.g none) H.n (some ⟨b.blk, b.off + r.i, cap * z, false⟩)) := (Keeps.kill _ _ _).trans (Keeps.new _ _ _) (Nat.le_refl _)
                              have hL : Lies (H.n + 1) (put (put β r.g none) H.n (some ⟨b.blk, b.off + r.i, cap * z, false⟩)) w old.list false ⟨b.blk, b.off + r.i, cap * z, false⟩ := by
                                constructor
                                · intro k y hy
                                  obtain ⟨c, hc1, hr1⟩ := hvr.at k y hy
                                  have hcell := hvc k c hc1
                                  rw [place_add] at hcell
                                  exact ⟨c, by rw [Nat.add_assoc]; exact hcell, hr1.mono (by omega) hKeep⟩
                                · exact fun k y hy => List.all_eq_true.1 hplain y (List.mem_of_getElem? hy)
                                · rw [holdl]; exact hqz
                                · intro hn; cases hn
                                · intro _ hn; cases hn
                                · intro _; exact hl.blk hbn
                                · intro _ _
                                  obtain ⟨⟨C, eC, fr, hC, hsC⟩, hf⟩ := hl.free rfl hbn
                                  exact ⟨⟨C, eC, fr, hC, by simp only; omega⟩, fun k hk' => by
                                    have := hf (r.i + k) (by simp only at hk'; omega)
                                    rwa [← Nat.add_assoc] at this⟩
                              have hmut : Mut β H b.blk := ⟨r.g, b, _, _, hbg, hget, hbn, rfl⟩
                              have hRel := hkill.push (w' := w) ⟨b.blk, b.off + r.i, cap * z, false⟩ hrow (fun g' b2 hb2 hn2 => by
                                by_cases e' : g' = r.g
                                · subst e'; rw [put_same] at hb2; cases hb2
                                · rw [put_ne _ _ _ _ e'] at hb2
                                  exact (hR.apart r.g g' b b2 _ _ (Ne.symm e') hbg hb2 hget hbn hn2).symm) (fun p c hc => hR.immm _ _ _ hc hmut) (fun _ _ _ => rfl) (by simpa using hL.like hlike)
                              have hLe := Le.take (w' := w) (b' := ⟨b.blk, b.off + r.i, cap * z, false⟩) hR (joinRow old new e) hbg hget (.inl ⟨hbn, rfl⟩) rfl rfl rfl (Nat.le_refl _) (fun _ _ _ => rfl)
                              refine ⟨_, _, _, hRel, hLe, hrun, ?_⟩
                              rw [hn, Nat.add_zero]
                              refine .slice _ _ _ _ _ _ (by simp) hle hsm fun b2 hb2 => ?_
                              simp only [Heap.n_set] at hb2
                              rw [put_same] at hb2
                              cases hb2
                              exact ⟨fun hn => (by cases hn), fun _ => ⟨fun hc => by simpa [Ref.i] using had hc, by simp [Ref.i]⟩⟩
                        obtain ⟨news, hS, hv⟩ := src_sound hR hx hsrc hn hok hu hk
                        obtain ⟨L, hrow, hlike⟩ := join_row old new e
                        obtain ⟨b, cs1, e1, ro1, hbg, hget1, hl, hle1, hold1, vs, hvl, hvc, hvr⟩ := row_read hR hold
                        rw [hget] at hget1
                        cases hget1
                        have hb1 : 1 ≤ by_ := by omega
                        have hn47 : q + n ≤ 140737488355328 := Nat.le_trans (Nat.le_mul_of_pos_right (q + n) hb1) hc.1
                        have hlen := hv.length
                        have hS' := hS.newsLen
                        have hplain : (old.list ++ new.list).all AV.cell = true := by
                          rw [List.all_append, hok, Bool.and_true, hold1]
                          exact List.all_eq_true.2 fun y hy => by
                            obtain ⟨k, hk⟩ := List.mem_iff_getElem?.1 (List.mem_of_mem_drop (List.mem_of_mem_take hy))
                            exact hl.plain k y hk
                        have holdl : old.list.length = q * z := by rw [hvr.length, hvl]
                        have hg : r.g < H.n := hR.row_lt hget
                        cases hs with
                        | slice _ _ _ _ cap a0 hg' hle hsm hb =>
                          obtain ⟨hnl, hat0⟩ := hb b hbg
                          by_cases hfit : q + n ≤ cap
                          · -- there is room
                            have hbn : b.nil = false := by
                              cases e : b.nil with
                              | false => rfl
                              | true => have := hnl e; have := this.2 (hl.nr rfl e); omega
                            obtain ⟨had, hroom⟩ := hat0 hbn
                            have had := had (by omega)
                            subst had
                            have hfree := hl.free rfl hbn
                            have hmul : (q + n) * z ≤ cap * z := Nat.mul_le_mul_right _ hfit
                            rw [Nat.add_mul] at hmul
                            rw [← hsz] at hS
                            have hrun := run_append_room_src (P := P) w t u ty e i ht hi b.blk (b.off + r.i) q cap cx n news hS hfit
                              (fun k hk' => by
                                have := hfree.there (j := r.i + q * z + k) (by omega)
                                rw [hsz]
                                rwa [show b.off + (r.i + q * z + k) = b.off + r.i + q * z + k from by omega] at this)
                              (fun k hk' => by
                                have := hfree.2 (r.i + q * z + k) (by omega)
                                rw [hsz]
                                rwa [show b.off + (r.i + q * z + k) = b.off + r.i + q * z + k from by omega] at this)
                            rw [hsz] at hrun
                            have hkill := hR.kill hg
                            let b' : Base := ⟨b.blk, b.off + r.i, cap * z, false⟩
                            have hsame : ∀ k, k ≠ b.blk → (w.setCells b.blk (b.off + r.i + q * z) news).heap[k]? = w.heap[k]? := fun k hk' => heap_setCells _ _ _ _ hk'
                            have hF : Free (w.setCells b.blk (b.off + r.i + q * z) news) b' := by
                              obtain ⟨⟨C, eC, fr, hC, hsC⟩, hf⟩ := hfree.setCells (b.off + r.i + q * z) news
                              exact ⟨⟨C, eC, fr, hC, by simp only [b']; omega⟩, fun k hk' => by
                                have := hf (r.i + k) (by simp only [b'] at hk'; omega)
                                rwa [show b.off + (r.i + k) = b'.off + k from by simp only [b']; omega] at this⟩
                            have hKeep : Keeps H.n β (put (put β r.g none) H.n (some b')) := (Keeps.kill _ _ _).trans (Keeps.new _ _ _) (Nat.le_refl _)
                            have hL : Lies (H.n + 1) (put (put β r.g none) H.n (some b')) (w.setCells b.blk (b.off + r.i + q * z) news) (old.list ++ new.list) false b' := by
                              constructor
                              · intro k y hy
                                by_cases hk1 : k < q * z
                                · rw [List.getElem?_append_left (by omega)] at hy
                                  obtain ⟨c, hc1, hr1⟩ := hvr.at k y hy
                                  have hcell := hvc k c hc1
                                  rw [place_add] at hcell
                                  refine ⟨c, ?_, hr1.mono (by omega) hKeep⟩
                                  rw [World.cell?_setCells_out _ _ _ _ _ (fun _ _ => .inl (by simp only [b']; omega))]
                                  rwa [show b.off + (r.i + k) = b'.off + k from by simp only [b']; omega] at hcell
                                · rw [List.getElem?_append_right (by omega), holdl] at hy
                                  obtain ⟨c, hc1, hr1⟩ := hv.at (k - q * z) y hy
                                  have hlt : k - q * z < news.length := (List.getElem?_eq_some_iff.1 hc1).1
                                  refine ⟨c, ?_, hr1.mono (by omega) hKeep⟩
                                  have := World.cell?_setCells_in b.blk news (b.off + r.i + q * z) w (fun k' hk' => by
                                    have := hfree.there (j := r.i + q * z + k') (by omega)
                                    rwa [show b.off + (r.i + q * z + k') = b.off + r.i + q * z + k' from by omega] at this) (k - q * z) hlt
                                  rw [List.getElem?_eq_getElem hlt] at hc1
                                  rw [show b'.off + k = b.off + r.i + q * z + (k - q * z) from by simp only [b']; omega]
                                  rw [this]
                                  exact hc1
                              · exact fun k y hy => List.all_eq_true.1 hplain y (List.mem_of_getElem? hy)
                              · rw [List.length_append, holdl]; simp only [b']; omega
                              · intro hn; simp [b'] at hn
                              · intro _ hn; simp [b'] at hn
                              · intro _; rw [size_setCells]; exact hl.blk hbn
                              · exact fun _ _ => hF
                            have hmut : Mut β H b.blk := ⟨r.g, b, _, _, hbg, hget, hbn, rfl⟩
                            have hRel := hkill.push (w' := w.setCells b.blk (b.off + r.i + q * z) news) b' hrow (fun g' b2 hb2 hn2 => by
                                by_cases e' : g' = r.g
                                · subst e'; rw [put_same] at hb2; cases hb2
                                · rw [put_ne _ _ _ _ e'] at hb2
                                  exact (hR.apart r.g g' b b2 _ _ (Ne.symm e') hbg hb2 hget hbn hn2).symm) (fun p c hc => hR.immm _ _ _ hc hmut) (fun k _ hk' => hsame k hk') (by simpa using hL.like hlike)
                            have hLe := Le.take (b' := b') hR (joinRow old new e) hbg hget (.inl ⟨hbn, rfl⟩) (World.os_setCells w b.blk (b.off + r.i + q * z) news) (tape_setCells _ _ _) (World.output_setCells ..) (by rw [size_setCells]; exact Nat.le_refl _) (fun k _ hk' => hsame k (hk' hbn))
                            refine ⟨_, _, _, hRel, hLe, hrun, ?_⟩
                            refine .slice _ _ _ _ _ _ (by simp) (by omega) (by simp) fun b2 hb2 => ?_
                            simp only [Heap.n_set] at hb2
                            rw [put_same] at hb2
                            cases hb2
                            exact ⟨fun hn => by simp [b'] at hn, fun _ => ⟨fun _ => by simp [b', Ref.i], by simp [b', Ref.i]⟩⟩
                          · -- it grows
                            rw [← hsz] at hS
                            have hholdC : (Builtin.firstCells i.size q (.slice a0 q cap)).run P w.drew = .ok vs.toArray w.drew := by
                              rw [hsz]
                              by_cases hq : 0 < cap
                              · have hbn : b.nil = false := by
                                  cases e : b.nil with
                                  | false => rfl
                                  | true => have := hnl e; have := this.2 (hl.nr rfl e); omega
                                have had := (hat0 hbn).1 hq
                                subst had
                                exact run_firstCells_some (P := P) w.drew z q _ q cap vs hvl (by simpa using hvc)
                              · have hq0 : q = 0 := by omega
                                subst hq0
                                have : vs = [] := List.eq_nil_of_length_eq_zero (by omega)
                                subst this
                                cases a0 <;> simp [Builtin.firstCells, loadCells, loadCellsFrom]
                            have hrun := run_append_grow_src (P := P) w t u ty e i zc ht hi hzz a0 q cap vs hholdC cx n news hS (by omega) (by omega) (growslice_fits (by omega) (by rw [hby]; exact hc.1))
                            have hcap := grownCap_le w (q + n) cap e
                            generalize hC : ((vs ++ news).toArray ++ Builtin.zeroCells zc.cells (grownCap w (q + n) cap e - (q + n))) = C at hrun
                            have hCl : C.toList = (vs ++ news) ++ (Builtin.zeroCells zc.cells (grownCap w (q + n) cap e - (q + n))).toList := by rw [← hC]; simp
                            have hCs : C.size = (q + n) * z + (grownCap w (q + n) cap e - (q + n)) * z := by
                              have e1 : C.size = C.toList.length := by simp
                              have e2 : ze.cells.length = z := by omega
                              rw [e1, hCl, List.length_append, List.length_append, hvl, hS', Array.length_toList, zeroCells_size, ← hzl, e2, ← Nat.add_mul]
                            have hvv := hvr.append hv
                            have hvvl := hvv.length
                            have htk : VsRel H.n β (old.list ++ new.list) (C.toList.take (old.list ++ new.list).length) := by rw [hCl, List.take_append_of_le_length (by omega), List.take_of_length_le (by omega)]; exact hvv
                            have hkill := hR.kill hg
                            have hat : (w.drew.alloc (.cells C e)).heap[w.heap.size]? = some (.cells C e) := heap_alloc_at w.drew _
                            have hlt : ∀ k, k < w.heap.size → (w.drew.alloc (.cells C e)).heap[k]? = w.heap[k]? := fun k hk' => heap_alloc_lt w.drew _ k hk'
                            have hKeep : Keeps H.n β (put (put β r.g none) H.n (some ⟨w.heap.size, 0, C.size, false⟩)) := (Keeps.kill _ _ _).trans (Keeps.new _ _ _) (Nat.le_refl _)
                            have hRel := hkill.push (w' := w.drew.alloc (.cells C e)) ⟨w.heap.size, 0, C.size, false⟩ hrow (fun g' b2 hb2 hn2 => by
                                have := hkill.blk_lt hb2 hn2; simp; omega) (fun p c hc => by have := hR.imm_lt hc; simp at this) (fun k hk' _ => hlt k hk') (by
                                have := Lies.new (N := H.n + 1) (β := put (put β r.g none) H.n (some ⟨w.heap.size, 0, C.size, false⟩)) (w' := w.drew.alloc (.cells C e)) (htk.mono (by omega) hKeep) hplain (by
                                  have e1 : C.size = C.toList.length := by simp
                                  have e2 := congrArg List.length hCl
                                  simp only [List.length_append] at e2 hvvl
                                  simp only [List.length_append]
                                  omega) w.heap.size hat (by simp)
                                simpa using this.like hlike)
                            have hLe := Le.take (w' := w.drew.alloc (.cells C e)) (b' := ⟨w.heap.size, 0, C.size, false⟩) hR (joinRow old new e) hbg hget (.inr (Nat.le_refl _)) rfl rfl rfl (by simp) (fun k hk' _ => hlt k hk')
                            refine ⟨_, _, _, hRel, hLe, hrun, ?_⟩
                            refine .slice _ _ _ _ _ _ (by simp) (by omega) (by simp) fun b2 hb2 => ?_
                            simp only [Heap.n_set] at hb2
                            rw [put_same] at hb2
                            cases hb2
                            refine ⟨fun hn => (by cases hn), fun _ => ⟨fun _ => by simp [Ref.i], ?_⟩⟩
                            simp only [Ref.i, Nat.zero_mul, Nat.zero_add]
                            rw [hCs, ← Nat.add_mul]
                            exact Nat.mul_le_mul_right _ (by omega)
                      · cases h
                    · cases h
                  · cases h
                · cases h
    · cases h
end mem
end Go.Vx
