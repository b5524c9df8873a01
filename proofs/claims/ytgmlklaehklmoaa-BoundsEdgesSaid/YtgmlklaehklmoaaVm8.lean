/- Each operation of the evaluator is the machine's: append, conversions. (A help: no statement of the seat is proved here.) -/
import Derived.Test.YtgmlklaehklmoaaVm7
set_option linter.unusedVariables false
set_option linter.unusedSimpArgs false
namespace Go.Vm
section mem
variable {P : Program} {o : Oper} {a : Act} {β : At} {H : Heap} {w : World} {m : Tm}

theorem row_read (hR : Rel β H w) {r : Ref} {n : Nat} {l : List AV} (h : rowAt H r n = some l) : ∃ b cs e ro, β r.g = some b ∧ H.get r.g = some (.cells cs e ro) ∧ Lies H.n β w cs ro b ∧ r.i + n ≤ cs.length ∧ l = (cs.drop r.i).take n ∧
    ∃ vs : List Value, vs.length = n ∧ (∀ j v, vs[j]? = some v → w.cell? ((⟨b.blk, b.off + r.i, none⟩ : Addr).add j) = some v) ∧ VsRel H.n β l vs := by
  unfold rowAt at h
  split at h
  · rename_i cs e ro hget
    split at h
    · rename_i hle
      cases h
      obtain ⟨b, hb⟩ := hR.tot _ _ _ _ hget
      obtain ⟨cs', e', ro', hget', hl⟩ := hR.lies _ b hb
      rw [hget] at hget'
      cases hget'
      exact ⟨b, cs, e, ro, hb, hget, hl, hle, rfl, cells_read hl r.i n hle⟩
    · cases h
  · cases h

theorem bytes_rel {N : Nat} {s : List UInt8} {b : ByteArray} (h : b.data.toList = s) : VsRel N β (bytesAV s) (byteCells b) := by
  unfold bytesAV byteCells
  rw [h]
  induction s generalizing b with
  | nil => exact .nil
  | cons x s ih => exact .cons _ _ _ _ (.int _ _) (ih (b := ⟨s.toArray⟩) (by simp))

/-- What is appended. -/
theorem src_sound (hR : Rel β H w) {x : AV} {c : Value} (hx : VRel H.n β x c) {sz : Nat} {new : List AV} {n : Nat} (h : srcCells H sz x = some (new, n)) (hn : n ≠ 0) (hp : new.all AV.cell = true) {u : TypeId} (hu : kindOf P u = 3 ∨ kindOf P u = 7)
    (hk : (kindOf P u = 7 → ∃ s, x = .str s) ∧ (kindOf P u = 3 → ∃ r q z, x = .slice r q z)) : ∃ news, Src P sz u c n news w ∧ VsRel H.n β new news := by
  obtain ⟨_, _, h3, _, _, _, h7⟩ := under_of_kind (P := P) (t := u)
  rcases hu with hu | hu
  · obtain ⟨e', he⟩ := h3 hu
    obtain ⟨r, q, z, rfl⟩ := hk.2 hu
    cases hx with
    | snil => simp only [srcCells] at h; cases h; exact absurd rfl hn
    | slice g i _ _ cap ad hg hle hb =>
      simp only [srcCells] at h
      split at h
      · rename_i e
        subst e
        cases hr : rowAt H ⟨g, i⟩ (q * z) with
        | none => rw [hr] at h; cases h
        | some l =>
          rw [hr] at h
          cases h
          obtain ⟨b, cs, t, ro, hbg, hget, hl, hle', rfl, vs, hlen, hc, hv⟩ := row_read hR hr
          have had := (hb b hbg).1 (by omega)
          subst had
          exact ⟨vs, Src.ofSlice w he _ _ _ vs hlen hc (one_of_plain hv hp), hv⟩
      · cases h
  · obtain ⟨s, rfl⟩ := hk.1 hu
    obtain ⟨b, rfl, hb⟩ := str_of hx
    simp only [srcCells] at h
    split at h
    · rename_i e
      subst e
      cases h
      refine ⟨byteCells b, ?_, bytes_rel hb⟩
      have := Src.ofString (P := P) w (h7 hu) b
      rw [slen hb] at this
      exact this
    · cases h

theorem append_zero (t u ty e : TypeId) (i : TypeInfo) (ht : P.underlying t = some (.slice e)) (hi : P.info? e = some i) (hu : (∃ e', P.underlying u = some (.slice e')) ∨ P.underlying u = some .string) (base : Option Addr) (k c : Nat) (hc : k ≤ c) (x : Value)
    (hx : (∃ b cap, x = .slice b 0 cap) ∨ ∃ s : ByteArray, x = .string s ∧ s.size = 0) (w : World) : (Builtin.append_ #[t, u] ty #[.slice base k c, x]).run P w = .ok (.slice base k c) w := by
  have hf : (Builtin.lenOf x).run P w = .ok 0 w ∧ (Builtin.firstCells i.size 0 x).run P w = .ok #[] w := by
    rcases hx with ⟨b, cap, rfl⟩ | ⟨s, rfl, hs⟩
    · refine ⟨by simp [Builtin.lenOf], ?_⟩
      cases b with
      | none => simp [Builtin.firstCells]
      | some b => simp [Builtin.firstCells, loadCells, loadCellsFrom]
    · refine ⟨by simp [Builtin.lenOf, hs], ?_⟩
      simp [Builtin.firstCells]
  rcases hu with ⟨e', hu⟩ | hu <;> cases base <;>
    simp [Builtin.append_, run_underlying ht, run_underlying hu, sizeOf, typeInfo, hi, hf.1, hf.2, hc, storeCells]

theorem grownCap_le (w : World) (need old : Nat) (e : TypeId) : need ≤ grownCap w need old e := by
  simp only [grownCap, Question.cut]
  omega

theorem zeroCells_size (z : Array Value) (n : Nat) : (Builtin.zeroCells z n).size = n * z.size := by simp [Builtin.zeroCells]

theorem append_sound (hR : Rel β H w) {t u ty : TypeId} {s x v : AV} {cs cx : Value} (hs : VRel H.n β s cs) (hx : VRel H.n β x cx) (hu : kindOf P u = 3 ∨ kindOf P u = 7) {H' : Heap} (h : appendA P t s x H = some (v, H'))
    (hk : (kindOf P u = 7 → ∃ q, x = .str q) ∧ (kindOf P u = 3 → ∃ r q z, x = .slice r q z)) :
    ∃ β' w' c, Rel β' H' w' ∧ Le β H w β' H' w' ∧ (Builtin.append_ #[t, u] ty #[cs, cx]).run P w = .ok c w' ∧ VRel H'.n β' v c := by
  have hkind : (∃ e', P.underlying u = some (.slice e')) ∨ P.underlying u = some .string := by
    obtain ⟨_, _, h3, _, _, _, h7⟩ := under_of_kind (P := P) (t := u)
    rcases hu with hu | hu
    · exact .inl (h3 hu)
    · exact .inr (h7 hu)
  unfold appendA at h
  split at h
  · cases h
  · rename_i e he
    have ht := elem_of he
    split at h
    · rename_i sz by_ ze hsz hby hze
      split at h
      · cases h
      · rename_i hpos
        split at h
        · cases h
        · rename_i new n hsrc
          unfold size? at hsz
          unfold bytes? at hby
          unfold zero? at hze
          cases hi : P.info? e with
          | none => rw [hi] at hsz; cases hsz
          | some i =>
            rw [hi] at hsz hby hze
            simp only [Option.map_some, Option.some.injEq, Option.bind_some] at hsz hby hze
            cases hzz : i.zero with
            | none => rw [hzz] at hze; cases hze
            | some zc =>
              rw [hzz] at hze
              have hzv : VRel H.n β ze zc := ofConst_sound hze
              have hzl := hzv.cells.length
              simp only [Array.length_toList] at hzl
              split at h
              · rename_i h0
                subst h0
                split at h
                · rename_i r q z
                  split at h
                  · cases h
                    have hx0 : (∃ b cap, cx = .slice b 0 cap) ∨ ∃ s : ByteArray, cx = .string s ∧ s.size = 0 := by
                      cases hx with
                      | snil => exact .inl ⟨none, 0, rfl⟩
                      | slice g j q' z' cap ad hg hle hb =>
                        simp only [srcCells] at hsrc
                        split at hsrc
                        · cases hr : rowAt H ⟨g, j⟩ (q' * sz) with
                          | none => rw [hr] at hsrc; cases hsrc
                          | some l => rw [hr] at hsrc; simp only [Option.map_some, Option.some.injEq, Prod.mk.injEq] at hsrc; obtain ⟨_, rfl⟩ := hsrc; exact .inl ⟨_, _, rfl⟩
                        · cases hsrc
                      | str q b hb =>
                        simp only [srcCells] at hsrc
                        split at hsrc
                        · simp only [Option.some.injEq, Prod.mk.injEq] at hsrc
                          exact .inr ⟨b, rfl, by rw [slen hb]; exact hsrc.2⟩
                        · cases hsrc
                      | bool => cases hsrc
                      | int => cases hsrc
                      | pnil => cases hsrc
                      | ptr => cases hsrc
                      | mnil => cases hsrc
                      | func => cases hsrc
                      | nilFunc => cases hsrc
                      | nilIface => cases hsrc
                      | agg => cases hsrc
                      | tup => cases hsrc
                    refine ⟨β, w, cs, hR, Le.refl _ _ _, ?_, hs⟩
                    cases hs with
                    | snil => exact append_zero t u ty e i ht hi hkind none 0 0 (Nat.le_refl _) cx hx0 w
                    | slice g j _ _ cap ad hg hle hb => exact append_zero t u ty e i ht hi hkind _ _ _ hle cx hx0 w
                  · cases h
                · cases h
              · rename_i hn
                split at h
                · -- a nil slice
                  rename_i q z
                  split at h
                  · rename_i hc
                    cases h
                    obtain ⟨news, hS, hv⟩ := src_sound hR hx hsrc hn hc.2 hu hk
                    rw [← hsz] at hS
                    cases hs with
                    | snil =>
                      have hb1 : 1 ≤ by_ := by omega
                      have hn47 : n ≤ 140737488355328 := Nat.le_trans (Nat.le_mul_of_pos_right n hb1) hc.1
                      have hrun := run_append_grow_src (P := P) w t u ty e i zc ht hi hzz none 0 0 [] (by simp [Builtin.firstCells]) cx n news hS (by omega) (by omega) (by
                        have := growslice_fits (need := 0 + n) (old := 0) (bytes := i.bytes) (by omega) (by rw [hby]; simpa using hc.1)
                        exact this)
                      have hlen := hv.length
                      have hcap := grownCap_le w (0 + n) 0 e
                      generalize hC : (([] ++ news).toArray ++ Builtin.zeroCells zc.cells (grownCap w (0 + n) 0 e - (0 + n))) = C at hrun
                      have hCl : C.toList = news ++ (Builtin.zeroCells zc.cells (grownCap w (0 + n) 0 e - (0 + n))).toList := by rw [← hC]; simp
                      have hCs : C.size = n * sz + (grownCap w (0 + n) 0 e - (0 + n)) * sz := by
                        have : C.size = C.toList.length := by simp
                        rw [this, hCl, List.length_append, hS.newsLen, Array.length_toList, zeroCells_size, ← hzl, hsz]
                        have : ze.cells.length = sz := by omega
                        rw [this]
                      have htk : VsRel H.n β new (C.toList.take new.length) := by rw [hCl, List.take_append_of_le_length (by omega), List.take_of_length_le (by omega)]; exact hv
                      obtain ⟨hr, hle⟩ := new_row hR (.inr rfl) (e := e) htk hc.2 (by
                        have : C.size = C.toList.length := by simp
                        rw [this, hCl, List.length_append]; omega)
                      refine ⟨_, _, _, hr, hle, hrun, ?_⟩
                      rw [Nat.zero_add]
                      refine slice_new (by simpa using hcap) ?_
                      rw [hCs, ← Nat.add_mul]
                      simp only [Nat.zero_add] at hcap ⊢
                      exact Nat.mul_le_mul_right _ (by omega)
                  · cases h
                · rename_i r q z
                  split at h
                  · rename_i hzs
                    subst hzs
                    split at h
                    · rename_i cs0 e0 old hget hold
                      split at h
                      · rename_i hc
                        cases h
                        obtain ⟨news, hS, hv⟩ := src_sound hR hx hsrc hn hc.2 hu hk
                        obtain ⟨b, cs1, e1, ro1, hbg, hget1, hl, hle1, hold1, vs, hvl, hvc, hvr⟩ := row_read hR hold
                        rw [hget] at hget1
                        cases hget1
                        have hb1 : 1 ≤ by_ := by omega
                        have hn47 : q + n ≤ 140737488355328 := Nat.le_trans (Nat.le_mul_of_pos_right (q + n) hb1) hc.1
                        have hlen := hv.length
                        have hS' := hS.newsLen
                        have hfree := hl.free rfl
                        have hplain : (old ++ new).all AV.cell = true := by
                          rw [List.all_append, hc.2, Bool.and_true, hold1]
                          exact List.all_eq_true.2 fun y hy => by
                            obtain ⟨k, hk⟩ := List.mem_iff_getElem?.1 (List.mem_of_mem_drop (List.mem_of_mem_take hy))
                            exact hl.plain k y hk
                        have holdl : old.length = q * z := by rw [hvr.length, hvl]
                        have hg : r.g < H.n := hR.fresh _ _ hget
                        cases hs with
                        | slice g j _ _ cap ad hg' hle hb =>
                          simp only at hbg hget hvc hle1 hold1 hold hg
                          have hroom := (hb b hbg).2
                          by_cases hfit : q + n ≤ cap
                          · -- there is room
                            have had := (hb b hbg).1 (by omega)
                            subst had
                            have hmul : (q + n) * z ≤ cap * z := Nat.mul_le_mul_right _ hfit
                            rw [Nat.add_mul] at hmul
                            rw [← hsz] at hS
                            have hrun := run_append_room_src (P := P) w t u ty e i ht hi b.blk (b.off + j) q cap cx n news hS hfit
                              (fun k hk' => by
                                have := hfree.there (j := j + q * z + k) (by omega)
                                rw [hsz]
                                rwa [show b.off + (j + q * z + k) = b.off + j + q * z + k from by omega] at this)
                              (fun k hk' => by
                                have := hfree.2 (j + q * z + k) (by omega)
                                rw [hsz]
                                rwa [show b.off + (j + q * z + k) = b.off + j + q * z + k from by omega] at this)
                            rw [hsz] at hrun
                            have hkill := hR.kill hg
                            let b' : Base := ⟨b.blk, b.off + j, cap * z⟩
                            have hsame : ∀ k, k ≠ b.blk → (w.setCells b.blk (b.off + j + q * z) news).heap[k]? = w.heap[k]? := fun k hk' => heap_setCells _ _ _ _ hk'
                            have hF : Free (w.setCells b.blk (b.off + j + q * z) news) b' := by
                              obtain ⟨⟨C, eC, fr, hC, hsC⟩, hf⟩ := hfree.setCells (b.off + j + q * z) news
                              exact ⟨⟨C, eC, fr, hC, by simp only [b']; omega⟩, fun k hk' => by
                                have := hf (j + k) (by simp only [b'] at hk'; omega)
                                rwa [show b.off + (j + k) = b'.off + k from by simp only [b']; omega] at this⟩
                            have hKeep : Keeps H.n β (put (put β g none) H.n (some b')) := (Keeps.kill _ _ _).trans (Keeps.new _ _ _) (Nat.le_refl _)
                            have hL : Lies (H.n + 1) (put (put β g none) H.n (some b')) (w.setCells b.blk (b.off + j + q * z) news) (old ++ new) false b' := by
                              constructor
                              · intro k y hy
                                by_cases hk1 : k < q * z
                                · rw [List.getElem?_append_left (by omega)] at hy
                                  obtain ⟨c, hc1, hr1⟩ := hvr.at k y hy
                                  have hcell := hvc k c hc1
                                  rw [place_add] at hcell
                                  refine ⟨c, ?_, hr1.mono (by omega) hKeep⟩
                                  rw [World.cell?_setCells_out _ _ _ _ _ (fun _ _ => .inl (by simp only [b']; omega))]
                                  rwa [show b.off + (j + k) = b'.off + k from by simp only [b']; omega] at hcell
                                · rw [List.getElem?_append_right (by omega), holdl] at hy
                                  obtain ⟨c, hc1, hr1⟩ := hv.at (k - q * z) y hy
                                  have hlt : k - q * z < news.length := (List.getElem?_eq_some_iff.1 hc1).1
                                  refine ⟨c, ?_, hr1.mono (by omega) hKeep⟩
                                  have := World.cell?_setCells_in b.blk news (b.off + j + q * z) w (fun k' hk' => by
                                    have := hfree.there (j := j + q * z + k') (by omega)
                                    rwa [show b.off + (j + q * z + k') = b.off + j + q * z + k' from by omega] at this) (k - q * z) hlt
                                  rw [List.getElem?_eq_getElem hlt] at hc1
                                  rw [show b'.off + k = b.off + j + q * z + (k - q * z) from by simp only [b']; omega]
                                  rw [this]
                                  exact hc1
                              · exact fun k y hy => List.all_eq_true.1 hplain y (List.mem_of_getElem? hy)
                              · rw [List.length_append, holdl]; simp only [b']; omega
                              · rw [size_setCells]; exact hl.blk
                              · exact fun _ => hF
                            have hRel := hkill.push (w' := w.setCells b.blk (b.off + j + q * z) news) b' (old ++ new) e (fun g' b2 hb2 => by
                                by_cases e' : g' = g
                                · subst e'; rw [put_same] at hb2; cases hb2
                                · rw [put_ne _ _ _ _ e'] at hb2
                                  exact (hR.apart g g' b b2 _ _ (Ne.symm e') hbg hb2 hget).symm) (fun k _ hk' => hsame k hk') (by simpa using hL)
                            have hLe := Le.take (b' := b') (cs' := old ++ new) (e' := e) hR hbg hget (.inl rfl) (World.os_setCells w b.blk (b.off + j + q * z) news) (tape_setCells _ _ _) (World.output_setCells ..) (by rw [size_setCells]; exact Nat.le_refl _) (fun k _ hk' => hsame k hk')
                            refine ⟨_, _, _, hRel, hLe, hrun, ?_⟩
                            refine .slice _ _ _ _ _ _ (by simp) (by omega) fun b2 hb2 => ?_
                            simp only [Heap.n_set] at hb2
                            rw [put_same] at hb2
                            cases hb2
                            exact ⟨fun _ => by simp only [b', Nat.add_zero], by simp only [b']; omega⟩
                          · -- it grows
                            rw [← hsz] at hS
                            have hholdC : (Builtin.firstCells i.size q (.slice (some ad) q cap)).run P w.drew = .ok vs.toArray w.drew := by
                              rw [hsz]
                              by_cases hq : 0 < cap
                              · have had := (hb b hbg).1 hq
                                subst had
                                exact run_firstCells_some (P := P) w.drew z q _ q cap vs hvl (by simpa using hvc)
                              · have hq0 : q = 0 := by omega
                                subst hq0
                                have : vs = [] := List.eq_nil_of_length_eq_zero (by omega)
                                subst this
                                simp [Builtin.firstCells, loadCells, loadCellsFrom]
                            have hrun := run_append_grow_src (P := P) w t u ty e i zc ht hi hzz (some ad) q cap vs hholdC cx n news hS (by omega) (by omega) (growslice_fits (by omega) (by rw [hby]; exact hc.1))
                            have hcap := grownCap_le w (q + n) cap e
                            generalize hC : ((vs ++ news).toArray ++ Builtin.zeroCells zc.cells (grownCap w (q + n) cap e - (q + n))) = C at hrun
                            have hCl : C.toList = (vs ++ news) ++ (Builtin.zeroCells zc.cells (grownCap w (q + n) cap e - (q + n))).toList := by rw [← hC]; simp
                            have hCs : C.size = (q + n) * z + (grownCap w (q + n) cap e - (q + n)) * z := by
                              have e1 : C.size = C.toList.length := by simp
                              have e2 : ze.cells.length = z := by omega
                              rw [e1, hCl, List.length_append, List.length_append, hvl, hS', Array.length_toList, zeroCells_size, ← hzl, e2, ← Nat.add_mul]
                            have hvv := hvr.append hv
                            have hvvl := hvv.length
                            have htk : VsRel H.n β (old ++ new) (C.toList.take (old ++ new).length) := by rw [hCl, List.take_append_of_le_length (by omega), List.take_of_length_le (by omega)]; exact hvv
                            have hkill := hR.kill hg
                            have hat : (w.drew.alloc (.cells C e)).heap[w.heap.size]? = some (.cells C e) := heap_alloc_at w.drew _
                            have hlt : ∀ k, k < w.heap.size → (w.drew.alloc (.cells C e)).heap[k]? = w.heap[k]? := fun k hk' => heap_alloc_lt w.drew _ k hk'
                            have hKeep : Keeps H.n β (put (put β g none) H.n (some ⟨w.heap.size, 0, C.size⟩)) := (Keeps.kill _ _ _).trans (Keeps.new _ _ _) (Nat.le_refl _)
                            have hRel := hkill.push (w' := w.drew.alloc (.cells C e)) ⟨w.heap.size, 0, C.size⟩ (old ++ new) e (fun g' b2 hb2 => by
                                have := hkill.blk_lt hb2; simp; omega) (fun k hk' _ => hlt k hk') (by
                                have := Lies.new (N := H.n + 1) (β := put (put β g none) H.n (some ⟨w.heap.size, 0, C.size⟩)) (w' := w.drew.alloc (.cells C e)) (htk.mono (by omega) hKeep) hplain (by
                                  have e1 : C.size = C.toList.length := by simp
                                  have e2 := congrArg List.length hCl
                                  simp only [List.length_append] at e2 hvvl
                                  simp only [List.length_append]
                                  omega) w.heap.size hat (by simp)
                                simpa using this)
                            have hLe := Le.take (w' := w.drew.alloc (.cells C e)) (b' := ⟨w.heap.size, 0, C.size⟩) (cs' := old ++ new) (e' := e) hR hbg hget (.inr (Nat.le_refl _)) rfl rfl rfl (by simp) (fun k hk' _ => hlt k hk')
                            refine ⟨_, _, _, hRel, hLe, hrun, ?_⟩
                            refine .slice _ _ _ _ _ _ (by simp) (by omega) fun b2 hb2 => ?_
                            simp only [Heap.n_set] at hb2
                            rw [put_same] at hb2
                            cases hb2
                            refine ⟨fun _ => rfl, ?_⟩
                            simp only [Nat.zero_add]
                            rw [hCs, ← Nat.add_mul]
                            exact Nat.mul_le_mul_right _ (by omega)
                      · cases h
                    · cases h
                  · cases h
                · cases h
    · cases h
end mem
end Go.Vm
