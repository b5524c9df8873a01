/- Each operation of the evaluator is the machine's: conversions, builtins, all together. (A help: no statement of the seat is proved here.) -/
import Derived.Test.YtgmlklaehklmoaaVx8
set_option linter.unusedVariables false
set_option linter.unusedSimpArgs false
namespace Go.Vx
section mem
variable {P : Program} {o : Oper} {a : Act} {β : At} {H : Heap} {w : World} {m : Tm}

theorem isU8_of {e : TypeId} (h : isU8 P e = true) : P.underlying e = some (.int .u8) := by
  unfold isU8 at h
  split at h
  · assumption
  · cases h

theorem strOf_rel {N : Nat} : ∀ {l : List AV} {s : List UInt8} {vs : List Value}, strOfAV l = some s → VsRel N β l vs → ∃ xs : List Int, vs = xs.map (Value.int .u8) ∧ s = xs.map fun n => UInt8.ofNat n.toNat
  | [], s, vs, h, hv => by cases h; cases hv; exact ⟨[], rfl, rfl⟩
  | x :: l, s, vs, h, hv => by
    cases hv with
    | cons _ c _ cs hx hl =>
      have hx' : ∃ t n, x = .int t .u8 n := by
        cases x with
        | int t k n => cases k <;> simp only [strOfAV] at h <;> first | exact ⟨t, n, rfl⟩ | cases h
        | _ => simp only [strOfAV] at h; cases h
      obtain ⟨t, n, rfl⟩ := hx'
      simp only [strOfAV] at h
      split at h
      · rename_i s' hs'
        cases h
        obtain ⟨xs, rfl, rfl⟩ := strOf_rel hs' hl
        exact ⟨n :: xs, by rw [int_of hx]; rfl, rfl⟩
      · cases h

theorem strOf_bytes : ∀ l : List UInt8, strOfAV (bytesAV true l) = some l
  | [] => rfl
  | n :: l => by
    have := strOf_bytes l
    simp only [bytesAV, List.map_cons, strOfAV] at this ⊢
    rw [this]
    simp
theorem encL_u8 : ∀ l : List Int, encL (.int .u8) l = l.map (.int true .u8)
  | [] => rfl
  | n :: l => congrArg (AV.int true .u8 n :: ·) (encL_u8 l)
theorem strOf_ints : ∀ l : List Int, strOfAV (l.map (.int true .u8)) = some (l.map fun n => UInt8.ofNat n.toNat)
  | [] => rfl
  | n :: l => by simp only [List.map_cons, strOfAV, strOf_ints l]
theorem strOf_lot {L : Lot} {t : Bool} {s : List UInt8} (h : strOfSrc L = some (t, s)) : strOfAV L.list = some s := by
  unfold strOfSrc at h
  split at h
  · rename_i l
    simp only [Option.some.injEq, Prod.mk.injEq] at h
    obtain ⟨_, rfl⟩ := h
    simp only [Lot.list]
    rw [encL_byte]
    exact strOf_bytes l
  · rename_i l
    simp only [Option.some.injEq, Prod.mk.injEq] at h
    obtain ⟨_, rfl⟩ := h
    simp only [Lot.list]
    rw [encL_u8]
    exact strOf_ints l
  · rename_i l
    simp only [Lot.list]
    cases hl : strOfAV l with
    | none => rw [hl] at h; cases h
    | some x => rw [hl] at h; simp only [Option.map_some, Option.some.injEq, Prod.mk.injEq] at h; rw [h.2]
  · cases h

theorem convA_sound (hR : Rel β H w) {src dst : TypeId} {x v : AV} {c : Value} (hx : VRel H.n β x c) {H' : Heap} (h : convA P src dst x H = some (v, H')) :
    ∃ β' w' d, Rel β' H' w' ∧ Le β H w β' H' w' ∧ (convert src dst c).run P w = .ok d w' ∧ VRel H'.n β' v d := by
  unfold convA at h
  split at h
  · rename_i hs hd
    cases h
    rw [int_of hx]
    exact ⟨β, w, _, hR, Le.refl _ _ _, by simp [convert, run_underlying hs, run_underlying hd, Conv.intToInt], .int _ _ _⟩
  · rename_i t s hs hd
    cases h
    obtain ⟨b, rfl, hb⟩ := str_of hx
    exact ⟨β, w, .string b, hR, Le.refl _ _ _, by simp [convert, run_underlying hs, run_underlying hd], .str _ _ _ hb⟩
  · rename_i e t s hs hd
    split at h
    · rename_i hc
      cases h
      obtain ⟨uu, hsl⟩ := strSrc_list t s
      obtain ⟨L, hrow, hlike0⟩ := join_row (.cells []) (strSrc t s) e
      have hlike : Like (bytesAV uu s) L := by rw [← hsl]; simpa [Lot.list] using hlike0
      obtain ⟨b, rfl, hb⟩ := str_of hx
      have he := isU8_of hc.1
      have hrun := Lib.run_convert_string_bytes (P := P) w src dst e b hs hd he
      have hsize : (Lib.bytesCells w e b).size = grownCap w b.size 0 e := by
        have := grownCap_le w b.size 0 e
        simp only [Lib.bytesCells, Array.size_append, Array.size_map, Array.size_replicate]
        show b.size + _ = _
        omega
      have hlen := slen hb
      have htk : VsRel H.n β (bytesAV uu s) ((Lib.bytesCells w e b).toList.take (bytesAV uu s).length) := by
        have e1 : (Lib.bytesCells w e b).toList = byteCells b ++ List.replicate (grownCap w b.size 0 e - b.size) (.int .u8 0) := by simp [Lib.bytesCells, byteCells]
        have e2 : (bytesAV uu s).length = (byteCells b).length := (bytes_rel (N := H.n) (β := β) hb).length
        rw [e1, e2, List.take_left]
        exact bytes_rel hb
      have hcap := grownCap_le w b.size 0 e
      have hall : (bytesAV uu s).all AV.cell = true := by simp [bytesAV, AV.cell]
      have hbl : (bytesAV uu s).length = s.length := by simp [bytesAV]
      let b' : Base := ⟨w.heap.size, 0, (Lib.bytesCells w e b).size, false⟩
      have hlt : ∀ k, k < w.heap.size → (Lib.bytesWorld w e b).heap[k]? = w.heap[k]? := fun k hk => Lib.bytesWorld_at_old w e b k hk
      have hRel := hR.push (w' := Lib.bytesWorld w e b) b' hrow (fun g b2 hb2 hn2 => by have := hR.blk_lt hb2 hn2; simp only [b']; omega) (fun p c hc => by have := hR.imm_lt hc; simp [b'] at this) (fun k hk _ => hlt k hk)
        ((Lies.new (htk.mono (by omega) (Keeps.new _ _ _)) hall (by omega) w.heap.size (Lib.bytesWorld_at_new w e b) (fun j hj => by simp; omega)).like hlike)
      have hLe := Le.alloc (w' := Lib.bytesWorld w e b) hR (by simp [Lib.bytesWorld, World.freeze, World.alloc, World.drew, -World.alloc_eq, -World.drew_eq]) (by simp [Lib.bytesWorld, World.freeze, World.alloc, World.drew, -World.alloc_eq, -World.drew_eq])
        (by simp [Lib.bytesWorld, World.freeze, World.alloc, World.drew, -World.alloc_eq, -World.drew_eq]) (by rw [Lib.bytesWorld_size]; omega) hlt b' (Nat.le_refl _) (joinRow (.cells []) (strSrc t s) e)
      refine ⟨_, _, _, hRel, hLe, hrun, ?_⟩
      rw [← hlen]
      exact slice_new (by omega) (by omega)
    · cases h
  · rename_i e t r n sz hs hd
    split at h
    · rename_i hc
      split at h
      · rename_i L hL
        cases ho0 : strOfSrc L with
        | none => rw [ho0] at h; cases h
        | some ts =>
          obtain ⟨tt, s⟩ := ts
          rw [ho0] at h
          cases h
          have ho := strOf_lot ho0
          have he := isU8_of hc.1
          cases hx with
          | snil _ _ a0 =>
            simp only [sliceSrc] at hL
            cases hL
            cases ho
            refine ⟨β, w, .string ByteArray.empty, hR, Le.refl _ _ _, ?_, .str _ _ _ rfl⟩
            cases a0 <;> simp [convert, run_underlying hs, run_underlying hd, run_underlying he, Conv.bytesToString, loadCells, loadCellsFrom]
          | slice _ r0 _ _ cap a0 hg hle hsm hb =>
            have hcs := sliceSrc_row hL
            rw [Nat.mul_one] at hcs
            obtain ⟨b, cs0, e0, ro, hbg, hget, hl, hle1, hll, vs, hvl, hvc, hvr⟩ := row_read hR hcs
            obtain ⟨xs, rfl, rfl⟩ := strOf_rel ho hvr
            by_cases hn : n = 0
            · subst hn
              have : xs = [] := by simpa using hvl
              subst this
              refine ⟨β, w, .string ByteArray.empty, hR, Le.refl _ _ _, ?_, .str _ _ _ rfl⟩
              cases a0 <;> simp [convert, run_underlying hs, run_underlying hd, run_underlying he, Conv.bytesToString, loadCells, loadCellsFrom]
            · obtain ⟨h1, h2⟩ := hb b hbg
              have hbn : b.nil = false := by
                cases e : b.nil with
                | false => rfl
                | true => have := h1 e; omega
              have had := (h2 hbn).1 (by omega)
              subst had
              refine ⟨β, w, _, hR, Le.refl _ _ _, run_convert_bytes_arg w src e hs he b.blk (b.off + r0.i) n cap xs (by simpa using hvl) (fun j hj => ?_) dst hd, .str _ _ _ (strOfNums_data xs)⟩
              have hjl : j < xs.length := by simp at hvl; omega
              have := hvc j (.int .u8 (xs.getD j 0)) (by simp [List.getElem?_map, List.getElem?_eq_getElem hjl, List.getD_eq_getElem?_getD])
              rw [place_add] at this
              rwa [show b.off + (r0.i + j) = b.off + r0.i + j from by omega] at this
      · cases h
    · cases h
  · rename_i e l hs hd
    split at h
    · rename_i hu
      cases h
      have he := isU8_of hu
      cases hx with
      | vec _ _ cap a0 b o cs hn ha h1 h2 =>
        by_cases hn0 : l.length = 0
        · have : l = [] := List.eq_nil_of_length_eq_zero hn0
          subst this
          refine ⟨β, w, .string ByteArray.empty, hR, Le.refl _ _ _, ?_, .str _ _ _ rfl⟩
          cases a0 <;> simp [convert, run_underlying hs, run_underlying hd, run_underlying he, Conv.bytesToString, loadCells, loadCellsFrom]
        · have had := ha.1 (by omega)
          subst had
          have hlen : (encL .byte l).length = l.length := by rw [encL_length]; simp [Ty.z]
          obtain ⟨vs, hvl, hcv, hr⟩ := imm_read hR h1 h2 0 (encL .byte l).length (by omega)
          rw [List.drop_zero, List.take_length] at hr
          have ho : strOfAV (encL .byte l) = some l := by rw [encL_byte]; exact strOf_bytes l
          obtain ⟨xs, rfl, hxs⟩ := strOf_rel ho hr
          refine ⟨β, w, _, hR, Le.refl _ _ _, run_convert_bytes_arg w src e hs he b o l.length cap xs (by simp at hvl; omega) (fun j hj => ?_) dst hd, .str _ _ _ ?_⟩
          · have hjl : j < xs.length := by simp at hvl; omega
            have := hcv j (.int .u8 (xs.getD j 0)) (by simp [List.getElem?_map, List.getElem?_eq_getElem hjl, List.getD_eq_getElem?_getD])
            have e1 : (⟨b, o + 0, none⟩ : Addr).add j = ⟨b, o + j, none⟩ := by
              unfold Addr.add
              split
              · rename_i e; simp [e]
              · simp
            rwa [e1] at this
          · rw [strOfNums_data xs]; exact hxs.symm
    · cases h
  · cases h

theorem lenA_sound {N : Nat} {t ty : TypeId} {ts : List TypeId} {x v : AV} {c : Value} (hx : VRel N β x c) (h : lenA P t x = some v) (w : World) : ∃ d, (Builtin.len_ (t :: ts).toArray ty #[c]).run P w = .ok d w ∧ VRel N β v d := by
  unfold lenA at h
  split at h
  · rename_i s hu
    cases h
    obtain ⟨b, rfl, hb⟩ := str_of hx
    refine ⟨.int .i64 b.size, by simp [Builtin.len_, run_underlying hu, goInt], ?_⟩
    rw [slen hb]
    exact .int _ _ _
  · rename_i e tt r n sz hu
    cases h
    cases hx with
    | snil => exact ⟨.int .i64 0, by simp [Builtin.len_, run_underlying hu, goInt], .int _ _ _⟩
    | slice _ _ _ _ cap ad hg hle hsm hb => exact ⟨.int .i64 n, by simp [Builtin.len_, run_underlying hu, goInt], .int _ _ _⟩
  · rename_i e tt l hu
    cases h
    cases hx with
    | vec => exact ⟨.int .i64 l.length, by simp [Builtin.len_, run_underlying hu, goInt], .int _ _ _⟩
  · rename_i x1 n e hu
    cases h
    exact ⟨.int .i64 n, by simp [Builtin.len_, run_underlying hu, goInt], .int _ _ _⟩
  · cases h

theorem fold_sound {N : Nat} {f : AV → AV → Option AV} {g : Value → Value → Sem Value} (hfg : ∀ {x y v : AV} {p q : Value}, VRel N β x p → VRel N β y q → f x y = some v → ∀ w, ∃ d, (g p q).run P w = .ok d w ∧ VRel N β v d) :
    ∀ {l : List AV} {cs : List Value} {x v : AV} {c : Value}, VRel N β x c → VsRel N β l cs → foldA f x l = some v → ∀ w : World, ∃ d, (cs.foldlM g c).run P w = .ok d w ∧ VRel N β v d
  | [], cs, x, v, c, hx, hl, h, w => by cases hl; cases h; exact ⟨c, by simp, hx⟩
  | y :: l, cs, x, v, c, hx, hl, h, w => by
    cases hl with
    | cons _ d _ ds hy hl =>
      simp only [foldA] at h
      split at h
      · rename_i z hz
        obtain ⟨e, he, hv⟩ := hfg hx hy hz w
        obtain ⟨r, hr, hrv⟩ := fold_sound hfg hv hl h w
        exact ⟨r, by simp only [List.foldlM_cons, Sem.run_bind, he, Result.andThen_ok, hr], hrv⟩
      · cases h
theorem max2_sound {N : Nat} {x y v : AV} {p q : Value} (hx : VRel N β x p) (hy : VRel N β y q) (h : max2A x y = some v) (w : World) : ∃ d, (Builtin.max2 p q).run P w = .ok d w ∧ VRel N β v d := by
  unfold max2A at h
  split at h
  · cases h; rw [int_of hx, int_of hy]; exact ⟨_, rfl, .int _ _ _⟩
  · cases h
theorem min2_sound {N : Nat} {x y v : AV} {p q : Value} (hx : VRel N β x p) (hy : VRel N β y q) (h : min2A x y = some v) (w : World) : ∃ d, (Builtin.min2 p q).run P w = .ok d w ∧ VRel N β v d := by
  unfold min2A at h
  split at h
  · cases h; rw [int_of hx, int_of hy]; exact ⟨_, rfl, .int _ _ _⟩
  · cases h

theorem fits_builtin (hR : Rel β H w) (hT : TRel H.n β m a.tmps) {c : Call} {b : Builtin} {args : List AV} {v : AV} {H' : Heap} (ho : o.op = .call c) (hb : c.callee = .builtin b) (hargs : opnds m c.args.toList = some args)
    (h : builtinA P b c.argTypes.toList args H = some (.val v H')) : Fits P o a β H w v H' := by
  have hv := opnds_sound hT hargs
  obtain ⟨consts, hexec⟩ : ∃ cs : Array Bool, ∀ w, (execOp a.eval o).run P w = (builtin b c.argTypes o.type cs (c.args.map a.eval)).run P w := by
    have hres : ∃ cs, resolve a.eval c o.type = pure { target := .builtin b c.argTypes o.type cs, args := c.args.map a.eval } := by
      unfold resolve
      rw [hb]
      exact ⟨_, rfl⟩
    obtain ⟨cs, hres⟩ := hres
    exact ⟨cs, fun w => by simp only [execOp, ho, hres, invoke, Sem.run_bind, Sem.run_pure, Result.andThen_ok]⟩
  unfold builtinA at h
  split at h
  · rename_i t ts x hts
    cases hl : lenA P t x with
    | none => rw [hl] at h; cases h
    | some u =>
      rw [hl] at h
      cases h
      cases hv' : c.args.toList.map a.eval with
      | nil => rw [hv'] at hv; cases hv
      | cons d ds =>
        rw [hv'] at hv
        cases hv with
        | cons _ _ _ _ hd hds =>
          cases hds
          obtain ⟨r, hr, hrv⟩ := lenA_sound (P := P) (t := t) (ts := ts) (ty := o.type) hd hl w
          refine Fits.same hR (c := r) ?_ hrv
          rw [hexec]
          have e1 : c.args.map a.eval = #[d] := by apply Array.toList_inj.1; rw [Array.toList_map, hv']
          have e2 : c.argTypes = (t :: ts).toArray := by apply Array.toList_inj.1; rw [hts]
          rw [e1, e2]
          exact run_v hr
  · rename_i ts x l
    cases hl : foldA max2A x l with
    | none => rw [hl] at h; cases h
    | some u =>
      rw [hl] at h
      cases h
      cases hv' : c.args.toList.map a.eval with
      | nil => rw [hv'] at hv; cases hv
      | cons d ds =>
        rw [hv'] at hv
        cases hv with
        | cons _ _ _ _ hd hds =>
          obtain ⟨r, hr, hrv⟩ := fold_sound (P := P) (fun hx hy h w => max2_sound hx hy h w) hd hds hl w
          refine Fits.same hR (c := r) ?_ hrv
          rw [hexec]
          refine run_v (s := Builtin.max_ _ _ _) ?_
          have e1 : (c.args.map a.eval).toList = d :: ds := by rw [Array.toList_map, hv']
          unfold Builtin.max_
          rw [e1]
          exact hr
  · rename_i ts x l
    cases hl : foldA min2A x l with
    | none => rw [hl] at h; cases h
    | some u =>
      rw [hl] at h
      cases h
      cases hv' : c.args.toList.map a.eval with
      | nil => rw [hv'] at hv; cases hv
      | cons d ds =>
        rw [hv'] at hv
        cases hv with
        | cons _ _ _ _ hd hds =>
          obtain ⟨r, hr, hrv⟩ := fold_sound (P := P) (fun hx hy h w => min2_sound hx hy h w) hd hds hl w
          refine Fits.same hR (c := r) ?_ hrv
          rw [hexec]
          refine run_v (s := Builtin.min_ _ _ _) ?_
          have e1 : (c.args.map a.eval).toList = d :: ds := by rw [Array.toList_map, hv']
          unfold Builtin.min_
          rw [e1]
          exact hr
  · rename_i t u s x hts
    split at h
    · rename_i hk
      cases hl : appendA P t s x H with
      | none => rw [hl] at h; cases h
      | some r =>
        rw [hl] at h
        obtain ⟨r1, r2⟩ := r
        cases h
        cases hv' : c.args.toList.map a.eval with
        | nil => rw [hv'] at hv; cases hv
        | cons d ds =>
          rw [hv'] at hv
          cases hv with
          | cons _ _ _ _ hd hds =>
            cases hds with
            | cons _ d2 _ _ hd2 hds2 =>
              cases hds2
              have hu : kindOf P u = 3 ∨ kindOf P u = 7 := by
                cases x <;> simp [srcKind] at hk <;> simp [hk]
              have hkk : (kindOf P u = 7 → ∃ tt q, x = .str tt q) ∧ (kindOf P u = 3 → (∃ tt r q z, x = .slice tt r q z) ∨ ∃ t l, x = .vec t l) := by
                cases x <;> simp [srcKind] at hk <;> simp [hk]
              obtain ⟨β', w', q, hR', hLe, hrun, hq⟩ := append_sound (P := P) (ty := o.type) hR hd hd2 hu hl hkk
              refine ⟨β', w', hR', hLe, .inl ⟨q, ?_, hq⟩⟩
              rw [hexec]
              have e1 : c.args.map a.eval = #[d, d2] := by apply Array.toList_inj.1; rw [Array.toList_map, hv']
              have e2 : c.argTypes = #[t, u] := by apply Array.toList_inj.1; rw [hts]
              rw [e1, e2]
              exact run_v hrun
    · cases h
  · cases h
end mem
end Go.Vx
