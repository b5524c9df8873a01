/- Printed by a program of ours out of our texts: the evaluator, the printed functions, the plain laws. (A help: no statement of the seat is proved here.) -/
import Derived.Test.YtacjljomokobiaaGreatDoorPTE
section
set_option linter.unusedVariables false
set_option linter.unusedSimpArgs false
set_option maxRecDepth 100000
namespace Go.Vx
namespace Pl
open Go Go.Proofs
theorem getD_le {l : List Bs} {n k : Nat} (h : ∀ x ∈ l, x.length ≤ n) : (l.getD k []).length ≤ n := by
 rw [List.getD_eq_getElem?_getD]
 by_cases hk : k < l.length
 ·rw [List.getElem?_eq_getElem hk]; exact h _ (List.getElem_mem hk)
 ·rw [List.getElem?_eq_none (by omega)]; simp
theorem goal_len (p : Int) (s a z : Bs) : (goalS p s a z).length ≤ s.length := by
 have ht := trim_len ((s.take (s.length - z.length - 1)).drop (a.length + 1))
 unfold goalS
 split
 ·simp only [List.length_drop, List.length_take] at ht; omega
 ·simp only [List.length_drop, List.length_take]; omega
theorem partedL_len {p : Int} {s : Bs} {l : List Bs} (h : ∀ x ∈ l, x.length ≤ s.length) : (partedL p s l).2.1.length ≤ s.length := by
 unfold partedL
 split
 ·simp
 ·split
  ·exact getD_le h
  ·split
   ·exact goal_len _ _ _ _
   ·split
    ·exact getD_le h
    ·simp
theorem linesOk_plain {C : Cfg} (h3 : hasD C.p 3 = false) : LinesOk C := fun s hs => by
 refine ⟨(fun h => by rw [h3] at h; cases h), ?_⟩
 have : (partedS s C.p).2.1.length ≤ s.length := by
  unfold partedS partsS partsL
  rw [h3]
  exact partedL_len fun x hx => splitC_small s.length (Nat.le_refl _) x hx
 omega
def okB (line fields head body ext trailers wait idle : Int) : Bool := decide (64 ≤ line ∧ line ≤ 4096 ∧ 4 ≤ fields ∧ fields ≤ 100 ∧ 256 ≤ head ∧ head ≤ 65536 ∧ 16 ≤ body ∧ body ≤ 1048576 ∧ 0 ≤ ext ∧ ext ≤ 256 ∧ 0 ≤ trailers ∧ trailers ≤ 100 ∧ 1 ≤ wait ∧ wait ≤ 16 ∧ 1 ≤ idle ∧ idle ≤ 1000)
theorem br_false {b : Bool} {a : Tr Bool} {v : Bool} (h : b = true → a.val = some v) : (Tr.br b a (.ret false)).val = some (b && v) := by
 cases b with
 | true => exact h rfl
 | false => rfl
theorem right_f (line fields head body ext trailers wait idle : Int) : bounds_Right.f line fields head body ext trailers wait idle = some (okB line fields head body ext trailers wait idle) := by
 unfold bounds_Right.f bounds_Right.t
 refine (br_false fun _ => br_false fun _ => br_false fun _ => br_false fun _ => br_false fun _ => br_false fun _ => br_false fun _ => br_false fun _ => br_false fun _ => br_false fun _ => br_false fun _ => br_false fun _ => br_false fun _ => br_false fun _ => br_false fun _ => rfl).trans ?_
 congr 1
 unfold okB
 simp only [← Bool.decide_and, ge_iff_le]
def Cfg.right (C : Cfg) : Prop := okB C.line C.fields C.head C.body C.ext C.trailers C.wait C.idle = true ∧ C.p.fdiv (2 ^ 30) = 0
instance (C : Cfg) : Decidable C.right := inferInstanceAs (Decidable (_ ∧ _))
theorem Cfg.right.ok {C : Cfg} (h : C.right) : CfgOk C := by
 have h1 := h.1
 unfold okB at h1
 have := of_decide_eq_true h1
 constructor <;> omega
abbrev NT := Bs × Bs × Int × Bool × Int × Int × Int × Int × Bool × Bool × Int × Int × Bool × Bool × Bool × Bs × Fs × Bs × Fs × List Rec
def PS.tupN (S : PS) : NT := (S.method, S.target, S.minor, S.chunked, S.stage, S.lines, S.head, S.need, S.begun, S.waits, S.err, S.most, S.pend, S.over, S.bad, S.b, S.fields, S.body, S.trailers, S.out)
def PS.new' (C : Cfg) : PS := if C.right then PS.new C else { PS.new C with err := 20 }
theorem new_f (C : Cfg) : parser_New.f C.p C.line C.fields C.head C.body C.ext C.trailers C.wait C.idle = some (PS.new' C).tupN := by
 unfold parser_New.f parser_New.t PS.new'
 rw [right_f, Tr.val_call rfl]
 by_cases hr : C.right
 ·have hp : (C.p.fdiv (2 ^ 30) == 0) = true := by simpa using hr.2
  rw [if_pos hr, hr.1, show (!true) = false from rfl, vfalse, show quirks_Right.f C.p = some (C.p.fdiv (2 ^ 30) == 0) from rfl, Tr.val_call rfl, hp]
  rfl
 ·rw [if_neg hr]
  by_cases hb : okB C.line C.fields C.head C.body C.ext C.trailers C.wait C.idle = true
  ·have hp : (C.p.fdiv (2 ^ 30) == 0) = false := by
    have : ¬ C.p.fdiv (2 ^ 30) = 0 := fun hp => hr ⟨hb, hp⟩
    simpa using this
   rw [hb, show (!true) = false from rfl, vfalse, show quirks_Right.f C.p = some (C.p.fdiv (2 ^ 30) == 0) from rfl, Tr.val_call rfl, hp]
   rfl
  ·have hb : okB C.line C.fields C.head C.body C.ext C.trailers C.wait C.idle = false := by simpa using hb
   rw [hb]
   rfl
theorem err_f (b : Bs) (f : Fs) (y : Bs) (t : Fs) (o : List Rec) : parser_Parser_Err.f b f y t o = some () := rfl
def PS.waiting (S : PS) : Bool := decide (S.err = 0) && S.waits
def PS.clean (S : PS) : Bool := decide (S.err = 0) && !S.begun
theorem waits_f (S : PS) (b : Bs) (f : Fs) (y : Bs) (t : Fs) (o : List Rec) : parser_Parser_Waits.f S.waits S.err b f y t o = some S.waiting := by
 unfold parser_Parser_Waits.f parser_Parser_Waits.t PS.waiting
 rw [beq_dec]
 cases decide (S.err = 0) <;> rfl
theorem clean_f (S : PS) (b : Bs) (f : Fs) (y : Bs) (t : Fs) (o : List Rec) : parser_Parser_Clean.f S.begun S.err b f y t o = some S.clean := by
 unfold parser_Parser_Clean.f parser_Parser_Clean.t PS.clean
 rw [beq_dec]
 cases decide (S.err = 0) <;> rfl
def sizeF (l : Fs) : Nat := (l.map fun f => f.1.length + f.2.length).sum
theorem foldE_sum {ρ : Type} (r : Nat → ρ) (l : Fs) (n : Nat) : foldE (fun n f => (Sum.inl (n + (f.1.length + f.2.length)) : Nat ⊕ ρ)) r n l = r (n + sizeF l) := by
 induction l generalizing n with
 | nil => rfl
 | cons c l ih =>
  show foldE _ r (n + (c.1.length + c.2.length)) l = _
  rw [ih]
  unfold sizeF
  rw [List.map_cons, List.sum_cons]
  congr 1
  omega
theorem size_fs {l : Fs} (h : FitF l) : record_size.f l = some (sizeF l : Int) := by
 have hL : record_size.L3.f l 0 (l.length : Int) 0 = some (sizeF l : Int) := by
  unfold record_size.L3.f
  refine (Loop_list (A := Nat) (a := 0) l (fun k n => ((n : Int), (k : Int))) (fun k n => n ≤ 2000000 * k) (fun n f => .inl (n + (f.1.length + f.2.length))) (fun n => (n : Int)) ?_ ?_ (by have := h.1; omega) (Nat.le_refl _) rfl).trans ?_
  ·intro k n c hi hk hc
   have hf := h.2 c (hc ▸ List.getElem_mem hk)
   have hl := h.1
   have hw := wS (k := k) (by omega)
   refine ⟨?_, fun a' ha => by cases ha; omega⟩
   unfold record_size.L3.t
   dsimp only
   rw [ifB _ _ (show decide ((k : Int) < (l.length : Int)) = decide (k < l.length) from lt_nat), if_pos hk, Tr.val_chk (by omega)]
   simp only [Int.toNat_natCast, Nat.zero_add, getD_nat hk hc]
   rw [Tr.val_chk hk, vokl, hw, w64 (n := ((c.1.length : Int) + (c.2.length : Int))) (by omega) (by omega), w64 (by omega) (by omega)]
   show some _ = some _
   simp only [Int.natCast_add]
  ·intro n _
   unfold record_size.L3.t
   dsimp only
   rw [ifB _ _ (show decide ((l.length : Int) < (l.length : Int)) = decide (l.length < l.length) from lt_nat), if_neg (Nat.lt_irrefl _)]
   rfl
  ·rw [foldE_sum]; simp
 unfold record_size.f record_size.t
 rw [vokl, hL]
 rfl
theorem sizeF_le {l : Fs} (h : FitF l) : sizeF l ≤ 2000000 * l.length := by
 have h2 := h.2
 clear h
 induction l with
 | nil => exact Nat.le_refl _
 | cons c l ih =>
  have := ih fun f hf => h2 f (List.mem_cons_of_mem _ hf)
  have h3 := h2 c (List.mem_cons_self ..)
  unfold sizeF at this ⊢
  rw [List.map_cons, List.sum_cons, List.length_cons]
  omega
def PS.held (S : PS) : Nat := if S.err ≠ 0 then 0 else (if S.over = true then 0 else S.b.length) + (S.method.length + S.target.length + sizeF S.fields + sizeF S.trailers + S.body.length)
theorem held_f {C : Cfg} {S : PS} (h : Small C S) (hm : S.method.length ≤ 1000000000 ∧ S.target.length ≤ 1000000000) (o : List Rec) : parser_Parser_Held.f S.method S.target S.err S.over S.b S.fields S.body S.trailers o = some (S.held : Int) := by
 have h1 := sizeF_le h.fields
 have h2 := sizeF_le h.trailers
 have h3 := h.fields.1
 have h4 := h.trailers.1
 have hb := h.body
 have hbb := h.b
 unfold parser_Parser_Held.f parser_Parser_Held.t PS.held
 rw [bne_dec]
 by_cases he : S.err = 0
 ·rw [decide_eq_false (by simp [he]), vfalse, if_neg (by simp [he]), vokl]
  have hz : record_Size.f S.fields S.body S.trailers S.method S.target = some ((S.method.length + S.target.length + sizeF S.fields + sizeF S.trailers + S.body.length : Nat) : Int) := by
   unfold record_Size.f record_Size.t
   rw [Tr.val_chk (by omega), take_all, size_fs h.fields, Tr.val_call rfl, Tr.val_chk (by omega), take_all, size_fs h.trailers, Tr.val_call rfl]
   show some _ = some _
   rw [w64 (n := ((S.method.length : Int) + (S.target.length : Int))) (by omega) (by omega), w64 (n := ((S.method.length : Int) + (S.target.length : Int)) + (sizeF S.fields : Int)) (by omega) (by omega),
    w64 (n := ((S.method.length : Int) + (S.target.length : Int)) + (sizeF S.fields : Int) + (sizeF S.trailers : Int)) (by omega) (by omega), w64 (by omega) (by omega)]
   simp only [Int.natCast_add]
  have hy : line_Reader_Len.f S.over S.b = some (((if S.over = true then 0 else S.b.length : Nat)) : Int) := by
   unfold line_Reader_Len.f line_Reader_Len.t
   cases S.over <;> rfl
  rw [hy, Tr.val_call rfl, Tr.val_chk (by omega), Tr.val_chk (by omega), Tr.val_chk (by omega)]
  simp only [take_all]
  rw [hz, Tr.val_call rfl]
  repeat rw [vokl]
  show some _ = some _
  have : (if S.over = true then 0 else S.b.length) ≤ 4096 := by split <;> omega
  rw [w64 (by omega) (by omega)]
  simp only [Int.natCast_add]
 ·rw [decide_eq_true (by simpa using he), vtrue, if_pos he]; rfl
end Pl
end Go.Vx
end
section
set_option linter.unusedVariables false
set_option linter.unusedSimpArgs false
set_option maxRecDepth 100000
namespace Go.Vx
namespace Pl
open Go Go.Proofs
theorem go_call {α β : Type} {o : Option β} {k : β → Tr α} {y : β} {r : Option α} (h : o = some y) (hk : (k y).val = r) : (Tr.call o k).val = r := by subst h; exact hk
theorem go_chk {α : Type} {p : Prop} [Decidable p] {a : Tr α} {r : Option α} (h : p) (hk : a.val = r) : (Tr.chk p a).val = r := by rw [Tr.val_chk h]; exact hk
theorem go_t {α : Type} {b : Bool} {x y : Tr α} {r : Option α} (h : b = true) (hk : x.val = r) : (Tr.br b x y).val = r := by subst h; exact hk
theorem go_f {α : Type} {b : Bool} {x y : Tr α} {r : Option α} (h : b = false) (hk : y.val = r) : (Tr.br b x y).val = r := by subst h; exact hk
theorem Loop_count {σ ρ : Type} {body : σ → Tr (σ ⊕ ρ)} (N : Nat) (st : Nat → σ) (r : ρ) (hs : ∀ k, k < N → (body (st k)).val = some (.inl (st (k + 1)))) (he : (body (st N)).val = some (.inr r)) (hN : N < 1125899906842624) {s0 : σ} (h0 : s0 = st 0) : Loop body s0 = some r := by
 refine (Loop_list (A := Unit) (a := ()) (List.replicate N ()) (fun k _ => st k) (fun _ _ => True) (fun _ _ => .inl ()) (fun _ => r) ?_ ?_ (by simpa using hN) trivial h0).trans ?_
 ·intro k a c _ hk _
  exact ⟨hs k (by simpa using hk), fun _ _ => trivial⟩
 ·intro _ _
  simpa using he
 ·have : ∀ (m : List Unit), foldE (fun (_ : Unit) (_ : Unit) => (Sum.inl () : Unit ⊕ ρ)) (fun _ => r) () m = r := by
   intro m
   induction m with
   | nil => rfl
   | cons c m ih => exact ih
  rw [this]
theorem mod_i (n : UInt8) (m : Nat) (h : 0 < m) (h2 : m < 256) : IntKind.i64.wrap ((Int.ofNat n.toNat).tmod (m : Int)) = ((n.toNat % m : Nat) : Int) := by
 have : (Int.ofNat n.toNat).tmod (m : Int) = ((n.toNat % m : Nat) : Int) := by
  rw [Int.ofNat_eq_natCast]
  exact (Int.ofNat_tmod n.toNat m).symm
 have hl : n.toNat % m < m := Nat.mod_lt _ h
 rw [this, w64 (by omega) (by omega)]
def usual (p : Int) : Cfg := ⟨p, 1024, 32, 8192, 65536, 32, 8, 4, 20, true, true⟩
theorem usual_ok (p : Int) : CfgOk (usual p) := ⟨(by decide : (64 : Int) ≤ 1024 ∧ (1024 : Int) ≤ 4096), (by decide : (0 : Int) ≤ 32 ∧ (32 : Int) ≤ 100), (by decide : (0 : Int) ≤ 8 ∧ (8 : Int) ≤ 100), (by decide : (0 : Int) ≤ 8192 ∧ (8192 : Int) ≤ 65536), (by decide : (0 : Int) ≤ 65536 ∧ (65536 : Int) ≤ 1048576)⟩
theorem usual_lines : LinesOk (usual 0) := linesOk_plain (by decide +kernel)
def known3 : List Bs := [List.take (48 : Nat) (List.drop (0 : Nat) [(80 : UInt8), (79 : UInt8), (83 : UInt8), (84 : UInt8), (32 : UInt8), (47 : UInt8), (32 : UInt8), (72 : UInt8), (84 : UInt8), (84 : UInt8), (80 : UInt8), (47 : UInt8), (49 : UInt8), (46 : UInt8), (49 : UInt8), (13 : UInt8), (10 : UInt8), (72 : UInt8), (111 : UInt8), (115 : UInt8), (116 : UInt8), (58 : UInt8), (32 : UInt8), (104 : UInt8), (13 : UInt8), (10 : UInt8), (69 : UInt8), (120 : UInt8), (112 : UInt8), (101 : UInt8), (99 : UInt8), (116 : UInt8), (58 : UInt8), (32 : UInt8), (49 : UInt8), (48 : UInt8), (48 : UInt8), (45 : UInt8), (99 : UInt8), (111 : UInt8), (110 : UInt8), (116 : UInt8), (105 : UInt8), (110 : UInt8), (117 : UInt8), (101 : UInt8), (13 : UInt8), (10 : UInt8)]), List.take (21 : Nat) (List.drop (0 : Nat) [(67 : UInt8), (111 : UInt8), (110 : UInt8), (116 : UInt8), (101 : UInt8), (110 : UInt8), (116 : UInt8), (45 : UInt8), (76 : UInt8), (101 : UInt8), (110 : UInt8), (103 : UInt8), (116 : UInt8), (104 : UInt8), (58 : UInt8), (32 : UInt8), (50 : UInt8), (13 : UInt8), (10 : UInt8), (13 : UInt8), (10 : UInt8)])]
end Pl
end Go.Vx
end
section
set_option linter.unusedVariables false
set_option linter.unusedSimpArgs false
set_option maxRecDepth 100000
namespace Go.Vx
namespace Pl
open Go Go.Proofs
theorem step_err {C : Cfg} {S : PS} (h : S.err ≠ 0) (c : UInt8) (b : Bool) : S.step C c b = S := by
 unfold PS.step PS.stepG
 rw [if_pos h]
theorem feed_err {C : Cfg} {S : PS} (h : S.err ≠ 0) (l : Bs) : S.feed C l = S := by
 induction l with
 | nil => rfl
 | cons c l ih => rw [feed_cons, step_err h, ih]
def PS.line (S : PS) : Bs := if S.over = true then [] else S.b
def PS.inc (S : PS) : Nat := if S.stage = 3 ∨ S.stage = 5 then 0 else 1
def PS.headed (S : PS) : PS := { S with begun := true, waits := false, head := S.head + (S.inc : Int) }
structure Ready (C : Cfg) (S : PS) : Prop where
 err : S.err = 0
 stage : ¬ (S.stage = 2 ∨ S.stage = 4)
 bad : S.bad = false
 pend : S.pend = false
def PS.hasRoom (C : Cfg) (S : PS) (n : Nat) : Prop := S.inc = 0 ∨ S.head + (n : Int) ≤ C.head
theorem step_ready {C : Cfg} {S : PS} (he : S.err = 0) (hs : ¬ (S.stage = 2 ∨ S.stage = 4)) (hh : S.hasRoom C 1) (c : UInt8) : S.step C c true = S.headed.tailG (PS.step1 C) C c (S.headed.lineB C c) := by
 unfold PS.step PS.stepG
 rw [if_neg (by simp [he]), if_neg hs, if_pos rfl]
 have : S.mark.counted C = (S.headed, true) := by
  unfold PS.counted PS.headed PS.inc
  by_cases h : S.stage = 3 ∨ S.stage = 5
  ·have h' : S.mark.stage = 3 ∨ S.mark.stage = 5 := h
   rw [if_pos h', if_pos h]
   simp [PS.mark]
  ·have h' : ¬ (S.mark.stage = 3 ∨ S.mark.stage = 5) := h
   rw [if_neg h', if_neg h]
   have h2 : ¬ (S.mark.head + 1 > C.head) := by
    rcases hh with h3 | h3
    ·unfold PS.inc at h3; rw [if_neg h] at h3; cases h3
    ·show ¬ (S.head + 1 > C.head); omega
   rw [if_neg h2]
   have h4 : (S.mark.err == 0) = true := by show (S.err == 0) = true; simp [he]
   rw [h4]
   simp [PS.mark]
 rw [this, if_neg (by simp)]
def PS.add (S : PS) (l : Bs) : PS := { S with begun := true, waits := false, head := S.head + ((S.inc * l.length : Nat) : Int), over := false, b := S.line ++ l }
theorem step_plain {C : Cfg} {S : PS} (h : Ready C S) (hh : S.hasRoom C 1) {c : UInt8} (h13 : c ≠ 13) (h10 : c ≠ 10) (hm : (S.line.length : Int) < S.most) : S.step C c true = S.add [c] := by
 rw [step_ready h.err h.stage hh]
 have hb : S.headed.bad = false := h.bad
 have hp : S.headed.pend = false := h.pend
 have : S.headed.lineB C c = (S.add [c], 0) := by
  unfold PS.lineB
  rw [if_neg (by simp [hb]), if_neg (by simp [hp]), if_neg h13, if_neg h10]
  have hm' : ¬ (((if S.headed.over = true then ([] : Bs) else S.headed.b).length : Int) ≥ S.headed.most) := by
   show ¬ ((S.line.length : Int) ≥ S.most)
   omega
  rw [if_neg hm']
  simp [PS.headed, PS.add, PS.line]
  rfl
 rw [this]
 unfold PS.tailG
 rw [if_neg (by simp), if_neg (by simp), if_neg (by simp), if_neg (by simp)]
def plain (l : Bs) : Prop := ∀ c ∈ l, c ≠ 13 ∧ c ≠ 10
instance (l : Bs) : Decidable (plain l) := inferInstanceAs (Decidable (∀ c ∈ l, c ≠ 13 ∧ c ≠ 10))
theorem add_line (S : PS) (l : Bs) : (S.add l).line = S.line ++ l := rfl
theorem add_ready {C : Cfg} {S : PS} (h : Ready C S) (l : Bs) : Ready C (S.add l) := ⟨h.err, h.stage, h.bad, h.pend⟩
theorem add_add (S : PS) (l m : Bs) : (S.add l).add m = S.add (l ++ m) := by
 unfold PS.add PS.inc PS.line
 simp only [List.append_assoc, List.length_append, Nat.mul_add, Int.natCast_add, Bool.false_eq_true, if_false, Int.add_assoc]
theorem inc_le (S : PS) : S.inc ≤ 1 := by unfold PS.inc; split <;> omega
theorem room_one {C : Cfg} {S : PS} {n : Nat} (h : S.hasRoom C (n + 1)) : S.hasRoom C 1 := by
 rcases h with h | h
 ·exact .inl h
 ·exact .inr (by omega)
theorem room_le {C : Cfg} {S : PS} {n m : Nat} (h : S.hasRoom C n) (hm : m ≤ n) : S.hasRoom C m := by
 rcases h with h | h
 ·exact .inl h
 ·exact .inr (by omega)
theorem room_add {C : Cfg} {S : PS} {l : Bs} {n : Nat} (h : S.hasRoom C (l.length + n)) : (S.add l).hasRoom C n := by
 rcases h with h | h
 ·exact .inl h
 ·refine .inr ?_
  have h1 := inc_le S
  have h2 : S.inc * l.length ≤ l.length := by
   have := Nat.mul_le_mul_right l.length h1
   omega
  show S.head + ((S.inc * l.length : Nat) : Int) + (n : Int) ≤ C.head
  omega
theorem feed_plain {C : Cfg} : ∀ (l : Bs) {S : PS} (c : UInt8), Ready C S → plain (c :: l) → S.hasRoom C (l.length + 1) → ((S.line.length + (l.length + 1) : Nat) : Int) ≤ S.most → S.feed C (c :: l) = S.add (c :: l)
 | [], S, c, h, hp, hh, hm => by
  have h0 := hp c (List.mem_cons_self ..)
  rw [feed_cons, step_plain h (room_one hh) h0.1 h0.2 (by simp only [List.length_nil] at hm; omega)]
  rfl
 | d :: l, S, c, h, hp, hh, hm => by
  have h0 := hp c (List.mem_cons_self ..)
  simp only [List.length_cons] at hh hm
  rw [feed_cons, step_plain h (room_one hh) h0.1 h0.2 (by omega), feed_plain l d (add_ready h _) (fun x hx => hp x (List.mem_cons_of_mem _ hx)) (room_add (by simpa [Nat.add_comm] using hh)) (by rw [add_line]; show _ ≤ S.most; simp only [List.length_append, List.length_singleton]; omega), add_add]
  rfl
def PS.end_ (S : PS) : PS := { S with begun := true, waits := false, head := S.head + ((S.inc * 2 : Nat) : Int), pend := false, over := true, b := S.line }
theorem feed_crlf {C : Cfg} {S : PS} (h : Ready C S) (hh : S.hasRoom C 2) : S.feed C [13, 10] = S.end_.ended C := by
 rw [feed_cons, step_ready h.err h.stage (room_one hh)]
 have hb : S.headed.bad = false := h.bad
 have hp : S.headed.pend = false := h.pend
 have h1 : S.headed.lineB C 13 = ({ S.headed with pend := true, over := false, b := S.line }, 0) := by
  unfold PS.lineB
  rw [if_neg (by simp [hb]), if_neg (by simp [hp]), if_pos rfl]
  rfl
 rw [h1]
 have h2 : S.headed.tailG (PS.step1 C) C 13 ({ S.headed with pend := true, over := false, b := S.line }, 0) = { S.headed with pend := true, over := false, b := S.line } := by
  unfold PS.tailG
  rw [if_neg (by simp), if_neg (by simp), if_neg (by simp), if_neg (by simp)]
 rw [h2, feed_cons, feed_nil, step_ready (S := { S.headed with pend := true, over := false, b := S.line }) h.err h.stage (by
  rcases hh with h3 | h3
  ·exact .inl h3
  ·refine .inr ?_
   have := inc_le S
   show S.head + (S.inc : Int) + 1 ≤ C.head
   omega)]
 have h3 : (PS.headed { S.headed with pend := true, over := false, b := S.line }).lineB C 10 = (S.end_, 1) := by
  unfold PS.lineB
  rw [if_neg (by simpa [PS.headed] using h.bad), if_pos rfl, if_pos rfl]
  have e : S.head + (S.inc : Int) + (S.inc : Int) = S.head + ((S.inc * 2 : Nat) : Int) := by omega
  show (({ S.headed with begun := true, waits := false, head := S.head + (S.inc : Int) + (S.inc : Int), over := true, pend := false, b := S.line } : PS), (1 : Int)) = _
  rw [e]
  rfl
 rw [h3]
 unfold PS.tailG
 rw [if_pos rfl]
theorem add_nil_end (S : PS) : (S.add []).end_ = S.end_ := by
 unfold PS.add PS.end_ PS.line PS.inc
 simp
theorem feed_line {C : Cfg} {S : PS} (l : Bs) (h : Ready C S) (hp : plain l) (hh : S.hasRoom C (l.length + 2)) (hm : ((S.line.length + l.length : Nat) : Int) ≤ S.most) : S.feed C (l ++ [13, 10]) = (S.add l).end_.ended C := by
 cases l with
 | nil => rw [List.nil_append, add_nil_end, feed_crlf h (by simpa using hh)]
 | cons c l =>
  rw [feed_append, feed_plain l c h hp (room_le hh (by simp)) (by simpa using hm), feed_crlf (add_ready h _) (room_add hh)]
def PS.errLong (S : PS) : Int := if S.stage = 0 then 414 else if S.stage = 1 then 431 else if S.stage = 6 then 431 else 400
theorem errLong_ne (S : PS) : S.errLong ≠ 0 := by 
 unfold PS.errLong
 split
 ·decide
 ·split
  ·decide
  ·split <;> decide
theorem feed_long {C : Cfg} (r : Bs) : ∀ (l : Bs) {S : PS}, Ready C S → plain l → S.stage ≠ 5 → S.hasRoom C l.length → S.most < ((S.line.length + l.length : Nat) : Int) → (S.line.length : Int) ≤ S.most → (S.feed C (l ++ r)).err = S.errLong
 | [], S, h, hp, h5, hh, hm, hz => by simp at hm; omega
 | c :: l, S, h, hp, h5, hh, hm, hz => by
  have h0 := hp c (List.mem_cons_self ..)
  rw [List.cons_append, feed_cons]
  simp only [List.length_cons] at hh hm
  by_cases hf : (S.line.length : Int) < S.most
  ·rw [step_plain h (room_one hh) h0.1 h0.2 hf, feed_long r l (add_ready h _) (fun x hx => hp x (List.mem_cons_of_mem _ hx)) h5 (room_add (by simpa [Nat.add_comm] using hh)) (by rw [add_line]; show S.most < _; simp only [List.length_append, List.length_singleton]; omega) (by rw [add_line]; show _ ≤ S.most; simp only [List.length_append, List.length_singleton]; omega)]
   rfl
  ·rw [step_ready h.err h.stage (room_one hh)]
   have hb : S.headed.bad = false := h.bad
   have hpd : S.headed.pend = false := h.pend
   have : S.headed.lineB C c = ({ S.headed with bad := true, pend := false, over := false, b := S.line }, 4) := by
    unfold PS.lineB
    rw [if_neg (by simp [hb]), if_neg (by simp [hpd]), if_neg h0.1, if_neg h0.2]
    have hm' : ((if S.headed.over = true then ([] : Bs) else S.headed.b).length : Int) ≥ S.headed.most := by
     show (S.line.length : Int) ≥ S.most
     omega
    rw [if_pos hm']
    rfl
   have ht : ((S.headed.tailG (PS.step1 C) C c (S.headed.lineB C c))).err = S.errLong := by
    rw [this]
    unfold PS.tailG
    rw [if_neg (by simp), if_neg (by simp), if_pos rfl]
    unfold PS.longG PS.errLong
    show (if S.stage = 0 then PS.fail _ 414 else if S.stage = 1 then PS.fail _ 431 else if S.stage = 6 then PS.fail _ 431 else if S.stage = 5 then _ else PS.fail _ 400 : PS).err = _
    rw [if_neg h5]
    split
    ·rfl
    ·split
     ·rfl
     ·split <;> rfl
   have hne := errLong_ne S
   rw [feed_err (by rw [ht]; exact hne), ht]
end Pl
end Go.Vx
end
section
set_option linter.unusedVariables false
set_option linter.unusedSimpArgs false
set_option maxRecDepth 100000
namespace Go.Vx
namespace Pl
open Go Go.Proofs
def PS.hd (S : PS) (lines head : Int) (fs : Fs) (e : Int) (b : Bs) : PS := { S with stage := 1, begun := true, waits := false, lines := lines, head := head, fields := fs, err := e, pend := false, over := true, bad := false, b := b }
theorem hd_ready (C : Cfg) (S : PS) (lines head : Int) (fs : Fs) (b : Bs) : Ready C (S.hd lines head fs 0 b) := ⟨rfl, (by show ¬ ((1 : Int) = 2 ∨ (1 : Int) = 4); decide), rfl, rfl⟩
theorem hd_room {C : Cfg} {S : PS} {lines head : Int} {fs : Fs} {e : Int} {b : Bs} {n : Nat} (h : head + (n : Int) ≤ C.head) : (S.hd lines head fs e b).hasRoom C n := .inr h
theorem hd_add_end (S : PS) (lines head : Int) (fs : Fs) (b l : Bs) : ((S.hd lines head fs 0 b).add l).end_ = S.hd lines (head + ((l.length + 2 : Nat) : Int)) fs 0 l := by
 have e : head + ((1 * l.length : Nat) : Int) + ((1 * 2 : Nat) : Int) = head + ((l.length + 2 : Nat) : Int) := by omega
 have h : ((S.hd lines head fs 0 b).add l).end_ = S.hd lines (head + ((1 * l.length : Nat) : Int) + ((1 * 2 : Nat) : Int)) fs 0 l := rfl
 rw [h, e]
theorem hd_line {C : Cfg} {S : PS} {lines head : Int} {fs : Fs} {b l : Bs} (hp : plain l) (hne : l ≠ []) (hm : (l.length : Int) ≤ S.most) (hh : head + ((l.length + 2 : Nat) : Int) ≤ C.head) :
  (S.hd lines head fs 0 b).feed C (l ++ [13, 10]) = if lines + 1 > C.fields then S.hd (lines + 1) (head + ((l.length + 2 : Nat) : Int)) fs 431 l else S.hd (lines + 1) (head + ((l.length + 2 : Nat) : Int)) (fieldL C.p fs l 0).1 (fieldL C.p fs l 0).2 l := by
 rw [feed_line l (hd_ready C S lines head fs b) hp (hd_room hh) (by show (((0 + l.length : Nat)) : Int) ≤ S.most; omega), hd_add_end]
 unfold PS.ended
 rw [if_neg (by show ¬ ((1 : Int) = 0); decide), if_pos (show (S.hd lines (head + ((l.length + 2 : Nat) : Int)) fs 0 l).stage = 1 from rfl), if_neg (show ¬ (S.hd lines (head + ((l.length + 2 : Nat) : Int)) fs 0 l).lineS = [] from hne)]
 unfold PS.fieldF
 by_cases h : lines + 1 > C.fields
 ·rw [if_pos (show (S.hd lines (head + ((l.length + 2 : Nat) : Int)) fs 0 l).lines + 1 > C.fields from h), if_pos h]; rfl
 ·rw [if_neg (show ¬ (S.hd lines (head + ((l.length + 2 : Nat) : Int)) fs 0 l).lines + 1 > C.fields from h), if_neg h]; rfl
theorem hd_blank {C : Cfg} {S : PS} {lines head : Int} {fs : Fs} {b : Bs} (hm : 0 ≤ S.most) (hh : head + 2 ≤ C.head) :
  (S.hd lines head fs 0 b).feed C [13, 10] = (S.hd lines (head + 2) fs 0 []).framed C := by
 have := feed_line (C := C) [] (hd_ready C S lines head fs b) (fun c hc => by simp at hc) (hd_room (by simpa using hh)) (by show ((0 : Nat) : Int) ≤ S.most; omega)
 rw [List.nil_append] at this
 rw [this, hd_add_end]
 rfl
theorem new_first {C : Cfg} {l m t : Bs} {mi : Int} (hC : CfgOk C) (hp : plain l) (hne : l ≠ []) (hm : (l.length : Int) ≤ C.line) (hh : ((l.length + 2 : Nat) : Int) ≤ C.head) (hr : requestS l C.p C.old = (m, t, mi, 0)) :
  (PS.new C).feed C (l ++ [13, 10]) = PS.hd { PS.new C with method := m, target := t, minor := mi } 0 ((l.length + 2 : Nat) : Int) [] 0 l := by
 have hrd : Ready C (PS.new C) := ⟨rfl, (by show ¬ ((0 : Int) = 2 ∨ (0 : Int) = 4); decide), rfl, rfl⟩
 have hmost : (PS.new C).most = C.line := hC.most
 rw [feed_line l hrd hp (.inr (by show (0 : Int) + _ ≤ _; omega)) (by rw [hmost]; show (((0 + l.length : Nat)) : Int) ≤ _; omega)]
 have hl : ((PS.new C).add l).end_.lineS = l := rfl
 unfold PS.ended
 rw [if_pos (show ((PS.new C).add l).end_.stage = 0 from rfl), hl]
 unfold PS.request
 rw [if_neg (fun h => hne h.1), hr]
 have e : (0 : Int) + ((1 * l.length : Nat) : Int) + ((1 * 2 : Nat) : Int) = ((l.length + 2 : Nat) : Int) := by omega
 rw [if_pos (show ((m, t, mi, (0 : Int)) : ReqS).2.2.2 = 0 from rfl)]
 show PS.hd { PS.new C with method := m, target := t, minor := mi } 0 ((0 : Int) + ((1 * l.length : Nat) : Int) + ((1 * 2 : Nat) : Int)) [] 0 l = _
 rw [e]
theorem new_taken (C : Cfg) : (PS.new C).taken = PS.new C := rfl
theorem hd_err {C : Cfg} {S : PS} {lines head : Int} {fs : Fs} {e : Int} {b : Bs} (he : e ≠ 0) (r : Bs) : ((S.hd lines head fs e b).feed C r) = S.hd lines head fs e b := feed_err (show (S.hd lines head fs e b).err ≠ 0 from he) r
theorem step_over {C : Cfg} {S : PS} (he : S.err = 0) (hs : S.stage = 0 ∨ S.stage = 1 ∨ S.stage = 6) (hh : S.head + 1 > C.head) (c : UInt8) : (S.step C c true).err = 431 ∧ (S.step C c true).out = S.out := by
 have h24 : ¬ (S.stage = 2 ∨ S.stage = 4) := by omega
 have h35 : ¬ (S.mark.stage = 3 ∨ S.mark.stage = 5) := by show ¬ (S.stage = 3 ∨ S.stage = 5); omega
 unfold PS.step PS.stepG
 rw [if_neg (by simp [he]), if_neg h24, if_pos rfl]
 have : S.mark.counted C = ({ S.mark with head := S.head + 1, err := 431 }, false) := by
  unfold PS.counted
  rw [if_neg h35, if_pos (show S.mark.head + 1 > C.head from hh)]
  rfl
 rw [this, if_pos rfl]
 exact ⟨rfl, rfl⟩
theorem feed_over {C : Cfg} {S T : PS} {p : Bs} (h : S.feed C p = T) (he : T.err = 0) (hs : T.stage = 0 ∨ T.stage = 1 ∨ T.stage = 6) (hh : T.head + 1 > C.head) (c : UInt8) (r : Bs) : (S.feed C (p ++ c :: r)).err = 431 ∧ (S.feed C (p ++ c :: r)).out = T.out := by
 have h1 := step_over he hs hh c
 rw [feed_append, h, feed_cons, feed_err (by rw [h1.1]; decide)]
 exact h1
def PS.crOf (S : PS) : PS := { S.headed with pend := true, over := false, b := S.line }
theorem feed_cr {C : Cfg} {S : PS} (h : Ready C S) (hh : S.hasRoom C 1) : S.feed C [13] = S.crOf := by
 rw [feed_cons, feed_nil, step_ready h.err h.stage hh]
 have hb : S.headed.bad = false := h.bad
 have hp : S.headed.pend = false := h.pend
 have h1 : S.headed.lineB C 13 = ({ S.headed with pend := true, over := false, b := S.line }, 0) := by
  unfold PS.lineB
  rw [if_neg (by simp [hb]), if_neg (by simp [hp]), if_pos rfl]
  rfl
 rw [h1]
 unfold PS.tailG
 rw [if_neg (by simp), if_neg (by simp), if_neg (by simp), if_neg (by simp)]
 rfl
end Pl
end Go.Vx
end
section
set_option linter.unusedVariables false
set_option linter.unusedSimpArgs false
set_option maxRecDepth 100000
namespace Go.Vx
namespace Pl
open Go Go.Proofs
def getL : Bs := [71, 69, 84, 32, 47, 32, 72, 84, 84, 80, 47, 49, 46, 49]
def hostL : Bs := [72, 111, 115, 116, 58, 32, 97]
def headS : Bs := getL ++ [13, 10] ++ (hostL ++ [13, 10])
def cfgH (line J K : Nat) : Cfg := ⟨0, line, 4 + J, 256 + K, 65536, 32, 8, 4, 20, true, true⟩
theorem right_H {line J K : Nat} (hl : line = 64 ∨ line = 4096) (hJ : J < 4) (hK : K < 256) : (cfgH line J K).right := ⟨by show decide _ = true; rw [decide_eq_true_iff]; dsimp only [cfgH]; omega, by show (0 : Int).fdiv (2 ^ 30) = 0; decide⟩
def baseH (C : Cfg) : PS := { PS.new C with method := [71, 69, 84], target := [47], minor := 1 }
theorem host_field : fieldL 0 [] hostL 0 = ([([72, 111, 115, 116], [97])], 0) := by decide +kernel
theorem head_run {line J K : Nat} (hl : line = 64 ∨ line = 4096) (hJ : J < 4) (hK : K < 256) : (PS.new (cfgH line J K)).feed (cfgH line J K) headS = (baseH (cfgH line J K)).hd 1 25 [([72, 111, 115, 116], [97])] 0 hostL := by
 have hC := (right_H hl hJ hK).ok
 have hm : lineMost (cfgH line J K).line = line := hC.most
 unfold headS
 rw [feed_append, new_first (m := [71, 69, 84]) (t := [47]) (mi := 1) hC (by decide) (by decide) (by show ((14 : Nat) : Int) ≤ (line : Int); omega) (by show ((16 : Nat) : Int) ≤ 256 + (K : Int); omega) (by show requestS getL 0 true = _; decide +kernel)]
 rw [hd_line (by decide) (by decide) (by show ((7 : Nat) : Int) ≤ lineMost (cfgH line J K).line; rw [hm]; omega) (by show ((16 : Nat) : Int) + ((9 : Nat) : Int) ≤ 256 + (K : Int); omega)]
 rw [if_neg (by show ¬ ((0 : Int) + 1 > 4 + (J : Int)); omega), show fieldL (cfgH line J K).p [] hostL 0 = _ from host_field]
 rfl
def abS : Bs := [65, 58, 32, 98]
def fsH (i : Nat) : Fs := ([72, 111, 115, 116], [97]) :: List.replicate i ([65], [98])
theorem ab_field (fs : Fs) : fieldL 0 fs abS 0 = (fs ++ [([65], [98])], 0) := by
 unfold fieldL
 have h1 : goesS abS 0 = false := by decide +kernel
 have h2 : fieldS abS 0 = ([65], [98], true, 0) := by decide +kernel
 rw [if_neg (fun h => by rw [h1] at h; exact absurd h.2 (by decide)), h2]
 rfl
def repS : Nat → Bs
 | 0 => []
 | c + 1 => (abS ++ [13, 10]) ++ repS c
theorem repS_len (c : Nat) : (repS c).length = 6 * c := by
 induction c with
 | zero => rfl
 | succ c ih => simp only [repS, List.length_append, ih]; simp [abS]; omega
theorem fsH_succ (i : Nat) : fsH i ++ [([65], [98])] = fsH (i + 1) := by
 unfold fsH
 rw [List.cons_append, ← List.replicate_succ']
theorem ab_step {line J K i : Nat} {b : Bs} (hl : line = 64 ∨ line = 4096) (hJ : J < 4) (hK : K < 256) (hi : i < 20) :
  ((baseH (cfgH line J K)).hd (1 + i : Nat) (25 + 6 * i : Nat) (fsH i) 0 b).feed (cfgH line J K) (abS ++ [13, 10]) = if 3 + J < 1 + i then (baseH (cfgH line J K)).hd (1 + i + 1 : Nat) (25 + 6 * (i + 1) : Nat) (fsH i) 431 abS else (baseH (cfgH line J K)).hd (1 + i + 1 : Nat) (25 + 6 * (i + 1) : Nat) (fsH (i + 1)) 0 abS := by
 have hC := (right_H hl hJ hK).ok
 have hm : lineMost (cfgH line J K).line = line := hC.most
 rw [hd_line (by decide) (by decide) (by show ((4 : Nat) : Int) ≤ lineMost (cfgH line J K).line; rw [hm]; omega) (by show ((25 + 6 * i : Nat) : Int) + ((6 : Nat) : Int) ≤ 256 + (K : Int); omega)]
 have e1 : ((1 + i : Nat) : Int) + 1 = ((1 + i + 1 : Nat) : Int) := by omega
 have e2 : ((25 + 6 * i : Nat) : Int) + ((abS.length + 2 : Nat) : Int) = ((25 + 6 * (i + 1) : Nat) : Int) := by show ((25 + 6 * i : Nat) : Int) + ((6 : Nat) : Int) = _; omega
 rw [show fieldL (cfgH line J K).p (fsH i) abS 0 = _ from ab_field (fsH i), fsH_succ, e1, e2]
 by_cases h : 3 + J < 1 + i
 ·rw [if_pos h, if_pos (by show ((1 + i + 1 : Nat) : Int) > 4 + (J : Int); omega)]
 ·rw [if_neg h, if_neg (by show ¬ (((1 + i + 1 : Nat) : Int) > 4 + (J : Int)); omega)]
theorem many_ok {line J K : Nat} (hl : line = 64 ∨ line = 4096) (hJ : J < 4) (hK : K < 256) : ∀ (c i : Nat) (b : Bs), i + c < 20 → i + c + 1 ≤ 4 + J → ∃ b', ((baseH (cfgH line J K)).hd (1 + i : Nat) (25 + 6 * i : Nat) (fsH i) 0 b).feed (cfgH line J K) (repS c) = (baseH (cfgH line J K)).hd (1 + (i + c) : Nat) (25 + 6 * (i + c) : Nat) (fsH (i + c)) 0 b'
 | 0, i, b, hi, hle => ⟨b, rfl⟩
 | c + 1, i, b, hi, hle => by
  obtain ⟨b', h⟩ := many_ok hl hJ hK c (i + 1) abS (by omega) (by omega)
  refine ⟨b', ?_⟩
  show PS.feed _ _ ((abS ++ [13, 10]) ++ repS c) = _
  rw [feed_append, ab_step hl hJ hK (by omega), if_neg (by omega), show 1 + i + 1 = 1 + (i + 1) by omega, h, show i + 1 + c = i + (c + 1) by omega]
theorem many_bad {line J K : Nat} (hl : line = 64 ∨ line = 4096) (hJ : J < 4) (hK : K < 256) (r : Bs) : ∀ (c i : Nat) (b : Bs), i + c < 20 → i + 1 ≤ 4 + J → 4 + J < i + c + 1 → (((baseH (cfgH line J K)).hd (1 + i : Nat) (25 + 6 * i : Nat) (fsH i) 0 b).feed (cfgH line J K) (repS c ++ r)).err = 431 ∧ (((baseH (cfgH line J K)).hd (1 + i : Nat) (25 + 6 * i : Nat) (fsH i) 0 b).feed (cfgH line J K) (repS c ++ r)).out = []
 | 0, i, b, hi, h1, h2 => by omega
 | c + 1, i, b, hi, h1, h2 => by
  show (PS.feed _ _ (((abS ++ [13, 10]) ++ repS c) ++ r)).err = 431 ∧ (PS.feed _ _ (((abS ++ [13, 10]) ++ repS c) ++ r)).out = []
  rw [List.append_assoc, feed_append, ab_step hl hJ hK (by omega)]
  by_cases h : 3 + J < 1 + i
  ·rw [if_pos h, hd_err (by decide)]; exact ⟨rfl, rfl⟩
  ·rw [if_neg h, show 1 + i + 1 = 1 + (i + 1) by omega]
   exact many_bad hl hJ hK r c (i + 1) abS (by omega) (by omega) (by omega)
theorem fr_many : ∀ c, c < 20 → frameS (fsH c) 0 65536 true 1 = (1, 0, 0) := by decide +kernel
theorem blank_whole {line J K : Nat} {lines head : Int} {fs : Fs} {b : Bs} (hl : line = 64 ∨ line = 4096) (hJ : J < 4) (hK : K < 256) (hh : head + 2 ≤ 256 + (K : Int)) (hf : frameS fs 0 65536 true 1 = (1, 0, 0)) :
  (((baseH (cfgH line J K)).hd lines head fs 0 b).feed (cfgH line J K) [13, 10]).err = 0 ∧ (((baseH (cfgH line J K)).hd lines head fs 0 b).feed (cfgH line J K) [13, 10]).out.length = 1 := by
 have hC := (right_H hl hJ hK).ok
 have hm : lineMost (cfgH line J K).line = line := hC.most
 rw [hd_blank (by show (0 : Int) ≤ lineMost (cfgH line J K).line; rw [hm]; omega) hh]
 unfold PS.framed
 have : frameS ((baseH (cfgH line J K)).hd lines (head + 2) fs 0 []).fields (cfgH line J K).p (cfgH line J K).body (cfgH line J K).chunked ((baseH (cfgH line J K)).hd lines (head + 2) fs 0 []).minor = (1, 0, 0) := hf
 rw [this]
 exact ⟨rfl, rfl⟩
def xS (m : Nat) : Bs := [65, 58] ++ List.replicate m 120
theorem x_len (m : Nat) : (xS m).length = m + 2 := by simp [xS]
theorem x_plain : ∀ m, m < 450 → plain (xS m) := by decide +kernel
theorem x_run : ∀ m, m < 450 → fieldS (xS m) 0 = ([65], List.replicate m 120, true, 0) := by decide +kernel
theorem x_goes : ∀ m, m < 450 → goesS (xS m) 0 = false := by decide +kernel
theorem x_field {m : Nat} (h : m < 450) : fieldL 0 [([72, 111, 115, 116], [97])] (xS m) 0 = ([([72, 111, 115, 116], [97]), ([65], List.replicate m 120)], 0) := by
 unfold fieldL
 rw [if_neg (fun q => by rw [x_goes m h] at q; exact absurd q.2 (by decide)), x_run m h]
 rfl
theorem fr_x (v : Bs) : frameS [([72, 111, 115, 116], [97]), ([65], v)] 0 65536 true 1 = (1, 0, 0) := by rfl
theorem x_text (m : Nat) : headS ++ xS m ++ [13, 10, 13, 10] = headS ++ ((xS m ++ [13, 10]) ++ [13, 10]) := by simp
theorem x_line {line J K m : Nat} (hl : line = 64 ∨ line = 4096) (hJ : J < 4) (hK : K < 256) (hm : m < 450) (h2 : m + 2 ≤ line) (hh : 29 + m ≤ 256 + K) :
  ((baseH (cfgH line J K)).hd 1 25 [([72, 111, 115, 116], [97])] 0 hostL).feed (cfgH line J K) (xS m ++ [13, 10]) = (baseH (cfgH line J K)).hd 2 (29 + m : Nat) [([72, 111, 115, 116], [97]), ([65], List.replicate m 120)] 0 (xS m) := by
 have hC := (right_H hl hJ hK).ok
 have hmo : lineMost (cfgH line J K).line = line := hC.most
 have hx := x_len m
 rw [hd_line (x_plain m hm) (by intro e; rw [e] at hx; simp at hx) (by show ((xS m).length : Int) ≤ lineMost (cfgH line J K).line; rw [hmo, hx]; omega) (by rw [hx]; show (25 : Int) + ((m + 2 + 2 : Nat) : Int) ≤ 256 + (K : Int); omega)]
 rw [if_neg (by show ¬ ((1 : Int) + 1 > 4 + (J : Int)); omega), show fieldL (cfgH line J K).p [([72, 111, 115, 116], [97])] (xS m) 0 = _ from x_field hm, hx]
 rw [show (25 : Int) + ((m + 2 + 2 : Nat) : Int) = ((29 + m : Nat) : Int) by omega]
 rfl
theorem x_short {line J K m : Nat} (hl : line = 64 ∨ line = 4096) (hJ : J < 4) (hK : K < 256) (hm : m < 450) (h2 : m + 2 ≤ line) (hh : 31 + m ≤ 256 + K) : ((PS.new (cfgH line J K)).feed (cfgH line J K) (headS ++ xS m ++ [13, 10, 13, 10])).err = 0 := by
 rw [x_text, feed_append, head_run hl hJ hK, feed_append, x_line hl hJ hK hm h2 (by omega)]
 exact (blank_whole hl hJ hK (by omega) (fr_x _)).1
theorem x_long {J K m : Nat} (hJ : J < 4) (hK : K < 256) (hm : m < 70) (h2 : 64 < m + 2) : ((PS.new (cfgH 64 J K)).feed (cfgH 64 J K) (headS ++ xS m ++ [13, 10, 13, 10])).err = 431 := by
 have hC := (right_H (line := 64) (.inl rfl) hJ hK).ok
 have hmo : lineMost (cfgH 64 J K).line = 64 := hC.most
 have hx := x_len m
 rw [List.append_assoc, feed_append, head_run (.inl rfl) hJ hK]
 exact feed_long [13, 10, 13, 10] (xS m) (hd_ready _ _ _ _ _ _) (x_plain m (by omega)) (by show (1 : Int) ≠ 5; decide) (.inr (by rw [hx]; show (25 : Int) + _ ≤ 256 + (K : Int); omega))
  (by rw [hx]; show lineMost (cfgH 64 J K).line < (((0 : Nat) + (m + 2) : Nat) : Int); rw [hmo]; omega) (by show (((0 : Nat)) : Int) ≤ lineMost (cfgH 64 J K).line; rw [hmo]; decide)
theorem feed_plain' {C : Cfg} {S : PS} {l : Bs} (hne : l ≠ []) (h : Ready C S) (hp : plain l) (hh : S.hasRoom C l.length) (hm : ((S.line.length + l.length : Nat) : Int) ≤ S.most) : S.feed C l = S.add l := by
 cases l with
 | nil => exact absurd rfl hne
 | cons c l => exact feed_plain l c h hp hh hm
theorem x_over {J K m : Nat} (hJ : J < 4) (hK : K < 256) (hm : m < 450) (hh : 256 + K < 31 + m) : ((PS.new (cfgH 4096 J K)).feed (cfgH 4096 J K) (headS ++ xS m ++ [13, 10, 13, 10])).err = 431 := by
 have hl : (4096 : Nat) = 64 ∨ (4096 : Nat) = 4096 := .inr rfl
 have hC := (right_H hl hJ hK).ok
 have hmo : lineMost (cfgH 4096 J K).line = 4096 := hC.most
 have hx := x_len m
 have hxne : xS m ≠ [] := by intro e; rw [e] at hx; simp at hx
 rw [List.append_assoc, feed_append, head_run hl hJ hK]
 have hrd := hd_ready (cfgH 4096 J K) (baseH (cfgH 4096 J K)) 1 25 [([72, 111, 115, 116], [97])] hostL
 by_cases c1 : 231 + K ≤ m + 2
 ·have e : xS m ++ [13, 10, 13, 10] = (xS m).take (231 + K) ++ ((xS m).drop (231 + K) ++ [13, 10, 13, 10]) := by rw [← List.append_assoc, List.take_append_drop]
  have hlt : ((xS m).take (231 + K)).length = 231 + K := by rw [List.length_take, hx]; omega
  obtain ⟨c, r, hr⟩ : ∃ c r, (xS m).drop (231 + K) ++ [13, 10, 13, 10] = c :: r := by
   cases (xS m).drop (231 + K) with
   | nil => exact ⟨_, _, rfl⟩
   | cons c r => exact ⟨_, _, rfl⟩
  rw [e, hr]
  have hf := feed_plain' (C := cfgH 4096 J K) (l := (xS m).take (231 + K)) (by intro e; rw [e] at hlt; simp at hlt; omega) hrd (fun x hx' => x_plain m hm x (List.mem_of_mem_take hx')) (.inr (by rw [hlt]; show (25 : Int) + _ ≤ 256 + (K : Int); omega)) (by rw [hlt]; show (((0 : Nat) + (231 + K) : Nat) : Int) ≤ lineMost (cfgH 4096 J K).line; rw [hmo]; omega)
  exact (feed_over hf rfl (.inr (.inl rfl)) (by show (25 : Int) + ((1 * ((xS m).take (231 + K)).length : Nat) : Int) + 1 > 256 + (K : Int); rw [hlt]; omega) c r).1
 ·have hadd := feed_plain' (C := cfgH 4096 J K) hxne hrd (x_plain m hm) (.inr (by rw [hx]; show (25 : Int) + _ ≤ 256 + (K : Int); omega)) (by rw [hx]; show (((0 : Nat) + (m + 2) : Nat) : Int) ≤ lineMost (cfgH 4096 J K).line; rw [hmo]; omega)
  by_cases c2 : 231 + K = m + 3
  ·have hf : ((baseH (cfgH 4096 J K)).hd 1 25 [([72, 111, 115, 116], [97])] 0 hostL).feed (cfgH 4096 J K) (xS m ++ [13]) = (((baseH (cfgH 4096 J K)).hd 1 25 [([72, 111, 115, 116], [97])] 0 hostL).add (xS m)).crOf := by
    rw [feed_append, hadd, feed_cr (add_ready hrd _) (.inr (by show (25 : Int) + ((1 * (xS m).length : Nat) : Int) + 1 ≤ 256 + (K : Int); rw [hx]; omega))]
   have e : xS m ++ [13, 10, 13, 10] = (xS m ++ [13]) ++ 10 :: [13, 10] := by simp
   rw [e]
   exact (feed_over hf rfl (.inr (.inl rfl)) (by show (25 : Int) + ((1 * (xS m).length : Nat) : Int) + ((1 : Nat) : Int) + 1 > 256 + (K : Int); rw [hx]; omega) 10 [13, 10]).1
  ·have hf := x_line hl hJ hK hm (by omega) (by omega)
   by_cases c3 : 231 + K = m + 4
   ·have e : xS m ++ [13, 10, 13, 10] = (xS m ++ [13, 10]) ++ 13 :: [10] := by simp
    rw [e]
    exact (feed_over hf rfl (.inr (.inl rfl)) (by show ((29 + m : Nat) : Int) + 1 > 256 + (K : Int); omega) 13 [10]).1
   ·have hf2 : ((baseH (cfgH 4096 J K)).hd 1 25 [([72, 111, 115, 116], [97])] 0 hostL).feed (cfgH 4096 J K) (xS m ++ [13, 10] ++ [13]) = ((baseH (cfgH 4096 J K)).hd 2 (29 + m : Nat) [([72, 111, 115, 116], [97]), ([65], List.replicate m 120)] 0 (xS m)).crOf := by
     rw [feed_append, hf, feed_cr (hd_ready _ _ _ _ _ _) (.inr (by show ((29 + m : Nat) : Int) + 1 ≤ 256 + (K : Int); omega))]
    have e : xS m ++ [13, 10, 13, 10] = (xS m ++ [13, 10] ++ [13]) ++ 10 :: [] := by simp
    rw [e]
    exact (feed_over hf2 rfl (.inr (.inl rfl)) (by show ((29 + m : Nat) : Int) + ((1 : Nat) : Int) + 1 > 256 + (K : Int); omega) 10 []).1
theorem known_f : law13_known.f = some true := by
 unfold law13_known.f law13_known.t
 have hG0 := new_good (usual_ok 0)
 refine go_call rfl ?_
 dsimp only
 refine go_call (new_f (usual 0)) ?_
 rw [show PS.new' (usual 0) = PS.new (usual 0) from if_pos (by decide)]
 dsimp only [PS.tupN]
 refine go_chk (by decide) ?_
 repeat rw [vokl]
 refine go_chk (by decide) ?_
 refine go_call (feed_f (C := usual 0) (S := PS.new (usual 0)) (usual_ok 0) usual_lines (by decide) (n := 0) (by decide) hG0) ?_
 dsimp only [PS.tupF]
 repeat rw [vokl]
 refine go_call (err_f _ _ _ _ _) ?_
 repeat rw [vokl]
 refine go_call (clean_f (((PS.new (usual 0)).taken.feed (usual 0) _)) _ _ _ _ _) ?_
 refine go_call (new_f (usual 0)) ?_
 rw [show PS.new' (usual 0) = PS.new (usual 0) from if_pos (by decide)]
 dsimp only [PS.tupN]
 refine go_chk (by decide) ?_
 repeat rw [vokl]
 refine go_chk (by decide) ?_
 refine go_call (feed_f (C := usual 0) (S := PS.new (usual 0)) (usual_ok 0) usual_lines (by decide) (n := 0) (by decide) hG0) ?_
 dsimp only [PS.tupF]
 repeat rw [vokl]
 refine go_call (err_f _ _ _ _ _) ?_
 repeat rw [vokl]
 refine go_call (clean_f (((PS.new (usual 0)).taken.feed (usual 0) _)) _ _ _ _ _) ?_
 refine go_call (new_f (usual 0)) ?_
 rw [show PS.new' (usual 0) = PS.new (usual 0) from if_pos (by decide)]
 dsimp only [PS.tupN]
 refine go_chk (by decide) ?_
 refine go_chk (by decide) ?_
 repeat rw [vokl]
 refine go_chk (by decide) ?_
 refine go_call (feed_f (C := usual 0) (S := PS.new (usual 0)) (usual_ok 0) usual_lines (by decide) (n := 0) (by decide) hG0) ?_
 dsimp only [PS.tupF]
 repeat rw [vokl]
 refine go_call (waits_f (((PS.new (usual 0)).taken.feed (usual 0) _)) _ _ _ _ _) ?_
 repeat rw [vokl]
 have hG1 : Good (usual 0) (0 + 4 * (List.flatten known3).length) ((PS.new (usual 0)).taken.feed (usual 0) (List.flatten known3)) := feed_good (usual_ok 0) _ 0 _ (by decide) hG0.taken
 refine go_call (held_f (C := usual 0) (S := ((PS.new (usual 0)).taken.feed (usual 0) (List.flatten known3))) (hG1.1.small (usual_ok 0) (by decide)) (by decide +kernel) _) ?_
 refine go_chk (by decide) ?_
 repeat rw [vokl]
 refine go_chk (by decide) ?_
 refine go_call (feed_f (C := usual 0) (S := ((PS.new (usual 0)).taken.feed (usual 0) (List.flatten known3))) (usual_ok 0) usual_lines (by decide) (n := 0 + 4 * (List.flatten known3).length) (by decide) hG1) ?_
 dsimp only [PS.tupF]
 repeat rw [vokl]
 decide +kernel
theorem repS_right (c : Nat) : repS c ++ [65, 58, 32, 98, 13, 10] = repS (c + 1) := by
 induction c with
 | zero => rfl
 | succ c ih =>
  show ((abS ++ [13, 10]) ++ repS c) ++ _ = (abS ++ [13, 10]) ++ repS (c + 1)
  rw [List.append_assoc, ih]
theorem head_len : headS.length = 25 := rfl
theorem L10_f {n : Int} {c : Nat} (hn : n = (c : Int)) (hc : c < 100) : law13_ParserHeads.L10.f headS n 0 = some (headS ++ repS c) := by
 subst hn
 unfold law13_ParserHeads.L10.f
 refine Loop_count c (fun k => (headS ++ repS k, (k : Int))) _ (fun k hk => ?_) ?_ (by omega) (by show (headS, (0 : Int)) = (headS ++ [], ((0 : Nat) : Int)); rw [List.append_nil]; rfl)
 ·have hw := wS (k := k) (by omega)
  have hl := repS_len k
  unfold law13_ParserHeads.L10.t
  dsimp only
  refine go_t (by rw [decide_eq_true_iff]; omega) ?_
  refine go_chk (by rw [List.length_append, hl, head_len]; simp; omega) ?_
  rw [hw, List.append_assoc, repS_right]
  rfl
 ·unfold law13_ParserHeads.L10.t
  dsimp only
  exact go_f (by rw [decide_eq_false_iff_not]; omega) rfl
theorem x_right (m : Nat) : xS m ++ [120] = xS (m + 1) := by
 unfold xS
 rw [List.append_assoc, ← List.replicate_succ']
theorem L20_f (n : UInt8) : law13_ParserHeads.L20.f (Int.ofNat n.toNat) [65, 58] 0 = some (xS (n.toNat % 70)) := by
 have hn := mod_i n 70 (by decide) (by decide)
 have hl : n.toNat % 70 < 70 := Nat.mod_lt _ (by decide)
 unfold law13_ParserHeads.L20.f
 refine Loop_count (n.toNat % 70) (fun k => (xS k, (k : Int))) _ (fun k hk => ?_) ?_ (by omega) rfl
 ·have hw := wS (k := k) (by omega)
  unfold law13_ParserHeads.L20.t
  dsimp only
  rw [show IntKind.i64.wrap ((Int.ofNat n.toNat).tmod (70 : Int)) = _ from hn]
  refine go_t (by rw [decide_eq_true_iff]; omega) ?_
  refine go_chk (by rw [x_len]; simp; omega) ?_
  rw [hw, x_right]
  rfl
 ·unfold law13_ParserHeads.L20.t
  dsimp only
  rw [show IntKind.i64.wrap ((Int.ofNat n.toNat).tmod (70 : Int)) = _ from hn]
  exact go_f (by rw [decide_eq_false_iff_not]; omega) rfl
theorem L29_f (n : UInt8) : law13_ParserHeads.L29.f (Int.ofNat n.toNat) (headS ++ [65, 58]) = some (headS ++ xS (173 + n.toNat)) := by
 have hl := UInt8.toNat_lt n
 have hw : IntKind.i64.wrap ((200 : Int) + IntKind.i64.wrap (Int.ofNat n.toNat)) = ((200 + n.toNat : Nat) : Int) := by
  rw [show IntKind.i64.wrap (Int.ofNat n.toNat) = (n.toNat : Int) from w64 (by rw [Int.ofNat_eq_natCast]; omega) (by rw [Int.ofNat_eq_natCast]; omega), w64 (by omega) (by omega)]
  omega
 unfold law13_ParserHeads.L29.f
 refine Loop_count (173 + n.toNat) (fun k => headS ++ xS k) _ (fun k hk => ?_) ?_ (by omega) rfl
 ·unfold law13_ParserHeads.L29.t
  rw [hw]
  refine go_t (by rw [decide_eq_true_iff, List.length_append, x_len, head_len]; omega) ?_
  refine go_chk (by rw [List.length_append, x_len, head_len]; simp; omega) ?_
  rw [List.append_assoc, x_right]
  rfl
 ·unfold law13_ParserHeads.L29.t
  rw [hw]
  exact go_f (by rw [decide_eq_false_iff_not, List.length_append, x_len, head_len]; omega) rfl
theorem many_text (c : Nat) {J K : Nat} (hJ : J < 4) (hK : K < 256) (hc : c < 10) :
  if c + 1 > 4 + J then ((PS.new (cfgH 64 J K)).feed (cfgH 64 J K) (headS ++ repS c ++ [13, 10])).err = 431 ∧ ((PS.new (cfgH 64 J K)).feed (cfgH 64 J K) (headS ++ repS c ++ [13, 10])).out = []
  else ((PS.new (cfgH 64 J K)).feed (cfgH 64 J K) (headS ++ repS c ++ [13, 10])).err = 0 ∧ ((PS.new (cfgH 64 J K)).feed (cfgH 64 J K) (headS ++ repS c ++ [13, 10])).out.length = 1 := by
 rw [List.append_assoc, feed_append, head_run (.inl rfl) hJ hK]
 have hz : ((baseH (cfgH 64 J K)).hd 1 25 [([72, 111, 115, 116], [97])] 0 hostL) = ((baseH (cfgH 64 J K)).hd (1 + 0 : Nat) (25 + 6 * 0 : Nat) (fsH 0) 0 hostL) := rfl
 rw [hz]
 split
 ·rename_i h
  exact many_bad (.inl rfl) hJ hK [13, 10] c 0 hostL (by omega) (by omega) (by omega)
 ·rename_i h
  obtain ⟨b', hb⟩ := many_ok (line := 64) (.inl rfl) hJ hK c 0 hostL (by omega) (by omega)
  rw [feed_append, hb]
  exact blank_whole (.inl rfl) hJ hK (by omega) (by rw [Nat.zero_add]; exact fr_many c (by omega))
theorem heads_ok (n k what : UInt8) : law13_ParserHeads.f n k what = some true := by
 have hk4 := mod_i k 4 (by decide) (by decide)
 have hn10 := mod_i n 10 (by decide) (by decide)
 have hJ : k.toNat % 4 < 4 := Nat.mod_lt _ (by decide)
 have hc : n.toNat % 10 < 10 := Nat.mod_lt _ (by decide)
 have hm70 : n.toNat % 70 < 70 := Nat.mod_lt _ (by decide)
 have hn := UInt8.toNat_lt n
 have hK := UInt8.toNat_lt k
 have hL20 := L20_f n
 have hL29 := L29_f n
 unfold law13_ParserHeads.f law13_ParserHeads.t
 rw [show IntKind.i64.wrap ((Int.ofNat k.toNat).tmod (4 : Int)) = _ from hk4, show IntKind.i64.wrap ((Int.ofNat n.toNat).tmod (10 : Int)) = _ from hn10,
  show IntKind.i64.wrap (Int.ofNat k.toNat) = (k.toNat : Int) from w64 (by rw [Int.ofNat_eq_natCast]; omega) (by rw [Int.ofNat_eq_natCast]; omega)]
 generalize k.toNat % 4 = J at hJ ⊢
 generalize k.toNat = K at hK ⊢
 generalize hcd : n.toNat % 10 = c at hc ⊢
 generalize n.toNat % 70 = m at hm70 hL20 ⊢
 rw [w64 (n := 4 + (J : Int)) (by omega) (by omega), w64 (n := 256 + (K : Int)) (by omega) (by omega), w64 (n := (c : Int) + 1) (by omega) (by omega)]
 refine go_call known_f ?_
 refine go_f rfl ?_
 refine go_call rfl ?_
 dsimp only
 by_cases h0 : ((Int.ofNat what.toNat).tmod (3 : Int) == 0) = true
 ·refine go_t h0 ?_
  refine go_call (L10_f rfl (by omega)) ?_
  have hlen : (headS ++ repS c ++ [13, 10]).length = 27 + 6 * c := by rw [List.length_append, List.length_append, repS_len, head_len]; simp; omega
  have hlen1 : (headS ++ repS c).length = 25 + 6 * c := by rw [List.length_append, repS_len, head_len]
  refine go_chk (by rw [hlen1]; simp; omega) ?_
  refine go_chk (by omega) ?_
  have hres := many_text c hJ hK hc
  have hR := right_H (line := 64) (J := J) (K := K) (.inl rfl) hJ hK
  have hC := hR.ok
  have hLn : LinesOk (cfgH 64 J K) := linesOk_plain (by show hasD 0 3 = false; decide +kernel)
  have hG0 := new_good hC
  refine go_call (new_f (cfgH 64 J K)) ?_
  rw [show PS.new' (cfgH 64 J K) = PS.new (cfgH 64 J K) from if_pos hR]
  dsimp only [PS.tupN]
  refine go_chk (by rw [List.nil_append]; omega) ?_
  repeat rw [vokl]
  refine go_chk (by simp) ?_
  rw [List.nil_append, take_all]
  refine go_call (feed_f (C := cfgH 64 J K) (S := PS.new (cfgH 64 J K)) (parts := [headS ++ repS c ++ [13, 10]]) hC hLn (by simp) (n := 0) (by simp only [List.flatten_cons, List.flatten_nil, List.append_nil]; omega) hG0) ?_
  rw [show [headS ++ repS c ++ [13, 10]].flatten = headS ++ repS c ++ [13, 10] by simp, new_taken]
  generalize hS : (PS.new (cfgH 64 J K)).feed (cfgH 64 J K) (headS ++ repS c ++ [13, 10]) = S at hres ⊢
  dsimp only [PS.tupF]
  repeat rw [vokl]
  refine go_call (err_f _ _ _ _ _) ?_
  repeat rw [vokl]
  refine go_call (clean_f S _ _ _ _ _) ?_
  by_cases h : c + 1 > 4 + J
  ·rw [if_pos h] at hres
   refine go_t (by rw [decide_eq_true_iff]; omega) ?_
   refine go_t (by rw [hres.1]; rfl) ?_
   show some _ = _
   rw [hres.2]; rfl
  ·rw [if_neg h] at hres
   refine go_f (by rw [decide_eq_false_iff_not]; omega) ?_
   refine go_t (by rw [hres.1]; rfl) ?_
   show some _ = _
   rw [hres.2]; rfl
 ·refine go_f (by simpa using h0) ?_
  by_cases h1 : ((Int.ofNat what.toNat).tmod (3 : Int) == 1) = true
  ·refine go_t h1 ?_
   refine go_call hL20 ?_
   have hlen : (headS ++ xS m ++ [13, 10, 13, 10]).length = 31 + m := by rw [List.length_append, List.length_append, x_len, head_len]; simp; omega
   have hlen1 : (headS ++ xS m).length = 27 + m := by rw [List.length_append, x_len, head_len]; omega
   refine go_chk (by show ((headS.length + (xS m).length : Nat) : Int) ≤ _; rw [x_len, head_len]; omega) ?_
   refine go_chk (by show (((headS ++ xS m).length + 4 : Nat) : Int) ≤ _; rw [hlen1]; omega) ?_
   refine go_chk (by show (headS ++ xS m ++ [13, 10, 13, 10]).length ≤ _; omega) ?_
   have hres : ((PS.new (cfgH 64 J K)).feed (cfgH 64 J K) (headS ++ xS m ++ [13, 10, 13, 10])).err = if m + 2 > 64 then 431 else 0 := by
    split
    ·exact x_long hJ hK hm70 (by omega)
    ·exact x_short (.inl rfl) hJ hK (by omega) (by omega) (by omega)
   show (Tr.call (parser_New.f 0 64 (4 + (J : Int)) (256 + (K : Int)) 65536 32 8 4 20) _).val = _
   have hR := right_H (line := 64) (J := J) (K := K) (.inl rfl) hJ hK
   have hC := hR.ok
   have hLn : LinesOk (cfgH 64 J K) := linesOk_plain (by show hasD 0 3 = false; decide +kernel)
   have hG0 := new_good hC
   refine go_call (new_f (cfgH 64 J K)) ?_
   rw [show PS.new' (cfgH 64 J K) = PS.new (cfgH 64 J K) from if_pos hR]
   dsimp only [PS.tupN]
   refine go_chk (by rw [List.nil_append]; omega) ?_
   repeat rw [vokl]
   refine go_chk (by simp) ?_
   rw [List.nil_append, take_all]
   refine go_call (feed_f (C := cfgH 64 J K) (S := PS.new (cfgH 64 J K)) (parts := [headS ++ xS m ++ [13, 10, 13, 10]]) hC hLn (by simp) (n := 0) (by simp only [List.flatten_cons, List.flatten_nil, List.append_nil]; omega) hG0) ?_
   rw [show [headS ++ xS m ++ [13, 10, 13, 10]].flatten = headS ++ xS m ++ [13, 10, 13, 10] by simp, new_taken]
   generalize hS : (PS.new (cfgH 64 J K)).feed (cfgH 64 J K) (headS ++ xS m ++ [13, 10, 13, 10]) = S at hres ⊢
   dsimp only [PS.tupF]
   repeat rw [vokl]
   refine go_call (err_f _ _ _ _ _) ?_
   repeat rw [vokl]
   refine go_call (clean_f S _ _ _ _ _) ?_
   by_cases h : m + 2 > 64
   ·rw [if_pos h] at hres
    refine go_t (by rw [decide_eq_true_iff, x_len]; omega) ?_
    show some _ = _
    rw [hres]; rfl
   ·rw [if_neg h] at hres
    refine go_f (by rw [decide_eq_false_iff_not, x_len]; omega) ?_
    show some _ = _
    rw [hres]; rfl
  ·refine go_f (by simpa using h1) ?_
   refine go_call hL29 ?_
   generalize hmd : 173 + n.toNat = m at *
   have hlen : (headS ++ xS m ++ [13, 10, 13, 10]).length = 31 + m := by rw [List.length_append, List.length_append, x_len, head_len]; simp; omega
   have hlen1 : (headS ++ xS m).length = 27 + m := by rw [List.length_append, x_len, head_len]; omega
   refine go_chk (by show (((headS ++ xS m).length + 4 : Nat) : Int) ≤ _; rw [hlen1]; omega) ?_
   refine go_chk (by omega) ?_
   have hres : ((PS.new (cfgH 4096 J K)).feed (cfgH 4096 J K) (headS ++ xS m ++ [13, 10, 13, 10])).err = if 31 + m > 256 + K then 431 else 0 := by
    split
    ·exact x_over hJ hK (by omega) (by omega)
    ·exact x_short (.inr rfl) hJ hK (by omega) (by omega) (by omega)
   have hR := right_H (line := 4096) (J := J) (K := K) (.inr rfl) hJ hK
   have hC := hR.ok
   have hLn : LinesOk (cfgH 4096 J K) := linesOk_plain (by show hasD 0 3 = false; decide +kernel)
   have hG0 := new_good hC
   refine go_call (new_f (cfgH 4096 J K)) ?_
   rw [show PS.new' (cfgH 4096 J K) = PS.new (cfgH 4096 J K) from if_pos hR]
   dsimp only [PS.tupN]
   refine go_chk (by rw [List.nil_append]; omega) ?_
   repeat rw [vokl]
   refine go_chk (by simp) ?_
   rw [List.nil_append, take_all]
   refine go_call (feed_f (C := cfgH 4096 J K) (S := PS.new (cfgH 4096 J K)) (parts := [headS ++ xS m ++ [13, 10, 13, 10]]) hC hLn (by simp) (n := 0) (by simp only [List.flatten_cons, List.flatten_nil, List.append_nil]; omega) hG0) ?_
   rw [show [headS ++ xS m ++ [13, 10, 13, 10]].flatten = headS ++ xS m ++ [13, 10, 13, 10] by simp, new_taken]
   generalize hS : (PS.new (cfgH 4096 J K)).feed (cfgH 4096 J K) (headS ++ xS m ++ [13, 10, 13, 10]) = S at hres ⊢
   dsimp only [PS.tupF]
   repeat rw [vokl]
   refine go_call (err_f _ _ _ _ _) ?_
   repeat rw [vokl]
   refine go_call (clean_f S _ _ _ _ _) ?_
   by_cases h : 31 + m > 256 + K
   ·rw [if_pos h] at hres
    refine go_t (by rw [decide_eq_true_iff, hlen]; omega) ?_
    show some _ = _
    rw [hres]; rfl
   ·rw [if_neg h] at hres
    refine go_f (by rw [decide_eq_false_iff_not, hlen]; omega) ?_
    show some _ = _
    rw [hres]; rfl
end Pl
end Go.Vx
end
